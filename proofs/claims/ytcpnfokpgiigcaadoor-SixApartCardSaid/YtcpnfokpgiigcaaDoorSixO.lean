/- The reference's Show of layer 6. -/
import Derived.Test.YtcpnfokpgiigcaaDoorSixQ
namespace Go.Proofs.YtcpnfokpgiigcaaDoor
open Go.RowKit Go.Proofs.YtcpnfokpgiigcaaDoorW.PrintWords

theorem needs_bytes (l : List UInt8) : needs l = (!l.isEmpty && l.getLast? != some 58) := rfl
theorem pref_len (p : List Int) (hb : ∀ n ∈ p, 0 ≤ n ∧ n ≤ 65535) (h8 : p.length = 8) (a n i : Nat) (hi : i ≤ 8) : (pref (texts p) a n i).length ≤ 100 := by
  have hl : ∀ q : List Int, (∀ n ∈ q, 0 ≤ n ∧ n ≤ 65535) → (colons (texts q)).length ≤ 5 * q.length := by
    intro q hq
    have h : tot (texts q) ≤ 4 * q.length := by
      induction q with
      | nil => simp [tot, texts]
      | cons n l ih =>
        have := ih fun m hm => hq m (by simp [hm])
        have h2 := hexs_len n.toNat (by have := hq n (by simp); omega)
        unfold texts at this ⊢
        rw [List.map_cons, tot_cons, List.length_cons]; omega
    by_cases e : q = []
    · subst e; simp [texts, colons_nil]
    · have := colons_len (texts q) (by intro h; exact e (List.map_eq_nil_iff.1 h))
      simp only [texts, List.length_map] at this h ⊢
      omega
  unfold pref
  split
  · rw [← texts_take]
    have := hl (p.take i) fun n hn => hb n (List.mem_of_mem_take hn)
    simp only [List.length_take] at this
    omega
  · rw [← texts_take, ← texts_drop, ← texts_take]
    have h1 := hl (p.take a) fun n hn => hb n (List.mem_of_mem_take hn)
    have h2 := hl ((p.drop (a + n)).take (i - (a + n))) fun n hn => hb n (List.mem_of_mem_drop (List.mem_of_mem_take hn))
    simp only [List.length_append, List.length_cons, List.length_nil, List.length_take, List.length_drop] at h1 h2 ⊢
    omega

set_option maxHeartbeats 2000000 in
set_option maxRecDepth 100000 in
theorem ref06_Show (p : List Int) (h8 : p.length = 8) (w : World) :
    Calls Tryd.prog 33 #[.agg (ints p).toArray] w fun e w' => e = .returned (.string ⟨(showSix p).toArray⟩) ∧ Below w.heap.size w w' := by
  have hrow : IntRow (w.alloc (.cells (ints p).toArray 33)) w.heap.size 33 p := IntRow.new w _ p
  have hsz : (Option.map (fun i => i.size) (Tryd.prog.info? 33)) = some ((ints p).toArray.size) := by rw [List.size_toArray, ints_length, h8]; rfl
  obtain ⟨w0, hw0⟩ : ∃ w0, w0 = w.alloc (.cells (ints p).toArray 33) := ⟨_, rfl⟩
  have hb0 : Below w.heap.size w w0 := by rw [hw0]; exact (Below.refl _ _).alloc (Nat.le_refl _) _
  rw [← hw0] at hrow
  have hmay := ref06_May p h8 w0
  go_enter Tryd.func33, Tryd.ntmps33
  go_wp2_with (refine wpList_load_row rfl 33 _ rfl _ rfl 33 (ints p).toArray (0, 0) _ (by rw [← hw0]; exact hrow) Tryd.underlying33 rfl hsz ?_)
  rw [← hw0]
  clear hw0
  refine hmay.mono ?_
  rintro e w1 ⟨rfl, hb1⟩
  have hb01 := below_on hb0 hb0.size hb1
  have hr1 : IntRow w1 w.heap.size 33 p := hrow.below hb1 hrow.lt
  cases hm : mayB p with
  | false =>
    go_wp2
    go_ret
    exact ⟨by rw [showSix_no hm]; rfl, hb01⟩
  | true =>
    have HA := Lib.hid (mayB_mem hm)
    have hin := (runR_ok p).inside
    have hrun := ref06_Run p h8 w1
    have hshow := Lib.hid (showSix_pref hm)
    have hpl := fun a n i hi => pref_len p (mayB_mem hm) h8 a n i hi
    have HPL := Lib.hid hpl
    clear hm hpl
    rw [h8] at hshow hin
    obtain ⟨a, ha⟩ : ∃ a, a = (runR p).1 := ⟨_, rfl⟩
    obtain ⟨n, hn⟩ : ∃ n, n = (runR p).2 := ⟨_, rfl⟩
    rw [← ha, ← hn] at hshow hin hrun
    clear ha hn
    go_wp2_with (refine wpList_load_row rfl 33 _ rfl _ rfl 33 (ints p).toArray (0, 0) _ hr1 Tryd.underlying33 rfl hsz ?_)
    refine hrun.mono ?_
    rintro e w2 ⟨rfl, hb2⟩
    have hb02 := below_on hb01 hb01.size hb2
    have hr2 : IntRow w2 w.heap.size 33 p := hr1.below hb2 hr1.lt
    clear hrow hb0 hb1 hb01 hr1 hb2 hmay hrun
    go_wp2
    go_loop [6, 7] (fun s i => ∃ k : Nat, k ≤ 8 ∧ i = .int .i64 k ∧ s = .string ⟨(pref (texts p) a n k).toArray⟩) (fun _ i => 8 - (intOf i).toNat)
    case atStart => exact ⟨0, by omega, rfl, by rw [pref_zero]⟩
    case round =>
      obtain ⟨k, hk, rfl, rfl⟩ := hrel
      have hl1 := HPL.out a n k hk
      by_cases hk8 : k < 8
      · obtain ⟨x, hx⟩ : ∃ x, p[k]? = some x := ⟨_, List.getElem?_eq_getElem (by omega)⟩
        have hc := hr2.cell hx
        have hxb := HA.out x (List.mem_of_getElem? hx)
        obtain ⟨x, rfl⟩ := Int.eq_ofNat_of_zero_le hxb.1
        have htx : (texts p)[k]? = some (hexs x) := by unfold texts; rw [List.getElem?_map, hx]; rfl
        have hcall := ref06_text x (by omega) w2
        have hlx := hexs_len x (by omega)
        have hl2 := HPL.out a n (k + 1) (by omega)
        obtain ⟨S2, hS2⟩ : ∃ S2, Hid (pref (texts p) a n (k + 1) = S2) := ⟨_, rfl⟩
        rw [hS2.out] at hl2
        by_cases hgap : 0 < n ∧ a ≤ k ∧ k < a + n
        · have hpg := pref_gap (texts p) hgap.2.1 hgap.2.2
          rw [hS2.out] at hpg
          obtain ⟨S, hS⟩ : ∃ S, Hid (pref (texts p) a n k = S) := ⟨_, rfl⟩
          rw [hS.out] at hpg hl1 ⊢
          unfold step1 at hpg
          obtain ⟨g1, g2, g3⟩ := hgap
          clear hx htx
          by_cases hka : k = a
          · subst hka
            rw [if_pos ⟨g1, rfl⟩] at hpg
            have HP := Lib.hid hpg
            clear hpg
            go_wp2
            go_round
            case rel => exact ⟨k + 1, by omega, by go_num, congrArg Value.string (toList_inj (by rw [hS2.out, HP.out]; simp [ByteArray.data_append]))⟩
            case measure => simp [intOf]; omega
          · have hkb : ((k : Int) == (a : Int)) = false := by simp; omega
            rw [if_neg (by omega)] at hpg
            have HP := Lib.hid hpg
            clear hpg hka
            go_wp2
            go_round
            case rel => exact ⟨k + 1, by omega, by go_num, by rw [hS2.out, HP.out]⟩
            case measure => simp [intOf]; omega
        · have hpt := pref_text (texts_fair p) htx (by omega : n = 0 ∨ k < a ∨ a + n ≤ k)
          rw [step1_off (by omega), hS2.out] at hpt
          obtain ⟨S, hS⟩ : ∃ S, Hid (pref (texts p) a n k = S) := ⟨_, rfl⟩
          rw [hS.out] at hpt hl1 ⊢
          generalize ht : (⟨S.toArray⟩ : ByteArray) = t
          have htl : t.data.toList = S := by rw [← ht]
          have hts : t.size = S.length := by rw [size_list, htl]
          have hc1 : n = 0 ∨ 0 < n ∧ k < a ∨ 0 < n ∧ a + n ≤ k := by omega
          have hkb : 0 < n → ((k : Int) == (a : Int)) = false := by intro h; simp; omega
          unfold step2 at hpt
          have hnd : (needs S = false ∧ S = []) ∨ (needs S = false ∧ ∃ l, S = l ++ [58]) ∨ (needs S = true ∧ ∃ l c, c ≠ 58 ∧ S = l ++ [c]) := by
            by_cases h0 : S = []
            · left; subst h0; exact ⟨rfl, rfl⟩
            · right
              obtain ⟨l, c, e⟩ : ∃ l c, S = l ++ [c] := ⟨_, _, (List.dropLast_concat_getLast h0).symm⟩
              rw [e, needs_snoc]
              by_cases hc : c = 58
              · subst hc; left; exact ⟨rfl, l, rfl⟩
              · right; exact ⟨by simp [hc], l, c, hc, rfl⟩
          have HT := Lib.hid htl
          clear htx hx
          rcases hnd with ⟨hnd, h0⟩ | ⟨hnd, l, h0⟩ | ⟨hnd, l, c, hc58, h0⟩
          · have hte : t.toList.isEmpty = true := by rw [ba_toList, htl, h0]; rfl
            rw [hnd] at hpt
            have HP := Lib.hid hpt
            clear htl ht hpt hnd h0
            rcases hc1 with hc1 | ⟨hc1, hc2⟩ | ⟨hc1, hc2⟩
            · have hn0 : ¬ ((0 : Int) < (n : Int)) := by omega
              clear hc1
              go_wp2_with (go_at_call 49; refine hcall.mono ?_; rintro e w3 ⟨rfl, rfl⟩)
              refine ⟨⟨k + 1, by omega, by go_num, congrArg Value.string (toList_inj (by rw [hS2.out, HP.out]; simp [ByteArray.data_append, HT.out]))⟩, by simp [intOf]; omega⟩
            · have hkb := hkb hc1
              go_wp2_with (go_at_call 49; refine hcall.mono ?_; rintro e w3 ⟨rfl, rfl⟩)
              refine ⟨⟨k + 1, by omega, by go_num, congrArg Value.string (toList_inj (by rw [hS2.out, HP.out]; simp [ByteArray.data_append, HT.out]))⟩, by simp [intOf]; omega⟩
            · have hkb := hkb hc1
              go_wp2_with (go_at_call 49; refine hcall.mono ?_; rintro e w3 ⟨rfl, rfl⟩)
              refine ⟨⟨k + 1, by omega, by go_num, congrArg Value.string (toList_inj (by rw [hS2.out, HP.out]; simp [ByteArray.data_append, HT.out]))⟩, by simp [intOf]; omega⟩
          · have hte : t.toList.isEmpty = false := by rw [ba_toList, htl, h0]; simp
            have hSl : S.length = l.length + 1 := by rw [h0]; simp
            rw [hSl] at hts hl1
            clear hSl
            have hge : t[l.length]'(by omega) = 58 := get_cons (l := []) (by rw [htl, h0]; simp) (by omega)
            rw [hnd] at hpt
            have HP := Lib.hid hpt
            clear htl ht hpt hnd h0
            rcases hc1 with hc1 | ⟨hc1, hc2⟩ | ⟨hc1, hc2⟩
            · have hn0 : ¬ ((0 : Int) < (n : Int)) := by omega
              clear hc1
              go_wp2_with (go_at_call 49; refine hcall.mono ?_; rintro e w3 ⟨rfl, rfl⟩)
              refine ⟨⟨k + 1, by omega, by go_num, congrArg Value.string (toList_inj (by rw [hS2.out, HP.out]; simp [ByteArray.data_append, HT.out]))⟩, by simp [intOf]; omega⟩
            · have hkb := hkb hc1
              go_wp2_with (go_at_call 49; refine hcall.mono ?_; rintro e w3 ⟨rfl, rfl⟩)
              refine ⟨⟨k + 1, by omega, by go_num, congrArg Value.string (toList_inj (by rw [hS2.out, HP.out]; simp [ByteArray.data_append, HT.out]))⟩, by simp [intOf]; omega⟩
            · have hkb := hkb hc1
              go_wp2_with (go_at_call 49; refine hcall.mono ?_; rintro e w3 ⟨rfl, rfl⟩)
              refine ⟨⟨k + 1, by omega, by go_num, congrArg Value.string (toList_inj (by rw [hS2.out, HP.out]; simp [ByteArray.data_append, HT.out]))⟩, by simp [intOf]; omega⟩
          · have hte : t.toList.isEmpty = false := by rw [ba_toList, htl, h0]; simp
            have hSl : S.length = l.length + 1 := by rw [h0]; simp
            rw [hSl] at hts hl1
            clear hSl
            have hge : t[l.length]'(by omega) = c := get_cons (l := []) (by rw [htl, h0]; simp) (by omega)
            have hcb : ((c.toNat : Int) != 58) = true := by rw [bne_iff_ne]; intro h; exact hc58 (UInt8.toNat_inj.1 (by have h2 : (58 : UInt8).toNat = 58 := rfl; omega))
            rw [hnd] at hpt
            have HP := Lib.hid hpt
            clear htl ht hpt hnd h0
            rcases hc1 with hc1 | ⟨hc1, hc2⟩ | ⟨hc1, hc2⟩
            · have hn0 : ¬ ((0 : Int) < (n : Int)) := by omega
              clear hc1
              go_wp2_with (go_at_call 49; refine hcall.mono ?_; rintro e w3 ⟨rfl, rfl⟩)
              refine ⟨⟨k + 1, by omega, by go_num, congrArg Value.string (toList_inj (by rw [hS2.out, HP.out]; simp [ByteArray.data_append, HT.out]))⟩, by simp [intOf]; omega⟩
            · have hkb := hkb hc1
              go_wp2_with (go_at_call 49; refine hcall.mono ?_; rintro e w3 ⟨rfl, rfl⟩)
              refine ⟨⟨k + 1, by omega, by go_num, congrArg Value.string (toList_inj (by rw [hS2.out, HP.out]; simp [ByteArray.data_append, HT.out]))⟩, by simp [intOf]; omega⟩
            · have hkb := hkb hc1
              go_wp2_with (go_at_call 49; refine hcall.mono ?_; rintro e w3 ⟨rfl, rfl⟩)
              refine ⟨⟨k + 1, by omega, by go_num, congrArg Value.string (toList_inj (by rw [hS2.out, HP.out]; simp [ByteArray.data_append, HT.out]))⟩, by simp [intOf]; omega⟩
      · obtain rfl : k = 8 := by omega
        go_wp2
        go_ret
        exact ⟨by rw [hshow.out]; rfl, hb02⟩

end Go.Proofs.YtcpnfokpgiigcaaDoor
