/- six.join and six.Show. -/
import Derived.Test.YtcpnfokpgiigcaaDoorSixT
import Derived.Test.YtcpnfokpgiigcaaDoorStrs
import Derived.Deep.RegionWith
namespace Go.Proofs.YtcpnfokpgiigcaaDoor
open Go.RowKit Go.Proofs.YtcpnfokpgiigcaaDoorW.PrintWords

theorem lens_texts (l : List Int) (hb : ∀ n ∈ l, 0 ≤ n ∧ n ≤ 65535) : (colons (texts l)).length ≤ 5 * l.length := by
  have h : tot (texts l) ≤ 4 * l.length := by
    induction l with
    | nil => simp [tot, texts]
    | cons n l ih =>
      have := ih fun m hm => hb m (by simp [hm])
      have h2 := hexs_len n.toNat (by have := hb n (by simp); omega)
      unfold texts at this ⊢
      rw [List.map_cons, tot_cons, List.length_cons]; omega
  by_cases hl : l = []
  · subst hl; simp [texts, colons_nil]
  · have := colons_len (texts l) (by intro e; exact hl (List.map_eq_nil_iff.1 e))
    simp only [texts, List.length_map] at this h ⊢
    omega

/-- Texts in a row of the call's own are joined. -/
theorem join_row (sep : ByteArray) {w : World} {base : Nat} {v : Value} {t : List (List UInt8)} (ho : w.ownsRow base 9 1 v t.length (strs t)) (hl : t.length ≤ 140737488355328) (hlen : (sep.data.toList.intercalate t).length ≤ 140737488355328) :
    Calls Tryd.prog 39 #[v, .string sep] w fun e w' => e = .returned (.string ⟨(sep.data.toList.intercalate t).toArray⟩) ∧ Below w.heap.size w w' := by
  by_cases h0 : t = []
  · subst h0
    rcases ho.2 with ⟨rfl, _⟩ | ⟨g, c, cur, rfl, _⟩
    · refine (Tryd.strings_Join_none none 0 sep w).mono ?_
      rintro e w' ⟨rfl, rfl⟩
      exact ⟨rfl, Below.refl _ _⟩
    · refine (Tryd.strings_Join_none _ c sep w).mono ?_
      rintro e w' ⟨rfl, rfl⟩
      exact ⟨rfl, Below.refl _ _⟩
  · obtain ⟨g, cap, rfl, hg1, hg2⟩ := ho.form (List.length_pos_iff.2 h0)
    have e : (t.map fun x => (⟨x.toArray⟩ : ByteArray)).map (·.data.toList) = t := by
      rw [List.map_map]
      conv => rhs; rw [← List.map_id t]
      exact List.map_congr_left fun x _ => by simp
    have hj := Tryd.strings_Join g 0 cap (t.map fun x => ⟨x.toArray⟩) sep w (fun j x hx => by
        rw [Nat.zero_add, ho.cellAt j (by have := (List.getElem?_eq_some_iff.1 hx).1; simpa using this)]
        rw [List.getElem?_map, Option.map_eq_some_iff] at hx
        obtain ⟨y, hy, rfl⟩ := hx
        simp [strs, hy]) hg2 (by simpa using hl) (by simpa using row_cap ho) (by rw [e]; exact hlen)
    rw [e, List.length_map] at hj
    exact hj

set_option maxHeartbeats 1000000 in
set_option maxRecDepth 100000 in
theorem six_join (bk off cap : Nat) (l : List Int) (hl : l.length ≤ 8) (hb : ∀ n ∈ l, 0 ≤ n ∧ n ≤ 65535) (w : World) (hcells : ∀ (j : Nat) x, l[j]? = some x → w.cell? ⟨bk, off + j, none⟩ = some (.int .i64 x)) (hbk : bk < w.heap.size) :
    Calls Tryd.prog 48 #[.slice (some ⟨bk, off, none⟩) l.length cap] w fun e w' => e = .returned (.string ⟨(colons (texts l)).toArray⟩) ∧ Below w.heap.size w w' := by
  have HL := Lib.hid hb
  have HC := Lib.hid hcells
  have hlens := lens_texts l hb
  clear hb hcells
  go_enter Tryd.func48, Tryd.ntmps48
  go_wp2
  go_loopw [3, 8] (fun v i wr => ∃ k : Nat, k ≤ l.length ∧ i = .int .i64 k ∧ wr.ownsRow w.heap.size 9 1 v k (strs ((texts l).take k)) ∧ (k ≠ 0 → v ≠ .slice none 0 0) ∧ Below w.heap.size w wr) (fun _ i _ => l.length - (intOf i).toNat)
  case atStart => exact ⟨0, by omega, rfl, World.ownsRow_nil _ _ _ _, fun h => absurd rfl h, Below.refl _ _⟩
  case round =>
    obtain ⟨k, hk, rfl, ho, hv, hbl⟩ := hrel
    by_cases hkl : k < l.length
    · obtain ⟨x, hx⟩ : ∃ x, l[k]? = some x := ⟨_, List.getElem?_eq_getElem hkl⟩
      have hc : wr.cell? ⟨bk, off + k, none⟩ = some (.int .i64 x) := by rw [hbl.cell (show (⟨bk, off + k, none⟩ : Addr).block < w.heap.size from hbk)]; exact HC.out k x hx
      have hxb := HL.out x (List.mem_of_getElem? hx)
      obtain ⟨x, rfl⟩ := Int.eq_ofNat_of_zero_le hxb.1
      have htx := six_text x (by omega) wr
      have HX := Lib.hid hx
      clear hx
      go_wp2_with (first | (go_at_call 61; refine htx.mono ?_; rintro e w1 ⟨rfl, rfl⟩) | (at_builtin; refine wpList_append1 rfl _ _ 46 rfl 9 _ (.string ⟨#[]⟩) 16 Tryd.underlying46 Tryd.infoStr rfl w.heap.size w.heap.size (Nat.le_refl _) w _ _ k _ (.string ⟨(hexs x).toArray⟩) (by rfl) (by rfl) ho hbl hbl.size (by simp [Value.oneCell']) (by omega) (by omega) ?_))
      intro v' w2 ho2 hb2 _ hne
      go_wp2
      go_roundw
      case rel =>
        refine ⟨k + 1, by omega, by go_num, ?_, fun _ => hne, hb2⟩
        have e : (texts l).take (k + 1) = (texts l).take k ++ [hexs x] := by
          rw [List.take_add_one]; unfold texts; rw [List.getElem?_map, HX.out]; rfl
        rw [e, strs_append]; exact ho2
      case measure => simp [intOf]; omega
    · obtain rfl : k = l.length := by omega
      have ht : (texts l).take l.length = texts l := List.take_of_length_le (by simp [texts])
      rw [ht] at ho
      have hj := join_row ⟨#[58]⟩ (w := wr) (t := texts l) (by rw [show (texts l).length = l.length by simp [texts]]; exact ho) (by simp [texts]; omega) (by show (colons (texts l)).length ≤ _; omega)
      go_wp2_with fail
      refine hj.mono ?_
      rintro e w1 ⟨rfl, hb1⟩
      go_wp2
      go_ret
      exact ⟨rfl, below_on hbl hbl.size hb1⟩

/-- The text's length, for the tests that a sum of strings makes. -/
theorem take_all {p : List Int} (h : ∀ n ∈ p, 0 ≤ n ∧ n ≤ 65535) (k : Nat) : ∀ n ∈ p.take k, 0 ≤ n ∧ n ≤ 65535 := fun n hn => h n (List.mem_of_mem_take hn)
theorem drop_all {p : List Int} (h : ∀ n ∈ p, 0 ≤ n ∧ n ≤ 65535) (k : Nat) : ∀ n ∈ p.drop k, 0 ≤ n ∧ n ≤ 65535 := fun n hn => h n (List.mem_of_mem_drop hn)

set_option maxHeartbeats 20000000 in
set_option maxRecDepth 100000 in
theorem six_Show_any (p : List Int) (h8 : p.length = 8) (w : World) :
    Calls Tryd.prog 32 #[.agg (ints p).toArray] w fun e w' => e = .returned (.string ⟨(showSix p).toArray⟩) ∧ Below w.heap.size w w' := by
  have hrow : IntRow (w.alloc (.cells (ints p).toArray 33)) w.heap.size 33 p := IntRow.new w _ p
  have hsz : (Option.map (fun i => i.size) (Tryd.prog.info? 33)) = some ((ints p).toArray.size) := by rw [List.size_toArray, ints_length, h8]; rfl
  obtain ⟨w0, hw0⟩ : ∃ w0, w0 = w.alloc (.cells (ints p).toArray 33) := ⟨_, rfl⟩
  have hb0 : Below w.heap.size w w0 := by rw [hw0]; exact (Below.refl _ _).alloc (Nat.le_refl _) _
  rw [← hw0] at hrow
  have HW := Lib.hid hw0
  have hmay := six_May_any p h8 w0
  go_enter Tryd.func32, Tryd.ntmps32
  go_wp2_with (refine wpList_load_row rfl 33 _ rfl _ rfl 33 (ints p).toArray (0, 0) _ (by rw [← hw0]; exact hrow) Tryd.underlying33 rfl hsz ?_)
  rw [← hw0]
  clear hw0
  refine hmay.mono ?_
  rintro e w1 ⟨rfl, hb1⟩
  have hb01 := below_on hb0 hb0.size hb1
  have hr1 : IntRow w1 w.heap.size 33 p := hrow.below hb1 hrow.lt
  cases hm : mayB p with
  | false =>
    go_wp2
    go_ret
    exact ⟨by rw [showSix_no hm]; rfl, hb01⟩
  | true =>
    have hall := mayB_mem hm
    have HA := Lib.hid hall
    have hrk := runR_ok p
    have hin := hrk.inside
    have hrun := six_Run_any p h8 w1
    have hshow : Hid (showSix p = if (runR p).2 = 0 then colons (texts p) else colons (texts (p.take (runR p).1)) ++ [58, 58] ++ colons (texts (p.drop ((runR p).1 + (runR p).2)))) := by show _ = _; unfold showSix; rw [if_pos hm]
    have Hm := Lib.hid hm
    clear hm hall hrk
    generalize (runR p).1 = a at *
    generalize (runR p).2 = n at *
    go_wp2_with (refine wpList_load_row rfl 33 _ rfl _ rfl 33 (ints p).toArray (0, 0) _ hr1 Tryd.underlying33 rfl hsz ?_)
    refine hrun.mono ?_
    rintro e w2 ⟨rfl, hw2⟩
    have hb02 : Below w.heap.size w w2 := by rw [hw2]; exact hb01.alloc hb01.size _
    have hr2 : IntRow w2 w.heap.size 33 p := by rw [hw2]; exact hr1.alloc _
    clear hw2
    have hsa := run_sliceAt_all (P := Tryd.prog) Tryd.underlying33 (by kernel_rfl) w.heap.size
    by_cases hn : n = 0
    · have hs1 : Hid (showSix p = colons (texts p)) := by show _ = _; rw [hshow.out, if_pos hn]
      clear hshow
      subst hn
      have hj := six_join w.heap.size 0 8 p (by omega) HA.out w2 (fun j x hx => by rw [Nat.zero_add]; exact hr2.cell hx) hr2.lt
      rw [h8] at hj
      go_wp2_with fail
      refine hj.mono ?_
      rintro e w3 ⟨rfl, hb3⟩
      go_wp2
      go_ret
      exact ⟨by rw [hs1.out]; rfl, below_on hb02 hb02.size hb3⟩
    · have ha8 : a ≤ 8 := by omega
      have hsu := run_sliceAt_upto (P := Tryd.prog) Tryd.underlying33 (by kernel_rfl) w.heap.size a ha8
      have hj1 := fun w3 (hb : Below w2.heap.size w2 w3) => six_join w.heap.size 0 8 (p.take a) (by simp; omega) (take_all HA.out a) w3 (fun j x hx => by rw [Nat.zero_add]; exact (hr2.below hb hr2.lt).cell (by rw [List.getElem?_take] at hx; split at hx <;> simp_all)) (hr2.below hb hr2.lt).lt
      rw [show (p.take a).length = a by simp; omega] at hj1
      have hs2 : Hid (showSix p = colons (texts (p.take a)) ++ [58, 58] ++ colons (texts (p.drop (a + n)))) := by show _ = _; rw [hshow.out, if_neg hn]
      have hl1 := lens_texts (p.take a) (take_all HA.out a)
      have hl2 := lens_texts (p.drop (a + n)) (drop_all HA.out (a + n))
      rw [show (p.take a).length = a by simp; omega] at hl1
      rw [show (p.drop (a + n)).length = 8 - (a + n) by simp; omega] at hl2
      clear hshow
      have hj2 : ∃ sv, (∀ w', (Instr.sliceAt 33 (.pointer (some ⟨w.heap.size, 0, none⟩)) (some (.int .i64 ((a : Int) + n))) none none).run Tryd.prog w' = .ok sv w') ∧
          ∀ w3, Below w2.heap.size w2 w3 → Calls Tryd.prog 48 #[sv] w3 fun e w' => e = .returned (.string ⟨(colons (texts (p.drop (a + n)))).toArray⟩) ∧ Below w3.heap.size w3 w' := by
        have ec : (a : Int) + n = ((a + n : Nat) : Int) := by omega
        rw [ec]
        by_cases h : a + n = 8
        · refine ⟨_, fun w' => by rw [h]; exact run_sliceAt_end (P := Tryd.prog) Tryd.underlying33 (by kernel_rfl) w.heap.size w', fun w3 hb => ?_⟩
          have := six_join w.heap.size 0 0 [] (by simp) (fun n hn => absurd hn (by simp)) w3 (fun j x hx => by simp at hx) (hr2.below hb hr2.lt).lt
          rw [h, List.drop_eq_nil_of_le (by omega)]
          exact this
        · refine ⟨_, run_sliceAt_from (P := Tryd.prog) Tryd.underlying33 (by kernel_rfl) (by kernel_rfl) w.heap.size (a + n) (by omega), fun w3 hb => ?_⟩
          have := six_join w.heap.size (a + n) (8 - (a + n)) (p.drop (a + n)) (by simp; omega) (drop_all HA.out _) w3 (fun j x hx => (hr2.below hb hr2.lt).cell (by rwa [List.getElem?_drop] at hx)) (hr2.below hb hr2.lt).lt
          rw [show (p.drop (a + n)).length = 8 - (a + n) by simp; omega] at this
          exact this
      obtain ⟨sv, hsl, hj2⟩ := hj2
      have hbr : Below w2.heap.size w2 w2.drew := (Below.refl _ _).drew
      have hwr : IntKind.i64.wrap ((a : Int) + n) = (a : Int) + n := by rw [IntKind.wrap_i64]; omega
      have HJ1 := Lib.hid hj1
      have HJ2 := Lib.hid hj2
      have HB2 := Lib.hid hb02
      clear hj1 hj2 hsa hr2 hb02 hr1 hb01 hb1 hmay hrow hsz hb0 hrun HA
      go_wp2_with fail
      go_region_with (first
        | (go_at_call_of 48 sv; first
          | (refine (HJ2.out _ hbr).mono ?_; rintro e w3 ⟨rfl, hb3⟩; have hb5 := below_on hbr hbr.size hb3; clear hb3)
          | (refine (HJ2.out _ hb4).mono ?_; rintro e w4 ⟨rfl, hb6⟩; have hb7 := below_on hb4 hb4.size hb6; clear hb6))
        | (go_at_call 48; first
          | (refine (HJ1.out _ hbr).mono ?_; rintro e w3 ⟨rfl, hb3⟩; have hb4 := below_on hbr hbr.size hb3; clear hb3)
          | (refine (HJ1.out _ hb5).mono ?_; rintro e w4 ⟨rfl, hb6⟩; have hb7 := below_on hb5 hb5.size hb6; clear hb6)))
      all_goals go_wp2
      all_goals go_ret
      all_goals refine ⟨?_, below_on HB2.out HB2.out.size hb7⟩
      all_goals refine congrArg (fun x => Ending.returned (.string x)) (toList_inj ?_)
      all_goals rw [hs2.out]
      all_goals simp [ByteArray.data_append]

end Go.Proofs.YtcpnfokpgiigcaaDoor
