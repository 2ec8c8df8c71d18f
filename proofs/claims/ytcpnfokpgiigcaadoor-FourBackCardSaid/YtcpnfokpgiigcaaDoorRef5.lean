/- The reference's Show of layer 5, and its Read of layer 2. -/
import Derived.Test.YtcpnfokpgiigcaaDoorDigits
import Derived.Test.YtcpnfokpgiigcaaDoorFourG
import Derived.Laws.Cover1
namespace Go.Proofs.YtcpnfokpgiigcaaDoor
open Go.RowKit Go.Proofs.YtcpnfokpgiigcaaDoorW.PrintWords

set_option maxHeartbeats 1000000 in
theorem rShow5_yes (n : Int) (h0 : 0 ≤ n) (h1 : n ≤ 4294967295) (w : World) (hG : Good w) :
    Calls Tryd.prog 20 #[.int .i64 n] w fun e w' => e = .returned (.string ⟨(showFour n.toNat).toArray⟩) ∧ Below w.heap.size w w' := by
  have hlt : decide (n < 0) = false := by simp; omega
  have hgt : decide (4294967295 < n) = false := by simp; omega
  have hk := Ok.refl hG
  have b1 := digs_len (n / 16777216).toNat (by omega)
  have b2 := digs_len (n / 65536 % 256).toNat (by omega)
  have b3 := digs_len (n / 256 % 256).toNat (by omega)
  have b4 := digs_len (n % 256).toNat (by omega)
  go_enter Tryd.func20, Tryd.ntmps20
  go_wp2_with (go_at_call 40; refine (ok_below (by assumption) (rShow_any _ (by omega) (by omega) _)).mono ?_; rintro e w1 ⟨rfl, hk1⟩)
  go_ret
  refine ⟨?_, hk1.below⟩
  refine congrArg (fun x => Ending.returned (.string x)) (toList_inj ?_)
  have e1 : (n / 16777216).toNat = n.toNat / 16777216 := by omega
  have e2 : (n / 65536 % 256).toNat = n.toNat / 65536 % 256 := by omega
  have e3 : (n / 256 % 256).toNat = n.toNat / 256 % 256 := by omega
  have e4 : (n % 256).toNat = n.toNat % 256 := by omega
  rw [e1, e2, e3, e4]
  simp [ByteArray.data_append, showFour, fourParts, List.intercalate]

def strLen : Value → Nat
  | .string s => s.size
  | _ => 0

set_option maxHeartbeats 1000000 in
set_option maxRecDepth 100000 in
theorem rRead_any (s : ByteArray) (hs : s.size ≤ 140737488351232) (most : Nat) (hm : most ≤ 2147483647) (w : World) (hG : Good w) :
    Calls Tryd.prog 51 #[.string s, .int .i64 most] w fun e w' => e = .returned (.tuple #[.int .i64 (readD s.data.toList most).1, .bool (readD s.data.toList most).2]) ∧ Below w.heap.size w w' := by
  have hk := Ok.refl hG
  have hp := ok_drawn hk (rPlain_any s hs w)
  by_cases hpl : plainB s.data.toList = true
  · rw [hpl] at hp
    have HP := Lib.hid hpl
    have hne : s.data.toList ≠ [] ∧ s.data.toList.all isDig = true := by
      unfold plainB at hpl; rw [Bool.and_eq_true] at hpl
      exact ⟨fun e => by rw [e] at hpl; exact Bool.noConfusion hpl.1, hpl.2⟩
    have HN := Lib.hid hne
    clear hpl hne
    have hlt : decide ((most : Int) < 0) = false := decide_eq_false (by omega)
    go_enter Tryd.func51, Tryd.ntmps51
    go_wp2_with (go_at_call 38; refine hp.mono ?_; rintro e w1 ⟨rfl, hk1⟩)
    go_loop [0] (fun v => ∃ t : ByteArray, v = .string t ∧ 1 ≤ t.size ∧ t.size ≤ s.size ∧ Hid (t.data.toList.all isDig = true ∧ strip0 t.data.toList = strip0 s.data.toList)) (fun v => strLen v)
    case atStart =>
      refine ⟨s, rfl, ?_, Nat.le_refl _, HN.out.2, rfl⟩
      rw [size_list]; cases h : s.data.toList with
      | nil => exact absurd h HN.out.1
      | cons a l => exact Nat.succ_le_succ (Nat.zero_le _)
    case round =>
      obtain ⟨t, rfl, ht1, ht2, HT⟩ := hrel
      by_cases hgo : ∃ b l, t.data.toList = 48 :: b :: l
      · obtain ⟨b, l, HB⟩ := hgo
        have h0 : t[0]'(by omega) = 48 := get_cons (i := 0) (l := b :: l) HB (by omega)
        have hsz : 2 ≤ t.size := by rw [size_list, HB]; simp
        have HB' := Lib.hid HB
        clear HB
        go_wp2_with fail
        refine ⟨⟨_, rfl, ?_, ?_, ?_⟩, ?_⟩
        · rw [size_list, Lib.extract_to_end]; rw [HB'.out]; simp
        · rw [size_list, Lib.extract_to_end, List.length_drop, ← size_list]; omega
        · show _ ∧ _
          rw [Lib.extract_to_end, HB'.out, List.drop_one, List.tail_cons, ← HT.out.2]
          have := HT.out.1
          rw [HB'.out] at this ⊢
          rw [List.all_cons, Bool.and_eq_true] at this
          exact ⟨this.2, (strip0_hit b l).symm⟩
        · show (t.extract 1 t.size).size < t.size
          rw [size_list, Lib.extract_to_end, List.length_drop, ← size_list]; omega
      · have HV : Hid (t.data.toList = digs (valD 0 s.data.toList)) := by
          show _ = _
          rw [← strip0_facts _ HN.out.1 HN.out.2, ← HT.out.2]
          cases h : t.data.toList with
          | nil => rw [size_list, h] at ht1; exact absurd ht1 (by decide)
          | cons a l =>
            cases l with
            | nil => rfl
            | cons b l =>
              rw [strip0_miss b l]
              intro e; subst e; exact hgo ⟨b, l, h⟩
        obtain ⟨V, HVe⟩ : ∃ V, Hid (valD 0 s.data.toList = V) := ⟨_, rfl⟩
        rw [HVe.out] at HV
        have hrd : Hid (readD s.data.toList (most : Int) = if V ≤ most then ((V : Int), true) else (0, false)) := by
          show _ = _
          unfold readD
          rw [HVe.out]
          by_cases h : V ≤ most
          · rw [if_pos ⟨HP.out, by omega⟩, if_pos h]
          · rw [if_neg (by omega), if_neg h]
        have hsh := fun wx (hkx : Ok w wx) => ok_below hkx (rShow_any (most : Int) (by omega) (by omega) wx)
        simp only [Int.toNat_natCast] at hsh
        have hml := digs_len most (by omega)
        have hcmp := digs_compare V most
        have htl : t.size = (digs V).length := by rw [size_list, HV.out]
        have H0 : Hid (1 < t.size → ∀ h : 0 < t.size, ((t[0]'h).toNat : Int) ≠ 48) := by
          intro h1 h2 h3
          obtain ⟨a, b, l, e⟩ : ∃ a b l, t.data.toList = a :: b :: l := by
            cases h : t.data.toList with
            | nil => rw [size_list, h] at h2; exact absurd h2 (by decide)
            | cons a l => cases l with
              | nil => rw [size_list, h] at h1; exact absurd h1 (Nat.lt_irrefl 1)
              | cons b l => exact ⟨a, b, l, rfl⟩
          have := get_cons (i := 0) (l := b :: l) e h2
          rw [this] at h3
          have e48 : a = 48 := UInt8.toNat_inj.1 (by have : (48 : UInt8).toNat = 48 := rfl; omega)
          exact hgo ⟨b, l, by rw [e, e48]⟩
        clear hgo
        have HD : (most < V ∧ decide ((digs most).length < t.size) = true) ∨ (most < V ∧ decide ((digs most).length < t.size) = false ∧ ((t.size : Int) == ((digs most).length : Int)) = true ∧ Op.bytesLess t.toList (digs most) = false ∧ (t.toList == digs most) = false)
            ∨ (V ≤ most ∧ decide ((digs most).length < t.size) = false ∧ ((t.size : Int) == ((digs most).length : Int)) = false) ∨ (V ≤ most ∧ decide ((digs most).length < t.size) = false ∧ ((t.size : Int) == ((digs most).length : Int)) = true ∧ Op.bytesLess t.toList (digs most) = true)
            ∨ (V ≤ most ∧ decide ((digs most).length < t.size) = false ∧ ((t.size : Int) == ((digs most).length : Int)) = true ∧ Op.bytesLess t.toList (digs most) = false ∧ (t.toList == digs most) = true) := by
          rw [ba_toList, HV.out, htl]
          have c2 := digs_compare V most
          by_cases hV : V ≤ most
          · have hle := digs_len_mono V most hV
            right; right
            by_cases e : (digs V).length = (digs most).length
            · right
              by_cases e2 : V = most
              · right
                subst e2
                exact ⟨Nat.le_refl _, decide_eq_false (by omega), beq_iff_eq.2 rfl, by rw [bytesLess_val _ _ 0 rfl (digs_dig _) (digs_dig _)]; exact decide_eq_false (by omega), beq_iff_eq.2 rfl⟩
              · left
                exact ⟨hV, decide_eq_false (by omega), beq_iff_eq.2 (by omega), by rw [bytesLess_val _ _ 0 e (digs_dig _) (digs_dig _), digs_val, digs_val]; exact decide_eq_true (by omega)⟩
            · left; exact ⟨hV, decide_eq_false (by omega), beq_eq_false_iff_ne.2 (by omega)⟩
          · have hle := digs_len_mono most V (by omega)
            by_cases e : (digs V).length = (digs most).length
            · right; left
              exact ⟨by omega, decide_eq_false (by omega), beq_iff_eq.2 (by omega), by rw [bytesLess_val _ _ 0 e (digs_dig _) (digs_dig _), digs_val, digs_val]; exact decide_eq_false (by omega), beq_eq_false_iff_ne.2 (fun e => by have := digs_inj e; omega)⟩
            · left; exact ⟨by omega, decide_eq_true (by omega)⟩
        have H1 : (1 < t.size ∧ ∃ h : 0 < t.size, (((t[0]'h).toNat : Int) == 48) = false) ∨ t.size ≤ 1 := by
          by_cases h1 : 1 < t.size
          · left; exact ⟨h1, by omega, beq_eq_false_iff_ne.2 (H0.out h1 (by omega))⟩
          · right; omega
        have HT2 := Lib.hid HT.out.1
        clear hcmp H0 HT htl
        rcases H1 with ⟨h1, h0, h2⟩ | h1
        all_goals rcases HD with ⟨d1, d2⟩ | ⟨d1, d2, d3, d4, d5⟩ | ⟨d1, d2, d3⟩ | ⟨d1, d2, d3, d4⟩ | ⟨d1, d2, d3, d4, d5⟩
        all_goals go_wp2_with (go_at_call 40; refine (hsh _ (by assumption)).mono ?_; rintro e w2 ⟨rfl, hk2⟩)
        all_goals first
          | (go_ret2
             exact ⟨by rw [hrd.out, if_neg (by omega)]; rfl, hk2.below⟩)
          | (go_loop [8, 9] (fun n i => ∃ (j m : Nat), i = .int .i64 j ∧ n = .int .i64 m ∧ j ≤ t.size ∧ m ≤ V ∧ Hid (valD m (t.data.toList.drop j) = V)) (fun _ i => t.size - (intOf i).toNat)
             case atStart => exact ⟨0, 0, rfl, rfl, Nat.zero_le _, Nat.zero_le _, by show _ = _; rw [List.drop_zero, HV.out, digs_val]⟩
             case round =>
               obtain ⟨j, m, rfl, rfl, hj, hm2, hv⟩ := hrel
               by_cases hjt : j < t.size
               · obtain ⟨c, l, hcl⟩ : ∃ c l, t.data.toList.drop j = c :: l := by
                   cases h : t.data.toList.drop j with
                   | nil => exact absurd (drop_done h) (by omega)
                   | cons c l => exact ⟨c, l, rfl⟩
                 have hg := get_cons hcl hjt
                 obtain ⟨_, _, hcl2⟩ := bt_cons hcl
                 have hdig : isDig c = true := List.all_eq_true.1 HT2.out c (List.mem_of_mem_drop (by rw [hcl]; exact List.mem_cons_self))
                 have hc : 48 ≤ c.toNat ∧ c.toNat ≤ 57 := by simpa [isDig] using hdig
                 obtain ⟨hc1, hc2⟩ := hc
                 have hv2 : Hid (valD (10 * m + (c.toNat - 48)) l = V) := by have := hv.out; rw [hcl, valD_cons] at this; exact this
                 have hv3 := valD_mono l (10 * m + (c.toNat - 48))
                 rw [hv2.out] at hv3
                 have Hcl2 := Lib.hid hcl2
                 clear hcl hcl2 hdig
                 go_wp2
                 go_round
                 case rel => exact ⟨j + 1, 10 * m + (c.toNat - 48), by go_num, by go_num, by omega, hv3, by show _ = _; rw [Hcl2.out]; exact hv2.out⟩
                 case measure => simp [intOf]; omega
               · go_wp2
                 go_ret2
                 refine ⟨?_, hk2.below⟩
                 rw [hrd.out, if_pos d1]
                 have e := hv.out
                 rw [List.drop_eq_nil_of_le (by rw [← size_list]; omega)] at e
                 have e2 : m = V := e
                 rw [e2]; rfl)
  · have hp' : plainB s.data.toList = false := Bool.eq_false_iff.2 hpl
    rw [hp'] at hp
    have HP := Lib.hid hp'
    clear hp' hpl
    go_enter Tryd.func51, Tryd.ntmps51
    go_wp2_with (go_at_call 38; refine hp.mono ?_; rintro e w1 ⟨rfl, hk1⟩)
    go_ret2
    exact ⟨by unfold readD; rw [if_neg (by rw [HP.out]; simp)]; rfl, hk1.below⟩

end Go.Proofs.YtcpnfokpgiigcaaDoor
