/- The contracts of four.Parse's part and of four.Parse. -/
import Derived.Test.YtcpnfokpgiigcaaDoorFourW
namespace Go.Proofs.YtcpnfokpgiigcaaDoor
open Go.RowKit Go.Proofs.YtcpnfokpgiigcaaDoorW.PrintWords

/-- What a part of a number tells, and whether it is one. -/
def partK (l : List UInt8) : Nat := (readD l 255).1.toNat
def partB (l : List UInt8) : Bool := (readD l 255).2 && (digs (partK l) == l)
theorem readD_bd (l : List UInt8) : 0 ≤ (readD l 255).1 ∧ (readD l 255).1 ≤ 255 := by
  unfold readD; split
  · rename_i h; exact ⟨by simp, h.2⟩
  · simp
theorem partK_le (l : List UInt8) : partK l ≤ 255 := by have := readD_bd l; unfold partK; omega
theorem or_join (m k : Nat) (hm : m ≤ 16777215) (hk : k ≤ 255) : Go.bits .or .i64 ((m : Int) * 256) k = (m : Int) * 256 + k := by
  rw [bits_join .i64 63 (by decide) (fun n a b => by rw [IntKind.wrap_i64]; omega) 8 ((m : Int) * 256) k (by omega) (by omega) (by omega) (by omega) (by omega) (by omega)]

set_option maxHeartbeats 1000000 in
theorem four_Part (s : ByteArray) (hs : s.size ≤ 140737488351232) (B m : Nat) (hm : m ≤ 16777215) (w : World) (hG : Good w) (hB : w.heap[B]? = some (.cells #[.int .i64 m] 3 (0, 0))) :
    Calls Tryd.prog 35 #[.string s, .pointer (some ⟨B, 0, none⟩)] w fun e w' => e = .returned (.bool (partB s.data.toList)) ∧ w.grownBy w' (some B) ∧ w'.heap[B]? = some (.cells #[.int .i64 ((m : Int) * 256 + partK s.data.toList)] 3 (0, 0)) := by
  have hc := cell_of_one hB
  have hf := free_of_one hB
  have hbd := readD_bd s.data.toList
  obtain ⟨k, b, hk⟩ : ∃ k b, Hid (readD s.data.toList 255 = (k, b)) := ⟨_, _, rfl⟩
  rw [hk.out] at hbd
  obtain ⟨k, rfl⟩ := Int.eq_ofNat_of_zero_le hbd.1
  have hor := or_join m k hm (by have := hbd.2; simp at this; omega)
  have hpk : Hid (partK s.data.toList = k) := by show _ = _; unfold partK; rw [hk.out]; simp
  have hpb : Hid (partB s.data.toList = (b && (digs k == s.data.toList))) := by show _ = _; unfold partB; rw [hpk.out, hk.out]
  have hk1 : (k : Int) ≤ 255 := hbd.2
  clear hbd
  have hread := deci_Read_any s hs 255 (by omega) (by omega) w hG
  rw [hk.out] at hread
  cases b with
  | false =>
    go_enter Tryd.func35, Tryd.ntmps35
    go_wp2_with (go_at_call 36; refine hread.mono ?_; rintro e w' ⟨rfl, ⟨nd, rfl⟩⟩)
    go_ret
    exact ⟨by rw [hpb.out]; rfl, grown_of_drewN (grown_setCell (w.drewN nd) ⟨B, 0, none⟩ _), by rw [hpk.out]; exact one_setCell (w := w.drewN nd) hB⟩
  | true =>
    by_cases hd : digs k = s.data.toList
    · have hd' : ((revDigs k).reverse == s.toList) = true := by rw [ba_toList]; exact beq_iff_eq.2 hd
      have HD := Lib.hid hd
      clear hd
      go_enter Tryd.func35, Tryd.ntmps35
      go_wp2_with (first | (go_at_call 36; refine hread.mono ?_; rintro e w' ⟨rfl, ⟨nd, rfl⟩⟩) | (go_at_call 24; refine (deci_Show k (by omega) (by omega) _).mono ?_; rintro e w1 ⟨rfl, hb1⟩))
      go_ret
      have hB1 : ((w.drewN nd).setCell ⟨B, 0, none⟩ (.int .i64 ((m : Int) * 256 + k))).heap[B]? = some (.cells #[.int .i64 ((m : Int) * 256 + k)] 3 (0, 0)) := one_setCell (w := w.drewN nd) hB
      exact ⟨by rw [hpb.out, HD.out]; simp, grown_then (grown_of_drewN (grown_setCell (w.drewN nd) ⟨B, 0, none⟩ _)) hb1, by rw [hpk.out]; exact block_below hB1 hb1 (lt_of_block hB1)⟩
    · have hd' : ((revDigs k).reverse == s.toList) = false := by rw [ba_toList]; exact beq_eq_false_iff_ne.2 hd
      have HD := Lib.hid hd
      clear hd
      go_enter Tryd.func35, Tryd.ntmps35
      go_wp2_with (first | (go_at_call 36; refine hread.mono ?_; rintro e w' ⟨rfl, ⟨nd, rfl⟩⟩) | (go_at_call 24; refine (deci_Show k (by omega) (by omega) _).mono ?_; rintro e w1 ⟨rfl, hb1⟩))
      go_ret
      have hB1 : ((w.drewN nd).setCell ⟨B, 0, none⟩ (.int .i64 ((m : Int) * 256 + k))).heap[B]? = some (.cells #[.int .i64 ((m : Int) * 256 + k)] 3 (0, 0)) := one_setCell (w := w.drewN nd) hB
      exact ⟨by rw [hpb.out, beq_eq_false_iff_ne.2 HD.out]; rfl, grown_then (grown_of_drewN (grown_setCell (w.drewN nd) ⟨B, 0, none⟩ _)) hb1, by rw [hpk.out]; exact block_below hB1 hb1 (lt_of_block hB1)⟩

def foldParts : Nat → List (List UInt8) → Option Nat
  | n, [] => some n
  | n, p :: ps => if partB p = true then foldParts (n * 256 + partK p) ps else none
def pairOf : Option Nat → Int × Bool
  | some n => (n, true)
  | none => (0, false)
def parseFour (l : List UInt8) : Int × Bool := if (splitOn 46 l).length = 4 then pairOf (foldParts 0 (splitOn 46 l)) else (0, false)

set_option maxHeartbeats 1000000 in
theorem four_Parse_any (s : ByteArray) (hs : s.size < 4294967281) (w : World) (hG : Good w) :
    Calls Tryd.prog 15 #[.string s] w fun e w' => e = .returned (.tuple #[.int .i64 (parseFour s.data.toList).1, .bool (parseFour s.data.toList).2]) ∧ Below w.heap.size w w' := by
  have hsp := split_any 46 s hs w hG
  have hle := splitOn_le 46 s.data.toList
  rw [← size_list] at hle
  obtain ⟨ps, hps⟩ : ∃ ps, Hid (splitOn 46 s.data.toList = ps) := ⟨_, rfl⟩
  rw [hps.out] at hsp hle
  have hpf : Hid (parseFour s.data.toList = if ps.length = 4 then pairOf (foldParts 0 ps) else (0, false)) := by show _ = _; unfold parseFour; rw [hps.out]
  by_cases h4 : ps.length = 4
  · have H4 := Lib.hid h4
    have h4b : ((ps.length : Int) != 4) = false := by rw [h4]; decide
    clear h4
    have hnb : w.heap.size < (w.alloc (.cells (strs ps).toArray 9)).heap.size := by simp
    have hrow : (w.alloc (.cells (strs ps).toArray 9)).heap[w.heap.size]? = some (.cells (strs ps).toArray 9 (0, 0)) := heap_alloc_new w _
    go_enter Tryd.func15, Tryd.ntmps15
    go_wp2_with (go_at_call 34; refine hsp.mono ?_; rintro e w' ⟨rfl, rfl⟩)
    go_loopw [17] (fun i wr => ∃ k m : Nat, k ≤ 4 ∧ i = .int .i64 k ∧ Hid (m < 256 ^ k) ∧ Hid (foldParts 0 ps = foldParts m (ps.drop k)) ∧ wr.heap[w.heap.size]? = some (.cells (strs ps).toArray 9 (0, 0)) ∧ wr.heap[w.heap.size + 1]? = some (.cells #[.int .i64 m] 3 (0, 0)) ∧ Below w.heap.size w wr) (fun i _ => 4 - (intOf i).toNat)
    case atStart => exact ⟨0, 0, by omega, rfl, by show 0 < 256 ^ 0; decide, by show _ = _; rfl, block_alloc hrow _, by have := heap_alloc_new (w.alloc (.cells (strs ps).toArray 9)) (.cells #[.int .i64 0] 3); rwa [World.size_alloc] at this, ((Below.refl _ _).alloc (Nat.le_refl _) _).alloc (by simp) _⟩
    case round =>
      obtain ⟨k, m, hk, rfl, hm, hfp, hr, hB, hb⟩ := hrel
      have hcm := cell_of_one hB
      by_cases hk4 : k < 4
      · have hkl : k < ps.length := by rw [H4.out]; exact hk4
        obtain ⟨p, hp⟩ : ∃ p, Hid (ps[k]? = some p) := ⟨ps[k], List.getElem?_eq_getElem hkl⟩
        have hmem : p ∈ ps := List.mem_of_getElem? hp.out
        have hpl := hle p hmem
        have hcell : wr.cell? ⟨w.heap.size, k, none⟩ = some (.string ⟨p.toArray⟩) := by
          simp only [World.cell?, hr, strs]
          simp [hp.out]
        have hm' : m ≤ 16777215 := by
          have := hm.out
          obtain rfl | rfl | rfl | rfl : k = 0 ∨ k = 1 ∨ k = 2 ∨ k = 3 := by omega
          all_goals (simp at this; omega)
        have hG' := hG.below (hb.mono (Nat.le_refl _))
        have hpart := four_Part ⟨p.toArray⟩ (by rw [size_list, mk_toList]; omega) (w.heap.size + 1) m hm' wr hG' hB
        rw [mk_toList] at hpart
        have hdrop : Hid (ps.drop k = p :: ps.drop (k + 1)) := by
          show _ = _
          rw [List.drop_eq_getElem_cons hkl]
          congr 1
          have := hp.out; rw [List.getElem?_eq_getElem hkl] at this; exact Option.some.inj this
        have hlen : ps.length ≤ 4 ∧ 4 ≤ ps.length := by rw [H4.out]; exact ⟨Nat.le_refl _, Nat.le_refl _⟩
        have hpk := partK_le p
        cases hpb : partB p with
        | true =>
          rw [hpb] at hpart
          have HPB := Lib.hid hpb
          clear hpb hmem hle hm' hpl
          go_wp2_with (go_at_call 35; refine hpart.mono ?_; rintro e w1 ⟨rfl, hg1, hB1⟩)
          refine ⟨⟨k + 1, m * 256 + partK p, by omega, by go_num, ?_, ?_, ?_, ?_, ?_⟩, by simp [intOf]; omega⟩
          · have := hm.out
            show _ < _
            rw [Nat.pow_succ]; omega
          · refine hfp.out.trans ?_
            rw [hdrop.out, foldParts, if_pos HPB.out]
          · exact block_grown hg1 hr (fun k hk => by cases hk; omega)
          · exact hB1
          · exact hb.grown hg1 hb.size (fun k hk => by cases hk; omega)
        | false =>
          rw [hpb] at hpart
          have HPB := Lib.hid hpb
          clear hpb hmem hle hm' hpl
          go_wp2_with (go_at_call 35; refine hpart.mono ?_; rintro e w1 ⟨rfl, hg1, hB1⟩)
          go_ret2
          refine ⟨?_, hb.grown hg1 hb.size (fun k hk => by cases hk; omega)⟩
          rw [hpf.out, if_pos H4.out, hfp.out, hdrop.out, foldParts, if_neg (by rw [HPB.out]; decide)]
          rfl
      · have hk5 : k = 4 := by omega
        subst hk5
        have hlen : ps.length ≤ 4 ∧ 4 ≤ ps.length := by rw [H4.out]; exact ⟨Nat.le_refl _, Nat.le_refl _⟩
        go_wp2
        go_ret2
        refine ⟨?_, hb⟩
        rw [hpf.out, if_pos H4.out, hfp.out, List.drop_eq_nil_of_le hlen.1]
        rfl
  · have h4b : ((ps.length : Int) != 4) = true := by simp; omega
    go_enter Tryd.func15, Tryd.ntmps15
    go_wp2_with (go_at_call 34; refine hsp.mono ?_; rintro e w' ⟨rfl, rfl⟩)
    go_ret2
    exact ⟨by rw [hpf.out, if_neg h4]; rfl, (Below.refl _ _).alloc (Nat.le_refl _) _⟩

end Go.Proofs.YtcpnfokpgiigcaaDoor
