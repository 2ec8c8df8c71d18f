/- Header fields: Set of the reference. -/
import Derived.Test.YtgbjofahmkeapaaDoorHead3
namespace Go.Proofs.YtgbjofahmkeapaaDoor
open Go.RowKit Go.Proofs.YtgbjofahmkeapaaDoorW.PrintWords

set_option maxHeartbeats 4000000 in
set_option maxRecDepth 100000 in
theorem ref13_Set_any (ao : Option Addr) (cap : Nat) (L : List Fld) (hL : L.length ≤ 999999) (hall : ∀ f ∈ L, f.1.length ≤ 1000000 ∧ f.2.length ≤ 1000000) (n v : List UInt8) (hn : n.length ≤ 1000000) (w : World) (hc : FldsAt w.heap.size w ao L) :
    Calls Tryd.prog 21 #[.slice ao L.length cap, .string ⟨n.toArray⟩, .string ⟨v.toArray⟩] w fun e w' => ∃ sv, e = .returned sv ∧ w'.ownsRow w.heap.size 42 2 sv (setL n v L).length (flds (setL n v L)) ∧ Below w.heap.size w w' := by
  have HC := Lib.hid hc
  have HA := Lib.hid hall
  clear hc hall
  go_enter Tryd.func21, Tryd.ntmps21
  go_wp2
  go_loopw [7, 8, 9] (fun o s i wr => ∃ k : Nat, k ≤ L.length ∧ i = .int .i64 k ∧ s = .bool (setF n v (L.take k)).2 ∧ wr.ownsRow w.heap.size 42 2 o (setF n v (L.take k)).1.length (flds (setF n v (L.take k)).1) ∧ Below w.heap.size w wr) (fun _ _ i _ => L.length - (intOf i).toNat)
  case atStart => exact ⟨0, by omega, rfl, rfl, World.ownsRow_nil _ _ _ _, Below.refl _ _⟩
  case round =>
    obtain ⟨k, hk, rfl, rfl, ho, hbl⟩ := hrel
    have hlen : (setF n v (L.take k)).1.length ≤ k := Nat.le_trans (setF_len _ _ _) (by rw [List.length_take]; omega)
    by_cases hkl : k < L.length
    · obtain ⟨f, hx⟩ : ∃ f, L[k]? = some f := ⟨_, List.getElem?_eq_getElem hkl⟩
      have hst := Lib.hid (setF_step (n := n) (v := v) hx)
      obtain ⟨g, off, rfl, hg, hc1, hc2⟩ := HC.out k _ hx
      have hcx := (hbl.cell (p := ⟨g, off + k * 2, none⟩) hg).trans hc1
      have hxl := HA.out f (List.mem_of_getElem? hx)
      obtain ⟨a, b⟩ := f
      dsimp only at hst hcx hc1 hc2 hxl
      have hcs := fun w1 => ref1_Same ⟨a.toArray⟩ ⟨n.toArray⟩ (by rw [ba_len]; omega) (by rw [ba_len]; omega) w1
      rw [mk_toList, mk_toList] at hcs
      have HX := Lib.hid hx
      clear hx
      have e : sameN a n = (lowL a == lowL n) := rfl
      rw [← e] at hcs
      generalize setF n v (L.take k) = X at *
      obtain ⟨X, s⟩ := X
      dsimp only at ho hlen
      have HC1 := Lib.hid hc1
      have HC2 := Lib.hid hc2
      clear hc1 hc2
      cases hs : sameN a n with
      | true =>
        rw [hs] at hcs
        have hst' := Lib.hid (hst.out.trans (by unfold setStep; rw [hs, if_pos rfl] : _ = if s = true then (X, s) else (X ++ [(n, v)], true)))
        cases s with
        | true =>
          go_wp2_with fail
          refine (hcs _).mono ?_
          rintro e w1 ⟨rfl, hb1⟩
          have ho1 := row_below ho hb1
          have hbl1 := below_on hbl hbl.size hb1
          go_wp2
          go_roundw
          case rel => exact ⟨k + 1, by omega, by go_num, by rw [hst'.out]; rfl, by rw [hst'.out]; exact ho1, hbl1⟩
          case measure => simp [intOf]; omega
        | false =>
          go_wp2_with fail
          refine (hcs _).mono ?_
          rintro e w1 ⟨rfl, hb1⟩
          have ho1 := row_below ho hb1
          have hbl1 := below_on hbl hbl.size hb1
          go_wp2_with (at_builtin; refine wpList_appendF rfl _ _ rfl _ w.heap.size w1 _ rfl _ X (n, v) (by rfl) (by rfl) ho1 hbl1.size (by omega) ?_)
          intro v' w2 ho2 hg2 _
          replace ho2 : w2.ownsRow w.heap.size 42 2 v' (X ++ [(n, v)]).length (flds (X ++ [(n, v)])) := by rw [List.length_append]; exact ho2
          have hbl2 : Below w.heap.size w w2 := hbl1.grown hg2 hbl1.size fun k hk => row_base ho1 k hk
          obtain ⟨ga, gc, rfl⟩ := fld_slice ho2
          go_wp2
          go_roundw
          case rel => exact ⟨k + 1, by omega, by go_num, by rw [hst'.out]; rfl, by rw [hst'.out]; exact ho2, hbl2⟩
          case measure => simp [intOf]; omega
      | false =>
        rw [hs] at hcs
        have hst' := Lib.hid (hst.out.trans (by unfold setStep; rw [hs, if_neg (by decide)] : _ = (X ++ [(a, b)], s)))
        go_wp2_with fail
        refine (hcs _).mono ?_
        rintro e w1 ⟨rfl, hb1⟩
        have ho1 := row_below ho hb1
        have hbl1 := below_on hbl hbl.size hb1
        have hcx1 := (hbl1.cell (p := ⟨g, off + k * 2, none⟩) hg).trans HC1.out
        have hcy1 := (hbl1.cell (p := ⟨g, off + k * 2 + 1, none⟩) hg).trans HC2.out
        go_wp2_with (at_builtin; refine wpList_appendF rfl _ _ rfl _ w.heap.size w1 _ rfl _ X (a, b) (by rfl) (by rfl) ho1 hbl1.size (by omega) ?_)
        intro v' w2 ho2 hg2 _
        replace ho2 : w2.ownsRow w.heap.size 42 2 v' (X ++ [(a, b)]).length (flds (X ++ [(a, b)])) := by rw [List.length_append]; exact ho2
        have hbl2 : Below w.heap.size w w2 := hbl1.grown hg2 hbl1.size fun k hk => row_base ho1 k hk
        obtain ⟨ga, gc, rfl⟩ := fld_slice ho2
        cases s <;> (
          go_wp2
          go_roundw
          case rel => exact ⟨k + 1, by omega, by go_num, by rw [hst'.out], by rw [hst'.out]; exact ho2, hbl2⟩
          case measure => simp [intOf]; omega)
    · obtain rfl : k = L.length := by omega
      rw [List.take_length] at ho hlen
      rw [List.take_length]
      obtain ⟨X, s, hX⟩ : ∃ X s, setF n v L = (X, s) := ⟨_, _, rfl⟩
      rw [hX] at ho hlen
      rw [hX]
      dsimp only at ho hlen
      have hset := Lib.hid (show setL n v L = if s = true then X else X ++ [(n, v)] by unfold setL; rw [hX])
      clear hX
      cases s with
      | true =>
        go_wp2
        go_ret
        exact ⟨_, rfl, by rw [hset.out]; exact ho, hbl⟩
      | false =>
        go_wp2_with (at_builtin; refine wpList_appendF rfl _ _ rfl _ w.heap.size wr _ rfl _ X (n, v) (by rfl) (by rfl) ho hbl.size (by omega) ?_)
        intro v' w2 ho2 hg2 _
        replace ho2 : w2.ownsRow w.heap.size 42 2 v' (X ++ [(n, v)]).length (flds (X ++ [(n, v)])) := by rw [List.length_append]; exact ho2
        have hbl2 : Below w.heap.size w w2 := hbl.grown hg2 hbl.size fun k hk => row_base ho k hk
        go_wp2
        go_ret
        exact ⟨_, rfl, by rw [hset.out]; exact ho2, hbl2⟩

end Go.Proofs.YtgbjofahmkeapaaDoor
