/- Header fields: what Drop asks of each field. -/
import Derived.Test.YtnppnogmpoigkaaDoorHead3
namespace Go.Proofs.YtnppnogmpoigkaaDoor
open Go.RowKit Go.Proofs.YtnppnogmpoigkaaDoorW.PrintWords

def goneB (names : List (List UInt8)) (f : Fld) : Bool := names.any fun s => sameN s f.1
def dropL (names : List (List UInt8)) (l : List Fld) : List Fld := l.filter fun f => !goneB names f

theorem Drop11_any (s a : List UInt8) (hs : s.length ≤ 140737488351232) (ha : a.length ≤ 1000000) (b : Nat) (w : World) (hc : w.cell? ⟨b, 0, none⟩ = some (.string ⟨a.toArray⟩)) :
    Calls Tryd.prog 38 #[.string ⟨s.toArray⟩, .pointer (some ⟨b, 0, none⟩)] w fun e w' => e = .returned (.bool (sameN s a)) ∧ Below w.heap.size w w' := by
  have hcs := fun w1 => ascii_Same_any ⟨s.toArray⟩ ⟨a.toArray⟩ (by rw [ba_len]; omega) (by rw [ba_len]; omega) w1
  rw [mk_toList, mk_toList] at hcs
  go_enter Tryd.func38, Tryd.ntmps38
  go_wp2_with fail
  refine (hcs _).mono ?_
  rintro e w1 ⟨rfl, hb1⟩
  go_wp2
  go_ret
  exact ⟨rfl, hb1⟩

set_option maxHeartbeats 2000000 in
set_option maxRecDepth 100000 in
theorem idxS_any (ao : Option Addr) (cap n₀ : Nat) (names : List (List UInt8)) (hN : names.length ≤ 1000000) (hall : ∀ x ∈ names, x.length ≤ 140737488351232) (a : List UInt8) (ha : a.length ≤ 1000000) (b : Nat) (w : World) (hn0 : n₀ ≤ w.heap.size) (hT : TextsAt n₀ w ao names)
    (hb : b < w.heap.size) (hc : w.cell? ⟨b, 0, none⟩ = some (.string ⟨a.toArray⟩)) :
    Calls Tryd.prog 27 #[.slice ao names.length cap, .func (.func 38) #[] #[.pointer (some ⟨b, 0, none⟩)]] w fun e w' => ∃ r : Int, e = .returned (.int .i64 r) ∧ decide (0 ≤ r) = names.any (fun s => sameN s a) ∧ Below w.heap.size w w' := by
  have HT := Lib.hid hT
  have HA := Lib.hid hall
  have HB := Lib.hid hc
  clear hT hall hc
  go_enter Tryd.func27, Tryd.ntmps27
  go_wp2
  go_loopw [8] (fun i wr => ∃ k : Nat, k ≤ names.length ∧ i = .int .i64 k ∧ Hid ((names.take k).any (fun s => sameN s a) = false) ∧ Below w.heap.size w wr) (fun i _ => names.length - (intOf i).toNat)
  case atStart => exact ⟨0, by omega, rfl, rfl, Below.refl _ _⟩
  case round =>
    obtain ⟨k, hk, rfl, hno, hbl⟩ := hrel
    by_cases hkl : k < names.length
    · obtain ⟨x, hx⟩ : ∃ x, names[k]? = some x := ⟨_, List.getElem?_eq_getElem hkl⟩
      obtain ⟨g, off, rfl, hg, hc1⟩ := HT.out k _ hx
      have hcx := (hbl.cell (p := ⟨g, off + k, none⟩) (show g < w.heap.size by omega)).trans hc1
      have hcb := (hbl.cell (p := ⟨b, 0, none⟩) hb).trans HB.out
      have hxl := HA.out x (List.mem_of_getElem? hx)
      have hcs := Drop11_any x a hxl ha b wr hcb
      have HX := Lib.hid hx
      clear hx hc1 hcb
      cases hs : sameN x a with
      | true =>
        rw [hs] at hcs
        go_wp2_with (first | (go_at_call 38; refine hcs.mono ?_; rintro e w1 ⟨rfl, hb1⟩))
        go_ret
        have hany : names.any (fun s => sameN s a) = true := List.any_eq_true.2 ⟨x, List.mem_of_getElem? HX.out, hs⟩
        exact ⟨_, rfl, by rw [hany]; exact decide_eq_true (by omega), below_on hbl hbl.size hb1⟩
      | false =>
        rw [hs] at hcs
        go_wp2_with (first | (go_at_call 38; refine hcs.mono ?_; rintro e w1 ⟨rfl, hb1⟩))
        go_roundw
        case rel =>
          refine ⟨k + 1, by omega, by go_num, ?_, below_on hbl hbl.size hb1⟩
          show _ = _
          rw [List.take_add_one, HX.out, List.any_append, hno.out]
          simp [hs]
        case measure => simp [intOf]; omega
    · obtain rfl : k = names.length := by omega
      rw [List.take_length] at hno
      go_wp2
      go_ret
      exact ⟨_, rfl, by rw [hno.out]; decide, hbl⟩

set_option maxRecDepth 100000 in
theorem contS_any (ao : Option Addr) (cap n₀ : Nat) (names : List (List UInt8)) (hN : names.length ≤ 1000000) (hall : ∀ x ∈ names, x.length ≤ 140737488351232) (a : List UInt8) (ha : a.length ≤ 1000000) (b : Nat) (w : World) (hn0 : n₀ ≤ w.heap.size) (hT : TextsAt n₀ w ao names)
    (hb : b < w.heap.size) (hc : w.cell? ⟨b, 0, none⟩ = some (.string ⟨a.toArray⟩)) :
    Calls Tryd.prog 37 #[.slice ao names.length cap, .func (.func 38) #[] #[.pointer (some ⟨b, 0, none⟩)]] w fun e w' => e = .returned (.bool (names.any (fun s => sameN s a))) ∧ Below w.heap.size w w' := by
  have hi := idxS_any ao cap n₀ names hN hall a ha b w hn0 hT hb hc
  go_enter Tryd.func37, Tryd.ntmps37
  go_wp2_with fail
  refine hi.mono ?_
  rintro e w1 ⟨r, rfl, hr, hb1⟩
  have HR := Lib.hid hr
  clear hr
  go_wp2
  go_ret
  exact ⟨by rw [← HR.out]; rfl, hb1⟩

set_option maxRecDepth 100000 in
theorem Drop1_any (ao : Option Addr) (cap n₀ : Nat) (names : List (List UInt8)) (hN : names.length ≤ 1000000) (hall : ∀ x ∈ names, x.length ≤ 140737488351232) (f : Fld) (ha : f.1.length ≤ 1000000) (bn : Nat) (w : World) (hn0 : n₀ ≤ w.heap.size) (hT : TextsAt n₀ w ao names)
    (hc : w.cell? ⟨bn, 0, none⟩ = some (.slice ao names.length cap)) :
    Calls Tryd.prog 36 #[.agg #[.string ⟨f.1.toArray⟩, .string ⟨f.2.toArray⟩], .pointer (some ⟨bn, 0, none⟩)] w fun e w' => e = .returned (.bool (goneB names f)) ∧ Below w.heap.size w w' := by
  have hbn := World.block_lt_of_cell? w _ hc
  have hal : Below w.heap.size w (w.alloc (.cells #[.string ⟨f.1.toArray⟩, .string ⟨f.2.toArray⟩] 38)) := (Below.refl _ _).alloc (Nat.le_refl _) _
  have hcell := (pair_cells (Below.refl _ (w.alloc (.cells #[.string ⟨f.1.toArray⟩, .string ⟨f.2.toArray⟩] 38)))).1
  have hi := contS_any ao cap n₀ names hN hall f.1 ha w.heap.size (w.alloc (.cells #[.string ⟨f.1.toArray⟩, .string ⟨f.2.toArray⟩] 38)) (by simp; omega) (hT.below (hal.mono hn0)) (by simp) hcell
  have hc2 := (hal.cell (p := ⟨bn, 0, none⟩) hbn).trans hc
  have e : (names.any fun s => sameN s f.1) = goneB names f := rfl
  rw [e] at hi
  clear hT hcell hc
  go_enter Tryd.func36, Tryd.ntmps36
  go_wp2_with fail
  refine hi.mono ?_
  rintro e w1 ⟨rfl, hb1⟩
  go_wp2
  go_ret
  exact ⟨rfl, hal.trans (hb1.mono (by simp))⟩

set_option maxHeartbeats 2000000 in
set_option maxRecDepth 100000 in
theorem idxF_any (fo : Option Addr) (fcap m₀ : Nat) (L : List Fld) (hL : L.length ≤ 1000000) (hfl : ∀ f ∈ L, f.1.length ≤ 1000000 ∧ f.2.length ≤ 1000000) (ao : Option Addr) (cap n₀ : Nat) (names : List (List UInt8)) (hN : names.length ≤ 1000000) (hall : ∀ x ∈ names, x.length ≤ 140737488351232) (bn : Nat)
    (w : World) (hm0 : m₀ ≤ w.heap.size) (hF : FldsAt m₀ w fo L) (hn0 : n₀ ≤ w.heap.size) (hT : TextsAt n₀ w ao names) (hc : w.cell? ⟨bn, 0, none⟩ = some (.slice ao names.length cap)) :
    Calls Tryd.prog 55 #[.slice fo L.length fcap, .func (.func 36) #[] #[.pointer (some ⟨bn, 0, none⟩)]] w fun e w' =>
      ∃ r : Int, e = .returned (.int .i64 r) ∧ ((r = -1 ∧ ∀ f ∈ L, goneB names f = false) ∨ ∃ k : Nat, r = k ∧ k < L.length ∧ (∀ f ∈ L.take k, goneB names f = false) ∧ ∀ f, L[k]? = some f → goneB names f = true) ∧ Below w.heap.size w w' := by
  have hbn := World.block_lt_of_cell? w _ hc
  have HF := Lib.hid hF
  have HT := Lib.hid hT
  have HA := Lib.hid hall
  have HL := Lib.hid hfl
  have HB := Lib.hid hc
  clear hF hT hall hfl hc
  go_enter Tryd.func55, Tryd.ntmps55
  go_wp2
  go_loopw [8] (fun i wr => ∃ k : Nat, k ≤ L.length ∧ i = .int .i64 k ∧ Hid (∀ f ∈ L.take k, goneB names f = false) ∧ Below w.heap.size w wr) (fun i _ => L.length - (intOf i).toNat)
  case atStart => exact ⟨0, by omega, rfl, (fun f hf => by simp at hf), Below.refl _ _⟩
  case round =>
    obtain ⟨k, hk, rfl, hno, hbl⟩ := hrel
    by_cases hkl : k < L.length
    · obtain ⟨f, hx⟩ : ∃ f, L[k]? = some f := ⟨_, List.getElem?_eq_getElem hkl⟩
      obtain ⟨g, off, rfl, hg, hc1, hc2⟩ := HF.out k _ hx
      have hcx := (hbl.cell (p := ⟨g, off + k * 2, none⟩) (show g < w.heap.size by omega)).trans hc1
      have hcy := (hbl.cell (p := ⟨g, off + k * 2 + 1, none⟩) (show g < w.heap.size by omega)).trans hc2
      have hxl := HL.out f (List.mem_of_getElem? hx)
      have hcs := Drop1_any ao cap n₀ names hN HA.out f hxl.1 bn wr (Nat.le_trans hn0 hbl.size) (HT.out.below (hbl.mono hn0)) ((hbl.cell (p := ⟨bn, 0, none⟩) hbn).trans HB.out)
      obtain ⟨a, b⟩ := f
      dsimp only at hcx hcy hcs hxl
      have HX := Lib.hid hx
      clear hx hc1 hc2
      cases hs : goneB names (a, b) with
      | true =>
        rw [hs] at hcs
        go_wp2_with (first | (go_at_call 36; refine hcs.mono ?_; rintro e w1 ⟨rfl, hb1⟩))
        go_ret
        exact ⟨_, rfl, .inr ⟨k, rfl, hkl, hno.out, fun f hf => by rw [HX.out] at hf; obtain rfl := Option.some.inj hf; exact hs⟩, below_on hbl hbl.size hb1⟩
      | false =>
        rw [hs] at hcs
        go_wp2_with (first | (go_at_call 36; refine hcs.mono ?_; rintro e w1 ⟨rfl, hb1⟩))
        go_roundw
        case rel =>
          refine ⟨k + 1, by omega, by go_num, fun f hf => ?_, below_on hbl hbl.size hb1⟩
          rw [List.take_add_one, HX.out] at hf
          rcases List.mem_append.1 hf with hf | hf
          · exact hno.out f hf
          · obtain rfl : f = (a, b) := by simpa using hf
            exact hs
        case measure => simp [intOf]; omega
    · obtain rfl : k = L.length := by omega
      rw [List.take_length] at hno
      go_wp2
      go_ret
      exact ⟨_, rfl, .inl ⟨rfl, hno.out⟩, hbl⟩

end Go.Proofs.YtnppnogmpoigkaaDoor
