/- Header fields: the laws' own Few. -/
import Derived.Test.YtnppnogmpoigkaaDoorFlds
import Derived.WalkKit
namespace Go.Proofs.YtnppnogmpoigkaaDoor
open Go.RowKit Go.Proofs.YtnppnogmpoigkaaDoorW.PrintWords

def few13 (L : List Fld) : Bool := decide (L.length ≤ 60) && L.all fun f => decide (f.1.length ≤ 300) && decide (f.2.length ≤ 300)
theorem few13_yes {L : List Fld} (h : few13 L = true) : L.length ≤ 60 ∧ ∀ x ∈ L, x.1.length ≤ 300 ∧ x.2.length ≤ 300 := by
  unfold few13 at h
  rw [Bool.and_eq_true] at h
  refine ⟨of_decide_eq_true h.1, fun x hx => ?_⟩
  have := List.all_eq_true.1 h.2 x hx
  rw [Bool.and_eq_true] at this
  exact ⟨of_decide_eq_true this.1, of_decide_eq_true this.2⟩
theorem few13_no {L : List Fld} {x : Fld} (hx : x ∈ L) (h : 300 < x.1.length ∨ 300 < x.2.length) : few13 L = false := by
  rw [Bool.eq_false_iff]
  intro e
  have := (few13_yes e).2 x hx
  omega
theorem few13_long {L : List Fld} (h : 60 < L.length) : few13 L = false := by
  rw [Bool.eq_false_iff]
  intro e
  have := (few13_yes e).1
  omega
theorem few13_all {L : List Fld} (h : ∀ x ∈ L, x.1.length ≤ 300 ∧ x.2.length ≤ 300) : few13 L = decide ((L.length : Int) ≤ 60) := by
  unfold few13
  rw [List.all_eq_true.2 fun x hx => by rw [decide_eq_true (h x hx).1, decide_eq_true (h x hx).2]; rfl, Bool.and_true]
  exact decide_eq_decide.2 (by omega)

set_option maxHeartbeats 2000000 in
set_option maxRecDepth 100000 in
theorem Few13_any (v : Value) (L : List Fld) (hL : L.length ≤ maxLen) (hall : ∀ x ∈ L, x.1.length ≤ maxLen ∧ x.2.length ≤ maxLen) (w : World) (hT : Flds w.heap.size w v L) :
    Calls Tryd.prog 10 #[v] w fun e w' => e = .returned (.bool (few13 L)) ∧ Below w.heap.size w w' := by
  unfold maxLen at hL hall
  rcases hT with ⟨rfl, rfl⟩ | ⟨g, off, cap, rfl, hg, hc⟩
  · go_enter Tryd.func10, Tryd.ntmps10
    go_wp2
    go_loopw [3] (fun i wr => i = .int .i64 0 ∧ Below w.heap.size w wr) (fun _ _ => 0)
    case atStart => exact ⟨rfl, Below.refl _ _⟩
    case round =>
      obtain ⟨rfl, hb⟩ := hrel
      go_wp2
      go_ret
      exact ⟨rfl, hb⟩
  · go_enter Tryd.func10, Tryd.ntmps10
    go_wp2
    go_loopw [3] (fun i wr => ∃ k : Nat, k ≤ L.length ∧ k ≤ 61 ∧ i = .int .i64 k ∧ Hid (∀ x ∈ L.take k, x.1.length ≤ 300 ∧ x.2.length ≤ 300) ∧ Below w.heap.size w wr) (fun i _ => 61 - (intOf i).toNat)
    case atStart => exact ⟨0, by omega, by omega, rfl, (fun x h => by simp at h), Below.refl _ _⟩
    case round =>
      obtain ⟨k, hk, hk2, rfl, hno, hbl⟩ := hrel
      by_cases hlt : k < L.length
      · by_cases h60 : k ≤ 60
        · obtain ⟨x, hx⟩ : ∃ x, L[k]? = some x := ⟨_, List.getElem?_eq_getElem hlt⟩
          obtain ⟨a, b⟩ := x
          have hcx : wr.cell? ⟨g, off + k * 2, none⟩ = some (.string ⟨a.toArray⟩) := (hbl.cell (p := ⟨g, off + k * 2, none⟩) hg).trans (hc k _ hx).1
          have hcy : wr.cell? ⟨g, off + k * 2 + 1, none⟩ = some (.string ⟨b.toArray⟩) := (hbl.cell (p := ⟨g, off + k * 2 + 1, none⟩) hg).trans (hc k _ hx).2
          have hxl := hall _ (List.mem_of_getElem? hx)
          have HX := Lib.hid hx
          have HM := Lib.hid (List.mem_of_getElem? hx)
          clear hx hc hall
          by_cases h300 : a.length ≤ 300
          · have d1 : decide ((300 : Int) < (a.length : Int)) = false := decide_eq_false (by omega)
            by_cases h301 : b.length ≤ 300
            · have d2 : decide ((300 : Int) < (b.length : Int)) = false := decide_eq_false (by omega)
              go_wp2
              go_roundw
              case rel =>
                refine ⟨k + 1, by omega, by omega, by go_num, fun y hy => ?_, hbl⟩
                rw [List.take_add_one, HX.out] at hy
                rcases List.mem_append.1 hy with hy | hy
                · exact hno.out y hy
                · obtain rfl : y = (a, b) := by simpa using hy
                  exact ⟨h300, h301⟩
              case measure => simp [intOf]; omega
            · have d2 : decide ((300 : Int) < (b.length : Int)) = true := decide_eq_true (by omega)
              go_wp2
              go_ret
              exact ⟨by rw [few13_no HM.out (.inr (by show 300 < b.length; omega))]; rfl, hbl⟩
          · have d1 : decide ((300 : Int) < (a.length : Int)) = true := decide_eq_true (by omega)
            go_wp2
            go_ret
            exact ⟨by rw [few13_no HM.out (.inl (by show 300 < a.length; omega))]; rfl, hbl⟩
        · obtain rfl : k = 61 := by omega
          clear hc hall
          have d3 : decide ((L.length : Int) ≤ 60) = false := decide_eq_false (by omega)
          go_wp2
          go_ret
          exact ⟨by rw [few13_long (by omega)]; rfl, hbl⟩
      · obtain rfl : k = L.length := by omega
        rw [List.take_length] at hno
        clear hc hall
        go_wp2
        go_ret
        exact ⟨by rw [few13_all hno.out]; rfl, hbl⟩

end Go.Proofs.YtnppnogmpoigkaaDoor
