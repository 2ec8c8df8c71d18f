/- A parameter that is an array of eight ints: opened and shut. -/
import Derived.Test.YtcpjonglfnakpaaDoorMA
import Derived.WalkKit
import Derived.OpenShut
namespace Go.Proofs.YtcpjonglfnakpaaDoor
open Go.ChangeShapes Go.RowKit

section
variable {H : Type} {enc : TypeId × Value → H} {P : Program} {w : World} {base : Nat} {spare : Nat → Bool} {held : Bool} {T e : TypeId}
def litsOf (a : List Int) : List (DataW H) := a.map fun x => .lit (.int .i64 x)
theorem arr8_cells {l : List Value} {d : DataW H} {ps : List MemPlace} (hT : P.underlying T = some (.array 8 e)) (hce : P.cellsOf e = 1) (he : P.underlying e = some (.int .i64)) (hl : l.length = 8)
    (hd : DataW.Trod enc P w base spare held T (.agg l.toArray) d ps) :
    ∃ a : List Int, l = ints a ∧ a.length = 8 ∧ d = .agg (litsOf a) ∧ ps = [] ∧ ∀ x ∈ a, (Lit.int .i64 x).wf = true := by
  obtain ⟨fuel, hf⟩ := hd
  have hf' : DataW.trod enc P w base spare held fuel T l = some (d, ps) := hf
  obtain ⟨xs, m, _, hx, _, hxl, hall⟩ := DataW.trod_array hT hf'
  rw [Prod.mk.injEq] at hx
  obtain ⟨rfl, rfl⟩ := hx
  have key : ∀ i, i < 8 → ∃ n : Int, l[i]? = some (.int .i64 n) ∧ xs[i]? = some (.lit (.int .i64 n), []) ∧ (Lit.int .i64 n).wf = true := by
    intro i hi
    obtain ⟨v, hv⟩ : ∃ v, l[i]? = some v := ⟨_, List.getElem?_eq_getElem (by omega)⟩
    obtain ⟨x, hx⟩ : ∃ x, xs[i]? = some x := ⟨_, List.getElem?_eq_getElem (by omega)⟩
    have h := hall i hi
    rw [hce, Nat.mul_one, hx] at h
    have e1 : (l.drop i).take 1 = [v] := by
      obtain ⟨h1, h2⟩ := List.getElem?_eq_some_iff.1 hv
      rw [List.drop_eq_getElem_cons h1, h2]; rfl
    rw [e1] at h
    obtain ⟨n, h1, h2, h3⟩ := DataW.trod_int he h
    obtain rfl : v = .int .i64 n := by simpa using h1
    exact ⟨n, hv, by rw [hx, h2], h3⟩
  refine ⟨l.map intOf, ?_, by simp [hl], ?_, ?_, ?_⟩
  · have : l = ints (l.map intOf) := by
      apply List.ext_getElem?
      intro i
      rcases Nat.lt_or_ge i 8 with h | h
      · obtain ⟨n, h1, _, _⟩ := key i h
        rw [h1]; simp [ints, h1, intOf]
      · rw [List.getElem?_eq_none (by omega), List.getElem?_eq_none (by rw [ints_length, List.length_map]; omega)]
    exact this
  · refine congrArg DataW.agg ?_
    unfold litsOf
    apply List.ext_getElem?
    intro i
    rcases Nat.lt_or_ge i 8 with h | h
    · obtain ⟨n, h1, h2, _⟩ := key i h
      simp [h1, h2, intOf]
    · rw [List.getElem?_eq_none (by rw [List.length_map]; omega), List.getElem?_eq_none (by simp; omega)]
  · rw [List.flatMap_eq_nil_iff]
    intro x hx
    obtain ⟨i, hi⟩ := List.mem_iff_getElem?.1 hx
    have hi8 : i < 8 := by have := (List.getElem?_eq_some_iff.1 hi).1; omega
    obtain ⟨n, _, h2, _⟩ := key i hi8
    rw [h2] at hi; obtain rfl := Option.some.inj hi; rfl
  · intro x hx
    obtain ⟨y, hy, rfl⟩ := List.mem_map.1 hx
    obtain ⟨i, hi⟩ := List.mem_iff_getElem?.1 hy
    have hi8 : i < 8 := by have := (List.getElem?_eq_some_iff.1 hi).1; omega
    obtain ⟨n, h1, _, h3⟩ := key i hi8
    rw [h1] at hi; obtain rfl := Option.some.inj hi; exact h3
theorem open_arr8 {r : Reach} {b0 : Nat} {v : Value} {d : DataW H} {ps : List MemPlace} (hT : P.underlying T = some (.array 8 e)) (hce : P.cellsOf e = 1) (he : P.underlying e = some (.int .i64)) (hcT : P.cellsOf T = 8)
    (hval : Value.okWide P w r b0 T v) (hd : DataW.Trod enc P w base spare held T v d ps) :
    ∃ a : List Int, v = .agg (ints a).toArray ∧ a.length = 8 ∧ d = .agg (litsOf a) ∧ ps = [] ∧ ∀ x ∈ a, (Lit.int .i64 x).wf = true := by
  obtain ⟨cs, rfl, hsz, _⟩ : ∃ cs, v = .agg cs ∧ cs.size = P.cellsOf T ∧ Row.okWide P w r b0 T cs := by
    simpa [Value.okWide, hT] using hval
  rw [hcT] at hsz
  obtain ⟨l⟩ := cs
  have hl : l.length = 8 := hsz
  obtain ⟨a, h1, h2, h3, h4, h5⟩ := arr8_cells hT hce he hl hd
  exact ⟨a, by rw [h1], h2, h3, h4, h5⟩
theorem list8 {α : Type} (l : List α) (h : l.length = 8) : ∃ a b c d e f g i, l = [a, b, c, d, e, f, g, i] := by
  match l, h with
  | [a, b, c, d, e, f, g, i], _ => exact ⟨a, b, c, d, e, f, g, i, rfl⟩
theorem shut_arr8 (hT : P.underlying T = some (.array 8 e)) (hce : P.cellsOf e = 1) (he : P.underlying e = some (.int .i64)) (hcT : P.cellsOf T = 8) {a : List Int} (h8 : a.length = 8) (hw : ∀ x ∈ a, (Lit.int .i64 x).wf = true) :
    DataW.Trod enc P w base spare held T (.agg (ints a).toArray) (.agg (litsOf a)) [] := by
  obtain ⟨x0, x1, x2, x3, x4, x5, x6, x7, rfl⟩ := list8 a h8
  simp only [List.mem_cons, List.not_mem_nil, or_false, forall_eq_or_imp, forall_eq] at hw
  obtain ⟨w0, w1, w2, w3, w4, w5, w6, w7⟩ := hw
  exact ⟨2, by simp [DataW.trod, Value.cells, ints, litsOf, hT, he, hcT, hce, w0, w1, w2, w3, w4, w5, w6, w7, show List.range 8 = [0, 1, 2, 3, 4, 5, 6, 7] from rfl]⟩
end

end Go.Proofs.YtcpjonglfnakpaaDoor
