/- A parameter that is a host: opened and shut. -/
import Derived.Test.YtcpjonglfnakpaaDoorCard8
import Derived.Test.YtcpjonglfnakpaaDoorMG

import Derived.SizedLaws
namespace Go.Proofs.YtcpjonglfnakpaaDoor
open Go.ChangeShapes Go.RowKit

section
variable {H : Type} {enc : TypeId × Value → H} {w : World} {base : Nat} {spare : Nat → Bool} {held : Bool}
def HostT.data (h : HostT) : DataW H := .agg [.lit (.int .i64 h.k), .lit (.string h.l.data.toList), .lit (.int .i64 h.n), .agg (litsOf h.p)]
structure HostT.Wf (h : HostT) : Prop where
  k : (Lit.int .i64 h.k).wf = true
  l : h.l.size ≤ maxLen
  n : (Lit.int .i64 h.n).wf = true
  p : ∀ x ∈ h.p, (Lit.int .i64 x).wf = true
theorem cells_host : Tryd.prog.cellsOf 24 = 11 := by kernel_rfl
theorem cells_int : Tryd.prog.cellsOf 3 = 1 := by kernel_rfl
theorem cells_str : Tryd.prog.cellsOf 9 = 1 := by kernel_rfl
theorem cells_arr : Tryd.prog.cellsOf 22 = 8 := by kernel_rfl
set_option maxRecDepth 100000 in
theorem trod_host {fuel : Nat} {cs : List Value} {x : DataW H × List MemPlace} (h : DataW.trod enc Tryd.prog w base spare held fuel 24 cs = some x) :
    ∃ h : HostT, cs = h.val.cells.toList ∧ x = (h.data, []) ∧ h.Wf := by
  obtain ⟨xs, m, _, rfl, hl, hxl, hall⟩ := DataW.trod_struct Tryd.underlying24 h
  rw [cells_host] at hl
  match cs, hl with
  | [c0, c1, c2, c3, c4, c5, c6, c7, c8, c9, c10], _ =>
    match xs, hxl with
    | [y0, y1, y2, y3], _ =>
      have h0 := hall 0 _ rfl
      have h1 := hall 1 _ rfl
      have h2 := hall 2 _ rfl
      have h3 := hall 3 _ rfl
      simp [cells_int, cells_str, cells_arr] at h0 h1 h2 h3
      obtain ⟨k, e0, rfl, w0⟩ := DataW.trod_int Tryd.underlying3 h0
      obtain ⟨l, e1, rfl, w1⟩ := DataW.trod_string Tryd.underlying9 h1
      obtain ⟨n, e2, rfl, w2⟩ := DataW.trod_int Tryd.underlying3 h2
      have h3' : DataW.Trod enc Tryd.prog w base spare held 22 (.agg #[c3, c4, c5, c6, c7, c8, c9, c10]) y3.1 y3.2 := ⟨m, h3⟩
      obtain ⟨a, e3, a8, d3, p3, w3⟩ := arr8_cells Tryd.underlying22 (by kernel_rfl) Tryd.underlying3 rfl h3'
      obtain ⟨x0, x1, x2, x3, x4, x5, x6, x7, rfl⟩ := list8 a a8
      obtain rfl : y3 = (.agg (litsOf [x0, x1, x2, x3, x4, x5, x6, x7]), []) := Prod.ext d3 p3
      simp [ints] at e0 e1 e2 e3
      obtain ⟨rfl, rfl, rfl, rfl, rfl, rfl, rfl, rfl⟩ := e3
      subst e0 e1 e2
      exact ⟨⟨k, l, n, x0, x1, x2, x3, x4, x5, x6, x7⟩, rfl, by simp [HostT.data, HostT.p], ⟨w0, w1, w2, w3⟩⟩
set_option maxRecDepth 100000 in
theorem open_host {r : Reach} {b0 : Nat} {v : Value} {d : DataW H} {ps : List MemPlace} (hval : Value.okWide Tryd.prog w r b0 24 v) (hd : DataW.Trod enc Tryd.prog w base spare held 24 v d ps) :
    ∃ h : HostT, v = h.val ∧ d = h.data ∧ ps = [] ∧ h.Wf := by
  obtain ⟨cs, rfl, hsz, _⟩ : ∃ cs, v = .agg cs ∧ cs.size = Tryd.prog.cellsOf 24 ∧ Row.okWide Tryd.prog w r b0 24 cs := by
    simpa [Value.okWide, Tryd.underlying24] using hval
  obtain ⟨l⟩ := cs
  obtain ⟨fuel, hf⟩ := hd
  obtain ⟨h, hc, hx, hw⟩ := trod_host (show DataW.trod enc Tryd.prog w base spare held fuel 24 l = some (d, ps) from hf)
  rw [Prod.mk.injEq] at hx
  refine ⟨h, ?_, hx.1, hx.2, hw⟩
  rw [hc]; rfl
theorem shut_host {h : HostT} (hw : h.Wf) : DataW.Trod enc Tryd.prog w base spare held 24 h.val h.data [] := by
  obtain ⟨w0, w1, w2, w3⟩ := hw
  obtain ⟨k, l, n, x0, x1, x2, x3, x4, x5, x6, x7⟩ := h
  simp only [HostT.p, List.mem_cons, List.not_mem_nil, or_false, forall_eq_or_imp, forall_eq] at w0 w1 w2 w3
  obtain ⟨v0, v1, v2, v3, v4, v5, v6, v7⟩ := w3
  exact ⟨3, by simp [DataW.trod, HostT.val, hV, HostT.data, HostT.p, Value.cells, litsOf, Tryd.underlying24, Tryd.underlying3, Tryd.underlying9, Tryd.underlying22, cells_host, cells_int, cells_str, cells_arr, w0, w1, w2, v0, v1, v2, v3, v4, v5, v6, v7, show List.range 8 = [0, 1, 2, 3, 4, 5, 6, 7] from rfl]⟩
end

end Go.Proofs.YtcpjonglfnakpaaDoor
