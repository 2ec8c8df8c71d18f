/- slices.Backward over a list of texts: an iterator. -/
import Derived.Test.YtnppnogmpoigkaaDoorTok5
import Derived.Test.YtnppnogmpoigkaaDoorLower
namespace Go.Proofs.YtnppnogmpoigkaaDoor
open Go.RowKit Go.Shelf
attribute [local go_sem] Oper.semAt_some
set_option linter.unusedVariables false
set_option linter.unnecessarySimpa false
set_option linter.unusedSimpArgs false

/-- From behind: the place, and the text there. -/
def backAt (l : List (List UInt8)) (k : Nat) : Nat × List UInt8 := (l.length - 1 - k, l[l.length - 1 - k]?.getD [])
abbrev bencs (x : Nat × List UInt8) : Array Value := #[.int .i64 x.1, .string ⟨(x.2.take 1000000).toArray⟩]
def BakK (Bs n₀ : Nat) (A B : World) : Prop := B.heap[Bs]? = A.heap[Bs]? ∧ Below n₀ A B
theorem BakK.refl {Bs n₀ : Nat} (A : World) : BakK Bs n₀ A A := ⟨rfl, Below.refl _ _⟩
theorem BakK.trans {Bs n₀ : Nat} {A B C : World} (h : BakK Bs n₀ A B) (k : BakK Bs n₀ B C) : BakK Bs n₀ A C := ⟨k.1.trans h.1, h.2.trans k.2⟩

set_option maxRecDepth 100000 in
set_option maxHeartbeats 4000000 in
theorem bak1_in (n : Nat) (hn : 1 ≤ n) (lp Bs n₀ : Nat) (ao : Option Addr) (cap : Nat) (l : List (List UInt8)) (hl : l.length ≤ 1000000) (hall : ∀ x ∈ l, x.length ≤ 1000000) (J Jx : List (Nat × List UInt8) → World → Prop)
    (hY : ∀ pre x W, J pre W → pre.length < l.length → YieldAt Fence.wide (n - 1) Tryd.prog lp (bencs x) W fun e W' =>
      (e = .returned (.bool true) ∧ J (pre ++ [x]) W' ∧ BakK Bs n₀ W W') ∨ (e = .returned (.bool false) ∧ Jx (pre ++ [x]) W'))
    (W : World) (hBs : W.cell? ⟨Bs, 0, none⟩ = some (.slice ao l.length cap)) (hT : TextsAt n₀ W ao l) (h0 : J [] W) :
    CallsIn Fence.wide n Tryd.prog 63 #[.func (.yield lp) #[] #[], .pointer (some ⟨Bs, 0, none⟩)] W fun e W' => (∃ v, e = .returned v) ∧
      ((∃ ys, ys = upto (backAt l) l.length ∧ J ys W') ∨ (∃ pre, (∃ k, k ≤ l.length ∧ pre = upto (backAt l) k) ∧ Jx pre W')) := by
  have HA := Lib.hid hall
  have HT := Lib.hid hT
  clear hall hT
  refine callsIn_of_wp Tryd.func63 rfl trivial ?_ rfl
  simp only [Tryd.ntmps63, List.size_toArray, List.length_cons, List.length_nil, Nat.reduceAdd, Nat.reduceSub, Array.replicate_succ, Array.replicate_zero, List.push_toArray, List.append_toArray, List.nil_append, List.cons_append]
  have hw0 : IntKind.i64.wrap ((l.length : Int) - 1) = (l.length : Int) - 1 := by rw [IntKind.wrap_i64]; omega
  gi_wp2
  gi_loopw [3] (fun i wr => ∃ k m : Nat, k + m = l.length ∧ i = .int .i64 ((m : Int) - 1) ∧ J (upto (backAt l) k) wr ∧ BakK Bs n₀ W wr) (fun i _ => (intOf i + 1).toNat)
  case atStart => exact ⟨0, l.length, by omega, rfl, h0, BakK.refl _⟩
  case round =>
    obtain ⟨k, m, hkm, rfl, hJs, hnx⟩ := hrel
    have hc1 : wr.cell? ⟨Bs, 0, none⟩ = some (.slice ao l.length cap) := (cell_heap hnx.1).trans hBs
    cases m with
    | zero =>
      obtain rfl : k = l.length := by omega
      gi_wp2
      go_end0
      exact ⟨⟨_, rfl⟩, .inl ⟨_, rfl, hJs⟩⟩
    | succ m =>
      have hml : m < l.length := by omega
      obtain ⟨x, hx⟩ : ∃ x, l[m]? = some x := ⟨_, List.getElem?_eq_getElem hml⟩
      obtain ⟨b, off, rfl, hb, hcc⟩ := HT.out m _ hx
      have hcx : wr.cell? ⟨b, off + m, none⟩ = some (.string ⟨x.toArray⟩) := (hnx.2.cell (p := ⟨b, off + m, none⟩) hb).trans hcc
      have hbk : backAt l k = (m, x) := by
        unfold backAt
        rw [show l.length - 1 - k = m by omega, hx]; rfl
      obtain ⟨fn, tmps, assign, body, hy, hR⟩ := hY _ (backAt l k) wr hJs (by rw [upto_length]; omega)
      rw [hbk] at hy
      dsimp only [bencs] at hy
      rw [List.take_of_length_le (HA.out x (List.mem_of_getElem? hx))] at hy
      have e1 : ((m + 1 : Nat) : Int) - 1 = (m : Int) := by omega
      rw [e1]
      have q0 : decide ((0 : Int) ≤ (m : Int)) = true := decide_eq_true (by omega)
      have hw1 : IntKind.i64.wrap ((m : Int) - 1) = (m : Int) - 1 := by rw [IntKind.wrap_i64]; omega
      gi_wp2
      refine hR.mono ?_
      rintro e W3 (⟨rfl, hJ3, hk3⟩ | ⟨rfl, hJx3⟩)
      · gi_wp2
        go_roundw
        case rel => exact ⟨k + 1, m, by omega, rfl, by rw [upto_succ]; exact hJ3, hnx.trans hk3⟩
        case measure => simp [intOf]
      · gi_wp2
        refine bodyPost_ret (results_none rfl _ _ _) rfl ?_
        exact ⟨⟨_, rfl⟩, .inr ⟨_, ⟨k + 1, by omega, (upto_succ _ _).symm⟩, hJx3⟩⟩

theorem Backward_in (n : Nat) (sv : Value) (hsv : sv.oneCell' = true) (w : World) :
    CallsIn Fence.wide n Tryd.prog 50 #[sv] w fun e w' => e = .returned (.func (.func 63) #[] #[.pointer (some ⟨w.heap.size, 0, none⟩)]) ∧ w' = w.alloc (.cells #[sv] 26) := by
  refine callsIn_of_wp Tryd.func50 rfl trivial ?_ rfl
  simp only [Tryd.ntmps50, List.size_toArray, List.length_cons, List.length_nil, Nat.reduceAdd, Nat.reduceSub, Array.replicate_succ, Array.replicate_zero, List.push_toArray, List.append_toArray, List.nil_append, List.cons_append]
  gi_wp2
  go_ret
  exact ⟨rfl, rfl⟩

theorem bak_stops (n : Nat) (hn : 1 ≤ n) (Bs n₀ : Nat) (ao : Option Addr) (cap : Nat) (l : List (List UInt8)) (hl : l.length ≤ 1000000) (hall : ∀ x ∈ l, x.length ≤ 1000000) (w : World) (hBs : Bs < w.heap.size) (hn₀ : n₀ ≤ w.heap.size) (h1 : w.cell? ⟨Bs, 0, none⟩ = some (.slice ao l.length cap)) (hT : TextsAt n₀ w ao l) :
    SeqStopsK Fence.wide n Tryd.prog 63 #[.pointer (some ⟨Bs, 0, none⟩)] bencs (BakK Bs n₀) (fun ys => ys = upto (backAt l) l.length) (fun pre => ∃ k, k ≤ l.length ∧ pre = upto (backAt l) k) l.length w := fun lp J Jx W hW _ _ hY h0 =>
  bak1_in n hn lp Bs n₀ ao cap l hl hall J Jx hY W ((hW.cell (p := ⟨Bs, 0, none⟩) hBs).trans h1) (hT.below (hW.mono hn₀)) h0

end Go.Proofs.YtnppnogmpoigkaaDoor
