/- path.segments: an iterator over a list of texts. -/
import Derived.Test.YtcegcjefjclcnaaDoorPathS
import Derived.Test.YtcegcjefjclcnaaDoorLower
namespace Go.Proofs.YtcegcjefjclcnaaDoor
open Go.RowKit Go.Shelf
attribute [local go_sem] Oper.semAt_some

/-- A slice value that holds texts, in a block below n₀; or there are none. -/
def Texts (n₀ : Nat) (W : World) (sv : Value) (l : List (List UInt8)) : Prop :=
  (sv = .slice none 0 0 ∧ l = []) ∨ ∃ b off cap, sv = .slice (some ⟨b, off, none⟩) l.length cap ∧ b < n₀ ∧ ∀ j x, l[j]? = some x → W.cell? ⟨b, off + j, none⟩ = some (.string ⟨x.toArray⟩)
theorem Texts.below {n₀ : Nat} {A B : World} (h : Below n₀ A B) {sv : Value} {l : List (List UInt8)} : Texts n₀ A sv l → Texts n₀ B sv l
  | .inl e => .inl e
  | .inr ⟨b, off, cap, e, hb, hc⟩ => .inr ⟨b, off, cap, e, hb, fun j x hj => (h.cell (p := ⟨b, off + j, none⟩) hb).trans (hc j x hj)⟩
theorem Texts.mono {n₀ n₁ : Nat} (hn : n₀ ≤ n₁) {A : World} {sv : Value} {l : List (List UInt8)} : Texts n₀ A sv l → Texts n₁ A sv l
  | .inl e => .inl e
  | .inr ⟨b, off, cap, e, hb, hc⟩ => .inr ⟨b, off, cap, e, by omega, hc⟩
/-- The text at a place, and whether it is the last one. -/
def segAt (l : List (List UInt8)) (k : Nat) : List UInt8 × Bool := (l[k]?.getD [], decide (k + 1 = l.length))
abbrev sencs (x : List UInt8 × Bool) : Array Value := #[.string ⟨(x.1.take 1000000).toArray⟩, .bool x.2]
/-- What a round keeps: the iterator's box, and what lay below. -/
def SegK (Bs n₀ : Nat) (A B : World) : Prop := B.heap[Bs]? = A.heap[Bs]? ∧ Below n₀ A B
theorem SegK.refl {Bs n₀ : Nat} (A : World) : SegK Bs n₀ A A := ⟨rfl, Below.refl _ _⟩
theorem SegK.trans {Bs n₀ : Nat} {A B C : World} (h : SegK Bs n₀ A B) (k : SegK Bs n₀ B C) : SegK Bs n₀ A C := ⟨k.1.trans h.1, h.2.trans k.2⟩

set_option maxRecDepth 100000 in
set_option maxHeartbeats 4000000 in
theorem seg1_in (n : Nat) (hn : 1 ≤ n) (lp Bs n₀ : Nat) (sv : Value) (l : List (List UInt8)) (hl : l.length ≤ 1000000) (hall : ∀ x ∈ l, x.length ≤ 1000000) (J Jx : List (List UInt8 × Bool) → World → Prop)
    (hY : ∀ pre x W, J pre W → pre.length < l.length → YieldAt Fence.wide (n - 1) Tryd.prog lp (sencs x) W fun e W' =>
      (e = .returned (.bool true) ∧ J (pre ++ [x]) W' ∧ SegK Bs n₀ W W') ∨ (e = .returned (.bool false) ∧ Jx (pre ++ [x]) W'))
    (W : World) (hBs : W.cell? ⟨Bs, 0, none⟩ = some sv) (hT : Texts n₀ W sv l) (h0 : J [] W) :
    CallsIn Fence.wide n Tryd.prog 35 #[.func (.yield lp) #[] #[], .pointer (some ⟨Bs, 0, none⟩)] W fun e W' => (∃ v, e = .returned v) ∧
      ((∃ ys, ys = upto (segAt l) l.length ∧ J ys W') ∨ (∃ pre, (∃ k, k ≤ l.length ∧ pre = upto (segAt l) k) ∧ Jx pre W')) := by
  refine callsIn_of_wp Tryd.func35 rfl trivial ?_ rfl
  simp only [Tryd.ntmps35, List.size_toArray, List.length_cons, List.length_nil, Nat.reduceAdd, Nat.reduceSub, Array.replicate_succ, Array.replicate_zero, List.push_toArray, List.append_toArray, List.nil_append, List.cons_append]
  rcases hT with ⟨rfl, rfl⟩ | ⟨b, off, cap, rfl, hb, hc⟩
  · gi_wp2
    gi_loopw [3, 4, 7] (fun _ _ i wr => i = .int .i64 0 ∧ J [] wr) (fun _ _ _ _ => 0)
    case atStart => exact ⟨rfl, h0⟩
    case round =>
      obtain ⟨rfl, hJs⟩ := hrel
      gi_wp2
      go_end0
      exact ⟨⟨_, rfl⟩, .inl ⟨[], rfl, hJs⟩⟩
  · gi_wp2
    gi_loopw [3, 4, 7] (fun _ _ i wr => ∃ k : Nat, k ≤ l.length ∧ i = .int .i64 k ∧ J (upto (segAt l) k) wr ∧ SegK Bs n₀ W wr) (fun _ _ i _ => l.length - (intOf i).toNat)
    case atStart => exact ⟨0, Nat.zero_le _, rfl, h0, SegK.refl _⟩
    case round =>
      obtain ⟨k, hk, rfl, hJs, hnx⟩ := hrel
      have hc1 : wr.cell? ⟨Bs, 0, none⟩ = some (.slice (some ⟨b, off, none⟩) l.length cap) := (cell_heap hnx.1).trans hBs
      by_cases hlt : k < l.length
      · obtain ⟨x, hx⟩ : ∃ x, l[k]? = some x := ⟨_, List.getElem?_eq_getElem hlt⟩
        have hcx : wr.cell? ⟨b, off + k, none⟩ = some (.string ⟨x.toArray⟩) := (hnx.2.cell (p := ⟨b, off + k, none⟩) hb).trans (hc k x hx)
        obtain ⟨fn, tmps, assign, body, hy, hR⟩ := hY _ (segAt l k) wr hJs (by rw [upto_length]; exact hlt)
        dsimp only [sencs, segAt] at hy
        rw [hx, Option.getD_some, List.take_of_length_le (hall x (List.mem_of_getElem? hx))] at hy
        by_cases hlast : k + 1 = l.length
        · rw [decide_eq_true hlast] at hy
          have hq : ((k : Int) == (l.length : Int) - 1) = true := by simp; omega
          gi_wp2
          refine hR.mono ?_
          rintro e W3 (⟨rfl, hJ3, hk3⟩ | ⟨rfl, hJx3⟩)
          · gi_wp2
            go_roundw
            case rel => exact ⟨k + 1, by omega, by simp, by rw [upto_succ]; exact hJ3, hnx.trans hk3⟩
            case measure => simp [intOf]; omega
          · gi_wp2
            refine bodyPost_ret (results_none rfl _ _ _) rfl ?_
            exact ⟨⟨_, rfl⟩, .inr ⟨_, ⟨k + 1, by omega, (upto_succ _ _).symm⟩, hJx3⟩⟩
        · rw [decide_eq_false hlast] at hy
          have hq : ((k : Int) == (l.length : Int) - 1) = false := by simp; omega
          gi_wp2
          refine hR.mono ?_
          rintro e W3 (⟨rfl, hJ3, hk3⟩ | ⟨rfl, hJx3⟩)
          · gi_wp2
            go_roundw
            case rel => exact ⟨k + 1, by omega, by simp, by rw [upto_succ]; exact hJ3, hnx.trans hk3⟩
            case measure => simp [intOf]; omega
          · gi_wp2
            refine bodyPost_ret (results_none rfl _ _ _) rfl ?_
            exact ⟨⟨_, rfl⟩, .inr ⟨_, ⟨k + 1, by omega, (upto_succ _ _).symm⟩, hJx3⟩⟩
      · obtain rfl : k = l.length := by omega
        gi_wp2
        go_end0
        exact ⟨⟨_, rfl⟩, .inl ⟨_, rfl, hJs⟩⟩

theorem path_segments_in (n : Nat) (sv : Value) (hsv : sv.oneCell' = true) (w : World) :
    CallsIn Fence.wide n Tryd.prog 20 #[sv] w fun e w' => e = .returned (.func (.func 35) #[] #[.pointer (some ⟨w.heap.size, 0, none⟩)]) ∧ w' = w.alloc (.cells #[sv] 22) := by
  refine callsIn_of_wp Tryd.func20 rfl trivial ?_ rfl
  simp only [Tryd.ntmps20, List.size_toArray, List.length_cons, List.length_nil, Nat.reduceAdd, Nat.reduceSub, Array.replicate_succ, Array.replicate_zero, List.push_toArray, List.append_toArray, List.nil_append, List.cons_append]
  gi_wp2
  go_ret
  exact ⟨rfl, rfl⟩

theorem seg_stops (n : Nat) (hn : 1 ≤ n) (Bs n₀ : Nat) (sv : Value) (l : List (List UInt8)) (hl : l.length ≤ 1000000) (hall : ∀ x ∈ l, x.length ≤ 1000000) (w : World) (hBs : Bs < w.heap.size) (hn₀ : n₀ ≤ w.heap.size) (h1 : w.cell? ⟨Bs, 0, none⟩ = some sv) (hT : Texts n₀ w sv l) :
    SeqStopsK Fence.wide n Tryd.prog 35 #[.pointer (some ⟨Bs, 0, none⟩)] sencs (SegK Bs n₀) (fun ys => ys = upto (segAt l) l.length) (fun pre => ∃ k, k ≤ l.length ∧ pre = upto (segAt l) k) l.length w := fun lp J Jx W hW _ _ hY h0 =>
  seg1_in n hn lp Bs n₀ sv l hl hall J Jx hY W ((hW.cell (p := ⟨Bs, 0, none⟩) hBs).trans h1) (hT.below (hW.mono hn₀)) h0

end Go.Proofs.YtcegcjefjclcnaaDoor
