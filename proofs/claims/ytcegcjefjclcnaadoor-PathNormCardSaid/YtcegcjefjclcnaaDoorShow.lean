/- path.Show, walked. -/
import Derived.Test.YtcegcjefjclcnaaDoorWrite
import Derived.Test.YtcegcjefjclcnaaDoorNorm
namespace Go.Proofs.YtcegcjefjclcnaaDoor
open Go.RowKit Go.Shelf Go.Proofs.YtcegcjefjclcnaaDoorW.PrintWords
attribute [local go_sem] Oper.semAt_some

def showP (pre : List (List UInt8 × Bool)) : List UInt8 := pre.flatMap fun x => 47 :: x.1.take 1000000
def showL (l : List (List UInt8)) : List UInt8 := l.flatMap fun x => 47 :: x
theorem showP_snoc (pre : List (List UInt8 × Bool)) (x : List UInt8 × Bool) : showP (pre ++ [x]) = showP pre ++ 47 :: x.1.take 1000000 := by simp [showP]
theorem showP_len : ∀ pre, (showP pre).length ≤ pre.length * 1000001
  | [] => Nat.le_refl _
  | x :: pre => by
    have h := showP_len pre
    show (47 :: x.1.take 1000000 ++ showP pre).length ≤ _
    rw [List.length_append, List.length_cons, List.length_cons, List.length_take]; omega
theorem showP_all {l : List (List UInt8)} (hall : ∀ x ∈ l, x.length ≤ 1000000) : showP (upto (segAt l) l.length) = showL l := by
  have e : ∀ k, k ≤ l.length → showP (upto (segAt l) k) = showL (l.take k) := by
    intro k
    induction k with
    | zero => intro _; rfl
    | succ k ih =>
      intro hk
      obtain ⟨x, hx⟩ : ∃ x, l[k]? = some x := ⟨_, List.getElem?_eq_getElem (by omega)⟩
      have e1 : l.take (k + 1) = l.take k ++ [x] := by rw [List.take_add_one, hx]; rfl
      have e2 : (segAt l k).1.take 1000000 = x := by
        show (l[k]?.getD []).take 1000000 = x
        rw [hx]; exact List.take_of_length_le (hall x (List.mem_of_getElem? hx))
      rw [upto_succ, showP_snoc, ih (by omega), e1, e2]
      simp [showL]
  rw [e _ (Nat.le_refl _), List.take_length]
theorem keeps_bl {w w' : World} {B b : Nat} {v : Value} {L : List UInt8} (h : But b v w w') (ho : Bl B b v L w) : KeepsOthers w w' := ⟨h.size, fun k o hk hc => by
  rw [h.block k (lt_of_block hk) (fun e => by subst e; rcases ho.blk with hb | hb <;> (rw [hb] at hk; obtain rfl := Option.some.inj hk; cases hc)) (fun e => by
    obtain ⟨cur, h2⟩ := own_cells ho.own e
    rw [h2] at hk; obtain rfl := Option.some.inj hk; cases hc)]
  exact hk⟩
theorem seg_bl {w w' : World} {B b Bs n₀ : Nat} {v : Value} {L : List UInt8} (h : But b v w w') (ho : Bl B b v L w) (h1 : n₀ ≤ b) (h2 : n₀ ≤ B) (h3 : Bs ≠ b) (h4 : Bs < B) (h5 : Bs < w.heap.size) (h6 : n₀ ≤ w.heap.size) : SegK Bs n₀ w w' :=
  ⟨h.block Bs h5 h3 (fun e => by have := (ho.own.lt _ e).1; omega), ⟨h.os, h.tape, h.output, h.size, fun i hi => h.block i (by omega) (by omega) (fun e => by have := (ho.own.lt _ e).1; omega)⟩⟩
theorem Bl.is {B b : Nat} {v : Value} {l : List UInt8} {w : World} (h : Bl B b v l w) (hb : b ≤ B) : Lib.IsBuilder 40 5 b b (Lib.byteCells l) w := by
  have e : (Lib.byteCells l).length = l.length := by simp [Lib.byteCells]
  have ho : w.ownsRow b 5 1 v (Lib.byteCells l).length (Lib.byteCells l) := by
    rw [e]
    refine ⟨h.own.1, ?_⟩
    rcases h.own.2 with h | ⟨g, cap, cur, h1, h2, h3⟩
    · exact .inl h
    · exact .inr ⟨g, cap, cur, h1, by omega, h3⟩
  rcases h.blk with hb | hb
  · exact .inl ⟨Nat.le_refl _, v, hb, ho, h.ne⟩
  · exact .inr ⟨Nat.le_refl _, v, hb, ho, h.ne⟩

set_option maxRecDepth 100000 in
set_option maxHeartbeats 8000000 in
theorem path_Show_any (sv : Value) (l : List (List UInt8)) (hl : l.length ≤ 1000000) (hall : ∀ x ∈ l, x.length ≤ 1000000) (w : World) (hT : Texts w.heap.size w sv l) (hsv : sv.oneCell' = true) :
    Calls Tryd.prog 13 #[sv] w fun e w' => e = .returned (.string ⟨(showL l).toArray⟩) ∧ Below w.heap.size w w' := by
  refine (callsIn_wide (n := 6)).1 ?_
  refine callsIn_of_wp_marks Tryd.func13 rfl trivial ?_ rfl
  simp only [Tryd.ntmps13, List.size_toArray, List.length_cons, List.length_nil, Nat.reduceAdd, Nat.reduceSub, Array.replicate_succ, Array.replicate_zero, List.push_toArray, List.append_toArray, List.nil_append, List.cons_append]
  gi_wp2_with (first | (refine ⟨trivial, ?_⟩; gi_at_call 20; refine (path_segments_in _ sv hsv _).mono ?_; rintro e w' ⟨rfl, rfl⟩) | (gi_at_call 20; refine (path_segments_in _ sv hsv _).mono ?_; rintro e w' ⟨rfl, rfl⟩))
  obtain ⟨W0, hW0⟩ : ∃ W0, W0 = ((w.alloc (.cells #[.pointer none, .slice none 0 0] 40)).alloc (.cells #[sv] 22)) := ⟨_, rfl⟩
  have hsz : W0.heap.size = w.heap.size + 1 + 1 := by rw [hW0]; simp
  have hB0 : Below w.heap.size w W0 := by rw [hW0]; exact ((Below.refl _ w).alloc (Nat.le_refl _) _).alloc (by simp) _
  have hbox : W0.heap[w.heap.size]? = some (.cells #[.pointer none, .slice none 0 0] 40 (0, 0)) := by rw [hW0]; exact block_alloc (heap_alloc_new w _) _
  have hcs : W0.cell? ⟨w.heap.size + 1, 0, none⟩ = some sv := by
    have := heap_alloc_new (w.alloc (.cells #[.pointer none, .slice none 0 0] 40)) (.cells #[sv] 22)
    simp only [World.size_alloc] at this
    rw [← hW0] at this
    rw [cell_of_row W0 _ 0 _ _ _ this]; rfl
  have hO0 : Bl (w.heap.size + 1 + 1) w.heap.size (.slice none 0 0) [] W0 := ⟨.inl hbox, World.ownsRow_nil _ _ _ _, by simp [Value.ownBlock]⟩
  rw [← hW0]
  clear hW0 hbox
  refine wpIn_rangeFunc_ownF rfl (by decide) (gf := 35) (lb := #[.pointer (some ⟨w.heap.size + 1, 0, none⟩)]) rfl trivial (enters_of Tryd.func35 (by kernel_rfl) rfl)
    (seg_stops _ (by decide) (w.heap.size + 1) w.heap.size sv l hl hall W0 (by omega) (by omega) hcs (hT.below hB0)) SegK.trans (fun W l o o' hl h ho hk => ⟨World.putObj_heap_other (by omega), belowK_b (w := W0) (by omega) W l o o' hl h ho hk⟩) (Below.refl _ _) (fun _ => rfl)
    (fun pre W => ((∃ v, Bl (w.heap.size + 1 + 1) w.heap.size v (showP pre) W) ∧ W0.heap.size ≤ W.heap.size) ∧ Below w.heap.size w W)
    (fun _ _ _ => False)
    (OwnFrom.and (fun s W W' row hs hg hr => by
      obtain ⟨⟨v, hO⟩, h6⟩ := hs
      exact ⟨⟨v, hO.blk.elim (fun h => .inl (own_heap h hg (fun r e => (hr r e).2))) (fun h => .inr (own_heap h hg (fun r e => (hr r e).2))), hO.own.kept hg (by
        cases hv : v.ownBlock with
        | none => exact .inl rfl
        | some k => exact .inr (fun e => by
            obtain ⟨cur, h1⟩ := own_cells hO.own hv
            obtain ⟨_, o, h2, h3⟩ := hr k e.symm
            rw [h1] at h2; obtain rfl := Option.some.inj h2; cases h3)), hO.ne⟩, Nat.le_trans h6 hg.size⟩) (ownFrom_below (Nat.le_refl _) (by omega)))
    (fun _ _ _ _ _ hs _ _ => hs)
    ⟨⟨⟨_, hO0⟩, Nat.le_refl _⟩, hB0⟩
    (fun x => { tmps := #[sv, undef, .string ⟨#[]⟩, .pointer (some ⟨w.heap.size, 0, none⟩), .string ⟨(x.1.take 1000000).toArray⟩, sv, .func (.func 35) #[] #[.pointer (some ⟨w.heap.size + 1, 0, none⟩)], .string ⟨(x.1.take 1000000).toArray⟩, .bool x.2, undef, undef, undef, undef], defers := [] }) ?assign ?body ?done ?stop
  case assign =>
    intro lp x W K hK
    gi_wp2
    exact hK
  case body =>
    rintro lp pre x W ⟨⟨⟨v, hO⟩, hWs⟩, hB⟩ hlen
    have hlO := showP_len pre
    have hyl : (x.1.take 1000000).length ≤ 1000000 := by rw [List.length_take]; omega
    have heq := showP_snoc pre x
    obtain ⟨O2, hO2⟩ : ∃ O2, Hid (showP (pre ++ [x]) = O2) := ⟨_, rfl⟩
    rw [hO2.out] at heq
    have HEQ := Lib.hid heq
    clear heq
    generalize showP pre = O at *
    generalize x.1.take 1000000 = y at *
    have hcat : (⟨#[47]⟩ : ByteArray) ++ ⟨y.toArray⟩ = ⟨(47 :: y).toArray⟩ := by apply toList_inj; simp [ByteArray.data_append]
    have hws := WriteString_bl (47 :: y) hO (by simp; omega) (by omega)
    gi_wp2_with (refine ⟨trivial, ?_⟩; gi_at_call 21; refine (CallsIn.inRound lp (callsIn_wide.2 hws)).mono ?_; rintro e W1 ⟨rfl, v2, hO1, hbut⟩)
    have s2 := seg_bl (Bs := w.heap.size + 1) (n₀ := w.heap.size) hbut hO (Nat.le_refl _) (by omega) (by omega) (by omega) (by omega) (by omega)
    exact ⟨keeps_bl hbut hO, s2, ⟨⟨_, by rw [hO2.out, HEQ.out]; exact hO1⟩, by have := hbut.size; omega⟩, hB.trans s2.2⟩
  case done =>
    rintro D ys W hD rfl ⟨⟨⟨v, hO⟩, _⟩, hB⟩ hK
    rw [showP_all hall] at hO
    have hst := Tryd.Builder_String_any_k w.heap.size w.heap.size _ W (Lib.IsBuilderF.of (hO.is (by omega))) hB.size
    gi_wp2_with (refine ⟨trivial, ?_⟩; gi_at_call 22; refine (callsIn_wide.2 hst).mono ?_; rintro e W2 ⟨rfl, _, hb2, hoth⟩)
    have hK2 := hoth D _ hK (fun e => by have := Option.some.inj e; omega) (fun _ _ e => by cases e)
    refine ⟨by simp, .inl ⟨_, _, rfl, run_takeDeferred hK2, ?_⟩⟩
    exact ⟨_, results_tmp rfl _ _ _, rfl, (hB.trans hb2).trans (belowK_b (w := w) (Nat.le_refl _) W2 D _ _ (by omega) hK2 rfl rfl)⟩
  case stop =>
    rintro D c pre W _ _ h _
    exact h.elim

end Go.Proofs.YtcegcjefjclcnaaDoor
