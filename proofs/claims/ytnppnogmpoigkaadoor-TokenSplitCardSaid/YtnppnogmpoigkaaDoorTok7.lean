/- Token: the last one of a list. -/
import Derived.Test.YtnppnogmpoigkaaDoorTok6
namespace Go.Proofs.YtnppnogmpoigkaaDoor
open Go.RowKit Go.Shelf Go.Proofs.YtnppnogmpoigkaaDoorW.PrintWords
set_option linter.unusedVariables false
set_option linter.unnecessarySimpa false
set_option linter.unusedSimpArgs false
attribute [local go_sem] Oper.semAt_some

theorem results_int {fn : Func} {p : Tmp} (h : fn.results = #[.cell p 3]) (tmps : Array Value) {w : World} {b1 : Nat} {v1 : Value} (hp : tmps.getD p undef = .pointer (some ⟨b1, 0, none⟩))
    (c1 : w.cell? ⟨b1, 0, none⟩ = some v1) : (results fn tmps).run Tryd.prog w = .ok v1 w := by
  have hp' : tmps[p]?.getD undef = .pointer (some ⟨b1, 0, none⟩) := by simpa using hp
  simp only [results, h]
  simp [Sem.run_bind, Result.andThen, hp', loadVar, Tryd.isAgg3, go_sem, c1]
theorem keepsB {w w' : World} (h : Below w.heap.size w w') : KeepsOthers w w' := ⟨h.size, fun k o hk _ => (h.block k (lt_of_block hk)).trans hk⟩
theorem cell_one {w : World} {b : Nat} {v : Value} {T : TypeId} (h : w.heap[b]? = some (.cells #[v] T (0, 0))) : w.cell? ⟨b, 0, none⟩ = some v ∧ w.frozen? ⟨b, 0, none⟩ = false :=
  ⟨by rw [cell_of_row w b 0 _ T _ h]; rfl, by simp [World.frozen?, h]⟩
def polB (x : Nat × List UInt8) : Nat := polOf (x.2.take 1000000)
theorem back_step {l : List (List UInt8)} (hall : ∀ x ∈ l, x.length ≤ 1000000) {k : Nat} (hk : k < l.length) : polB (backAt l k) = polOf (l[l.length - 1 - k]?.getD []) := by
  unfold polB backAt
  obtain ⟨x, hx⟩ : ∃ x, l[l.length - 1 - k]? = some x := ⟨_, List.getElem?_eq_getElem (by omega)⟩
  dsimp only
  rw [hx, Option.getD_some, List.take_of_length_le (hall x (List.mem_of_getElem? hx))]
theorem lastP_drop {l : List (List UInt8)} : ∀ (k : Nat), k ≤ l.length → (∀ j, j < k → polOf (l[l.length - 1 - j]?.getD []) = 0) → lastP l = lastP (l.take (l.length - k))
  | 0, _, _ => by rw [Nat.sub_zero, List.take_length]
  | k + 1, hk, h => by
    rw [lastP_drop k (by omega) (fun j hj => h j (by omega))]
    obtain ⟨x, hx⟩ : ∃ x, l[l.length - 1 - k]? = some x := ⟨_, List.getElem?_eq_getElem (by omega)⟩
    have h0 := h k (by omega)
    rw [hx, Option.getD_some] at h0
    rw [show l.length - k = l.length - 1 - k + 1 by omega, lastP_step hx, show l.length - (k + 1) = l.length - 1 - k by omega]
    unfold lastStep
    rw [if_pos h0]
theorem lastP_none {l : List (List UInt8)} (hall : ∀ x ∈ l, x.length ≤ 1000000) (h : ∀ x ∈ upto (backAt l) l.length, polB x = 0) : lastP l = 0 := by
  rw [lastP_drop l.length (Nat.le_refl _) (fun j hj => by rw [← back_step hall hj]; exact h _ (List.mem_map.2 ⟨j, List.mem_range.2 hj, rfl⟩)), Nat.sub_self, List.take_zero]
  rfl
theorem lastP_some {l : List (List UInt8)} (hall : ∀ x ∈ l, x.length ≤ 1000000) {k : Nat} {pre : List (Nat × List UInt8)} {x : Nat × List UInt8} (hk : k ≤ l.length) (e : pre ++ [x] = upto (backAt l) k) (h : ∀ y ∈ pre, polB y = 0) (hx : polB x ≠ 0) : lastP l = polB x := by
  cases k with
  | zero => simp [upto] at e
  | succ k =>
    rw [upto_succ] at e
    obtain ⟨e1, e2⟩ := List.append_inj' e rfl
    obtain rfl : x = backAt l k := by simpa using e2
    have hb := back_step hall (k := k) (by omega)
    rw [lastP_drop k (by omega) (fun j hj => by rw [← back_step hall (by omega)]; exact h _ (by rw [e1]; exact List.mem_map.2 ⟨j, List.mem_range.2 hj, rfl⟩))]
    obtain ⟨y, hy⟩ : ∃ y, l[l.length - 1 - k]? = some y := ⟨_, List.getElem?_eq_getElem (by omega)⟩
    rw [show l.length - k = l.length - 1 - k + 1 by omega, lastP_step hy]
    rw [hb, hy, Option.getD_some] at hx ⊢
    unfold lastStep
    rw [if_neg hx]

set_option maxHeartbeats 8000000 in
set_option maxRecDepth 100000 in
theorem tok_last_any (ao : Option Addr) (cap : Nat) (l : List (List UInt8)) (hl : l.length ≤ 1000000) (hall : ∀ x ∈ l, x.length ≤ 1000000) (w : World) (hG : Good w) (hT : TextsAt w.heap.size w ao l) :
    Calls Tryd.prog 30 #[.slice ao l.length cap, .func (.func 14) #[] #[]] w fun e w' => e = .returned (.int .i64 (lastP l)) ∧ Below w.heap.size w w' := by
  refine (callsIn_wide (n := 6)).1 ?_
  refine callsIn_of_wp_marks Tryd.func30 rfl trivial ?_ rfl
  simp only [Tryd.ntmps30, List.size_toArray, List.length_cons, List.length_nil, Nat.reduceAdd, Nat.reduceSub, Array.replicate_succ, Array.replicate_zero, List.push_toArray, List.append_toArray, List.nil_append, List.cons_append]
  gi_wp2_with (first | (refine ⟨trivial, ?_⟩; gi_at_call 50; refine (Backward_in _ (.slice ao l.length cap) rfl _).mono ?_; rintro e w' ⟨rfl, rfl⟩) | (gi_at_call 50; refine (Backward_in _ (.slice ao l.length cap) rfl _).mono ?_; rintro e w' ⟨rfl, rfl⟩))
  obtain ⟨W0, hW0⟩ : ∃ W0, W0 = ((((w.alloc (.cells #[.func (.func 14) #[] #[]] 28)).alloc (.cells #[.int .i64 0] 3)).alloc (.cells #[.int .i64 0] 3)).alloc (.cells #[.slice ao l.length cap] 26)) := ⟨_, rfl⟩
  have hsz : W0.heap.size = w.heap.size + 1 + 1 + 1 + 1 := by rw [hW0]; simp
  have hB0 : Below w.heap.size w W0 := by rw [hW0]; exact ((((Below.refl _ w).alloc (Nat.le_refl _) _).alloc (by simp) _).alloc (by simp; omega) _).alloc (by simp; omega) _
  have e0 := heap_alloc_new w (.cells #[.func (.func 14) #[] #[]] 28)
  have e1 := heap_alloc_new (w.alloc (.cells #[.func (.func 14) #[] #[]] 28)) (.cells #[.int .i64 0] 3)
  have e2 := heap_alloc_new ((w.alloc (.cells #[.func (.func 14) #[] #[]] 28)).alloc (.cells #[.int .i64 0] 3)) (.cells #[.int .i64 0] 3)
  have e3 := heap_alloc_new (((w.alloc (.cells #[.func (.func 14) #[] #[]] 28)).alloc (.cells #[.int .i64 0] 3)).alloc (.cells #[.int .i64 0] 3)) (.cells #[.slice ao l.length cap] 26)
  simp only [World.size_alloc] at e1 e2 e3
  rw [← hW0] at e3
  have f0 : W0.heap[w.heap.size]? = some (.cells #[.func (.func 14) #[] #[]] 28 (0, 0)) := by rw [hW0]; exact block_alloc (block_alloc (block_alloc e0 _) _) _
  have f1 : W0.heap[w.heap.size + 1]? = some (.cells #[.int .i64 0] 3 (0, 0)) := by rw [hW0]; exact block_alloc (block_alloc e1 _) _
  have f2 : W0.heap[w.heap.size + 1 + 1]? = some (.cells #[.int .i64 0] 3 (0, 0)) := by rw [hW0]; exact block_alloc e2 _
  rw [← hW0]
  clear hW0 e0 e1 e2
  refine wpIn_rangeFunc_ownF rfl (by decide) (gf := 63) (lb := #[.pointer (some ⟨w.heap.size + 1 + 1 + 1, 0, none⟩)]) rfl trivial (enters_of Tryd.func63 (by kernel_rfl) rfl)
    (bak_stops _ (by decide) (w.heap.size + 1 + 1 + 1) w.heap.size ao cap l hl hall W0 (by omega) (by omega) (cell_one e3).1 (hT.below hB0)) BakK.trans (fun W l o o' hl h ho hk => ⟨World.putObj_heap_other (by omega), belowK_b (w := W0) (by omega) W l o o' hl h ho hk⟩) (Below.refl _ _) (fun _ => rfl)
    (fun pre W => ((∀ x ∈ pre, polB x = 0) ∧ W.heap[w.heap.size]? = some (.cells #[.func (.func 14) #[] #[]] 28 (0, 0)) ∧ W.heap[w.heap.size + 1]? = some (.cells #[.int .i64 0] 3 (0, 0)) ∧ W.heap[w.heap.size + 1 + 1]? = some (.cells #[.int .i64 0] 3 (0, 0)) ∧ W0.heap.size ≤ W.heap.size) ∧ Below w.heap.size w W)
    (fun c pre W => (c = .ret ∧ ∃ p x, pre = p ++ [x] ∧ (∀ y ∈ p, polB y = 0) ∧ polB x ≠ 0 ∧ W.heap[w.heap.size + 1]? = some (.cells #[.int .i64 (polB x)] 3 (0, 0))) ∧ Below w.heap.size w W)
    (OwnFrom.and (fun s W W' row ⟨h1, h2, h3, h4, h5⟩ hg hr => ⟨h1, own_heap h2 hg (fun r e => (hr r e).2), own_heap h3 hg (fun r e => (hr r e).2), own_heap h4 hg (fun r e => (hr r e).2), Nat.le_trans h5 hg.size⟩) (ownFrom_below (Nat.le_refl _) (by omega)))
    (fun c => OwnFrom.and (fun s W W' row ⟨h0, p, x, h1, h2, h3, h4⟩ hg hr => ⟨h0, p, x, h1, h2, h3, own_heap h4 hg (fun r e => (hr r e).2)⟩) (ownFrom_below (Nat.le_refl _) (by omega)))
    ⟨⟨(fun x hx => by cases hx), f0, f1, f2, Nat.le_refl _⟩, hB0⟩
    (fun x => { tmps := #[.slice ao l.length cap, .func (.func 14) #[] #[], undef, .pointer (some ⟨w.heap.size, 0, none⟩), .pointer (some ⟨w.heap.size + 1, 0, none⟩), .pointer (some ⟨w.heap.size + 1 + 1, 0, none⟩), undef, .string ⟨(x.2.take 1000000).toArray⟩, undef, .slice ao l.length cap, .func (.func 63) #[] #[.pointer (some ⟨w.heap.size + 1 + 1 + 1, 0, none⟩)], .int .i64 x.1, .string ⟨(x.2.take 1000000).toArray⟩, undef, undef, undef, undef, undef, undef, undef, undef], defers := [] }) ?assign ?body ?done ?stop
  case assign =>
    intro lp x W K hK
    gi_wp2
    exact hK
  case body =>
    rintro lp pre x W ⟨⟨hz, r0, r1, r2, hW⟩, hB⟩ hlen
    have hyl : (x.2.take 1000000).length ≤ 1000000 := by rw [List.length_take]; omega
    have hGW := hG.below hB
    have hp := tok_Policy_any (x.2.take 1000000) hyl W hGW
    change Calls Tryd.prog 14 #[.string ⟨(x.2.take 1000000).toArray⟩] W fun e w' => e = .returned (.int .i64 (polB x)) ∧ Below W.heap.size W w' at hp
    obtain ⟨c0, z0⟩ := cell_one r0
    have HZ := Lib.hid hz
    clear hz
    by_cases hq : polB x = 0
    · have HQ := Lib.hid hq
      rw [hq] at hp
      clear hq
      gi_wp2_with (refine ⟨trivial, ?_⟩; gi_at_call 14; refine (CallsIn.inRound lp (callsIn_wide.2 hp)).mono ?_; rintro e W1 ⟨rfl, hb1⟩; have s0 := block_below r0 hb1 (lt_of_block r0); have s1 := block_below r1 hb1 (lt_of_block r1); have s2 := block_below r2 hb1 (lt_of_block r2); obtain ⟨c2, z2⟩ := cell_one s2)
      have hbb := below_on hB hB.size hb1
      refine ⟨keepsB hb1, ⟨hb1.block _ (by omega), hb1.mono hB.size⟩, ⟨fun y hy => ?_, s0, s1, s2, Nat.le_trans hW hb1.size⟩, hbb⟩
      rcases List.mem_append.1 hy with hy | hy
      · exact HZ.out y hy
      · obtain rfl : y = x := by simpa using hy
        exact HQ.out
    · have q0 : ((polB x : Int) != 0) = true := bne_iff_ne.2 (by omega)
      have q0n : (polB x != 0) = true := bne_iff_ne.2 hq
      have HQ := Lib.hid hq
      clear hq
      gi_wp2_with (refine ⟨trivial, ?_⟩; gi_at_call 14; refine (CallsIn.inRound lp (callsIn_wide.2 hp)).mono ?_; rintro e W1 ⟨rfl, hb1⟩; have s0 := block_below r0 hb1 (lt_of_block r0); have s1 := block_below r1 hb1 (lt_of_block r1); have s2 := block_below r2 hb1 (lt_of_block r2); obtain ⟨c2, z2⟩ := cell_one s2; obtain ⟨c1, z1⟩ := cell_one s1)
      refine ⟨(keepsB hb1).trans (KeepsOthers.setCell _ _ _), ⟨rfl, pre, x, rfl, HZ.out, HQ.out, ?_⟩, (below_on hB hB.size hb1).setCell (p := ⟨w.heap.size + 1, 0, none⟩) (by dsimp only; omega) _⟩
      rw [Go.heap_setCell_same _ _ 0 _ _ _ s1]; rfl
  case done =>
    rintro D ys W hD rfl ⟨⟨hz, r0, r1, r2, hW⟩, hB⟩ hK
    have hres := Lib.hid (lastP_none hall hz)
    clear hz
    obtain ⟨c1, z1⟩ := cell_one r1
    obtain ⟨c2, z2⟩ := cell_one r2
    gi_wp2
    have hK2 : (W.setCell ⟨w.heap.size + 1, 0, none⟩ (.int .i64 0)).heap[D]? = some (.deferred (some [])) := block_setCell hK _ (by dsimp only; omega) _
    refine ⟨by simp, .inl ⟨_, _, rfl, run_takeDeferred hK2, ?_⟩⟩
    have g1 : (W.setCell ⟨w.heap.size + 1, 0, none⟩ (.int .i64 0)).heap[w.heap.size + 1]? = some (.cells #[.int .i64 0] 3 (0, 0)) := by
      rw [Go.heap_setCell_same _ _ 0 _ _ _ r1]; rfl
    refine ⟨_, results_int rfl _ rfl (cell_one ((World.putObj_heap_other (by omega)).trans g1)).1, by rw [hres.out]; rfl, ?_⟩
    exact (hB.setCell (p := ⟨w.heap.size + 1, 0, none⟩) (by dsimp only; omega) _).trans (belowK_b (w := w) (Nat.le_refl _) _ D _ _ (by omega) hK2 rfl rfl)
  case stop =>
    rintro D c pre W hD ⟨k, hk, e⟩ ⟨⟨rfl, p, x, rfl, hz, hx, r1⟩, hB⟩ hK
    have hres := Lib.hid (lastP_some hall hk e hz hx)
    clear hz hx e
    gi_wp2
    refine ⟨by simp, .inl ⟨_, _, rfl, run_takeDeferred hK, ?_⟩⟩
    refine ⟨_, results_int rfl _ rfl (cell_one ((World.putObj_heap_other (by omega)).trans r1)).1, by rw [hres.out], ?_⟩
    exact hB.trans (belowK_b (w := w) (Nat.le_refl _) W D _ _ (by omega) hK rfl rfl)

end Go.Proofs.YtnppnogmpoigkaaDoor
