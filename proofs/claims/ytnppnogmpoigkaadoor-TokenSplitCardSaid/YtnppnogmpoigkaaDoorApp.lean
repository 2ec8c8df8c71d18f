/- One element appended to a row of the call's own. No program in sight. -/
import Derived.Test.YtnppnogmpoigkaaDoorB0
namespace Go.Proofs.YtnppnogmpoigkaaDoor
open Go.RowKit

theorem wpList_append1 {P : Program} {ops : Array Oper} {rest : List Oper} {o : Oper} {a : Act} {Q : Exit → Act → World → Prop} (hgd : o.guard = none) (s x : Operand) (t : TypeId)
    (ho : o.op = .call { callee := .builtin .append, args := #[s, x], argTypes := #[t, t] }) (e T : TypeId) (z : Value) (bytes : Nat) (ht : P.underlying t = some (.slice e)) (hi : (P.info? e).map (fun i => (i.zero, i.size, i.bytes)) = some (some z, 1, bytes)) (hzs : z.cells.size = 1)
    (B0 B : Nat) (hB : B0 ≤ B) (w0 w : World) (v : Value) (n : Nat) (xs : List Value) (u : Value) (hs : a.eval s = v) (hx : a.eval x = .slice (some ⟨w.heap.size, 0, none⟩) 1 1) (hrow : w.ownsRow B e 1 v n xs) (hb : Below B0 w0 w) (hBw : B ≤ w.heap.size)
    (hu : u.oneCell' = true) (hmax : n + 1 ≤ 9223372036854775807) (hbytes : (n + 1) * bytes ≤ 140737488355328)
    (h : ∀ v' w', w'.ownsRow B e 1 v' (n + 1) (xs ++ [u]) → Below B0 w0 w' → w.grownBy w' v.ownBlock → v' ≠ .slice none 0 0 → wpList P ops Q rest (a.put o.dst v') w') :
    wpList P ops Q (o :: rest) a (w.alloc (.cells #[u] T)) := by
  obtain ⟨i0, hi, hz0, hz1, hz2⟩ := info_parts hi
  refine wpList_append_own _ hgd s x t ho B e i0 z 1 bytes ht hi hz0 hz1 hz2 hzs (by decide) v n xs hs (hrow.alloc _) ⟨w.heap.size, 0, none⟩ 1 1 [u] hx rfl (cell_new_at rfl _ _) (by simpa using hu) (by unfold maxLen; omega) hbytes (by simp; omega) ?_
  intro v' w' h1 h2 h3
  have hg : w.grownBy w' v.ownBlock := by
    refine ⟨h2.os, h2.tape, h2.output, Nat.le_trans (by simp) h2.size, fun k hk hr => ?_⟩
    rw [h2.block k (by simp; omega) hr]
    exact Below.heap_alloc _ _ _ hk
  exact h v' w' h1 (hb.grown hg (Nat.le_trans hB hBw) fun k hk => Nat.le_trans hB (row_base hrow k hk)) hg (fun e => absurd ((h3.1 e).2) (by decide))

theorem wpList_append1_at {P : Program} {ops : Array Oper} {rest : List Oper} {o : Oper} {a : Act} {Q : Exit → Act → World → Prop} (hgd : o.guard = none) (s x : Operand) (t : TypeId)
    (ho : o.op = .call { callee := .builtin .append, args := #[s, x], argTypes := #[t, t] }) (e T : TypeId) (z : Value) (bytes : Nat) (ht : P.underlying t = some (.slice e)) (hi : (P.info? e).map (fun i => (i.zero, i.size, i.bytes)) = some (some z, 1, bytes)) (hzs : z.cells.size = 1)
    (B : Nat) (w : World) (v : Value) (n : Nat) (xs : List Value) (u : Value) (hs : a.eval s = v) (hx : a.eval x = .slice (some ⟨w.heap.size, 0, none⟩) 1 1) (hrow : w.ownsRow B e 1 v n xs) (hBw : B ≤ w.heap.size)
    (hu : u.oneCell' = true) (hmax : n + 1 ≤ 9223372036854775807) (hbytes : (n + 1) * bytes ≤ 140737488355328)
    (h : ∀ v' w', w'.ownsRow B e 1 v' (n + 1) (xs ++ [u]) → w.grownBy w' v.ownBlock → (v'.ownBlock = v.ownBlock ∨ v'.ownBlock = some (w.heap.size + 1)) → wpList P ops Q rest (a.put o.dst v') w') :
    wpList P ops Q (o :: rest) a (w.alloc (.cells #[u] T)) := by
  obtain ⟨i0, hi, hz0, hz1, hz2⟩ := info_parts hi
  refine wpList_append_own_at _ hgd s x t ho B e i0 z 1 bytes ht hi hz0 hz1 hz2 hzs (by decide) v n xs hs (hrow.alloc _) ⟨w.heap.size, 0, none⟩ 1 1 [u] hx rfl (cell_new_at rfl _ _) (by simpa using hu) (by unfold maxLen; omega) hbytes (by simp; omega) ?_
  intro v' w' h1 h2 _ h4
  have hg : w.grownBy w' v.ownBlock := by
    refine ⟨h2.os, h2.tape, h2.output, Nat.le_trans (by simp) h2.size, fun k hk hr => ?_⟩
    rw [h2.block k (by simp; omega) hr]
    exact Below.heap_alloc _ _ _ hk
  rw [World.size_alloc] at h4
  exact h v' w' h1 hg h4

theorem wpList_append1_n {P : Program} {ops : Array Oper} {rest : List Oper} {o : Oper} {a : Act} {Q : Exit → Act → World → Prop} (hgd : o.guard = none) (s x : Operand) (t : TypeId)
    (ho : o.op = .call { callee := .builtin .append, args := #[s, x], argTypes := #[t, t] }) (e T : TypeId) (z : Value) (bytes : Nat) (ht : P.underlying t = some (.slice e)) (hi : (P.info? e).map (fun i => (i.zero, i.size, i.bytes)) = some (some z, 1, bytes)) (hzs : z.cells.size = 1)
    (B : Nat) (w : World) (N : Nat) (hN : w.heap.size = N) (v : Value) (n : Nat) (xs : List Value) (u : Value) (hs : a.eval s = v) (hx : a.eval x = .slice (some ⟨N, 0, none⟩) 1 1) (hrow : w.ownsRow B e 1 v n xs) (hBw : B ≤ N)
    (hu : u.oneCell' = true) (hmax : n + 1 ≤ 9223372036854775807) (hbytes : (n + 1) * bytes ≤ 140737488355328)
    (h : ∀ v' w', w'.ownsRow B e 1 v' (n + 1) (xs ++ [u]) → w.grownBy w' v.ownBlock → (v'.ownBlock = v.ownBlock ∨ v'.ownBlock = some (N + 1)) → wpList P ops Q rest (a.put o.dst v') w') :
    wpList P ops Q (o :: rest) a (w.alloc (.cells #[u] T)) := by
  subst hN
  exact wpList_append1_at hgd s x t ho e T z bytes ht hi hzs B w v n xs u hs hx hrow hBw hu hmax hbytes h

end Go.Proofs.YtnppnogmpoigkaaDoor
