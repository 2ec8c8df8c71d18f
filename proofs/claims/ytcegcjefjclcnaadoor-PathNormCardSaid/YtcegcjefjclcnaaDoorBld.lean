/- strings.Builder: copyCheck, WriteByte, WriteString, as contracts that tell what else stays. -/
import Derived.Test.YtcegcjefjclcnaaDoorProg
import Derived.Test.YtcegcjefjclcnaaDoorB0
import Derived.Test.YtcegcjefjclcnaaDoorApp
import Derived.Test.YtcegcjefjclcnaaDoorShelf
import Derived.Lib.Builder
import Derived.Maps.AppendAt
import Derived.Shelf.Strings.Builder1
namespace Go.Proofs.YtcegcjefjclcnaaDoor
open Go.RowKit

theorem wpList_append1_at {P : Program} {ops : Array Oper} {rest : List Oper} {o : Oper} {a : Act} {Q : Exit → Act → World → Prop} (hgd : o.guard = none) (s x : Operand) (t : TypeId)
    (ho : o.op = .call { callee := .builtin .append, args := #[s, x], argTypes := #[t, t] }) (e T : TypeId) (z : Value) (bytes : Nat) (ht : P.underlying t = some (.slice e)) (hi : (P.info? e).map (fun i => (i.zero, i.size, i.bytes)) = some (some z, 1, bytes)) (hzs : z.cells.size = 1)
    (B : Nat) (w : World) (v : Value) (n : Nat) (xs : List Value) (u : Value) (hs : a.eval s = v) (hx : a.eval x = .slice (some ⟨w.heap.size, 0, none⟩) 1 1) (hrow : w.ownsRow B e 1 v n xs) (hBw : B ≤ w.heap.size)
    (hu : u.oneCell' = true) (hmax : n + 1 ≤ 9223372036854775807) (hbytes : (n + 1) * bytes ≤ 140737488355328)
    (h : ∀ v' w', w'.ownsRow B e 1 v' (n + 1) (xs ++ [u]) → w.grownBy w' v.ownBlock → (v'.ownBlock = v.ownBlock ∨ v'.ownBlock = some (w.heap.size + 1)) → wpList P ops Q rest (a.put o.dst v') w') :
    wpList P ops Q (o :: rest) a (w.alloc (.cells #[u] T)) := by
  obtain ⟨i0, hi, hz0, hz1, hz2⟩ := info_parts hi
  refine wpList_append_own_at _ hgd s x t ho B e i0 z 1 bytes ht hi hz0 hz1 hz2 hzs (by decide) v n xs hs (hrow.alloc _) ⟨w.heap.size, 0, none⟩ 1 1 [u] hx rfl (cell_new_at rfl _ _) (by simpa using hu) (by unfold maxLen; omega) hbytes (by simp; omega) ?_
  intro v' w' h1 h2 _ h4
  have hg : w.grownBy w' v.ownBlock := by
    refine ⟨h2.os, h2.tape, h2.output, Nat.le_trans (by simp) h2.size, fun k hk hr => ?_⟩
    rw [h2.block k (by simp; omega) hr]
    exact Below.heap_alloc _ _ _ hk
  rw [World.size_alloc] at h4
  exact h v' w' h1 hg h4

/-- A builder at block b: its bytes l lie in the slice v. -/
structure Bld (B b : Nat) (v : Value) (l : List UInt8) (w : World) : Prop where
  le : B ≤ b
  blk : w.heap[b]? = some (.cells #[.pointer none, v] 40 (0, 0)) ∨ w.heap[b]? = some (.cells #[.pointer (some ⟨b, 0, none⟩), v] 40 (0, 0))
  own : w.ownsRow B 5 1 v l.length (u8s l)
  ne : v.ownBlock ≠ some b
theorem Bld.lt {B b : Nat} {v : Value} {l : List UInt8} {w : World} (h : Bld B b v l w) : b < w.heap.size := h.blk.elim lt_of_block lt_of_block
/-- All blocks but the builder's two stay. -/
structure But (b : Nat) (v : Value) (w w' : World) : Prop where
  os : w'.os = w.os
  tape : w'.tape = w.tape
  output : w'.output = w.output
  size : w.heap.size ≤ w'.heap.size
  block : ∀ k, k < w.heap.size → k ≠ b → v.ownBlock ≠ some k → w'.heap[k]? = w.heap[k]?
theorem But.below {B b : Nat} {v : Value} {l : List UInt8} {w w' : World} (h : But b v w w') (hb : Bld B b v l w) (hB : B ≤ w.heap.size) : Below B w w' :=
  ⟨h.os, h.tape, h.output, h.size, fun i hi => h.block i (by omega) (by have := hb.le; omega) (fun e => by have := (hb.own.lt i e).1; omega)⟩
theorem infoByte : (Tryd.prog.info? 5).map (fun i => (i.zero, i.size, i.bytes)) = some (some (.int .u8 0), 1, 1) := by kernel_rfl
theorem sizeBld : (Tryd.prog.info? 40).map (·.size) = some 2 := by kernel_rfl
theorem liesBld : liesAt Tryd.prog Tryd.prog.depth 40 (2 / Tryd.prog.cellsOf 40) 0 40 1 = true := by kernel_rfl

set_option maxHeartbeats 1000000 in
set_option maxRecDepth 100000 in
theorem copyCheck_used (b : Nat) (w : World) (h0 : w.cell? ⟨b, 0, none⟩ = some (.pointer (some ⟨b, 0, none⟩))) :
    Calls Tryd.prog 36 #[.pointer (some ⟨b, 0, none⟩)] w fun e w' => e = .returned (.tuple #[]) ∧ w' = w := by
  obtain ⟨j, hj, _⟩ := Option.map_eq_some_iff.1 sizeBld
  have hnq := Lib.run_neq_ptr_same w ⟨b, 0, none⟩ Tryd.underlying38 hj
  go_enter Tryd.func36, Tryd.ntmps36
  go_wp2
  go_end0
  exact ⟨rfl, rfl⟩
set_option maxHeartbeats 1000000 in
set_option maxRecDepth 100000 in
theorem copyCheck_fresh (b : Nat) (w : World) (h0 : w.cell? ⟨b, 0, none⟩ = some (.pointer none)) (hsh : w.shape? b = some (40, 2)) (hfz : w.frozen? ⟨b, 0, none⟩ = false) :
    Calls Tryd.prog 36 #[.pointer (some ⟨b, 0, none⟩)] w fun e w' => e = .returned (.tuple #[]) ∧ w' = w.setCell ⟨b, 0, none⟩ (.pointer (some ⟨b, 0, none⟩)) := by
  obtain ⟨j, hj, hjs⟩ := Option.map_eq_some_iff.1 sizeBld
  have h1 := Lib.run_to_unsafe w ⟨b, 0, none⟩ Tryd.underlying38 Tryd.underlying71 hj (by rw [hjs]; decide) hsh (Nat.zero_lt_succ 1)
  have h2 := Lib.run_from_unsafe w ⟨b, 0, none⟩ Tryd.underlying71 Tryd.underlying38 hj hsh liesBld
  have h3 : (callFunc 52 #[.pointer (some ⟨b, 0, none⟩)]).run Tryd.prog w = .ok (.value (.pointer (some ⟨b, 0, none⟩))) w := by
    rw [run_callFunc_extern Tryd.func52 (by kernel_rfl) (by kernel_rfl) (by kernel_rfl) (e := Extern.AbiNoEscape.same) (by kernel_rfl), Lib.run_noEscape]; rfl
  go_enter Tryd.func36, Tryd.ntmps36
  go_wp2
  go_end0
  exact ⟨rfl, rfl⟩

/-- A builder that has been written. -/
structure Used (B b : Nat) (v : Value) (l : List UInt8) (w : World) : Prop where
  le : B ≤ b
  blk : w.heap[b]? = some (.cells #[.pointer (some ⟨b, 0, none⟩), v] 40 (0, 0))
  own : w.ownsRow B 5 1 v l.length (u8s l)
  ne : v.ownBlock ≠ some b
theorem Used.bld {B b : Nat} {v : Value} {l : List UInt8} {w : World} (h : Used B b v l w) : Bld B b v l w := ⟨h.le, .inr h.blk, h.own, h.ne⟩
theorem But.refl (b : Nat) (v : Value) (w : World) : But b v w w := ⟨rfl, rfl, rfl, Nat.le_refl _, fun _ _ _ _ => rfl⟩
theorem But.setCell (b i : Nat) (v u : Value) (w : World) : But b v w (w.setCell ⟨b, i, none⟩ u) := ⟨rfl, rfl, rfl, by simp, fun k _ hk _ => Below.heap_setCell _ _ _ _ hk⟩
theorem copyCheck_bld {B b : Nat} {v : Value} {l : List UInt8} {w : World} (h : Bld B b v l w) :
    Calls Tryd.prog 36 #[.pointer (some ⟨b, 0, none⟩)] w fun e w' => e = .returned (.tuple #[]) ∧ Used B b v l w' ∧ But b v w w' ∧ w'.heap.size = w.heap.size := by
  rcases h.blk with hb | hb
  · refine (copyCheck_fresh b w (by rw [cell_of_row w b 0 _ _ _ hb]; rfl) (by simp [World.shape?, hb]) (by simp [World.frozen?, hb])).mono ?_
    rintro e w' ⟨rfl, rfl⟩
    refine ⟨rfl, ⟨h.le, ?_, h.own.kept (grown_setCell _ _ _) (.inr h.ne), h.ne⟩, But.setCell _ _ _ _ _, by simp⟩
    rw [Go.heap_setCell_same w b 0 _ _ _ hb]; rfl
  · refine (copyCheck_used b w (by rw [cell_of_row w b 0 _ _ _ hb]; rfl)).mono ?_
    rintro e w' ⟨rfl, rfl⟩
    exact ⟨rfl, ⟨h.le, hb, h.own, h.ne⟩, But.refl _ _ _, rfl⟩

set_option maxHeartbeats 2000000 in
set_option maxRecDepth 100000 in
theorem WriteByte_bld {B b : Nat} {v : Value} {l : List UInt8} (c : UInt8) {w : World} (h : Bld B b v l w) (hl : l.length + 1 ≤ 140737488355328) (hB : B ≤ w.heap.size) :
    Calls Tryd.prog 49 #[.pointer (some ⟨b, 0, none⟩), .int .u8 c.toNat] w fun e w' => e = .returned .nilIface ∧ ∃ v', Used B b v' (l ++ [c]) w' ∧ But b v w w' ∧ (v'.ownBlock = v.ownBlock ∨ ∃ g, v'.ownBlock = some g ∧ w.heap.size ≤ g) := by
  obtain ⟨i0, hi, hz0, hz1, hz2⟩ := info_parts infoByte
  go_enter Tryd.func49, Tryd.ntmps49
  go_wp2_with fail
  refine (copyCheck_bld h).mono ?_
  rintro e w1 ⟨rfl, h1, hk1, hs1⟩
  have c0 : w1.cell? ⟨b, 0, none⟩ = some (.pointer (some ⟨b, 0, none⟩)) := by rw [cell_of_row w1 b 0 _ _ _ h1.blk]; rfl
  have c1 : w1.cell? ⟨b, 1, none⟩ = some v := by rw [cell_of_row w1 b 1 _ _ _ h1.blk]; rfl
  have hn1 := h1.ne
  have ho1 := h1.own
  have hb1 := h1.blk
  have hsz1 : B ≤ w1.heap.size := by omega
  have hlt := h1.bld.lt
  have HS1 := Lib.hid hs1
  clear h1 hs1
  go_wp2_with (at_builtin; refine wpList_append1_at rfl _ _ 36 rfl 5 _ (.int .u8 0) 1 Tryd.underlying36 infoByte rfl B w1 _ l.length _ (.int .u8 c.toNat) (by rfl) (by rfl) ho1 hsz1 (by simp [Value.oneCell']) (by omega) (by omega) ?_)
  intro v' w2 hown' hgrow hat
  have hb2 : w2.heap[b]? = some (.cells #[.pointer (some ⟨b, 0, none⟩), v] 40 (0, 0)) := by
    rw [hgrow.block b (by omega) (fun e => hn1 e.symm)]
    exact hb1
  have d0 : w2.cell? ⟨b, 0, none⟩ = some (.pointer (some ⟨b, 0, none⟩)) := by rw [cell_of_row w2 b 0 _ _ _ hb2]; rfl
  have d1 : w2.cell? ⟨b, 1, none⟩ = some v := by rw [cell_of_row w2 b 1 _ _ _ hb2]; rfl
  have f1 : w2.frozen? ⟨b, 1, none⟩ = false := by simp [World.frozen?, hb2]
  obtain ⟨g, cap, rfl⟩ : ∃ g cap, v' = .slice (some ⟨g, 0, none⟩) (l.length + 1) cap := by
    rcases hown'.2 with ⟨_, h0⟩ | ⟨g, cap, cur, hv, _⟩
    · omega
    · exact ⟨g, cap, hv⟩
  have hne2 : b ≠ g := by
    intro e
    subst e
    have hc := hown'.2
    rcases hc with ⟨h0, _⟩ | ⟨g', cap', cur, hv, _, hcell, _⟩
    · cases h0
    · injection hv with hv1 _ _
      injection hv1 with hv1
      injection hv1 with hv1 _ _
      subst hv1
      rw [hb2] at hcell
      injection hcell with hcell
      injection hcell with _ hT _
      exact absurd hT (by decide)
  go_wp2
  go_ret
  refine ⟨rfl, .slice (some ⟨g, 0, none⟩) (l.length + 1) cap, ⟨h.le, ?_, ?_, ?_⟩, ?_, ?_⟩
  · rw [Go.heap_setCell_same w2 b 1 _ _ _ hb2]; rfl
  · have := hown'.kept (grown_setCell _ ⟨b, 1, none⟩ (.slice (some ⟨g, 0, none⟩) (l.length + 1) cap)) (.inr (fun e => hne2 (Option.some.inj e).symm))
    rw [u8s_append, List.length_append]
    exact this
  · exact fun e => hne2 (Option.some.inj e).symm
  · exact ⟨hgrow.os.trans hk1.os, hgrow.tape.trans hk1.tape, hgrow.output.trans hk1.output, by simp; have := hgrow.size; have := hk1.size; omega, fun k hk h1 h2 => by
      rw [Below.heap_setCell _ _ _ _ h1, hgrow.block k (by have := hk1.size; omega) (fun e => h2 e.symm), hk1.block k hk h1 h2]⟩
  · rcases hat with h | h
    · exact .inl h
    · exact .inr ⟨_, h, by have := hk1.size; omega⟩

end Go.Proofs.YtcegcjefjclcnaaDoor
