/- Header fields: pairs of texts in memory; what is appended to a list of one's own. -/
import Derived.Test.YtnppnogmpoigkaaDoorTexts
import Derived.Test.YtnppnogmpoigkaaDoorEv
import Derived.Maps.AppendAt
namespace Go.Proofs.YtnppnogmpoigkaaDoor
open Go.RowKit

abbrev Fld := List UInt8 × List UInt8
def fldV (f : Fld) : List Value := [.string ⟨f.1.toArray⟩, .string ⟨f.2.toArray⟩]
def flds (l : List Fld) : List Value := l.flatMap fldV
theorem flds_cons (f : Fld) (l : List Fld) : flds (f :: l) = .string ⟨f.1.toArray⟩ :: .string ⟨f.2.toArray⟩ :: flds l := rfl
theorem flds_append (l m : List Fld) : flds (l ++ m) = flds l ++ flds m := by simp [flds]
theorem flds_length (l : List Fld) : (flds l).length = l.length * 2 := by
  induction l with
  | nil => rfl
  | cons f l ih => rw [flds_cons]; simp [ih]; omega
theorem flds_get : ∀ (l : List Fld) (k : Nat) (f : Fld), l[k]? = some f → (flds l)[k * 2]? = some (.string ⟨f.1.toArray⟩) ∧ (flds l)[k * 2 + 1]? = some (.string ⟨f.2.toArray⟩)
  | g :: l, 0, f, h => by
    obtain rfl : g = f := by simpa using h
    exact ⟨rfl, rfl⟩
  | g :: l, k + 1, f, h => by
    have ih := flds_get l k f (by simpa using h)
    rw [flds_cons]
    have e : (k + 1) * 2 = k * 2 + 1 + 1 := by omega
    rw [e]
    exact ⟨by simpa using ih.1, by simpa using ih.2⟩
theorem flds_one (l : List Fld) : ∀ u ∈ flds l, u.oneCell' = true := by
  intro u hu
  obtain ⟨f, _, hu⟩ := List.mem_flatMap.1 hu
  unfold fldV at hu
  simp only [List.mem_cons, List.not_mem_nil, or_false] at hu
  rcases hu with rfl | rfl <;> rfl
theorem infoFld0 : (Tryd.prog.info? 38).map (fun i => (i.zero, i.size, i.bytes)) = some (some (.agg #[.string ⟨#[]⟩, .string ⟨#[]⟩]), 2, 32) := by kernel_rfl
theorem cells_fld : Tryd.prog.cellsOf 38 = 2 := by kernel_rfl
/-- A slice value that holds fields, in a block below n₀; or there are none. -/
def Flds (n₀ : Nat) (W : World) (sv : Value) (l : List Fld) : Prop :=
  (sv = .slice none 0 0 ∧ l = []) ∨ ∃ b off cap, sv = .slice (some ⟨b, off, none⟩) l.length cap ∧ b < n₀ ∧ ∀ j f, l[j]? = some f → W.cell? ⟨b, off + j * 2, none⟩ = some (.string ⟨f.1.toArray⟩) ∧ W.cell? ⟨b, off + j * 2 + 1, none⟩ = some (.string ⟨f.2.toArray⟩)
theorem Flds.below {n₀ : Nat} {A B : World} (h : Below n₀ A B) {sv : Value} {l : List Fld} : Flds n₀ A sv l → Flds n₀ B sv l
  | .inl e => .inl e
  | .inr ⟨b, off, cap, e, hb, hc⟩ => .inr ⟨b, off, cap, e, hb, fun j f hj => ⟨(h.cell (p := ⟨b, off + j * 2, none⟩) hb).trans (hc j f hj).1, (h.cell (p := ⟨b, off + j * 2 + 1, none⟩) hb).trans (hc j f hj).2⟩⟩
theorem Flds.mono {n₀ n₁ : Nat} (hn : n₀ ≤ n₁) {A : World} {sv : Value} {l : List Fld} : Flds n₀ A sv l → Flds n₁ A sv l
  | .inl e => .inl e
  | .inr ⟨b, off, cap, e, hb, hc⟩ => .inr ⟨b, off, cap, e, by omega, hc⟩
theorem Flds.shape {n₀ : Nat} {w : World} {sv : Value} {l : List Fld} (h : Flds n₀ w sv l) : ∃ ao cap, sv = .slice ao l.length cap := by
  rcases h with ⟨rfl, rfl⟩ | ⟨b, off, cap, rfl, _, _⟩
  · exact ⟨none, 0, rfl⟩
  · exact ⟨_, _, rfl⟩
theorem flds_own {w : World} {B n₀ : Nat} {v : Value} {L : List Fld} (h : w.ownsRow B 38 2 v L.length (flds L)) (hn : w.heap.size ≤ n₀) : Flds n₀ w v L ∧ v.oneCell' = true := by
  rcases h.2 with ⟨rfl, h0⟩ | ⟨g, cap, cur, rfl, hg, hc, hr⟩
  · exact ⟨.inl ⟨rfl, List.eq_nil_of_length_eq_zero h0⟩, rfl⟩
  · refine ⟨.inr ⟨g, 0, cap, rfl, Nat.lt_of_lt_of_le (lt_of_block hc) hn, fun j f hj => ?_⟩, rfl⟩
    have hlt : j < L.length := (List.getElem?_eq_some_iff.1 hj).1
    obtain ⟨h1, h2⟩ := flds_get L j f hj
    have a1 := h.cellAt (j * 2) (by omega)
    have a2 := h.cellAt (j * 2 + 1) (by omega)
    rw [Nat.zero_add, a1, a2, h1, h2]
    exact ⟨rfl, rfl⟩
theorem flds_here {w : World} {B : Nat} {v : Value} {L : List Fld} (h : w.ownsRow B 38 2 v L.length (flds L)) : Flds w.heap.size w v L := (flds_own h (Nat.le_refl _)).1
/-- Fields in a block, from its start. -/
theorem flds_row {w : World} {g n₀ : Nat} {L : List Fld} {T : TypeId} {fr : Nat × Nat} {cap : Nat} (h : w.heap[g]? = some (.cells (flds L).toArray T fr)) (hn : g < n₀) : Flds n₀ w (.slice (some ⟨g, 0, none⟩) L.length cap) L :=
  .inr ⟨g, 0, cap, rfl, hn, fun j f hj => by
    obtain ⟨h1, h2⟩ := flds_get L j f hj
    rw [Nat.zero_add, cell_of_row w g _ _ T fr h, cell_of_row w g _ _ T fr h]
    simp [h1, h2]⟩
/-- The cells that fields lie in, as far as there are any. -/
def FldsAt (n₀ : Nat) (W : World) (ao : Option Addr) (l : List Fld) : Prop :=
  ∀ j f, l[j]? = some f → ∃ b off, ao = some ⟨b, off, none⟩ ∧ b < n₀ ∧ W.cell? ⟨b, off + j * 2, none⟩ = some (.string ⟨f.1.toArray⟩) ∧ W.cell? ⟨b, off + j * 2 + 1, none⟩ = some (.string ⟨f.2.toArray⟩)
theorem Flds.at_ {n₀ : Nat} {w : World} {sv : Value} {l : List Fld} (h : Flds n₀ w sv l) : ∃ ao cap, sv = .slice ao l.length cap ∧ FldsAt n₀ w ao l := by
  rcases h with ⟨rfl, rfl⟩ | ⟨b, off, cap, rfl, hb, hc⟩
  · exact ⟨none, 0, rfl, fun j f hj => by simp at hj⟩
  · exact ⟨_, cap, rfl, fun j f hj => ⟨b, off, rfl, hb, (hc j f hj).1, (hc j f hj).2⟩⟩
theorem FldsAt.below {n₀ : Nat} {A B : World} (h : Below n₀ A B) {ao : Option Addr} {l : List Fld} (k : FldsAt n₀ A ao l) : FldsAt n₀ B ao l := fun j f hj => by
  obtain ⟨b, off, e, hb, h1, h2⟩ := k j f hj
  exact ⟨b, off, e, hb, (h.cell (p := ⟨b, off + j * 2, none⟩) hb).trans h1, (h.cell (p := ⟨b, off + j * 2 + 1, none⟩) hb).trans h2⟩
theorem FldsAt.flds {n₀ : Nat} {w : World} {ao : Option Addr} {l : List Fld} (k : FldsAt n₀ w ao l) (cap : Nat) (h0 : l = [] → ao = none ∧ cap = 0) : Flds n₀ w (.slice ao l.length cap) l := by
  cases l with
  | nil =>
    obtain ⟨rfl, rfl⟩ := h0 rfl
    exact .inl ⟨rfl, rfl⟩
  | cons f l =>
    obtain ⟨b, off, rfl, hb, _⟩ := k 0 f rfl
    refine .inr ⟨b, off, cap, rfl, hb, fun j g hj => ?_⟩
    obtain ⟨b', off', e, _, h1, h2⟩ := k j g hj
    obtain ⟨rfl, rfl⟩ : b = b' ∧ off = off' := by simpa using e
    exact ⟨h1, h2⟩
theorem pair_new_at {W : World} {b : Nat} (h : b = W.heap.size) (x y : Value) (t : TypeId) (j : Nat) (u : Value) (hu : [x, y][j]? = some u) : (W.alloc (.cells #[x, y] t)).cell? ((⟨b, 0, none⟩ : Addr).add j) = some u := by
  subst h
  have hadd : (⟨W.heap.size, 0, none⟩ : Addr).add j = ⟨W.heap.size, j, none⟩ := by unfold Addr.add; split <;> simp_all
  rw [hadd, cell_of_row _ _ _ _ _ _ (heap_alloc_new W (.cells #[x, y] t))]
  simpa using hu
/-- One field appended to a list of one's own. -/
theorem wpList_appendF {ops : Array Oper} {rest : List Oper} {o : Oper} {a : Act} {Q : Exit → Act → World → Prop} (hgd : o.guard = none) (s x : Operand)
    (ho : o.op = .call { callee := .builtin .append, args := #[s, x], argTypes := #[22, 22] }) (T : TypeId)
    (B : Nat) (w : World) (N : Nat) (hN : w.heap.size = N) (v : Value) (L : List Fld) (f : Fld) (hs : a.eval s = v) (hx : a.eval x = .slice (some ⟨N, 0, none⟩) 1 1) (hrow : w.ownsRow B 38 2 v L.length (flds L)) (hBw : B ≤ w.heap.size)
    (hl : L.length ≤ 1000000)
    (h : ∀ v' w', w'.ownsRow B 38 2 v' (L ++ [f]).length (flds (L ++ [f])) → w.grownBy w' v.ownBlock → (v'.ownBlock = v.ownBlock ∨ v'.ownBlock = some (N + 1)) → wpList Tryd.prog ops Q rest (a.put o.dst v') w') :
    wpList Tryd.prog ops Q (o :: rest) a (w.alloc (.cells #[.string ⟨f.1.toArray⟩, .string ⟨f.2.toArray⟩] T)) := by
  subst hN
  obtain ⟨i0, hi, hz0, hz1, hz2⟩ := info_parts infoFld0
  refine wpList_append_own_at _ hgd s x 22 ho B 38 i0 (.agg #[.string ⟨#[]⟩, .string ⟨#[]⟩]) 2 32 Tryd.underlying22 hi hz0 hz1 hz2 rfl (by decide) v L.length (flds L) hs (hrow.alloc _) ⟨w.heap.size, 0, none⟩ 1 1 (flds [f]) hx (by rw [flds_length]; rfl) (pair_new_at rfl _ _ _) (flds_one _) (by unfold maxLen; omega) (by omega) (by simp; omega) ?_
  intro v' w' h1 h2 _ h4
  have hg : w.grownBy w' v.ownBlock := by
    refine ⟨h2.os, h2.tape, h2.output, Nat.le_trans (by simp) h2.size, fun k hk hr => ?_⟩
    rw [h2.block k (by simp; omega) hr]
    exact Below.heap_alloc _ _ _ hk
  rw [World.size_alloc] at h4
  exact h v' w' (by rw [List.length_append, flds_append]; exact h1) hg h4
/-- The cells that texts lie in, as far as there are any. -/
def TextsAt (n₀ : Nat) (W : World) (ao : Option Addr) (l : List (List UInt8)) : Prop :=
  ∀ j x, l[j]? = some x → ∃ b off, ao = some ⟨b, off, none⟩ ∧ b < n₀ ∧ W.cell? ⟨b, off + j, none⟩ = some (.string ⟨x.toArray⟩)
theorem Texts.at_ {n₀ : Nat} {w : World} {sv : Value} {l : List (List UInt8)} (h : Texts n₀ w sv l) : ∃ ao cap, sv = .slice ao l.length cap ∧ TextsAt n₀ w ao l := by
  rcases h with ⟨rfl, rfl⟩ | ⟨b, off, cap, rfl, hb, hc⟩
  · exact ⟨none, 0, rfl, fun j f hj => by simp at hj⟩
  · exact ⟨_, cap, rfl, fun j f hj => ⟨b, off, rfl, hb, hc j f hj⟩⟩
theorem TextsAt.below {n₀ : Nat} {A B : World} (h : Below n₀ A B) {ao : Option Addr} {l : List (List UInt8)} (k : TextsAt n₀ A ao l) : TextsAt n₀ B ao l := fun j f hj => by
  obtain ⟨b, off, e, hb, h1⟩ := k j f hj
  exact ⟨b, off, e, hb, (h.cell (p := ⟨b, off + j, none⟩) hb).trans h1⟩

end Go.Proofs.YtnppnogmpoigkaaDoor
