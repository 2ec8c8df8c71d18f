/- Header fields: Set of the program and of the reference. -/
import Derived.Test.YtnppnogmpoigkaaDoorHead2
import Derived.Laws.EntriesVeiled
namespace Go.Proofs.YtnppnogmpoigkaaDoor
open Go.RowKit Go.Proofs.YtnppnogmpoigkaaDoorW.PrintWords

def setStep (n v : List UInt8) (x : List Fld × Bool) (f : Fld) : List Fld × Bool := if sameN f.1 n = true then (if x.2 = true then x else (x.1 ++ [(n, v)], true)) else (x.1 ++ [f], x.2)
def setF (n v : List UInt8) (l : List Fld) : List Fld × Bool := l.foldl (setStep n v) ([], false)
def setL (n v : List UInt8) (l : List Fld) : List Fld := if (setF n v l).2 = true then (setF n v l).1 else (setF n v l).1 ++ [(n, v)]
theorem setF_step {n v : List UInt8} {l : List Fld} {k : Nat} {f : Fld} (h : l[k]? = some f) : setF n v (l.take (k + 1)) = setStep n v (setF n v (l.take k)) f := by
  unfold setF
  rw [List.take_add_one, h, List.foldl_append]; rfl
theorem setStep_len (n v : List UInt8) (x : List Fld × Bool) (f : Fld) : (setStep n v x f).1.length ≤ x.1.length + 1 := by
  unfold setStep
  split
  · split <;> simp
  · simp
theorem setF_len' (n v : List UInt8) : ∀ (l : List Fld) (x : List Fld × Bool), (l.foldl (setStep n v) x).1.length ≤ x.1.length + l.length
  | [], x => Nat.le_refl _
  | f :: l, x => by
    have h1 := setStep_len n v x f
    have h2 := setF_len' n v l (setStep n v x f)
    show (l.foldl (setStep n v) (setStep n v x f)).1.length ≤ _
    rw [List.length_cons]; omega
theorem setF_len (n v : List UInt8) (l : List Fld) : (setF n v l).1.length ≤ l.length := by have := setF_len' n v l ([], false); simpa [setF] using this
theorem setF_mem' {n v : List UInt8} {p : Fld → Prop} (hp : p (n, v)) : ∀ (l : List Fld) (x : List Fld × Bool), (∀ f ∈ l, p f) → (∀ f ∈ x.1, p f) → ∀ f ∈ (l.foldl (setStep n v) x).1, p f
  | [], x, _, hx => hx
  | g :: l, x, hl, hx => by
    refine setF_mem' hp l (setStep n v x g) (fun f hf => hl f (List.mem_cons_of_mem _ hf)) fun f hf => ?_
    unfold setStep at hf
    split at hf
    · split at hf
      · exact hx f hf
      · rcases List.mem_append.1 hf with hf | hf
        · exact hx f hf
        · obtain rfl := List.mem_singleton.1 hf; exact hp
    · rcases List.mem_append.1 hf with hf | hf
      · exact hx f hf
      · obtain rfl := List.mem_singleton.1 hf; exact hl f List.mem_cons_self

/-- The variables that Set's closure shares: name, value, whether it is set, and the list. -/
structure SetS (b0 : Nat) (n v : List UInt8) (s : Bool) (sv : Value) (L : List Fld) (w : World) : Prop where
  nm : w.heap[b0]? = some (.cells #[.string ⟨n.toArray⟩] 9 (0, 0))
  vl : w.heap[b0 + 1]? = some (.cells #[.string ⟨v.toArray⟩] 9 (0, 0))
  fl : w.heap[b0 + 1 + 1]? = some (.cells #[.bool s] 4 (0, 0))
  bx : w.heap[b0 + 1 + 1 + 1]? = some (.cells #[sv] 22 (0, 0))
  own : w.ownsRow (b0 + 1 + 1 + 1 + 1) 38 2 sv L.length (flds L)
theorem one_cell {w : World} {b : Nat} {v : Value} {T : TypeId} (h : w.heap[b]? = some (.cells #[v] T (0, 0))) : w.cell? ⟨b, 0, none⟩ = some v ∧ w.frozen? ⟨b, 0, none⟩ = false :=
  ⟨by rw [cell_of_row w b 0 _ _ _ h]; rfl, by simp [World.frozen?, h]⟩
section
variable {b0 : Nat} {n v : List UInt8} {s : Bool} {sv : Value} {L : List Fld} {w : World}
theorem SetS.below (h : SetS b0 n v s sv L w) {w' : World} (hb : Below w.heap.size w w') : SetS b0 n v s sv L w' :=
  ⟨block_below h.nm hb (lt_of_block h.nm), block_below h.vl hb (lt_of_block h.vl), block_below h.fl hb (lt_of_block h.fl), block_below h.bx hb (lt_of_block h.bx), row_below h.own hb⟩
theorem SetS.flag (h : SetS b0 n v s sv L w) (t : Bool) : SetS b0 n v t sv L (w.setCell ⟨b0 + 1 + 1, 0, none⟩ (.bool t)) ∧ Below b0 w (w.setCell ⟨b0 + 1 + 1, 0, none⟩ (.bool t)) := by
  refine ⟨⟨block_setCell h.nm _ (by dsimp only; omega) _, block_setCell h.vl _ (by dsimp only; omega) _, ?_, block_setCell h.bx _ (by dsimp only; omega) _, ?_⟩, (Below.refl _ _).setCell (by dsimp only; omega) _⟩
  · rw [Go.heap_setCell_same w _ 0 _ _ _ h.fl]; rfl
  · refine h.own.kept (grown_setCell _ ⟨b0 + 1 + 1, 0, none⟩ (.bool t)) (.inr fun e => ?_)
    have := row_base h.own _ e
    dsimp only at this
    omega
theorem SetS.grow (h : SetS b0 n v s sv L w) {w2 : World} {v' : Value} {L' : List Fld} (hg : w.grownBy w2 sv.ownBlock) (ho : w2.ownsRow (b0 + 1 + 1 + 1 + 1) 38 2 v' L'.length (flds L')) :
    SetS b0 n v s v' L' (w2.setCell ⟨b0 + 1 + 1 + 1, 0, none⟩ v') ∧ Below b0 w (w2.setCell ⟨b0 + 1 + 1 + 1, 0, none⟩ v') ∧ w2.cell? ⟨b0 + 1 + 1 + 1, 0, none⟩ = some sv ∧ w2.frozen? ⟨b0 + 1 + 1 + 1, 0, none⟩ = false := by
  have hne : ∀ k, k < b0 + 1 + 1 + 1 + 1 → sv.ownBlock ≠ some k := fun k hk e => by have := row_base h.own k e; omega
  have kp : ∀ k o, k < b0 + 1 + 1 + 1 + 1 → w.heap[k]? = some o → w2.heap[k]? = some o := fun k o hk hh => by rw [hg.block k (lt_of_block hh) (fun e => hne k hk e.symm)]; exact hh
  have e3 := kp _ _ (by omega) h.bx
  refine ⟨⟨block_setCell (kp _ _ (by omega) h.nm) _ (by dsimp only; omega) _, block_setCell (kp _ _ (by omega) h.vl) _ (by dsimp only; omega) _, block_setCell (kp _ _ (by omega) h.fl) _ (by dsimp only; omega) _, ?_, ?_⟩, ?_, (one_cell e3).1, (one_cell e3).2⟩
  · rw [Go.heap_setCell_same w2 _ 0 _ _ _ e3]; rfl
  · refine ho.kept (grown_setCell _ ⟨b0 + 1 + 1 + 1, 0, none⟩ v') (.inr fun e => ?_)
    have := row_base ho _ e
    dsimp only at this
    omega
  · have hb : Below b0 w w2 := ⟨hg.os, hg.tape, hg.output, hg.size, fun k hk => by
      rcases Nat.lt_or_ge k w.heap.size with hlt | hge
      · exact hg.block k hlt (fun e => hne k (by omega) e.symm)
      · have := lt_of_block h.nm; omega⟩
    exact hb.setCell (by dsimp only; omega) _
end
theorem row_low {w : World} {B B' : Nat} {e : TypeId} {m n : Nat} {v : Value} {xs : List Value} (h : w.ownsRow B e m v n xs) (hB : B' ≤ B) : w.ownsRow B' e m v n xs := by
  refine ⟨h.1, ?_⟩
  rcases h.2 with h | ⟨g, cap, cur, h1, h2, h3⟩
  · exact .inl h
  · exact .inr ⟨g, cap, cur, h1, by omega, h3⟩
theorem fld_slice {w : World} {B : Nat} {v : Value} {L : List Fld} (h : w.ownsRow B 38 2 v L.length (flds L)) : ∃ a c, v = .slice a L.length c := by
  rcases h.2 with ⟨rfl, h0⟩ | ⟨g, cap, cur, rfl, _⟩
  · exact ⟨none, 0, by rw [h0]⟩
  · exact ⟨_, _, rfl⟩

end Go.Proofs.YtnppnogmpoigkaaDoor
