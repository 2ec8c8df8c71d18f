/- Header fields: a list is copied, and some are taken away. -/
import Derived.Test.YtnppnogmpoigkaaDoorHead4
import Derived.Laws.CopyRow
import Derived.Lib.SliceRun
namespace Go.Proofs.YtnppnogmpoigkaaDoor
open Go.RowKit Go.Proofs.YtnppnogmpoigkaaDoorW.PrintWords

set_option maxRecDepth 100000 in
theorem cloneF_any (ao : Option Addr) (cap m₀ : Nat) (L : List Fld) (hL : L.length ≤ 1000000) (w : World) (hm0 : m₀ ≤ w.heap.size) (hc : FldsAt m₀ w ao L) :
    Calls Tryd.prog 40 #[.slice ao L.length cap] w fun e w' => ∃ v, e = .returned v ∧ w'.ownsRow w.heap.size 38 2 v L.length (flds L) ∧ Below w.heap.size w w' := by
  have q : ∀ a n c, (binOp .eql 22 (.slice a n c) (.slice none 0 0)).run Tryd.prog w = .ok (.bool a.isNone) w := fun a n c => Lib.run_eql_slice_nil w _ _ a n c 0 0 Tryd.underlying22
  cases ao with
  | none =>
    have h0 : L = [] := by
      cases L with
      | nil => rfl
      | cons f l => obtain ⟨b, off, e, _⟩ := hc 0 f rfl; cases e
    subst h0
    go_enter Tryd.func40, Tryd.ntmps40
    go_wp2
    go_ret
    exact ⟨_, rfl, World.ownsRow_nil _ _ _ _, Below.refl _ _⟩
  | some ad =>
    obtain ⟨i0, hi, hz0, hz1, hz2⟩ := info_parts infoFld0
    have hrow : (w.alloc (.cells #[] 38)).ownsRow w.heap.size 38 2 (.slice (some ⟨w.heap.size, 0, none⟩) 0 0) ([] : List Fld).length (flds []) :=
      ⟨rfl, .inr ⟨w.heap.size, 0, #[], rfl, Nat.le_refl _, heap_alloc_new w _, Nat.le_refl _, by decide, rfl, rfl⟩⟩
    have hal : Below w.heap.size w (w.alloc (.cells #[] 38)) := (Below.refl _ _).alloc (Nat.le_refl _) _
    have hcells : ∀ j u, (flds L)[j]? = some u → (w.alloc (.cells #[] 38)).cell? (ad.add j) = some u := by
      intro j u hj
      have hjl : j < (flds L).length := (List.getElem?_eq_some_iff.1 hj).1
      rw [flds_length] at hjl
      obtain ⟨f, hf⟩ : ∃ f, L[j / 2]? = some f := ⟨_, List.getElem?_eq_getElem (by omega)⟩
      obtain ⟨b, off, e, hb, h1, h2⟩ := (hc.below (hal.mono hm0)) (j / 2) f hf
      obtain rfl := Option.some.inj e
      obtain ⟨g1, g2⟩ := flds_get L (j / 2) f hf
      have hadd : (⟨b, off, none⟩ : Addr).add j = ⟨b, off + j, none⟩ := by unfold Addr.add; split <;> simp_all
      rw [hadd]
      rcases Nat.mod_two_eq_zero_or_one j with hm | hm
      · have ej : j = j / 2 * 2 := by omega
        rw [← ej] at g1 h1
        rw [h1, ← hj, g1]
      · have ej : j = j / 2 * 2 + 1 := by omega
        rw [Nat.add_assoc, ← ej] at h2
        rw [← ej] at g2
        rw [h2, ← hj, g2]
    go_enter Tryd.func40, Tryd.ntmps40
    go_wp2_with (at_builtin; refine wpList_append_own _ rfl _ _ 22 rfl w.heap.size 38 i0 (.agg #[.string ⟨#[]⟩, .string ⟨#[]⟩]) 2 32 Tryd.underlying22 hi hz0 hz1 hz2 rfl (by decide) _ _ _ rfl hrow ad L.length cap (flds L) rfl (flds_length L) hcells (flds_one L) (by unfold maxLen; simp; omega) (by simp; omega) (by simp) ?_)
    intro v' w2 ho hg _
    have hb2 : Below w.heap.size w w2 := hal.grown hg (by simp) fun k hk => row_base hrow k hk
    replace ho : w2.ownsRow w.heap.size 38 2 v' L.length (flds L) := by simpa [flds] using ho
    obtain ⟨ga, gc, rfl⟩ := fld_slice ho
    go_wp2
    go_ret
    exact ⟨_, rfl, ho, hb2⟩

end Go.Proofs.YtnppnogmpoigkaaDoor
