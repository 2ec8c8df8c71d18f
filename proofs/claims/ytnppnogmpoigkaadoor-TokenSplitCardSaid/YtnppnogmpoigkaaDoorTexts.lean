/- Lists of texts: a block that holds them, a slice that lists them, what is appended to one of one's own. -/
import Derived.Test.YtnppnogmpoigkaaDoorB0
import Derived.Test.YtnppnogmpoigkaaDoorProg
import Derived.Laws.AppendOwnNone
namespace Go.Proofs.YtnppnogmpoigkaaDoor
open Go.RowKit

def strs (l : List (List UInt8)) : List Value := l.map fun x => .string ⟨x.toArray⟩
theorem strs_append (l m : List (List UInt8)) : strs (l ++ m) = strs l ++ strs m := by simp [strs]
theorem strs_length (l : List (List UInt8)) : (strs l).length = l.length := by simp [strs]
theorem infoStr0 : (Tryd.prog.info? 9).map (fun i => (i.zero, i.size, i.bytes)) = some (some (.string ⟨#[]⟩), 1, 16) := by kernel_rfl
/-- A block of texts. -/
def StrRow (w : World) (b : Nat) (T : TypeId) (l : List (List UInt8)) : Prop := w.heap[b]? = some (.cells (strs l).toArray T (0, 0))
theorem StrRow.cell {w : World} {b : Nat} {T : TypeId} {l : List (List UInt8)} (h : StrRow w b T l) {k : Nat} {x : List UInt8} (hk : l[k]? = some x) : w.cell? ⟨b, k, none⟩ = some (.string ⟨x.toArray⟩) := by
  rw [cell_of_row w b k _ T _ h]; simp [strs, hk]
theorem StrRow.lt {w : World} {b : Nat} {T : TypeId} {l : List (List UInt8)} (h : StrRow w b T l) : b < w.heap.size := lt_of_block h
theorem StrRow.below {w w' : World} {b : Nat} {T : TypeId} {l : List (List UInt8)} (h : StrRow w b T l) {B : Nat} (hb : Below B w w') (hlt : b < B) : StrRow w' b T l := block_below h hb hlt
/-- A slice value that holds texts, in a block below n₀; or there are none. -/
def Texts (n₀ : Nat) (W : World) (sv : Value) (l : List (List UInt8)) : Prop :=
  (sv = .slice none 0 0 ∧ l = []) ∨ ∃ b off cap, sv = .slice (some ⟨b, off, none⟩) l.length cap ∧ b < n₀ ∧ ∀ j x, l[j]? = some x → W.cell? ⟨b, off + j, none⟩ = some (.string ⟨x.toArray⟩)
theorem Texts.below {n₀ : Nat} {A B : World} (h : Below n₀ A B) {sv : Value} {l : List (List UInt8)} : Texts n₀ A sv l → Texts n₀ B sv l
  | .inl e => .inl e
  | .inr ⟨b, off, cap, e, hb, hc⟩ => .inr ⟨b, off, cap, e, hb, fun j x hj => (h.cell (p := ⟨b, off + j, none⟩) hb).trans (hc j x hj)⟩
theorem Texts.mono {n₀ n₁ : Nat} (hn : n₀ ≤ n₁) {A : World} {sv : Value} {l : List (List UInt8)} : Texts n₀ A sv l → Texts n₁ A sv l
  | .inl e => .inl e
  | .inr ⟨b, off, cap, e, hb, hc⟩ => .inr ⟨b, off, cap, e, by omega, hc⟩
theorem ownsRow_mono {w : World} {B B' : Nat} {e : TypeId} {v : Value} {n : Nat} {xs : List Value} (h : w.ownsRow B e 1 v n xs) (hB : B' ≤ B) : w.ownsRow B' e 1 v n xs := by
  refine ⟨h.1, ?_⟩
  rcases h.2 with h | ⟨g, cap, cur, h1, h2, h3⟩
  · exact .inl h
  · exact .inr ⟨g, cap, cur, h1, by omega, h3⟩
theorem texts_row {w : World} {g n₀ : Nat} {L : List (List UInt8)} {cap : Nat} (h : StrRow w g 9 L) (hn : g < n₀) : Texts n₀ w (.slice (some ⟨g, 0, none⟩) L.length cap) L :=
  .inr ⟨g, 0, cap, rfl, hn, fun j x hj => by rw [Nat.zero_add]; exact h.cell hj⟩
theorem texts_own {w : World} {B n₀ : Nat} {v : Value} {L : List (List UInt8)} (h : w.ownsRow B 9 1 v L.length (strs L)) (hn : w.heap.size ≤ n₀) : Texts n₀ w v L ∧ v.oneCell' = true := by
  rcases h.2 with ⟨rfl, h0⟩ | ⟨g, cap, cur, rfl, hg, hc, hr⟩
  · exact ⟨.inl ⟨rfl, List.eq_nil_of_length_eq_zero h0⟩, rfl⟩
  · refine ⟨.inr ⟨g, 0, cap, rfl, Nat.lt_of_lt_of_le (lt_of_block hc) hn, fun j x hj => ?_⟩, rfl⟩
    have hlt : j < L.length := (List.getElem?_eq_some_iff.1 hj).1
    have := h.cellAt j (by omega)
    rw [Nat.zero_add, this]
    simp [strs, hj]
theorem texts_shape {n₀ : Nat} {w : World} {sv : Value} {l : List (List UInt8)} (h : Texts n₀ w sv l) : ∃ ao cap, sv = .slice ao l.length cap := by
  rcases h with ⟨rfl, rfl⟩ | ⟨b, off, cap, rfl, _, _⟩
  · exact ⟨none, 0, rfl⟩
  · exact ⟨_, _, rfl⟩
theorem append_texts {ops : Array Oper} {rest : List Oper} {o : Oper} {a : Act} {Q : Exit → Act → World → Prop} (hgd : o.guard = none) (s x : Operand) (ho : o.op = .call { callee := .builtin .append, args := #[s, x], argTypes := #[26, 26] })
    (w : World) (B n₀ : Nat) (v sv : Value) (L M : List (List UInt8)) (hs : a.eval s = v) (hx : a.eval x = sv) (hown : w.ownsRow B 9 1 v L.length (strs L)) (hT : Texts n₀ w sv M) (hl : L.length + M.length ≤ 3000000) (hB : B ≤ w.heap.size)
    (h : ∀ v' w', w'.ownsRow B 9 1 v' (L ++ M).length (strs (L ++ M)) → w.grownBy w' v.ownBlock → wpList Tryd.prog ops Q rest (a.put o.dst v') w') : wpList Tryd.prog ops Q (o :: rest) a w := by
  obtain ⟨i0, hi, hz0, hz1, hz2⟩ := info_parts infoStr0
  rcases hT with ⟨rfl, rfl⟩ | ⟨b, off, cap, rfl, hb, hc⟩
  · refine wpList_append_own_none hgd s x 26 ho B 9 i0 1 Tryd.underlying26 hi v L.length (strs L) hs hown hx ?_
    exact h v w (by rw [List.append_nil]; exact hown) (World.grownBy.refl _ _)
  · refine wpList_append_own _ hgd s x 26 ho B 9 i0 (.string ⟨#[]⟩) 1 16 Tryd.underlying26 hi hz0 hz1 hz2 rfl (by decide) v L.length (strs L) hs hown ⟨b, off, none⟩ M.length cap (strs M) hx (by rw [strs_length, Nat.mul_one]) (fun j u hj => ?_) (fun u hu => ?_) (by unfold maxLen; omega) (by omega) hB ?_
    · have hadd : (⟨b, off, none⟩ : Addr).add j = ⟨b, off + j, none⟩ := by unfold Addr.add; split <;> simp_all
      rw [hadd]
      unfold strs at hj
      rw [List.getElem?_map] at hj
      obtain ⟨y, hy, rfl⟩ := Option.map_eq_some_iff.1 hj
      exact hc j y hy
    · obtain ⟨y, _, rfl⟩ := List.mem_map.1 hu; rfl
    · intro v' w' h1 h2 _
      exact h v' w' (by rw [List.length_append, strs_append]; exact h1) h2
/-- A list of one's own that is not empty, as a slice. -/
theorem own_some {w : World} {B n : Nat} {v : Value} {xs : List Value} (h : w.ownsRow B 9 1 v (n + 1) xs) : ∃ g cap, v = .slice (some ⟨g, 0, none⟩) (n + 1) cap ∧ n + 1 ≤ cap := by
  rcases h.2 with ⟨_, h0⟩ | ⟨g, cap, cur, hv, _, _, hn, _⟩
  · omega
  · exact ⟨g, cap, hv, hn⟩
theorem own_cell {w : World} {B g cap k : Nat} {L : List (List UInt8)} {x : List UInt8} (h : w.ownsRow B 9 1 (.slice (some ⟨g, 0, none⟩) L.length cap) L.length (strs L)) (hx : L[k]? = some x) : w.cell? ⟨g, k, none⟩ = some (.string ⟨x.toArray⟩) := by
  have hlt : k < L.length := (List.getElem?_eq_some_iff.1 hx).1
  have := h.cellAt k (show k < L.length * 1 by omega)
  rw [this]
  simp [strs, hx]
theorem own_cells {w : World} {B : Nat} {v : Value} {n : Nat} {xs : List Value} {e : TypeId} {k : Nat} (h : w.ownsRow B e 1 v n xs) (hk : v.ownBlock = some k) : ∃ cur, w.heap[k]? = some (.cells cur e (0, 0)) := by
  rcases h.2 with ⟨rfl, _⟩ | ⟨g, cap, cur, rfl, _, hc, _⟩
  · cases hk
  · obtain rfl := Option.some.inj hk
    exact ⟨cur, hc⟩
theorem texts_here {w : World} {B : Nat} {v : Value} {L : List (List UInt8)} (h : w.ownsRow B 9 1 v L.length (strs L)) : Texts w.heap.size w v L := (texts_own h (Nat.le_refl _)).1

end Go.Proofs.YtnppnogmpoigkaaDoor
