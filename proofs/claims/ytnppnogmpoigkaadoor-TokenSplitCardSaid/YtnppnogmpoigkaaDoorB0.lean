/- Small lemmas on worlds, blocks and rows that the walks of this claim use. They speak of no program. -/
import Derived.WalkKit
import Derived.OneCell
import Derived.Deep.Draws
import Derived.Maps.AppendAt
import Derived.ScopeJumps
import Derived.WalkMore
import Derived.Lib.Hide
import Derived.BigRegion
import Derived.Deep.AppendLies
import Derived.Laws.BytesArg
namespace Go.Proofs.YtnppnogmpoigkaaDoor
open Go.RowKit

/-- A scope in which the run jumps back to one label: what is shown of a pass serves the first one, too. -/
theorem scope_jumps {P : Program} {a : Act} {w : World} {Q : Exit → Act → World → Prop} {c rest : Code} (l : Nat) (J : Act → World → Prop) (μ : Act → World → Nat) (hf : findLabel c l = some (.seq .skip rest))
    (pass : ∀ a w, J a w → rest.wp P (Exit.jump l (fun a' w' => J a' w' ∧ μ a' w' < μ a w) Q) a w)
    (first : (∀ a w, J a w → rest.wp P (Exit.jump l J Q) a w) → c.wp P (Exit.jump l J Q) a w) : (Code.scope c).wp P Q a w := by
  refine wp_scope_jumps l J μ hf (first fun a w h => ?_) fun a w h => wp_seq (wp_skip (pass a w h))
  refine wp_mono (pass a w h) ?_
  intro e a w h
  cases e with
  | goto l' => exact ⟨h.1, h.2.1⟩
  | _ => exact h

/-- The one new cell, at the block that the heap's size names. -/
theorem cell_new_at {W : World} {b : Nat} (h : b = W.heap.size) (x : Value) (t : TypeId) (j : Nat) (u : Value) (hu : [x][j]? = some u) : (W.alloc (.cells #[x] t)).cell? ((⟨b, 0, none⟩ : Addr).add j) = some u := by
  subst h; exact cell_one_new _ _ _ j u hu

/-- A block that is none of the row's stays. -/
theorem block_grown {w w' : World} {row : Option Nat} {b : Nat} {o : Obj} (hg : w.grownBy w' row) (h : w.heap[b]? = some o) (hne : ∀ k, row = some k → k ≠ b) : w'.heap[b]? = some o := by
  rw [hg.block b (lt_of_block h) (fun e => hne b e.symm rfl)]; exact h

theorem block_alloc {w : World} {b : Nat} {o : Obj} (h : w.heap[b]? = some o) (o' : Obj) : (w.alloc o').heap[b]? = some o := by
  rw [Below.heap_alloc _ _ _ (lt_of_block h)]; exact h

theorem block_setCell {w : World} {b : Nat} {o : Obj} (h : w.heap[b]? = some o) (a : Addr) (ha : b ≠ a.block) (u : Value) : (w.setCell a u).heap[b]? = some o := by
  rw [Below.heap_setCell _ _ _ _ ha]; exact h

theorem block_below {w w' : World} {b : Nat} {o : Obj} (h : w.heap[b]? = some o) {B : Nat} (hb : Below B w w') (hlt : b < B) : w'.heap[b]? = some o := by
  rw [hb.block b hlt]; exact h

theorem row_base {w : World} {base : Nat} {e : TypeId} {size n : Nat} {v : Value} {xs : List Value} (h : w.ownsRow base e size v n xs) (k : Nat) (hk : v.ownBlock = some k) : base ≤ k := (h.lt k hk).1

theorem ne_nil_isEmpty (l : List UInt8) : (l != []) = !l.isEmpty := by cases l <;> rfl
/-- The number in a cell, for a measure. -/
def cellNat (w : World) (a : Addr) : Nat := match w.cell? a with | some (.int _ m) => m.toNat | _ => 0
theorem cellNat_eq {w : World} {a : Addr} {k : IntKind} {m : Int} (h : w.cell? a = some (.int k m)) : cellNat w a = m.toNat := by unfold cellNat; rw [h]

theorem grown_setCell (w : World) (a : Addr) (u : Value) : w.grownBy (w.setCell a u) (some a.block) :=
  ⟨rfl, rfl, rfl, by simp [World.setCell], fun k _ hk => Below.heap_setCell _ _ _ _ (fun e => hk (by rw [e]))⟩
theorem grown_drewN {w w' : World} {row : Option Nat} (h : w.grownBy w' row) (n : Nat) : w.grownBy (w'.drewN n) row := ⟨h.os, h.tape, h.output, h.size, h.block⟩
theorem grown_drew {w w' : World} {row : Option Nat} (h : w.grownBy w' row) : w.grownBy w'.drew row := ⟨h.os, h.tape, h.output, h.size, h.block⟩
theorem grown_then {w w1 w2 : World} {row : Option Nat} (h : w.grownBy w1 row) (k : Below w1.heap.size w1 w2) : w.grownBy w2 row :=
  ⟨k.os.trans h.os, k.tape.trans h.tape, k.output.trans h.output, Nat.le_trans h.size k.size, fun i hi hr => (k.block i (Nat.lt_of_lt_of_le hi h.size)).trans (h.block i hi hr)⟩
theorem grown_of_drewN {w w' : World} {row : Option Nat} {n : Nat} (h : (w.drewN n).grownBy w' row) : w.grownBy w' row := ⟨h.os, h.tape, h.output, h.size, h.block⟩
theorem heap_drewN (w : World) (n : Nat) (b : Nat) : (w.drewN n).heap[b]? = w.heap[b]? := rfl
theorem row_cap {w : World} {base : Nat} {e : TypeId} {size n cap : Nat} {g : Option Addr} {xs : List Value} (h : w.ownsRow base e size (.slice g n cap) n xs) : n ≤ cap := by
  rcases h.2 with ⟨h, rfl⟩ | ⟨g', cap', cur, h, _, _, hc, _⟩
  · injection h with _ _ h; omega
  · injection h with _ _ h; omega
theorem grown_below {w w1 : World} (h : Below w.heap.size w w1) (row : Option Nat) : w.grownBy w1 row := ⟨h.os, h.tape, h.output, h.size, fun i hi _ => h.block i hi⟩
/-- A row stays behind a call that turns nothing that lay. -/
theorem row_below {w w1 : World} {base : Nat} {e : TypeId} {size n : Nat} {v : Value} {xs : List Value} (h : w.ownsRow base e size v n xs) (hb : Below w.heap.size w w1) : w1.ownsRow base e size v n xs :=
  h.kept (grown_below hb none) (by cases v.ownBlock <;> simp)
/-- Below B, and then below all that stood. -/
theorem below_on {B : Nat} {a b c : World} (h : Below B a b) (hB : B ≤ b.heap.size) (k : Below b.heap.size b c) : Below B a c := h.trans (k.mono hB)

/-- Bytes as values. -/
def u8s (l : List UInt8) : List Value := l.map fun c => .int .u8 c.toNat
theorem u8s_length (l : List UInt8) : (u8s l).length = l.length := by simp [u8s]
theorem u8s_append (l m : List UInt8) : u8s (l ++ m) = u8s l ++ u8s m := by simp [u8s]
theorem u8s_get (l : List UInt8) (i : Nat) (h : i < l.length) : (u8s l)[i]? = some (.int .u8 (l[i].toNat)) := by simp [u8s, h]
theorem u8s_set (l : List UInt8) (i : Nat) (c : UInt8) : (u8s l).set i (.int .u8 c.toNat) = u8s (l.set i c) := by simp [u8s, List.map_set]

/-- A row of bytes of the call's own as a string. -/
theorem u8s_string {P : Program} {w : World} {base : Nat} {src dst e e' : TypeId} {v : Value} {n : Nat} {l : List UInt8} (hs : P.underlying src = some (.slice e)) (he : P.underlying e = some (.int .u8)) (hd : P.underlying dst = some .string)
    (h : w.ownsRow base e' 1 v n (u8s l)) : (convert src dst v).run P w = .ok (.string ⟨l.toArray⟩) w := by
  have hl : l.length = n := by have := h.1; simpa [u8s] using this
  rcases h.2 with ⟨rfl, rfl⟩ | ⟨g, cap, cur, rfl, _⟩
  · obtain rfl : l = [] := List.eq_nil_of_length_eq_zero hl
    exact run_convert_bytes_nil w src e hs he 0 0 dst hd
  · rw [run_convert_bytes_arg w src e hs he g 0 n cap (l.map fun c => (c.toNat : Int)) (by simpa using hl) (fun i hi => ?_) dst hd]
    · unfold strOfNums
      rw [List.map_map, List.map_congr_left (g := id) (fun c _ => by simp), List.map_id]
    · rw [Nat.zero_add, h.cellAt i (by omega), u8s_get l i (by omega)]
      simp [List.getD_eq_getElem?_getD, List.getElem?_eq_getElem (show i < l.length by omega)]

end Go.Proofs.YtnppnogmpoigkaaDoor
