/- Small lemmas on worlds, blocks and rows that the walks of this claim use. They speak of no program. Arrays of ints as values and as cells. No program in sight. Splitting a text at one byte: a plain function, and that the shelf's splitting is it. No program in sight. What a byte is worth to the base of 16. No program in sight. Eight pieces with colons: plain functions, and what holds of them. No program in sight. Laws of eight pieces with colons: what is shown is parsed, and so on. No program in sight. More laws of eight pieces with colons: texts built up piece by piece, lengths, capital letters. No program in sight. Capital letters in pieces; texts of four digits; how long a text of pieces is. No program in sight. Small letters: plain functions. No program in sight. One element appended to a row of the call's own. No program in sight. -/
import Derived.WalkKit
import Derived.OneCell
import Derived.Deep.Draws
import Derived.Maps.AppendAt
import Derived.ScopeJumps
import Derived.WalkMore
import Derived.Lib.Hide
import Derived.BigRegion
import Derived.Deep.AppendLies
import Derived.Laws.BytesArg
import Derived.ChangeKeysEq
import Derived.Lib.SplitLaws
import Derived.Lib.Join
namespace Go.Proofs.YtcpjonglfnakpaaDoor
open Go.RowKit

/-- A scope in which the run jumps back to one label: what is shown of a pass serves the first one, too. -/
theorem scope_jumps {P : Program} {a : Act} {w : World} {Q : Exit → Act → World → Prop} {c rest : Code} (l : Nat) (J : Act → World → Prop) (μ : Act → World → Nat) (hf : findLabel c l = some (.seq .skip rest))
    (pass : ∀ a w, J a w → rest.wp P (Exit.jump l (fun a' w' => J a' w' ∧ μ a' w' < μ a w) Q) a w)
    (first : (∀ a w, J a w → rest.wp P (Exit.jump l J Q) a w) → c.wp P (Exit.jump l J Q) a w) : (Code.scope c).wp P Q a w := by
  refine wp_scope_jumps l J μ hf (first fun a w h => ?_) fun a w h => wp_seq (wp_skip (pass a w h))
  refine wp_mono (pass a w h) ?_
  intro e a w h
  cases e with
  | goto l' => exact ⟨h.1, h.2.1⟩
  | _ => exact h

/-- The one new cell, at the block that the heap's size names. -/
theorem cell_new_at {W : World} {b : Nat} (h : b = W.heap.size) (x : Value) (t : TypeId) (j : Nat) (u : Value) (hu : [x][j]? = some u) : (W.alloc (.cells #[x] t)).cell? ((⟨b, 0, none⟩ : Addr).add j) = some u := by
  subst h; exact cell_one_new _ _ _ j u hu

/-- A block that is none of the row's stays. -/
theorem block_grown {w w' : World} {row : Option Nat} {b : Nat} {o : Obj} (hg : w.grownBy w' row) (h : w.heap[b]? = some o) (hne : ∀ k, row = some k → k ≠ b) : w'.heap[b]? = some o := by
  rw [hg.block b (lt_of_block h) (fun e => hne b e.symm rfl)]; exact h

theorem block_alloc {w : World} {b : Nat} {o : Obj} (h : w.heap[b]? = some o) (o' : Obj) : (w.alloc o').heap[b]? = some o := by
  rw [Below.heap_alloc _ _ _ (lt_of_block h)]; exact h

theorem block_setCell {w : World} {b : Nat} {o : Obj} (h : w.heap[b]? = some o) (a : Addr) (ha : b ≠ a.block) (u : Value) : (w.setCell a u).heap[b]? = some o := by
  rw [Below.heap_setCell _ _ _ _ ha]; exact h

theorem block_below {w w' : World} {b : Nat} {o : Obj} (h : w.heap[b]? = some o) {B : Nat} (hb : Below B w w') (hlt : b < B) : w'.heap[b]? = some o := by
  rw [hb.block b hlt]; exact h

theorem row_base {w : World} {base : Nat} {e : TypeId} {size n : Nat} {v : Value} {xs : List Value} (h : w.ownsRow base e size v n xs) (k : Nat) (hk : v.ownBlock = some k) : base ≤ k := (h.lt k hk).1

theorem ne_nil_isEmpty (l : List UInt8) : (l != []) = !l.isEmpty := by cases l <;> rfl
/-- The number in a cell, for a measure. -/
def cellNat (w : World) (a : Addr) : Nat := match w.cell? a with | some (.int _ m) => m.toNat | _ => 0
theorem cellNat_eq {w : World} {a : Addr} {k : IntKind} {m : Int} (h : w.cell? a = some (.int k m)) : cellNat w a = m.toNat := by unfold cellNat; rw [h]

theorem grown_setCell (w : World) (a : Addr) (u : Value) : w.grownBy (w.setCell a u) (some a.block) :=
  ⟨rfl, rfl, rfl, by simp [World.setCell], fun k _ hk => Below.heap_setCell _ _ _ _ (fun e => hk (by rw [e]))⟩
theorem grown_drewN {w w' : World} {row : Option Nat} (h : w.grownBy w' row) (n : Nat) : w.grownBy (w'.drewN n) row := ⟨h.os, h.tape, h.output, h.size, h.block⟩
theorem grown_drew {w w' : World} {row : Option Nat} (h : w.grownBy w' row) : w.grownBy w'.drew row := ⟨h.os, h.tape, h.output, h.size, h.block⟩
theorem grown_then {w w1 w2 : World} {row : Option Nat} (h : w.grownBy w1 row) (k : Below w1.heap.size w1 w2) : w.grownBy w2 row :=
  ⟨k.os.trans h.os, k.tape.trans h.tape, k.output.trans h.output, Nat.le_trans h.size k.size, fun i hi hr => (k.block i (Nat.lt_of_lt_of_le hi h.size)).trans (h.block i hi hr)⟩
theorem grown_of_drewN {w w' : World} {row : Option Nat} {n : Nat} (h : (w.drewN n).grownBy w' row) : w.grownBy w' row := ⟨h.os, h.tape, h.output, h.size, h.block⟩
theorem heap_drewN (w : World) (n : Nat) (b : Nat) : (w.drewN n).heap[b]? = w.heap[b]? := rfl
theorem row_cap {w : World} {base : Nat} {e : TypeId} {size n cap : Nat} {g : Option Addr} {xs : List Value} (h : w.ownsRow base e size (.slice g n cap) n xs) : n ≤ cap := by
  rcases h.2 with ⟨h, rfl⟩ | ⟨g', cap', cur, h, _, _, hc, _⟩
  · injection h with _ _ h; omega
  · injection h with _ _ h; omega
theorem grown_below {w w1 : World} (h : Below w.heap.size w w1) (row : Option Nat) : w.grownBy w1 row := ⟨h.os, h.tape, h.output, h.size, fun i hi _ => h.block i hi⟩
/-- A row stays behind a call that turns nothing that lay. -/
theorem row_below {w w1 : World} {base : Nat} {e : TypeId} {size n : Nat} {v : Value} {xs : List Value} (h : w.ownsRow base e size v n xs) (hb : Below w.heap.size w w1) : w1.ownsRow base e size v n xs :=
  h.kept (grown_below hb none) (by cases v.ownBlock <;> simp)
/-- Below B, and then below all that stood. -/
theorem below_on {B : Nat} {a b c : World} (h : Below B a b) (hB : B ≤ b.heap.size) (k : Below b.heap.size b c) : Below B a c := h.trans (k.mono hB)

/-- Bytes as values. -/
def u8s (l : List UInt8) : List Value := l.map fun c => .int .u8 c.toNat
theorem u8s_length (l : List UInt8) : (u8s l).length = l.length := by simp [u8s]
theorem u8s_append (l m : List UInt8) : u8s (l ++ m) = u8s l ++ u8s m := by simp [u8s]
theorem u8s_get (l : List UInt8) (i : Nat) (h : i < l.length) : (u8s l)[i]? = some (.int .u8 (l[i].toNat)) := by simp [u8s, h]
theorem u8s_set (l : List UInt8) (i : Nat) (c : UInt8) : (u8s l).set i (.int .u8 c.toNat) = u8s (l.set i c) := by simp [u8s, List.map_set]

/-- A row of bytes of the call's own as a string. -/
theorem u8s_string {P : Program} {w : World} {base : Nat} {src dst e e' : TypeId} {v : Value} {n : Nat} {l : List UInt8} (hs : P.underlying src = some (.slice e)) (he : P.underlying e = some (.int .u8)) (hd : P.underlying dst = some .string)
    (h : w.ownsRow base e' 1 v n (u8s l)) : (convert src dst v).run P w = .ok (.string ⟨l.toArray⟩) w := by
  have hl : l.length = n := by have := h.1; simpa [u8s] using this
  rcases h.2 with ⟨rfl, rfl⟩ | ⟨g, cap, cur, rfl, _⟩
  · obtain rfl : l = [] := List.eq_nil_of_length_eq_zero hl
    exact run_convert_bytes_nil w src e hs he 0 0 dst hd
  · rw [run_convert_bytes_arg w src e hs he g 0 n cap (l.map fun c => (c.toNat : Int)) (by simpa using hl) (fun i hi => ?_) dst hd]
    · unfold strOfNums
      rw [List.map_map, List.map_congr_left (g := id) (fun c _ => by simp), List.map_id]
    · rw [Nat.zero_add, h.cellAt i (by omega), u8s_get l i (by omega)]
      simp [List.getD_eq_getElem?_getD, List.getElem?_eq_getElem (show i < l.length by omega)]

end Go.Proofs.YtcpjonglfnakpaaDoor

namespace Go.Proofs.YtcpjonglfnakpaaDoor
open Go.RowKit Go.ChangeMaps

def ints (l : List Int) : List Value := l.map fun n => .int .i64 n
theorem ints_length (l : List Int) : (ints l).length = l.length := by simp [ints]
theorem ints_append (l m : List Int) : ints (l ++ m) = ints l ++ ints m := by simp [ints]
theorem ints_get {l : List Int} {i : Nat} {x : Int} (h : l[i]? = some x) : (ints l)[i]? = some (.int .i64 x) := by simp [ints, h]
theorem ints_set (l : List Int) (i : Nat) (x : Int) : (ints l).set i (.int .i64 x) = ints (l.set i x) := by simp [ints, List.map_set]
/-- A block that holds ints. -/
def IntRow (w : World) (b : Nat) (T : TypeId) (l : List Int) : Prop := w.heap[b]? = some (.cells (ints l).toArray T (0, 0))
namespace IntRow
variable {w w' : World} {b : Nat} {T : TypeId} {l : List Int}
theorem cell (h : IntRow w b T l) {k : Nat} {x : Int} (hk : l[k]? = some x) : w.cell? ⟨b, k, none⟩ = some (.int .i64 x) := by
  rw [cell_of_row w b k _ T _ h]; simpa using ints_get hk
theorem free (h : IntRow w b T l) (k : Nat) : w.frozen? ⟨b, k, none⟩ = false := by unfold IntRow at h; simp [World.frozen?, h]
theorem lt (h : IntRow w b T l) : b < w.heap.size := lt_of_block h
theorem set (h : IntRow w b T l) (k : Nat) (x : Int) : IntRow (w.setCell ⟨b, k, none⟩ (.int .i64 x)) b T (l.set k x) := by
  unfold IntRow
  rw [heap_setCell_same w b k _ T _ h, ← ints_set]; simp
theorem alloc (h : IntRow w b T l) (o : Obj) : IntRow (w.alloc o) b T l := block_alloc h o
theorem other (h : IntRow w b T l) (a : Addr) (ha : b ≠ a.block) (u : Value) : IntRow (w.setCell a u) b T l := block_setCell h a ha u
theorem below (h : IntRow w b T l) {B : Nat} (hb : Below B w w') (hlt : b < B) : IntRow w' b T l := block_below h hb hlt
theorem new (w : World) (T : TypeId) (l : List Int) : IntRow (w.alloc (.cells (ints l).toArray T)) w.heap.size T l := heap_alloc_new w _
end IntRow
/-- An element of an array by value. -/
theorem run_index_ints {P : Program} {w : World} {T e : TypeId} {n : Nat} (hu : P.underlying T = some (.array n e)) (hi : (P.info? e).isSome = true) (hc : P.cellsOf e = 1) (he : P.plainKey e = true)
    {l : List Int} (hl : l.length = n) {k : Nat} {x : Int} (hx : l[k]? = some x) : (Instr.index T (.agg (ints l).toArray) (.int .i64 k)).run P w = .ok (.int .i64 x) w := by
  obtain ⟨i, hi⟩ := Option.isSome_iff_exists.1 hi
  have hk : k < n := by have := (List.getElem?_eq_some_iff.1 hx).1; omega
  have hv : (ints l).toArray[k * P.cellsOf e]? = some (.int .i64 x) := by rw [hc, Nat.mul_one]; simpa using ints_get hx
  simp [Instr.index, Sem.run_bind, asIntOf, run_underlying hu w, hk, run_sizeOf w hi, run_part_plain w he hv]

theorem run_eqItems_ints {P : Program} {w : World} {e : TypeId} {k' : IntKind} (hu : P.underlying e = some (.int k')) (hc : P.cellsOf e = 1) (he : P.plainKey e = true) (d : Nat) {p q : List Int} :
    ∀ is : List Nat, (∀ i ∈ is, i < p.length ∧ i < q.length) → (Op.eqItems (d + 1) e (P.cellsOf e) (ints p).toArray (ints q).toArray is).run P w = .ok (is.all fun i => p[i]? == q[i]?) w
  | [], _ => by simp [Op.eqItems]
  | i :: is, h => by
    obtain ⟨h1, h2⟩ := h i (by simp)
    obtain ⟨x, hx⟩ : ∃ x, p[i]? = some x := ⟨_, List.getElem?_eq_getElem h1⟩
    obtain ⟨y, hy⟩ : ∃ y, q[i]? = some y := ⟨_, List.getElem?_eq_getElem h2⟩
    have e1 : (ints p).toArray[i * P.cellsOf e]? = some (.int .i64 x) := by rw [hc, Nat.mul_one]; simpa using ints_get hx
    have e2 : (ints q).toArray[i * P.cellsOf e]? = some (.int .i64 y) := by rw [hc, Nat.mul_one]; simpa using ints_get hy
    have ih := run_eqItems_ints (w := w) hu hc he d (p := p) (q := q) is fun j hj => h j (by simp [hj])
    simp only [Op.eqItems, Sem.run_bind, run_part_plain w he e1, run_part_plain w he e2, Result.andThen_ok, run_equalIn_int w d e _ k' x y hu, List.all_cons, hx, hy]
    by_cases hxy : x = y
    · subst hxy
      simpa using ih
    · have : (x == y) = false := beq_eq_false_iff_ne.2 hxy
      simp [hxy]
/-- Two arrays of ints are compared. -/
theorem run_equalIn_ints {P : Program} {w : World} {T e : TypeId} {n : Nat} {k' : IntKind} (hT : P.underlying T = some (.array n e)) (hi : (P.info? e).isSome = true) (hu : P.underlying e = some (.int k')) (hc : P.cellsOf e = 1) (he : P.plainKey e = true)
    {p q : List Int} (hp : p.length = n) (hq : q.length = n) : (Op.equalIn 10000 T (.agg (ints p).toArray) (.agg (ints q).toArray)).run P w = .ok (p == q) w := by
  obtain ⟨i, hi⟩ := Option.isSome_iff_exists.1 hi
  rw [run_equalIn_array w 9999 (ints p).toArray (ints q).toArray hT hi, run_eqItems_ints hu hc he 9998 (List.range n) fun j hj => by rw [List.mem_range] at hj; omega]
  refine congrArg (fun b => Result.ok b w) ?_
  rw [Bool.eq_iff_iff, List.all_eq_true, beq_iff_eq]
  constructor
  · intro h
    apply List.ext_getElem?
    intro j
    rcases Nat.lt_or_ge j n with hj | hj
    · have := h j (List.mem_range.2 hj)
      rw [List.getElem?_eq_getElem (by omega), List.getElem?_eq_getElem (by omega)] at this ⊢
      simpa using this
    · rw [List.getElem?_eq_none (by omega), List.getElem?_eq_none (by omega)]
  · rintro rfl j _
    simp

/-- Slices of an array of ints. -/
theorem run_sliceAt_from {P : Program} {T e : TypeId} {n : Nat} (hT : P.underlying T = some (.array n e)) (hi : (P.info? e).isSome = true) (hc : P.cellsOf e = 1) (b k : Nat) (hk : k < n) (w : World) :
    (Instr.sliceAt T (.pointer (some ⟨b, 0, none⟩)) (some (.int .i64 k)) none none).run P w = .ok (.slice (some ⟨b, k, none⟩) (n - k) (n - k)) w := by
  obtain ⟨i, hi⟩ := Option.isSome_iff_exists.1 hi
  have e1 : P.arrayLen T = n := by unfold Program.arrayLen; rw [hT]
  have e2 : P.elem T = e := by unfold Program.elem; rw [hT]
  rw [run_sliceAt_array_l w T ⟨b, 0, none⟩ (by rw [e1, e2]; exact hT) .i64 (k : Int) (by omega) (by rw [e1]; omega), e1, e2, run_sizeOf w hi, hc]
  simp only [Result.andThen_ok, slicedAt, Int.toNat_natCast, Nat.mul_one]
  rw [if_neg (by omega), Addr.add_lit, Nat.zero_add]
theorem run_sliceAt_end {P : Program} {T e : TypeId} {n : Nat} (hT : P.underlying T = some (.array n e)) (hi : (P.info? e).isSome = true) (b : Nat) (w : World) :
    (Instr.sliceAt T (.pointer (some ⟨b, 0, none⟩)) (some (.int .i64 n)) none none).run P w = .ok (.slice (some ⟨b, 0, none⟩) 0 0) w := by
  obtain ⟨i, hi⟩ := Option.isSome_iff_exists.1 hi
  have e1 : P.arrayLen T = n := by unfold Program.arrayLen; rw [hT]
  have e2 : P.elem T = e := by unfold Program.elem; rw [hT]
  rw [run_sliceAt_array_l w T ⟨b, 0, none⟩ (by rw [e1, e2]; exact hT) .i64 (n : Int) (by omega) (by rw [e1]; omega), e1, e2, run_sizeOf w hi]
  simp only [Result.andThen_ok, slicedAt, Int.toNat_natCast]
  rw [if_pos trivial, Nat.sub_self]
theorem run_sliceAt_upto {P : Program} {T e : TypeId} {n : Nat} (hT : P.underlying T = some (.array n e)) (hi : (P.info? e).isSome = true) (b k : Nat) (hk : k ≤ n) (w : World) :
    (Instr.sliceAt T (.pointer (some ⟨b, 0, none⟩)) none (some (.int .i64 k)) none).run P w = .ok (.slice (some ⟨b, 0, none⟩) k n) w := by
  obtain ⟨i, hi⟩ := Option.isSome_iff_exists.1 hi
  have e1 : P.arrayLen T = n := by unfold Program.arrayLen; rw [hT]
  have e2 : P.elem T = e := by unfold Program.elem; rw [hT]
  rw [run_sliceAt_array_h w T ⟨b, 0, none⟩ (by rw [e1, e2]; exact hT) .i64 (k : Int) (by omega) (by rw [e1]; omega), e1, e2, run_sizeOf w hi]
  simp only [Result.andThen_ok, slicedAt, Int.toNat_natCast, Nat.zero_mul, Addr.add_zero', ite_self, Nat.sub_zero]
theorem run_sliceAt_all {P : Program} {T e : TypeId} {n : Nat} (hT : P.underlying T = some (.array n e)) (hi : (P.info? e).isSome = true) (b : Nat) (w : World) :
    (Instr.sliceAt T (.pointer (some ⟨b, 0, none⟩)) none none none).run P w = .ok (.slice (some ⟨b, 0, none⟩) n n) w := by
  obtain ⟨i, hi⟩ := Option.isSome_iff_exists.1 hi
  have e1 : P.arrayLen T = n := by unfold Program.arrayLen; rw [hT]
  have e2 : P.elem T = e := by unfold Program.elem; rw [hT]
  rw [run_sliceAt_array_all w T ⟨b, 0, none⟩ (by rw [e1, e2]; exact hT), e1, e2, run_sizeOf w hi]
  simp only [Result.andThen_ok, slicedAt, Nat.zero_mul, Addr.add_zero', ite_self, Nat.sub_zero]

end Go.Proofs.YtcpjonglfnakpaaDoor

namespace Go.Proofs.YtcpjonglfnakpaaDoor
open Go.Lib

/-- A text's parts between the bytes c. -/
def splitOn (c : UInt8) : List UInt8 → List (List UInt8)
  | [] => [[]]
  | b :: l => if b = c then [] :: splitOn c l else match splitOn c l with
    | p :: ps => (b :: p) :: ps
    | [] => [[b]]

theorem splitOn_ne (c : UInt8) (l : List UInt8) : ∃ p ps, splitOn c l = p :: ps := by
  cases l with
  | nil => exact ⟨[], [], rfl⟩
  | cons b l =>
    unfold splitOn
    split
    · exact ⟨_, _, rfl⟩
    · split <;> exact ⟨_, _, rfl⟩
theorem splitOn_nil (c : UInt8) : splitOn c [] = [[]] := rfl
theorem splitOn_hit (c : UInt8) (l : List UInt8) : splitOn c (c :: l) = [] :: splitOn c l := by rw [splitOn, if_pos rfl]
theorem splitOn_miss {c b : UInt8} (h : b ≠ c) {l p : List UInt8} {ps : List (List UInt8)} (e : splitOn c l = p :: ps) : splitOn c (b :: l) = (b :: p) :: ps := by rw [splitOn, if_neg h, e]
theorem splitOn_length (c : UInt8) : ∀ l : List UInt8, (splitOn c l).length = l.count c + 1
  | [] => rfl
  | b :: l => by
    by_cases h : b = c
    · subst h; rw [splitOn_hit, List.length_cons, splitOn_length b l, List.count_cons_self]
    · obtain ⟨p, ps, e⟩ := splitOn_ne c l
      have := splitOn_length c l
      rw [splitOn_miss h e, List.count_cons_of_ne (by simpa using h), ← this, e]; rfl
/-- No part has the byte. -/
theorem splitOn_free (c : UInt8) : ∀ (l : List UInt8) (p : List UInt8), p ∈ splitOn c l → c ∉ p
  | [], p, h => by simp [splitOn] at h; simp [h]
  | b :: l, p, h => by
    by_cases hb : b = c
    · subst hb
      rw [splitOn_hit] at h
      rcases List.mem_cons.1 h with rfl | h
      · simp
      · exact splitOn_free b l p h
    · obtain ⟨q, ps, e⟩ := splitOn_ne c l
      rw [splitOn_miss hb e] at h
      rcases List.mem_cons.1 h with rfl | h
      · have := splitOn_free c l q (by rw [e]; simp)
        simp [Ne.symm hb, this]
      · exact splitOn_free c l p (by rw [e]; simp [h])
/-- A text without the byte is one part; ahead of the byte stands the first part. -/
theorem splitOn_none (c : UInt8) : ∀ (l : List UInt8), c ∉ l → splitOn c l = [l]
  | [], _ => rfl
  | b :: l, h => by
    have hb : b ≠ c := fun e => h (by simp [e])
    rw [splitOn_miss hb (splitOn_none c l (fun e => h (by simp [e])))]
theorem splitOn_append (c : UInt8) : ∀ (p l : List UInt8), c ∉ p → splitOn c (p ++ c :: l) = p :: splitOn c l
  | [], l, _ => by rw [List.nil_append, splitOn_hit]
  | b :: p, l, h => by
    have hb : b ≠ c := fun e => h (by simp [e])
    rw [List.cons_append, splitOn_miss hb (splitOn_append c p l (fun e => h (by simp [e])))]
/-- The parts, with the byte between, are the text. -/
theorem splitOn_join (c : UInt8) : ∀ l : List UInt8, [c].intercalate (splitOn c l) = l
  | [] => rfl
  | b :: l => by
    obtain ⟨p, ps, e⟩ := splitOn_ne c l
    have ih := splitOn_join c l
    rw [e] at ih
    by_cases hb : b = c
    · subst hb
      rw [splitOn_hit, e]
      simp only [List.intercalate, List.intersperse_cons_cons, List.flatten_cons, List.nil_append, List.cons_append]
      congr 1
    · rw [splitOn_miss hb e]
      cases ps with
      | nil => simp only [List.intercalate, List.intersperse_singleton, List.flatten_cons, List.flatten_nil, List.append_nil] at ih ⊢; rw [ih]
      | cons q ps => simp only [List.intercalate, List.intersperse_cons_cons, List.flatten_cons, List.cons_append] at ih ⊢; rw [ih]
/-- No part is longer than the text. -/
theorem splitOn_le (c : UInt8) : ∀ (l : List UInt8) (p : List UInt8), p ∈ splitOn c l → p.length ≤ l.length
  | [], p, h => by simp [splitOn] at h; simp [h]
  | b :: l, p, h => by
    by_cases hb : b = c
    · subst hb
      rw [splitOn_hit] at h
      rcases List.mem_cons.1 h with rfl | h
      · simp
      · exact Nat.le_succ_of_le (splitOn_le b l p h)
    · obtain ⟨q, ps, e⟩ := splitOn_ne c l
      rw [splitOn_miss hb e] at h
      rcases List.mem_cons.1 h with rfl | h
      · have := splitOn_le c l q (by rw [e]; simp)
        simpa using this
      · exact Nat.le_succ_of_le (splitOn_le c l p (by rw [e]; simp [h]))
/-- Parts without the byte, with the byte between, are split into them. -/
theorem splitOn_of_join (c : UInt8) : ∀ (ps : List (List UInt8)), ps ≠ [] → (∀ p ∈ ps, c ∉ p) → splitOn c ([c].intercalate ps) = ps
  | [], h, _ => absurd rfl h
  | [p], _, h => by
    have : [c].intercalate [p] = p := by simp [List.intercalate]
    rw [this, splitOn_none c p (h p (by simp))]
  | p :: q :: ps, _, h => by
    have : [c].intercalate (p :: q :: ps) = p ++ c :: [c].intercalate (q :: ps) := by simp [List.intercalate]
    rw [this, splitOn_append c p _ (h p (by simp)), splitOn_of_join c (q :: ps) (by simp) (fun x hx => h x (by simp [hx]))]

theorem index_hit_byte (c : UInt8) (l : List UInt8) : index (c :: l) [c] = 0 := by rw [index]; simp [List.isPrefixOf]
theorem index_miss_byte {b c : UInt8} (h : b ≠ c) (l : List UInt8) : index (b :: l) [c] = if index l [c] == -1 then -1 else index l [c] + 1 := by
  have hp : ([c] : List UInt8).isPrefixOf (b :: l) = false := by simp [List.isPrefixOf, Ne.symm h]
  rw [index, hp]; simp
theorem splitK_byte (c : UInt8) : ∀ (l : List UInt8), splitK [c] 0 (l.count c) l = splitOn c l
  | [] => rfl
  | b :: l => by
    by_cases hb : b = c
    · subst hb
      rw [List.count_cons_self, splitK, index_hit_byte, if_neg (by decide), splitOn_hit]
      simp [splitK_byte b l]
    · obtain ⟨p, ps, e⟩ := splitOn_ne c l
      have ih := splitK_byte c l
      rw [List.count_cons_of_ne (by simpa using hb), splitOn_miss hb e]
      rw [e] at ih
      cases hn : l.count c with
      | zero =>
        rw [hn, splitK] at ih
        injection ih with h1 h2
        rw [splitK, h1, h2]
      | succ n =>
        rw [hn] at ih
        unfold splitK at ih ⊢
        rw [index_miss_byte hb]
        have hge := index_ge l [c]
        by_cases hi : index l [c] = -1
        · rw [if_pos (by simpa using hi)] at ih
          rw [if_pos (by simp [hi])]
          injection ih with h1 h2
          rw [h1, h2]
        · rw [if_neg (by simpa using hi)] at ih
          rw [if_neg (by simp [hi]; omega), if_neg (by simpa using hi)]
          obtain ⟨j, hj⟩ : ∃ j : Nat, index l [c] = j := ⟨(index l [c]).toNat, by omega⟩
          rw [hj] at ih ⊢
          injection ih with h1 h2
          have e1 : ((j : Int) + 1).toNat = j + 1 := by omega
          have e2 : ((j : Int)).toNat = j := by omega
          rw [e2] at h1 h2
          rw [e1, ← h1, ← h2]
          simp
/-- What strings.Split hands back. -/
theorem splitB_byte (c : UInt8) (s : ByteArray) : (splitB ⟨#[c]⟩ 0 (countB s ⟨#[c]⟩) s).map (·.data.toList) = splitOn c s.data.toList := by
  rw [splitB_data]
  have : countB s ⟨#[c]⟩ = s.data.toList.count c := by
    show count s.data.toList [c] = _
    rw [count_one]
  rw [this]
  exact splitK_byte c s.data.toList
theorem splitB_bytes (c : UInt8) (s : ByteArray) : splitB ⟨#[c]⟩ 0 (countB s ⟨#[c]⟩) s = (splitOn c s.data.toList).map fun l => ⟨l.toArray⟩ := by
  rw [← splitB_byte c s, List.map_map]
  conv => lhs; rw [← List.map_id (splitB _ _ _ _)]
  exact List.map_congr_left fun x _ => by simp
theorem countB_byte (c : UInt8) (s : ByteArray) : countB s ⟨#[c]⟩ + 1 = (splitOn c s.data.toList).length := by
  have : countB s ⟨#[c]⟩ = s.data.toList.count c := by
    show count s.data.toList [c] = _
    rw [count_one]
  rw [this, splitOn_length]

end Go.Proofs.YtcpjonglfnakpaaDoor

namespace Go.Proofs.YtcpjonglfnakpaaDoor

def hexD (c : UInt8) : Int := if 48 ≤ c.toNat ∧ c.toNat ≤ 57 then (c.toNat : Int) - 48 else if 97 ≤ c.toNat ∧ c.toNat ≤ 102 then (c.toNat : Int) - 87 else if 65 ≤ c.toNat ∧ c.toNat ≤ 70 then (c.toNat : Int) - 55 else -1
theorem hexD_bd (c : UInt8) : -1 ≤ hexD c ∧ hexD c ≤ 15 := by
  unfold hexD; split
  · omega
  · split
    · omega
    · split <;> omega
theorem hexD_dig {c : UInt8} (h0 : 48 ≤ c.toNat) (h1 : c.toNat ≤ 57) : hexD c = (c.toNat : Int) - 48 := by unfold hexD; rw [if_pos ⟨h0, h1⟩]
theorem hexD_low {c : UInt8} (h0 : 97 ≤ c.toNat) (h1 : c.toNat ≤ 102) : hexD c = (c.toNat : Int) - 87 := by unfold hexD; rw [if_neg (by omega), if_pos ⟨h0, h1⟩]
theorem hexD_cap {c : UInt8} (h0 : 65 ≤ c.toNat) (h1 : c.toNat ≤ 70) : hexD c = (c.toNat : Int) - 55 := by unfold hexD; rw [if_neg (by omega), if_neg (by omega), if_pos ⟨h0, h1⟩]
theorem hexD_no {c : UInt8} (h0 : c.toNat < 48 ∨ 57 < c.toNat) (h1 : c.toNat < 97 ∨ 102 < c.toNat) (h2 : c.toNat < 65 ∨ 70 < c.toNat) : hexD c = -1 := by unfold hexD; rw [if_neg (by omega), if_neg (by omega), if_neg (by omega)]

theorem hexD_cases (c : UInt8) : (c.toNat < 48 ∧ hexD c = -1) ∨ (48 ≤ c.toNat ∧ c.toNat ≤ 57 ∧ hexD c = (c.toNat : Int) - 48) ∨ (58 ≤ c.toNat ∧ c.toNat < 65 ∧ hexD c = -1) ∨ (65 ≤ c.toNat ∧ c.toNat ≤ 70 ∧ hexD c = (c.toNat : Int) - 55) ∨ (71 ≤ c.toNat ∧ c.toNat < 97 ∧ hexD c = -1) ∨ (97 ≤ c.toNat ∧ c.toNat ≤ 102 ∧ hexD c = (c.toNat : Int) - 87) ∨ (103 ≤ c.toNat ∧ hexD c = -1) := by
  rcases Nat.lt_or_ge c.toNat 48 with h | h
  · exact Or.inl ⟨h, hexD_no (by omega) (by omega) (by omega)⟩
  right
  rcases Nat.lt_or_ge c.toNat 58 with h2 | h2
  · exact Or.inl ⟨h, by omega, hexD_dig h (by omega)⟩
  right
  rcases Nat.lt_or_ge c.toNat 65 with h3 | h3
  · exact Or.inl ⟨h2, h3, hexD_no (by omega) (by omega) (by omega)⟩
  right
  rcases Nat.lt_or_ge c.toNat 71 with h4 | h4
  · exact Or.inl ⟨h3, by omega, hexD_cap h3 (by omega)⟩
  right
  rcases Nat.lt_or_ge c.toNat 97 with h5 | h5
  · exact Or.inl ⟨h4, h5, hexD_no (by omega) (by omega) (by omega)⟩
  right
  rcases Nat.lt_or_ge c.toNat 103 with h6 | h6
  · exact Or.inl ⟨h5, by omega, hexD_low h5 (by omega)⟩
  · exact Or.inr ⟨h6, hexD_no (by omega) (by omega) (by omega)⟩

theorem or32 : ∀ n : Nat, n < 256 → Go.bits .or .u8 (n : Int) 32 = ((n ||| 32 : Nat) : Int) ∧ (n ||| 32) < 256 ∧ (65 ≤ n → n ≤ 90 → n ||| 32 = n + 32) ∧ (97 ≤ n → n ≤ 122 → n ||| 32 = n) ∧ (71 ≤ n → n < 97 → ¬ (97 ≤ (n ||| 32) ∧ (n ||| 32) ≤ 102)) ∧ (103 ≤ n → ¬ (97 ≤ (n ||| 32) ∧ (n ||| 32) ≤ 102)) := by decide +kernel

end Go.Proofs.YtcpjonglfnakpaaDoor

namespace Go.Proofs.YtcpjonglfnakpaaDoor

/-- What a digit to the base of 16 is worth. -/
def isHex (c : UInt8) : Bool := decide (0 ≤ hexD c)
def hexC (d : Nat) : UInt8 := if d < 10 then UInt8.ofNat (48 + d) else UInt8.ofNat (87 + d)
def hexs (n : Nat) : List UInt8 := if n < 16 then [hexC n] else hexs (n / 16) ++ [hexC (n % 16)]
termination_by n
decreasing_by omega
theorem hexs_small {n : Nat} (h : n < 16) : hexs n = [hexC n] := by rw [hexs, if_pos h]
theorem hexs_big {n : Nat} (h : 16 ≤ n) : hexs n = hexs (n / 16) ++ [hexC (n % 16)] := by rw [hexs, if_neg (by omega)]
theorem hexs_snoc (n : Nat) : ∃ l, hexs n = l ++ [hexC (n % 16)] := by
  rcases Nat.lt_or_ge n 16 with h | h
  · exact ⟨[], by rw [hexs_small h, Nat.mod_eq_of_lt h]; rfl⟩
  · exact ⟨_, hexs_big h⟩
theorem hexs_ne (n : Nat) : hexs n ≠ [] := by obtain ⟨l, h⟩ := hexs_snoc n; rw [h]; simp
/-- What digits to the base of 16 tell. -/
def valH (n : Nat) : List UInt8 → Nat
  | [] => n
  | c :: l => valH (16 * n + (hexD c).toNat) l
theorem valH_cons (n : Nat) (c : UInt8) (l : List UInt8) : valH n (c :: l) = valH (16 * n + (hexD c).toNat) l := rfl
theorem valH_append (l m : List UInt8) : ∀ n, valH n (l ++ m) = valH (valH n l) m := by
  induction l with
  | nil => intro n; rfl
  | cons c l ih => intro n; exact ih _
theorem hexC_val : ∀ d : Nat, d < 16 → hexD (hexC d) = (d : Int) ∧ hexC d ≠ 58 ∧ isHex (hexC d) = true := by decide
theorem hexs_val (n : Nat) : valH 0 (hexs n) = n := by
  induction n using Nat.strongRecOn with
  | ind n ih =>
    rcases Nat.lt_or_ge n 16 with h | h
    · rw [hexs_small h, valH_cons, (hexC_val n h).1]; show 16 * 0 + Int.toNat (n : Int) = n; rw [Int.toNat_natCast]; omega
    · rw [hexs_big h, valH_append, ih (n / 16) (by omega), valH_cons, (hexC_val (n % 16) (by omega)).1]
      show 16 * (n / 16) + Int.toNat ((n % 16 : Nat) : Int) = n; rw [Int.toNat_natCast]; omega
theorem hexs_all (n : Nat) : (hexs n).all isHex = true ∧ (58 : UInt8) ∉ hexs n := by
  induction n using Nat.strongRecOn with
  | ind n ih =>
    rcases Nat.lt_or_ge n 16 with h | h
    · have := hexC_val n h
      rw [hexs_small h]; simp [this.2.2, Ne.symm this.2.1]
    · have := hexC_val (n % 16) (by omega)
      have hi := ih (n / 16) (by omega)
      rw [hexs_big h, List.all_append, hi.1]; simp [this.2.2, Ne.symm this.2.1, hi.2]
theorem hexs_len (n : Nat) (h : n ≤ 65535) : 1 ≤ (hexs n).length ∧ (hexs n).length ≤ 4 := by
  have e : ∀ m, 16 ≤ m → (hexs m).length = (hexs (m / 16)).length + 1 := fun m hm => by rw [hexs_big hm]; simp
  have s : ∀ m, m < 16 → (hexs m).length = 1 := fun m hm => by rw [hexs_small hm]; rfl
  by_cases h1 : n < 16
  · rw [s n h1]; omega
  · rw [e n (by omega)]
    by_cases h2 : n / 16 < 16
    · rw [s _ h2]; omega
    · rw [e _ (by omega)]
      by_cases h3 : n / 16 / 16 < 16
      · rw [s _ h3]; omega
      · rw [e _ (by omega), s _ (by omega)]; omega
theorem hexs_pow (n : Nat) : ∀ k, n < 16 ^ (k + 1) → (hexs n).length ≤ k + 1 := by
  intro k
  induction k generalizing n with
  | zero => intro h; rw [hexs_small (by simpa using h)]; simp
  | succ k ih =>
    intro h
    rcases Nat.lt_or_ge n 16 with h1 | h1
    · rw [hexs_small h1]; simp
    · rw [hexs_big h1, List.length_append]
      have := ih (n / 16) (by rw [Nat.div_lt_iff_lt_mul (by decide), ← Nat.pow_succ]; exact h)
      simp; omega
theorem hexs_16 (n : Nat) (h : n ≤ 9223372036854775807) : (hexs n).length ≤ 16 := hexs_pow n 15 (by omega)

/-- What a text between colons tells, and whether it is a piece. -/
def pieceB (l : List UInt8) : Bool := !l.isEmpty && decide (l.length ≤ 4) && l.all isHex
def piecesO (l : List UInt8) : Option (List Nat) := if l = [] then some [] else if (splitOn 58 l).all pieceB = true then some ((splitOn 58 l).map (valH 0)) else none
/-- A text about its first two colons. -/
def gapL : List UInt8 → Option (List UInt8 × List UInt8)
  | [] => none
  | [_] => none
  | b :: c :: l => if b = 58 ∧ c = 58 then some ([], l) else (gapL (c :: l)).map fun x => (b :: x.1, x.2)
theorem gapL_hit (l : List UInt8) : gapL (58 :: 58 :: l) = some ([], l) := by rw [gapL, if_pos ⟨rfl, rfl⟩]
theorem gapL_miss {b c : UInt8} (h : ¬ (b = 58 ∧ c = 58)) (l : List UInt8) : gapL (b :: c :: l) = (gapL (c :: l)).map fun x => (b :: x.1, x.2) := by rw [gapL, if_neg h]
def no8 : List Nat := List.replicate 8 0
/-- The pieces that a text tells, and whether it does. -/
def parseSix (l : List UInt8) : List Nat × Bool :=
  match gapL l with
  | none => match piecesO l with
    | some a => if a.length = 8 then (a, true) else (no8, false)
    | none => (no8, false)
  | some (x, y) => match piecesO x, piecesO y with
    | some a, some b => if a.length + b.length ≤ 7 then (a ++ List.replicate (8 - a.length - b.length) 0 ++ b, true) else (no8, false)
    | _, _ => (no8, false)
theorem parseSix_len (l : List UInt8) : (parseSix l).1.length = 8 := by
  unfold parseSix
  split
  · split
    · split
      · assumption
      · rfl
    · rfl
  · split
    · split
      · rw [List.length_append, List.length_append, List.length_replicate]; omega
      · rfl
    · rfl

/-- How many noughts a list begins with. -/
def noughts : List Int → Nat
  | [] => 0
  | x :: l => if x = 0 then noughts l + 1 else 0
theorem noughts_le : ∀ l, noughts l ≤ l.length
  | [] => Nat.le_refl _
  | x :: l => by
    unfold noughts
    have := noughts_le l
    split <;> simp <;> omega
/-- The longest row of noughts, of two at least: where, and how long; what is looked at from place i on. -/
def runFrom : Nat → List Int → Nat × Nat → Nat × Nat
  | _, [], r => r
  | i, x :: l, r => runFrom (i + 1) l (if r.2 < noughts (x :: l) ∧ 1 < noughts (x :: l) then (i, noughts (x :: l)) else r)
def runR (p : List Int) : Nat × Nat := runFrom 0 p (0, 0)
theorem runFrom_cons (i : Nat) (x : Int) (l : List Int) (r : Nat × Nat) : runFrom i (x :: l) r = runFrom (i + 1) l (if r.2 < noughts (x :: l) ∧ 1 < noughts (x :: l) then (i, noughts (x :: l)) else r) := rfl
def mayB (p : List Int) : Bool := p.all fun n => decide (0 ≤ n ∧ n ≤ 65535)
def texts (p : List Int) : List (List UInt8) := p.map fun n => hexs n.toNat
def colons (t : List (List UInt8)) : List UInt8 := [58].intercalate t
/-- The text of pieces. -/
def showSix (p : List Int) : List UInt8 :=
  if mayB p = true then
    if (runR p).2 = 0 then colons (texts p) else colons (texts (p.take (runR p).1)) ++ [58, 58] ++ colons (texts (p.drop ((runR p).1 + (runR p).2)))
  else []

end Go.Proofs.YtcpjonglfnakpaaDoor

namespace Go.Proofs.YtcpjonglfnakpaaDoor

theorem colons_nil : colons [] = [] := rfl
theorem colons_one (a : List UInt8) : colons [a] = a := by simp [colons, List.intercalate]
theorem colons_cons (a b : List UInt8) (A : List (List UInt8)) : colons (a :: b :: A) = a ++ 58 :: colons (b :: A) := by simp [colons, List.intercalate]
theorem colons_snoc (a : List UInt8) : ∀ A : List (List UInt8), A ≠ [] → colons (A ++ [a]) = colons A ++ 58 :: a
  | [], h => absurd rfl h
  | [x], _ => by rw [List.singleton_append, colons_cons, colons_one, colons_one]
  | x :: y :: A, _ => by
    have := colons_snoc a (y :: A) (by simp)
    rw [List.cons_append, List.cons_append, colons_cons, colons_cons, ← List.cons_append, this]; simp
def tot (A : List (List UInt8)) : Nat := (A.map List.length).sum
theorem tot_cons (a : List UInt8) (A : List (List UInt8)) : tot (a :: A) = a.length + tot A := rfl
theorem tot_append (A B : List (List UInt8)) : tot (A ++ B) = tot A + tot B := by simp [tot]
theorem colons_len (A : List (List UInt8)) (h : A ≠ []) : (colons A).length + 1 = tot A + A.length := by
  induction A with
  | nil => exact absurd rfl h
  | cons a A ih =>
    cases A with
    | nil => rw [colons_one]; simp [tot]
    | cons b A =>
      rw [colons_cons, tot_cons]
      have := ih (by simp)
      simp only [List.length_append, List.length_cons] at *
      omega

/-- Texts that are not empty and have no colon. -/
def Fair (A : List (List UInt8)) : Prop := ∀ a ∈ A, a ≠ [] ∧ (58 : UInt8) ∉ a
theorem Fair.tail {a : List UInt8} {A : List (List UInt8)} (h : Fair (a :: A)) : Fair A := fun x hx => h x (List.mem_cons_of_mem _ hx)
theorem Fair.take {A : List (List UInt8)} (h : Fair A) (n : Nat) : Fair (A.take n) := fun x hx => h x (List.mem_of_mem_take hx)
theorem Fair.drop {A : List (List UInt8)} (h : Fair A) (n : Nat) : Fair (A.drop n) := fun x hx => h x (List.mem_of_mem_drop hx)
theorem texts_fair (p : List Int) : Fair (texts p) := by
  intro a ha
  obtain ⟨n, _, rfl⟩ := List.mem_map.1 ha
  exact ⟨hexs_ne _, (hexs_all _).2⟩

theorem gapL_free {b : UInt8} (h : b ≠ 58) (l : List UInt8) : gapL (b :: l) = (gapL l).map fun x => (b :: x.1, x.2) := by
  cases l with
  | nil => rfl
  | cons c l => exact gapL_miss (fun e => h e.1) l
theorem gapL_front {a : List UInt8} (h : (58 : UInt8) ∉ a) (l : List UInt8) : gapL (a ++ l) = (gapL l).map fun x => (a ++ x.1, x.2) := by
  induction a with
  | nil => cases h : gapL l <;> simp [h]
  | cons b a ih =>
    rw [List.cons_append, gapL_free (fun e => h (by simp [e])), ih (fun e => h (by simp [e]))]
    cases gapL l <;> simp
theorem gapL_colon {b : UInt8} (h : b ≠ 58) (l : List UInt8) : gapL (58 :: b :: l) = (gapL (b :: l)).map fun x => (58 :: x.1, x.2) := gapL_miss (fun e => h e.2) l
theorem colons_head {b : List UInt8} {A : List (List UInt8)} (h : Fair (b :: A)) : ∃ c t, c ≠ 58 ∧ colons (b :: A) = c :: t := by
  have hb := h b (by simp)
  cases b with
  | nil => exact absurd rfl hb.1
  | cons c t =>
    have hc : c ≠ 58 := fun e => hb.2 (by simp [e])
    cases A with
    | nil => exact ⟨c, t, hc, colons_one _⟩
    | cons x A => exact ⟨c, _, hc, colons_cons _ _ _⟩
/-- Behind texts with colons between the first two colons are the ones that stand there. -/
theorem gapL_colons (r : List UInt8) : ∀ A : List (List UInt8), Fair A → gapL (colons A ++ 58 :: 58 :: r) = some (colons A, r)
  | [], _ => gapL_hit r
  | [a], h => by
    rw [colons_one, gapL_front (h a (by simp)).2, gapL_hit]; simp
  | a :: b :: A, h => by
    have ih := gapL_colons r (b :: A) h.tail
    obtain ⟨c, t, hc, hb⟩ := colons_head h.tail
    rw [colons_cons, List.append_assoc, gapL_front (h a (by simp)).2, List.cons_append, hb, List.cons_append, gapL_colon hc, ← List.cons_append, ← hb, ih]
    simp
theorem gapL_none : ∀ A : List (List UInt8), Fair A → gapL (colons A) = none
  | [], _ => rfl
  | [a], h => by
    rw [colons_one, ← List.append_nil a, gapL_front (h a (by simp)).2]; rfl
  | a :: b :: A, h => by
    have ih := gapL_none (b :: A) h.tail
    obtain ⟨c, t, hc, hb⟩ := colons_head h.tail
    rw [colons_cons, gapL_front (h a (by simp)).2, hb, gapL_colon hc, ← hb, ih]
    rfl
theorem colons_ne {A : List (List UInt8)} (hA : A ≠ []) (h : Fair A) : colons A ≠ [] := by
  intro e
  cases A with
  | nil => exact hA rfl
  | cons a A =>
    have := colons_len (a :: A) (by simp)
    have ha := List.length_pos_iff.2 (h a (by simp)).1
    rw [e, tot_cons] at this
    simp only [List.length_nil, List.length_cons] at this
    omega
/-- Pieces' texts with colons between tell them. -/
theorem pieces_colons (A : List (List UInt8)) (h : ∀ a ∈ A, pieceB a = true ∧ (58 : UInt8) ∉ a) : piecesO (colons A) = some (A.map (valH 0)) := by
  have hf : Fair A := fun a ha => ⟨fun e => by have := (h a ha).1; rw [e] at this; exact Bool.noConfusion this, (h a ha).2⟩
  cases A with
  | nil => rfl
  | cons a A =>
    unfold piecesO
    rw [if_neg (colons_ne (by simp) hf)]
    have e : splitOn 58 (colons (a :: A)) = a :: A := splitOn_of_join 58 _ (by simp) fun p hp => (h p hp).2
    rw [e, if_pos (List.all_eq_true.2 fun p hp => (h p hp).1)]

theorem mayB_mem {p : List Int} (h : mayB p = true) : ∀ n ∈ p, 0 ≤ n ∧ n ≤ 65535 := fun n hn => by
  have := List.all_eq_true.1 h n hn
  simpa using this
theorem texts_piece {p : List Int} (h : ∀ n ∈ p, 0 ≤ n ∧ n ≤ 65535) : ∀ a ∈ texts p, pieceB a = true ∧ (58 : UInt8) ∉ a := by
  intro a ha
  obtain ⟨n, hn, rfl⟩ := List.mem_map.1 ha
  have hb := h n hn
  have hl := hexs_len n.toNat (by omega)
  refine ⟨?_, (hexs_all _).2⟩
  unfold pieceB
  rw [(hexs_all _).1, List.isEmpty_eq_false_iff.2 (hexs_ne _)]
  simp; exact hl.2
theorem texts_val (p : List Int) : (texts p).map (valH 0) = p.map Int.toNat := by
  unfold texts
  rw [List.map_map]
  exact List.map_congr_left fun n _ => hexs_val _

/-- The row is of noughts, and inside. -/
theorem noughts_get : ∀ (l : List Int) (j : Nat), j < noughts l → l[j]? = some 0
  | [], j, h => absurd h (Nat.not_lt_zero _)
  | x :: l, j, h => by
    unfold noughts at h
    split at h
    · rename_i hx
      cases j with
      | zero => rw [hx]; rfl
      | succ j => rw [List.getElem?_cons_succ]; exact noughts_get l j (by omega)
    · exact absurd h (Nat.not_lt_zero _)
theorem noughts_ge : ∀ (l : List Int) (k : Nat), (∀ j, j < k → l[j]? = some 0) → k ≤ noughts l
  | l, 0, _ => Nat.zero_le _
  | [], k + 1, h => by have := h 0 (by omega); simp at this
  | x :: l, k + 1, h => by
    have hx : x = 0 := by have := h 0 (by omega); simpa using this
    have := noughts_ge l k (fun j hj => by have := h (j + 1) (by omega); rwa [List.getElem?_cons_succ] at this)
    rw [noughts, if_pos hx]; omega
/-- What holds of the row behind the places that were looked at. -/
structure RunOk (p : List Int) (i : Nat) (r : Nat × Nat) : Prop where
  zero : r.2 = 0 → r.1 = 0
  one : r.2 ≠ 1
  inside : r.1 + r.2 ≤ p.length
  nought : ∀ j, r.1 ≤ j → j < r.1 + r.2 → p[j]? = some 0
  most : ∀ k, k < i → 2 ≤ noughts (p.drop k) → noughts (p.drop k) < r.2 ∨ noughts (p.drop k) = r.2 ∧ r.1 ≤ k
theorem RunOk.start (p : List Int) : RunOk p 0 (0, 0) := ⟨fun _ => rfl, by decide, Nat.zero_le _, fun j h1 h2 => by simp at h2, fun k hk => absurd hk (Nat.not_lt_zero _)⟩
theorem RunOk.next {p : List Int} {i : Nat} {r : Nat × Nat} (h : RunOk p i r) (hr : r.1 ≤ i) (hi : i < p.length) : RunOk p (i + 1) (if r.2 < noughts (p.drop i) ∧ 1 < noughts (p.drop i) then (i, noughts (p.drop i)) else r) := by
  have hle := noughts_le (p.drop i)
  rw [List.length_drop] at hle
  split
  · rename_i hc
    refine ⟨fun e => by simp at e; omega, by simp; omega, by simp; omega, fun j h1 h2 => ?_, fun k hk h2 => ?_⟩
    · simp at h1 h2
      have := noughts_get (p.drop i) (j - i) (by omega)
      rwa [List.getElem?_drop, show i + (j - i) = j by omega] at this
    · simp
      by_cases e : k = i
      · subst e; right; exact ⟨rfl, Nat.le_refl _⟩
      · rcases h.most k (by omega) h2 with h | h
        · left; omega
        · left; omega
  · rename_i hc
    refine ⟨h.zero, h.one, h.inside, h.nought, fun k hk h2 => ?_⟩
    by_cases e : k = i
    · subst e
      omega
    · exact h.most k (by omega) h2
theorem runFrom_ok (p : List Int) : ∀ (l : List Int) (i : Nat) (r : Nat × Nat), p.drop i = l → i ≤ p.length → r.1 ≤ i → RunOk p i r → RunOk p p.length (runFrom i l r)
  | [], i, r, hl, hi, _, h => by
    have : p.length ≤ i := List.drop_eq_nil_iff.1 hl
    rw [show p.length = i by omega]; exact h
  | x :: l, i, r, hl, hi, hr, h => by
    have hlt : i < p.length := by
      rcases Nat.lt_or_ge i p.length with h' | h'
      · exact h'
      · rw [List.drop_eq_nil_of_le h'] at hl; cases hl
    rw [runFrom_cons, ← hl]
    have hl2 : p.drop (i + 1) = l := by
      rw [List.drop_eq_getElem_cons hlt] at hl
      injection hl
    refine runFrom_ok p l (i + 1) _ hl2 hlt ?_ (h.next hr hlt)
    split
    · exact Nat.le_succ _
    · omega
theorem runR_ok (p : List Int) : RunOk p p.length (runR p) := runFrom_ok p p 0 (0, 0) rfl (Nat.zero_le _) (Nat.le_refl _) (RunOk.start p)
/-- No row of noughts is longer, and none that is as long stands ahead. -/
theorem runR_most (p : List Int) (i k : Nat) (hk : 2 ≤ k) (hi : i + k ≤ p.length) (h : ∀ j, i ≤ j → j < i + k → p[j]? = some 0) : k < (runR p).2 ∨ k = (runR p).2 ∧ (runR p).1 ≤ i := by
  have hn : k ≤ noughts (p.drop i) := noughts_ge _ k fun j hj => by rw [List.getElem?_drop]; exact h (i + j) (by omega) (by omega)
  have := (runR_ok p).most i (by omega) (by omega)
  omega

/-- Pieces about their row. -/
theorem three (p : List Int) (a n : Nat) (hin : a + n ≤ p.length) (h0 : ∀ j, a ≤ j → j < a + n → p[j]? = some 0) : p = p.take a ++ (List.replicate n 0 ++ p.drop (a + n)) := by
  have e : (p.drop a).take n = List.replicate n 0 := by
    apply List.ext_getElem?
    intro j
    rcases Nat.lt_or_ge j n with h | h
    · rw [List.getElem?_take_of_lt h, List.getElem?_drop, h0 (a + j) (by omega) (by omega), List.getElem?_replicate, if_pos h]
    · rw [List.getElem?_eq_none (by simp; omega), List.getElem?_eq_none (by simp; omega)]
  have := List.take_append_drop a p
  have h2 := List.take_append_drop n (p.drop a)
  rw [e, List.drop_drop] at h2
  rw [h2]; exact this.symm

theorem parse_colons {A : List (List UInt8)} (h : ∀ a ∈ A, pieceB a = true ∧ (58 : UInt8) ∉ a) (h8 : A.length = 8) : parseSix (colons A) = (A.map (valH 0), true) := by
  have hf : Fair A := fun a ha => ⟨fun e => by have := (h a ha).1; rw [e] at this; exact Bool.noConfusion this, (h a ha).2⟩
  unfold parseSix
  rw [gapL_none A hf, pieces_colons A h]
  simp [h8]
theorem parse_gap {A B : List (List UInt8)} (h : ∀ a ∈ A, pieceB a = true ∧ (58 : UInt8) ∉ a) (h2 : ∀ a ∈ B, pieceB a = true ∧ (58 : UInt8) ∉ a) (h7 : A.length + B.length ≤ 7) :
    parseSix (colons A ++ [58, 58] ++ colons B) = (A.map (valH 0) ++ List.replicate (8 - A.length - B.length) 0 ++ B.map (valH 0), true) := by
  have hf : Fair A := fun a ha => ⟨fun e => by have := (h a ha).1; rw [e] at this; exact Bool.noConfusion this, (h a ha).2⟩
  unfold parseSix
  rw [List.append_assoc]
  show (match gapL (colons A ++ 58 :: 58 :: colons B) with | none => _ | some (x, y) => _) = _
  rw [gapL_colons _ A hf]
  simp only [pieces_colons A h, pieces_colons B h2]
  rw [if_pos (by simpa using h7)]
  simp
theorem parse_two (l : List UInt8) (k : List Nat) (h : piecesO l = some k) (hk : 8 ≤ k.length) : parseSix (58 :: 58 :: l) = (no8, false) := by
  unfold parseSix
  rw [gapL_hit]
  simp only [h]
  simp [piecesO]; omega

theorem parse_showSix {p : List Int} (h8 : p.length = 8) (h : mayB p = true) : parseSix (showSix p) = (p.map Int.toNat, true) := by
  have hm := mayB_mem h
  have hr := runR_ok p
  unfold showSix
  rw [if_pos h]
  split
  · rw [parse_colons (texts_piece hm) (by simp [texts, h8]), texts_val]
  · rename_i hn
    have hin := hr.inside
    have h1 := hr.one
    rw [h8] at hin
    rw [parse_gap (texts_piece fun n hn => hm n (List.mem_of_mem_take hn)) (texts_piece fun n hn => hm n (List.mem_of_mem_drop hn)) (by simp [texts, h8]; omega)]
    rw [texts_val, texts_val]
    refine congrArg (fun x => (x, true)) ?_
    have e := congrArg (List.map Int.toNat) (three p _ _ (by rw [h8]; exact hin) hr.nought)
    rw [List.map_append, List.map_append, List.map_replicate] at e
    rw [List.append_assoc]
    refine Eq.trans ?_ e.symm
    rw [show 8 - (texts (p.take (runR p).1)).length - (texts (p.drop ((runR p).1 + (runR p).2))).length = (runR p).2 by simp [texts, h8]; omega]
    rfl

end Go.Proofs.YtcpjonglfnakpaaDoor

namespace Go.Proofs.YtcpjonglfnakpaaDoor

theorem colons_last {A : List (List UInt8)} (hA : A ≠ []) (h : Fair A) : ∃ l c, c ≠ 58 ∧ colons A = l ++ [c] := by
  obtain ⟨B, a, rfl⟩ : ∃ B a, A = B ++ [a] := ⟨_, _, (List.dropLast_concat_getLast hA).symm⟩
  have ha := h a (by simp)
  obtain ⟨l, c, rfl⟩ : ∃ l c, a = l ++ [c] := ⟨_, _, (List.dropLast_concat_getLast ha.1).symm⟩
  have hc : c ≠ 58 := fun e => ha.2 (by simp [e])
  by_cases hB : B = []
  · subst hB; exact ⟨l, c, hc, by rw [List.nil_append, colons_one]⟩
  · exact ⟨colons B ++ 58 :: l, c, hc, by rw [colons_snoc _ _ hB]; simp⟩
/-- The text of the first i of some texts, of which n from place a on are left out. -/
def pref (t : List (List UInt8)) (a n i : Nat) : List UInt8 := if n = 0 ∨ i ≤ a then colons (t.take i) else colons (t.take a) ++ [58, 58] ++ colons ((t.drop (a + n)).take (i - (a + n)))
def step1 (a n i : Nat) (s : List UInt8) : List UInt8 := if 0 < n ∧ i = a then s ++ [58, 58] else s
def needs (s : List UInt8) : Bool := !s.isEmpty && s.getLast? != some 58
def step2 (x s : List UInt8) : List UInt8 := (if needs s = true then s ++ [58] else s) ++ x
theorem needs_nil : needs [] = false := rfl
theorem needs_snoc (l : List UInt8) (c : UInt8) : needs (l ++ [c]) = (c != 58) := by
  unfold needs
  have : (l ++ [c]).isEmpty = false := by simp
  rw [this, List.getLast?_append]; simp [bne]
theorem pref_zero (t : List (List UInt8)) (a n : Nat) : pref t a n 0 = [] := by unfold pref; rw [if_pos (Or.inr (Nat.zero_le _))]; rfl
theorem pref_gap (t : List (List UInt8)) {a n i : Nat} (h1 : a ≤ i) (h2 : i < a + n) : pref t a n (i + 1) = step1 a n i (pref t a n i) := by
  unfold pref step1
  rw [if_neg (by omega), show i + 1 - (a + n) = 0 by omega, List.take_zero, colons_nil, List.append_nil]
  by_cases e : i = a
  · subst e; rw [if_pos (Or.inr (Nat.le_refl _)), if_pos ⟨by omega, rfl⟩]
  · rw [if_neg (by omega), if_neg (by omega), show i - (a + n) = 0 by omega, List.take_zero, colons_nil, List.append_nil]
theorem step2_colons {A : List (List UInt8)} (h : Fair A) (x : List UInt8) : step2 x (colons A) = colons (A ++ [x]) := by
  by_cases hA : A = []
  · subst hA; rw [colons_nil, List.nil_append, colons_one]; rfl
  · obtain ⟨l, c, hc, e⟩ := colons_last hA h
    unfold step2
    rw [e, needs_snoc, if_pos (by simp [hc]), colons_snoc _ _ hA, e]; simp
theorem step2_gap {B : List (List UInt8)} (h : Fair B) (x p : List UInt8) : step2 x (p ++ [58, 58] ++ colons B) = p ++ [58, 58] ++ colons (B ++ [x]) := by
  by_cases hB : B = []
  · subst hB
    rw [colons_nil, List.nil_append, colons_one, List.append_nil]
    unfold step2
    rw [show p ++ [58, 58] = (p ++ [58]) ++ [58] by simp, needs_snoc, if_neg (by decide)]
  · obtain ⟨l, c, hc, e⟩ := colons_last hB h
    unfold step2
    rw [e, ← List.append_assoc, needs_snoc, if_pos (by simp [hc]), colons_snoc _ _ hB, e]; simp
theorem step1_off {a n i : Nat} (h : n = 0 ∨ i < a ∨ a + n ≤ i) (s : List UInt8) : step1 a n i s = s := by unfold step1; rw [if_neg (by omega)]
theorem pref_text {t : List (List UInt8)} (hf : Fair t) {a n i : Nat} {x : List UInt8} (hx : t[i]? = some x) (h : n = 0 ∨ i < a ∨ a + n ≤ i) : pref t a n (i + 1) = step2 x (step1 a n i (pref t a n i)) := by
  rw [step1_off h]
  have hi : i < t.length := (List.getElem?_eq_some_iff.1 hx).1
  have ht : t.take (i + 1) = t.take i ++ [x] := by rw [List.take_add_one, hx]; rfl
  by_cases hc : n = 0 ∨ i + 1 ≤ a
  · unfold pref
    rw [if_pos hc, if_pos (by omega), ht, step2_colons (hf.take _)]
  · have hge : a + n ≤ i := by omega
    unfold pref
    rw [if_neg hc]
    have hd : (t.drop (a + n)).take (i + 1 - (a + n)) = (t.drop (a + n)).take (i - (a + n)) ++ [x] := by
      rw [show i + 1 - (a + n) = (i - (a + n)) + 1 by omega, List.take_add_one, List.getElem?_drop, show a + n + (i - (a + n)) = i by omega, hx]; rfl
    rw [if_neg (by omega), hd, step2_gap ((hf.drop _).take _)]
theorem pref_end {t : List (List UInt8)} {a n : Nat} (h : a + n ≤ t.length) : pref t a n t.length = if n = 0 then colons t else colons (t.take a) ++ [58, 58] ++ colons (t.drop (a + n)) := by
  unfold pref
  by_cases hn : n = 0
  · rw [if_pos (Or.inl hn), if_pos hn, List.take_length]
  · rw [if_neg (by omega), if_neg hn, List.take_of_length_le (l := t.drop (a + n)) (by simp)]
theorem texts_take (p : List Int) (n : Nat) : texts (p.take n) = (texts p).take n := by simp [texts, List.map_take]
theorem texts_drop (p : List Int) (n : Nat) : texts (p.drop n) = (texts p).drop n := by simp [texts, List.map_drop]
theorem showSix_pref {p : List Int} (h : mayB p = true) : showSix p = pref (texts p) (runR p).1 (runR p).2 p.length := by
  have hin := (runR_ok p).inside
  have hl : (texts p).length = p.length := by simp [texts]
  rw [← hl, pref_end (by rw [hl]; exact hin)]
  unfold showSix
  rw [if_pos h, texts_take, texts_drop]

/-- A list of the same length, element by element. -/
theorem showSix_no {p : List Int} (h : mayB p = false) : showSix p = [] := by unfold showSix; rw [h]; rfl
theorem showSix_ne {p : List Int} (h8 : p.length = 8) (h : mayB p = true) : showSix p ≠ [] := by
  unfold showSix
  rw [if_pos h]
  split
  · exact colons_ne (by intro e; have := congrArg List.length e; simp [texts, h8] at this) (texts_fair p)
  · simp
theorem toNat_inj {p q : List Int} (hp : ∀ n ∈ p, 0 ≤ n ∧ n ≤ 65535) (hq : ∀ n ∈ q, 0 ≤ n ∧ n ≤ 65535) (e : p.map Int.toNat = q.map Int.toNat) : p = q := by
  have back : ∀ l : List Int, (∀ n ∈ l, 0 ≤ n ∧ n ≤ 65535) → (l.map Int.toNat).map (fun n : Nat => (n : Int)) = l := by
    intro l hl
    rw [List.map_map]
    conv => rhs; rw [← List.map_id l]
    exact List.map_congr_left fun n hn => by have := hl n hn; show ((n.toNat : Nat) : Int) = n; omega
  rw [← back p hp, e, back q hq]
theorem showSix_inj {p q : List Int} (h8 : p.length = 8) (k8 : q.length = 8) (hp : mayB p = true) (hq : mayB q = true) (e : showSix p = showSix q) : p = q := by
  have h := parse_showSix h8 hp
  rw [e, parse_showSix k8 hq] at h
  injection h with h
  exact toNat_inj (mayB_mem hp) (mayB_mem hq) h.symm

theorem valH_lt (l : List UInt8) : ∀ n, valH n l < (n + 1) * 16 ^ l.length := by
  induction l with
  | nil => intro n; show n < (n + 1) * 16 ^ 0; omega
  | cons c l ih =>
    intro n
    have hb := hexD_bd c
    rw [valH_cons, List.length_cons, Nat.pow_succ]
    have := ih (16 * n + (hexD c).toNat)
    refine Nat.lt_of_lt_of_le this ?_
    rw [show (n + 1) * (16 ^ l.length * 16) = ((n + 1) * 16) * 16 ^ l.length by rw [Nat.mul_assoc, Nat.mul_comm 16]]
    exact Nat.mul_le_mul_right _ (by omega)
theorem piece_le {l : List UInt8} (h : l.length ≤ 4) : valH 0 l ≤ 65535 := by
  have h1 := valH_lt l 0
  have h2 : 16 ^ l.length ≤ 16 ^ 4 := Nat.pow_le_pow_right (by decide) h
  omega
theorem hexs_val_len {l : List UInt8} (h : l ≠ []) : (hexs (valH 0 l)).length ≤ l.length := by
  have h1 := valH_lt l 0
  obtain ⟨k, hk⟩ : ∃ k, l.length = k + 1 := ⟨l.length - 1, by have := List.length_pos_iff.2 h; omega⟩
  rw [hk] at h1 ⊢
  exact hexs_pow _ k (by omega)
theorem pieceB_out {l : List UInt8} (h : pieceB l = true) : l ≠ [] ∧ l.length ≤ 4 ∧ l.all isHex = true := by
  unfold pieceB at h
  rw [Bool.and_eq_true, Bool.and_eq_true] at h
  exact ⟨fun e => by rw [e] at h; exact Bool.noConfusion h.1.1, of_decide_eq_true h.1.2, h.2⟩
theorem pieces_facts {l : List UInt8} {a : List Nat} (h : piecesO l = some a) : (∀ n ∈ a, n ≤ 65535) ∧ (a = [] ∧ l = [] ∨ a ≠ [] ∧ tot (a.map hexs) + a.length ≤ l.length + 1) := by
  unfold piecesO at h
  split at h
  · rename_i e
    injection h with h
    subst h
    exact ⟨fun n hn => absurd hn (by simp), Or.inl ⟨rfl, e⟩⟩
  · split at h
    · rename_i hne hall
      injection h with h
      subst h
      have hp := fun x hx => pieceB_out (List.all_eq_true.1 hall x hx)
      refine ⟨fun n hn => ?_, Or.inr ⟨?_, ?_⟩⟩
      · obtain ⟨x, hx, rfl⟩ := List.mem_map.1 hn
        exact piece_le (hp x hx).2.1
      · obtain ⟨y, ys, e⟩ := splitOn_ne 58 l
        rw [e]; simp
      · have hle : tot (((splitOn 58 l).map (valH 0)).map hexs) ≤ tot (splitOn 58 l) := by
          rw [List.map_map]
          clear hall
          generalize splitOn 58 l = A at hp
          induction A with
          | nil => exact Nat.le_refl _
          | cons x A ih =>
            rw [List.map_cons, tot_cons, tot_cons]
            have := ih fun y hy => hp y (List.mem_cons_of_mem _ hy)
            have h2 := hexs_val_len (hp x (by simp)).1
            simp only [Function.comp] at *
            omega
        have hc := colons_len (splitOn 58 l) (by obtain ⟨y, ys, e⟩ := splitOn_ne 58 l; rw [e]; simp)
        have hj : colons (splitOn 58 l) = l := splitOn_join 58 l
        rw [hj] at hc
        rw [List.length_map]; omega
    · cases h
theorem gapL_out : ∀ {l x y : List UInt8}, gapL l = some (x, y) → l = x ++ 58 :: 58 :: y
  | [], _, _, h => by cases h
  | [_], _, _, h => by cases h
  | b :: c :: l, x, y, h => by
    rw [gapL] at h
    split at h
    · rename_i e
      injection h with h
      injection h with h1 h2
      subst h1 h2
      rw [e.1, e.2]; rfl
    · cases e : gapL (c :: l) with
      | none => rw [e] at h; cases h
      | some z =>
        rw [e] at h
        injection h with h
        injection h with h1 h2
        subst h1 h2
        have := gapL_out (l := c :: l) (x := z.1) (y := z.2) e
        rw [this]; rfl
theorem tot_texts_cast (a : List Nat) : tot (texts (a.map fun n : Nat => (n : Int))) = tot (a.map hexs) := by
  unfold texts
  rw [List.map_map]; rfl
theorem mayB_cast {a : List Nat} (h : ∀ n ∈ a, n ≤ 65535) : mayB (a.map fun n : Nat => (n : Int)) = true := by
  unfold mayB
  rw [List.all_eq_true]
  intro n hn
  obtain ⟨m, hm, rfl⟩ := List.mem_map.1 hn
  have := h m hm
  simp; omega
theorem tot_zero (n : Nat) : tot (texts (List.replicate n 0)) = n := by
  induction n with
  | zero => rfl
  | succ n ih => rw [List.replicate_succ]; unfold texts at ih ⊢; rw [List.map_cons, tot_cons, ih, show hexs (0 : Int).toNat = [48] from hexs_small (by decide)]; simp; omega
theorem texts_append (p q : List Int) : texts (p ++ q) = texts p ++ texts q := by simp [texts]
/-- How long the text of eight pieces is. -/
theorem show_len {p : List Int} (h8 : p.length = 8) : (showSix p).length ≤ tot (texts p) + 7 ∧ (1 ≤ (runR p).2 → (runR p).2 ≤ 7 → (showSix p).length + 2 * (runR p).2 ≤ tot (texts p) + 9) ∧ (8 ≤ (runR p).2 → (showSix p).length ≤ 2) := by
  have hr := runR_ok p
  have hin := hr.inside
  have h1 := hr.one
  rw [h8] at hin
  by_cases hm : mayB p = true
  · unfold showSix
    rw [if_pos hm]
    split
    · rename_i hn
      have := colons_len (texts p) (by intro e; have := congrArg List.length e; simp [texts, h8] at this)
      simp only [texts, List.length_map, h8] at this ⊢
      refine ⟨by omega, fun h => by omega, fun h => by omega⟩
    · rename_i hn
      have hz := hr.nought
      clear hr
      generalize (runR p).1 = a at *
      generalize (runR p).2 = n at *
      have e := congrArg (fun l => tot (texts l)) (three p a n (by omega) hz)
      simp only [texts_append, tot_append, tot_zero] at e
      have lA : (colons (texts (p.take a))).length + 1 = tot (texts (p.take a)) + a ∨ a = 0 ∧ (colons (texts (p.take a))).length = 0 := by
        by_cases ha : a = 0
        · right; subst ha; exact ⟨rfl, rfl⟩
        · left
          have := colons_len (texts (p.take a)) (by intro e; have := congrArg List.length e; simp [texts, h8] at this; omega)
          simp only [texts, List.length_map, List.length_take, h8] at this ⊢
          omega
      have lB : (colons (texts (p.drop (a + n)))).length + 1 = tot (texts (p.drop (a + n))) + (8 - (a + n)) ∨ 8 - (a + n) = 0 ∧ (colons (texts (p.drop (a + n)))).length = 0 := by
        by_cases ha : 8 - (a + n) = 0
        · right; refine ⟨ha, ?_⟩; rw [List.drop_eq_nil_of_le (by omega)]; rfl
        · left
          have := colons_len (texts (p.drop (a + n))) (by intro e; have := congrArg List.length e; simp [texts, h8] at this; omega)
          simp only [texts, List.length_map, List.length_drop, h8] at this ⊢
          omega
      simp only [List.length_append, List.length_cons, List.length_nil]
      have tA : a = 0 → tot (texts (p.take a)) = 0 := fun h => by subst h; rfl
      have tB : 8 - (a + n) = 0 → tot (texts (p.drop (a + n))) = 0 := fun h => by rw [List.drop_eq_nil_of_le (by omega)]; rfl
      refine ⟨?_, fun _ _ => ?_, fun _ => ?_⟩
      · rcases lA with lA | ⟨_, lA⟩ <;> rcases lB with lB | ⟨_, lB⟩ <;> omega
      · rcases lA with lA | ⟨_, lA⟩ <;> rcases lB with lB | ⟨_, lB⟩ <;> omega
      · rcases lA with lA | ⟨_, lA⟩ <;> rcases lB with lB | ⟨_, lB⟩ <;> omega
  · have e := showSix_no (by simpa using hm)
    rw [e]
    refine ⟨by simp, fun _ _ => ?_, fun _ => by simp⟩
    have e := congrArg (fun l => tot (texts l)) (three p _ _ (by omega) hr.nought)
    simp only [texts_append, tot_append, tot_zero] at e
    simp; omega
/-- What is parsed may be, and is shown by at most one byte more. -/
theorem parse_back {l : List UInt8} {k : List Nat} (h : parseSix l = (k, true)) : mayB (k.map fun n : Nat => (n : Int)) = true ∧ (showSix (k.map fun n : Nat => (n : Int))).length ≤ l.length + 1 := by
  have h8 : k.length = 8 := by have := parseSix_len l; rwa [h] at this
  have hp8 : (k.map fun n : Nat => (n : Int)).length = 8 := by rw [List.length_map]; exact h8
  have hl := show_len hp8
  rw [tot_texts_cast] at hl
  unfold parseSix at h
  split at h
  · split at h
    · rename_i a ha
      split at h
      · injection h with h
        subst h
        have hf := pieces_facts ha
        refine ⟨mayB_cast hf.1, ?_⟩
        rcases hf.2 with ⟨e, _⟩ | ⟨_, hf⟩
        · rw [e] at h8; exact absurd h8 (by decide)
        · omega
      · injection h with _ h; cases h
    · injection h with _ h; cases h
  · rename_i x y hg
    have hlen : l.length = x.length + y.length + 2 := by rw [gapL_out hg]; simp; omega
    split at h
    · rename_i a b ha hb
      split at h
      · rename_i h7
        injection h with h
        have fa := pieces_facts ha
        have fb := pieces_facts hb
        have hT : tot (k.map hexs) = tot (a.map hexs) + (8 - a.length - b.length) + tot (b.map hexs) := by
          rw [← h, List.map_append, List.map_append, tot_append, tot_append]
          have := tot_zero (8 - a.length - b.length)
          unfold texts at this
          rw [List.map_replicate] at this
          rw [List.map_replicate]
          have e : hexs (0 : Int).toNat = hexs 0 := rfl
          rw [e] at this; rw [this]
        have hn : 8 - a.length - b.length = 1 ∨ 8 - a.length - b.length ≤ (runR (k.map fun n : Nat => (n : Int))).2 := by
          by_cases h2 : 2 ≤ 8 - a.length - b.length
          · right
            have := runR_most (k.map fun n : Nat => (n : Int)) a.length (8 - a.length - b.length) h2 (by rw [hp8]; omega) (by
              intro j h1 h3
              rw [← h, List.getElem?_map, List.append_assoc, List.getElem?_append_right h1, List.getElem?_append_left (by simp; omega), List.getElem?_replicate, if_pos (by omega)]
              rfl)
            omega
          · left; omega
        refine ⟨mayB_cast fun n hn => ?_, ?_⟩
        · rw [← h] at hn
          rcases List.mem_append.1 hn with hn | hn
          · rcases List.mem_append.1 hn with hn | hn
            · exact fa.1 n hn
            · rw [(List.mem_replicate.1 hn).2]; decide
          · exact fb.1 n hn
        · generalize (runR (k.map fun n : Nat => (n : Int))).2 = r at *
          have ta : a = [] → tot (a.map hexs) = 0 := fun e => by rw [e]; rfl
          have tb : b = [] → tot (b.map hexs) = 0 := fun e => by rw [e]; rfl
          have la : a = [] → a.length = 0 := fun e => by rw [e]; rfl
          have lb : b = [] → b.length = 0 := fun e => by rw [e]; rfl
          have na : a ≠ [] → 1 ≤ a.length := fun e => List.length_pos_iff.2 e
          have nb : b ≠ [] → 1 ≤ b.length := fun e => List.length_pos_iff.2 e
          obtain ⟨l1, l2, l3⟩ := hl
          rcases fa.2 with ⟨ea, exx⟩ | ⟨ea, fa⟩ <;> rcases fb.2 with ⟨eb, ey⟩ | ⟨eb, fb⟩
          · have := ta ea; have := tb eb; have := la ea; have := lb eb
            rcases hn with hn | hn
            · omega
            · by_cases h8r : 8 ≤ r
              · have := l3 h8r; omega
              · omega
          · have := ta ea; have := la ea; have := nb eb
            rcases hn with hn | hn
            · by_cases h8r : 8 ≤ r
              · have := l3 h8r; omega
              · omega
            · by_cases h8r : 8 ≤ r
              · have := l3 h8r; omega
              · have := l2 (by omega) (by omega); omega
          · have := tb eb; have := lb eb; have := na ea
            rcases hn with hn | hn
            · by_cases h8r : 8 ≤ r
              · have := l3 h8r; omega
              · omega
            · by_cases h8r : 8 ≤ r
              · have := l3 h8r; omega
              · have := l2 (by omega) (by omega); omega
          · have := na ea; have := nb eb
            rcases hn with hn | hn
            · omega
            · by_cases h8r : 8 ≤ r
              · have := l3 h8r; omega
              · have := l2 (by omega) (by omega); omega
      · injection h with _ h; cases h
    · injection h with _ h; cases h

end Go.Proofs.YtcpjonglfnakpaaDoor

namespace Go.Proofs.YtcpjonglfnakpaaDoor

/-- A small letter up to f as a capital one. -/
def upC (c : UInt8) : UInt8 := if 97 ≤ c ∧ c ≤ 102 then c - 32 else c
theorem upC_hex (c : UInt8) : hexD (upC c) = hexD c := by
  unfold upC
  split
  · next h =>
    have h1 : 97 ≤ c.toNat := UInt8.le_iff_toNat_le.1 h.1
    have h2 : c.toNat ≤ 102 := UInt8.le_iff_toNat_le.1 h.2
    have e : (c - 32).toNat = c.toNat - 32 := by
      rw [UInt8.toNat_sub_of_le _ _ (UInt8.le_iff_toNat_le.2 (by show 32 ≤ c.toNat; omega))]; rfl
    unfold hexD
    rw [e, if_neg (by omega), if_neg (by omega), if_pos (by omega), if_neg (by omega), if_pos (by omega)]
    omega
  · rfl
theorem upC_isHex (c : UInt8) : isHex (upC c) = isHex c := by unfold isHex; rw [upC_hex]
theorem upC_colon (c : UInt8) : upC c = 58 ↔ c = 58 := by
  unfold upC
  split
  · next h =>
    have h1 : 97 ≤ c.toNat := UInt8.le_iff_toNat_le.1 h.1
    have h2 : c.toNat ≤ 102 := UInt8.le_iff_toNat_le.1 h.2
    have e : (c - 32).toNat = c.toNat - 32 := by
      rw [UInt8.toNat_sub_of_le _ _ (UInt8.le_iff_toNat_le.2 (by show 32 ≤ c.toNat; omega))]; rfl
    constructor
    · intro h'; have := congrArg UInt8.toNat h'; rw [e] at this; change c.toNat - 32 = 58 at this; omega
    · intro h'; rw [h'] at h1; change 97 ≤ 58 at h1; omega
  · exact Iff.rfl
theorem upC_split (l : List UInt8) : splitOn 58 (l.map upC) = (splitOn 58 l).map (List.map upC) := by
  induction l with
  | nil => rfl
  | cons b l ih =>
    obtain ⟨p, ps, e⟩ := splitOn_ne 58 l
    rw [List.map_cons]
    by_cases hb : b = 58
    · rw [(upC_colon b).2 hb, hb, splitOn_hit, splitOn_hit, ih]; rfl
    · rw [splitOn_miss hb e, splitOn_miss (fun h => hb ((upC_colon b).1 h)) (p := p.map upC) (ps := ps.map (List.map upC)) (by rw [ih, e]; rfl)]; rfl
theorem upC_val (l : List UInt8) : ∀ n, valH n (l.map upC) = valH n l := by
  induction l with
  | nil => intro n; rfl
  | cons c l ih => intro n; rw [List.map_cons, valH_cons, valH_cons, upC_hex, ih]
theorem upC_piece (l : List UInt8) : pieceB (l.map upC) = pieceB l := by
  unfold pieceB
  rw [List.isEmpty_map, List.length_map, List.all_map]
  congr 2
  funext c; exact upC_isHex c
theorem upC_pieces (l : List UInt8) : piecesO (l.map upC) = piecesO l := by
  unfold piecesO
  by_cases h : l = []
  · subst h; rfl
  · rw [if_neg h, if_neg (by simpa using h), upC_split, List.all_map, List.map_map]
    have e1 : (splitOn 58 l).all (pieceB ∘ List.map upC) = (splitOn 58 l).all pieceB := by congr 1; funext x; exact upC_piece x
    have e2 : (splitOn 58 l).map (valH 0 ∘ List.map upC) = (splitOn 58 l).map (valH 0) := by congr 1; funext x; exact upC_val x 0
    rw [e1, e2]
theorem upC_gap : ∀ l : List UInt8, gapL (l.map upC) = (gapL l).map fun x => (x.1.map upC, x.2.map upC)
  | [] => rfl
  | [_] => rfl
  | b :: c :: l => by
    have ih := upC_gap (c :: l)
    by_cases h : b = 58 ∧ c = 58
    · obtain ⟨rfl, rfl⟩ := h
      rw [gapL_hit]; exact gapL_hit _
    · rw [gapL_miss h, List.map_cons, List.map_cons, gapL_miss (fun e => h ⟨(upC_colon b).1 e.1, (upC_colon c).1 e.2⟩)]
      rw [List.map_cons] at ih
      rw [ih]
      cases gapL (c :: l) <;> rfl
theorem upC_parse (l : List UInt8) : parseSix (l.map upC) = parseSix l := by
  unfold parseSix
  rw [upC_gap, upC_pieces]
  cases gapL l with
  | none => rfl
  | some x => simp only [Option.map_some, upC_pieces]

/-- A number of 16 bits by four digits. -/
def hex4 (n : Nat) : List UInt8 := [hexC (n / 4096), hexC (n / 256 % 16), hexC (n / 16 % 16), hexC (n % 16)]
theorem hex4_piece {n : Nat} (h : n ≤ 65535) : pieceB (hex4 n) = true ∧ (58 : UInt8) ∉ hex4 n := by
  have h1 := hexC_val (n / 4096) (by omega)
  have h2 := hexC_val (n / 256 % 16) (by omega)
  have h3 := hexC_val (n / 16 % 16) (by omega)
  have h4 := hexC_val (n % 16) (by omega)
  unfold hex4
  refine ⟨?_, ?_⟩
  · simp [pieceB, h1.2.2, h2.2.2, h3.2.2, h4.2.2]
  · simp [Ne.symm h1.2.1, Ne.symm h2.2.1, Ne.symm h3.2.1, Ne.symm h4.2.1]
theorem hex4_val {n : Nat} (h : n ≤ 65535) : valH 0 (hex4 n) = n := by
  have h1 := hexC_val (n / 4096) (by omega)
  have h2 := hexC_val (n / 256 % 16) (by omega)
  have h3 := hexC_val (n / 16 % 16) (by omega)
  have h4 := hexC_val (n % 16) (by omega)
  unfold hex4
  simp only [valH_cons, h1.1, h2.1, h3.1, h4.1, Int.toNat_natCast]
  show 16 * (16 * (16 * (16 * 0 + n / 4096) + n / 256 % 16) + n / 16 % 16) + n % 16 = n
  omega
def fours (p : List Int) : List (List UInt8) := p.map fun n => hex4 n.toNat
theorem fours_piece {p : List Int} (h : ∀ n ∈ p, 0 ≤ n ∧ n ≤ 65535) : ∀ a ∈ fours p, pieceB a = true ∧ (58 : UInt8) ∉ a := by
  intro a ha
  obtain ⟨n, hn, rfl⟩ := List.mem_map.1 ha
  have := h n hn
  exact hex4_piece (by omega)
theorem fours_val {p : List Int} (h : ∀ n ∈ p, 0 ≤ n ∧ n ≤ 65535) : (fours p).map (valH 0) = p.map Int.toNat := by
  unfold fours
  rw [List.map_map]
  exact List.map_congr_left fun n hn => by have := h n hn; exact hex4_val (by omega)
theorem fours_long {p : List Int} (h8 : p.length = 8) (h : ∀ n ∈ p, 0 ≤ n ∧ n ≤ 65535) : parseSix (colons (fours p)) = (p.map Int.toNat, true) := by
  rw [parse_colons (fours_piece h) (by simp [fours, h8]), fours_val h]
theorem fours_short {p : List Int} (h8 : p.length = 8) (h : ∀ n ∈ p, 0 ≤ n ∧ n ≤ 65535) {a n : Nat} (hn : 1 ≤ n) (han : a + n ≤ 8) (h0 : ∀ j, a ≤ j → j < a + n → p[j]? = some 0) :
    parseSix (pref (fours p) a n 8) = (p.map Int.toNat, true) := by
  have hl : (fours p).length = 8 := by simp [fours, h8]
  have e := pref_end (t := fours p) (a := a) (n := n) (by omega)
  rw [hl, if_neg (by omega)] at e
  have e1 : (fours p).take a = fours (p.take a) := by simp [fours, List.map_take]
  have e2 : (fours p).drop (a + n) = fours (p.drop (a + n)) := by simp [fours, List.map_drop]
  have g1 : ∀ n ∈ p.take a, 0 ≤ n ∧ n ≤ 65535 := fun x hx => h x (List.mem_of_mem_take hx)
  have g2 : ∀ x ∈ p.drop (a + n), 0 ≤ x ∧ x ≤ 65535 := fun x hx => h x (List.mem_of_mem_drop hx)
  have l1 : (fours (p.take a)).length = a := by simp [fours, h8]; omega
  have l2 : (fours (p.drop (a + n))).length = 8 - (a + n) := by simp [fours, h8]
  rw [e, e1, e2, parse_gap (fours_piece g1) (fours_piece g2) (by omega), fours_val g1, fours_val g2, l1, l2]
  have e3 : 8 - a - (8 - (a + n)) = n := by omega
  rw [e3]
  conv => rhs; rw [three p a n (by omega) h0]
  simp
theorem fours_two {p : List Int} (h8 : p.length = 8) (h : ∀ n ∈ p, 0 ≤ n ∧ n ≤ 65535) : parseSix (58 :: 58 :: colons (fours p)) = (no8, false) :=
  parse_two _ _ (pieces_colons _ (fours_piece h)) (by simp [fours, h8])

theorem tot_le {p : List Int} (h : ∀ n ∈ p, 0 ≤ n ∧ n ≤ 65535) : tot (texts p) ≤ 4 * p.length := by
  induction p with
  | nil => exact Nat.le_refl _
  | cons n p ih =>
    have h1 := ih fun x hx => h x (List.mem_cons_of_mem _ hx)
    have h2 := h n List.mem_cons_self
    have h3 := (hexs_len n.toNat (by omega)).2
    show tot (hexs n.toNat :: texts p) ≤ _
    rw [tot_cons, List.length_cons]; omega
theorem show_39 {p : List Int} (h8 : p.length = 8) (h : mayB p = true) : (showSix p).length ≤ 39 := by
  have h1 := (show_len h8).1
  have h2 := tot_le (mayB_mem h)
  omega

end Go.Proofs.YtcpjonglfnakpaaDoor

namespace Go.Proofs.YtcpjonglfnakpaaDoor

/-- A capital letter as a small one. -/
def lowC (c : UInt8) : UInt8 := if 65 ≤ c.toNat ∧ c.toNat ≤ 90 then c + 32 else c
def lowL (l : List UInt8) : List UInt8 := l.map lowC
theorem lowC_wrap : ∀ n : Nat, n < 256 → 65 ≤ n → n ≤ 90 → IntKind.u8.wrap ((n : Int) + 32) = ((lowC (UInt8.ofNat n)).toNat : Int) := by decide +kernel
theorem lowC_small {c : UInt8} (h : ¬ (65 ≤ c.toNat ∧ c.toNat ≤ 90)) : lowC c = c := by unfold lowC; rw [if_neg h]

end Go.Proofs.YtcpjonglfnakpaaDoor

namespace Go.Proofs.YtcpjonglfnakpaaDoor
open Go.RowKit

theorem wpList_append1 {P : Program} {ops : Array Oper} {rest : List Oper} {o : Oper} {a : Act} {Q : Exit → Act → World → Prop} (hgd : o.guard = none) (s x : Operand) (t : TypeId)
    (ho : o.op = .call { callee := .builtin .append, args := #[s, x], argTypes := #[t, t] }) (e T : TypeId) (z : Value) (bytes : Nat) (ht : P.underlying t = some (.slice e)) (hi : (P.info? e).map (fun i => (i.zero, i.size, i.bytes)) = some (some z, 1, bytes)) (hzs : z.cells.size = 1)
    (B0 B : Nat) (hB : B0 ≤ B) (w0 w : World) (v : Value) (n : Nat) (xs : List Value) (u : Value) (hs : a.eval s = v) (hx : a.eval x = .slice (some ⟨w.heap.size, 0, none⟩) 1 1) (hrow : w.ownsRow B e 1 v n xs) (hb : Below B0 w0 w) (hBw : B ≤ w.heap.size)
    (hu : u.oneCell' = true) (hmax : n + 1 ≤ 9223372036854775807) (hbytes : (n + 1) * bytes ≤ 140737488355328)
    (h : ∀ v' w', w'.ownsRow B e 1 v' (n + 1) (xs ++ [u]) → Below B0 w0 w' → w.grownBy w' v.ownBlock → v' ≠ .slice none 0 0 → wpList P ops Q rest (a.put o.dst v') w') :
    wpList P ops Q (o :: rest) a (w.alloc (.cells #[u] T)) := by
  obtain ⟨i0, hi, hz0, hz1, hz2⟩ := info_parts hi
  refine wpList_append_own _ hgd s x t ho B e i0 z 1 bytes ht hi hz0 hz1 hz2 hzs (by decide) v n xs hs (hrow.alloc _) ⟨w.heap.size, 0, none⟩ 1 1 [u] hx rfl (cell_new_at rfl _ _) (by simpa using hu) (by unfold maxLen; omega) hbytes (by simp; omega) ?_
  intro v' w' h1 h2 h3
  have hg : w.grownBy w' v.ownBlock := by
    refine ⟨h2.os, h2.tape, h2.output, Nat.le_trans (by simp) h2.size, fun k hk hr => ?_⟩
    rw [h2.block k (by simp; omega) hr]
    exact Below.heap_alloc _ _ _ hk
  exact h v' w' h1 (hb.grown hg (Nat.le_trans hB hBw) fun k hk => Nat.le_trans hB (row_base hrow k hk)) hg (fun e => absurd ((h3.1 e).2) (by decide))

theorem wpList_append1_at {P : Program} {ops : Array Oper} {rest : List Oper} {o : Oper} {a : Act} {Q : Exit → Act → World → Prop} (hgd : o.guard = none) (s x : Operand) (t : TypeId)
    (ho : o.op = .call { callee := .builtin .append, args := #[s, x], argTypes := #[t, t] }) (e T : TypeId) (z : Value) (bytes : Nat) (ht : P.underlying t = some (.slice e)) (hi : (P.info? e).map (fun i => (i.zero, i.size, i.bytes)) = some (some z, 1, bytes)) (hzs : z.cells.size = 1)
    (B : Nat) (w : World) (v : Value) (n : Nat) (xs : List Value) (u : Value) (hs : a.eval s = v) (hx : a.eval x = .slice (some ⟨w.heap.size, 0, none⟩) 1 1) (hrow : w.ownsRow B e 1 v n xs) (hBw : B ≤ w.heap.size)
    (hu : u.oneCell' = true) (hmax : n + 1 ≤ 9223372036854775807) (hbytes : (n + 1) * bytes ≤ 140737488355328)
    (h : ∀ v' w', w'.ownsRow B e 1 v' (n + 1) (xs ++ [u]) → w.grownBy w' v.ownBlock → (v'.ownBlock = v.ownBlock ∨ v'.ownBlock = some (w.heap.size + 1)) → wpList P ops Q rest (a.put o.dst v') w') :
    wpList P ops Q (o :: rest) a (w.alloc (.cells #[u] T)) := by
  obtain ⟨i0, hi, hz0, hz1, hz2⟩ := info_parts hi
  refine wpList_append_own_at _ hgd s x t ho B e i0 z 1 bytes ht hi hz0 hz1 hz2 hzs (by decide) v n xs hs (hrow.alloc _) ⟨w.heap.size, 0, none⟩ 1 1 [u] hx rfl (cell_new_at rfl _ _) (by simpa using hu) (by unfold maxLen; omega) hbytes (by simp; omega) ?_
  intro v' w' h1 h2 _ h4
  have hg : w.grownBy w' v.ownBlock := by
    refine ⟨h2.os, h2.tape, h2.output, Nat.le_trans (by simp) h2.size, fun k hk hr => ?_⟩
    rw [h2.block k (by simp; omega) hr]
    exact Below.heap_alloc _ _ _ hk
  rw [World.size_alloc] at h4
  exact h v' w' h1 hg h4

theorem wpList_append1_n {P : Program} {ops : Array Oper} {rest : List Oper} {o : Oper} {a : Act} {Q : Exit → Act → World → Prop} (hgd : o.guard = none) (s x : Operand) (t : TypeId)
    (ho : o.op = .call { callee := .builtin .append, args := #[s, x], argTypes := #[t, t] }) (e T : TypeId) (z : Value) (bytes : Nat) (ht : P.underlying t = some (.slice e)) (hi : (P.info? e).map (fun i => (i.zero, i.size, i.bytes)) = some (some z, 1, bytes)) (hzs : z.cells.size = 1)
    (B : Nat) (w : World) (N : Nat) (hN : w.heap.size = N) (v : Value) (n : Nat) (xs : List Value) (u : Value) (hs : a.eval s = v) (hx : a.eval x = .slice (some ⟨N, 0, none⟩) 1 1) (hrow : w.ownsRow B e 1 v n xs) (hBw : B ≤ N)
    (hu : u.oneCell' = true) (hmax : n + 1 ≤ 9223372036854775807) (hbytes : (n + 1) * bytes ≤ 140737488355328)
    (h : ∀ v' w', w'.ownsRow B e 1 v' (n + 1) (xs ++ [u]) → w.grownBy w' v.ownBlock → (v'.ownBlock = v.ownBlock ∨ v'.ownBlock = some (N + 1)) → wpList P ops Q rest (a.put o.dst v') w') :
    wpList P ops Q (o :: rest) a (w.alloc (.cells #[u] T)) := by
  subst hN
  exact wpList_append1_at hgd s x t ho e T z bytes ht hi hzs B w v n xs u hs hx hrow hBw hu hmax hbytes h

end Go.Proofs.YtcpjonglfnakpaaDoor
