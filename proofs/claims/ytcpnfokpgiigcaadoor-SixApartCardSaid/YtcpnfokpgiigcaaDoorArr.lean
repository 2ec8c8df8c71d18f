/- Arrays of ints as values and as cells. No program in sight. -/
import Derived.Test.YtcpnfokpgiigcaaDoorB0
import Derived.ChangeKeysEq
namespace Go.Proofs.YtcpnfokpgiigcaaDoor
open Go.RowKit Go.ChangeMaps

def ints (l : List Int) : List Value := l.map fun n => .int .i64 n
theorem ints_length (l : List Int) : (ints l).length = l.length := by simp [ints]
theorem ints_append (l m : List Int) : ints (l ++ m) = ints l ++ ints m := by simp [ints]
theorem ints_get {l : List Int} {i : Nat} {x : Int} (h : l[i]? = some x) : (ints l)[i]? = some (.int .i64 x) := by simp [ints, h]
theorem ints_set (l : List Int) (i : Nat) (x : Int) : (ints l).set i (.int .i64 x) = ints (l.set i x) := by simp [ints, List.map_set]
/-- A block that holds ints. -/
def IntRow (w : World) (b : Nat) (T : TypeId) (l : List Int) : Prop := w.heap[b]? = some (.cells (ints l).toArray T (0, 0))
namespace IntRow
variable {w w' : World} {b : Nat} {T : TypeId} {l : List Int}
theorem cell (h : IntRow w b T l) {k : Nat} {x : Int} (hk : l[k]? = some x) : w.cell? ⟨b, k, none⟩ = some (.int .i64 x) := by
  rw [cell_of_row w b k _ T _ h]; simpa using ints_get hk
theorem free (h : IntRow w b T l) (k : Nat) : w.frozen? ⟨b, k, none⟩ = false := by unfold IntRow at h; simp [World.frozen?, h]
theorem lt (h : IntRow w b T l) : b < w.heap.size := lt_of_block h
theorem set (h : IntRow w b T l) (k : Nat) (x : Int) : IntRow (w.setCell ⟨b, k, none⟩ (.int .i64 x)) b T (l.set k x) := by
  unfold IntRow
  rw [heap_setCell_same w b k _ T _ h, ← ints_set]; simp
theorem alloc (h : IntRow w b T l) (o : Obj) : IntRow (w.alloc o) b T l := block_alloc h o
theorem other (h : IntRow w b T l) (a : Addr) (ha : b ≠ a.block) (u : Value) : IntRow (w.setCell a u) b T l := block_setCell h a ha u
theorem below (h : IntRow w b T l) {B : Nat} (hb : Below B w w') (hlt : b < B) : IntRow w' b T l := block_below h hb hlt
theorem new (w : World) (T : TypeId) (l : List Int) : IntRow (w.alloc (.cells (ints l).toArray T)) w.heap.size T l := heap_alloc_new w _
end IntRow
/-- An element of an array by value. -/
theorem run_index_ints {P : Program} {w : World} {T e : TypeId} {n : Nat} (hu : P.underlying T = some (.array n e)) (hi : (P.info? e).isSome = true) (hc : P.cellsOf e = 1) (he : P.plainKey e = true)
    {l : List Int} (hl : l.length = n) {k : Nat} {x : Int} (hx : l[k]? = some x) : (Instr.index T (.agg (ints l).toArray) (.int .i64 k)).run P w = .ok (.int .i64 x) w := by
  obtain ⟨i, hi⟩ := Option.isSome_iff_exists.1 hi
  have hk : k < n := by have := (List.getElem?_eq_some_iff.1 hx).1; omega
  have hv : (ints l).toArray[k * P.cellsOf e]? = some (.int .i64 x) := by rw [hc, Nat.mul_one]; simpa using ints_get hx
  simp [Instr.index, Sem.run_bind, asIntOf, run_underlying hu w, hk, run_sizeOf w hi, run_part_plain w he hv]

theorem run_eqItems_ints {P : Program} {w : World} {e : TypeId} {k' : IntKind} (hu : P.underlying e = some (.int k')) (hc : P.cellsOf e = 1) (he : P.plainKey e = true) (d : Nat) {p q : List Int} :
    ∀ is : List Nat, (∀ i ∈ is, i < p.length ∧ i < q.length) → (Op.eqItems (d + 1) e (P.cellsOf e) (ints p).toArray (ints q).toArray is).run P w = .ok (is.all fun i => p[i]? == q[i]?) w
  | [], _ => by simp [Op.eqItems]
  | i :: is, h => by
    obtain ⟨h1, h2⟩ := h i (by simp)
    obtain ⟨x, hx⟩ : ∃ x, p[i]? = some x := ⟨_, List.getElem?_eq_getElem h1⟩
    obtain ⟨y, hy⟩ : ∃ y, q[i]? = some y := ⟨_, List.getElem?_eq_getElem h2⟩
    have e1 : (ints p).toArray[i * P.cellsOf e]? = some (.int .i64 x) := by rw [hc, Nat.mul_one]; simpa using ints_get hx
    have e2 : (ints q).toArray[i * P.cellsOf e]? = some (.int .i64 y) := by rw [hc, Nat.mul_one]; simpa using ints_get hy
    have ih := run_eqItems_ints (w := w) hu hc he d (p := p) (q := q) is fun j hj => h j (by simp [hj])
    simp only [Op.eqItems, Sem.run_bind, run_part_plain w he e1, run_part_plain w he e2, Result.andThen_ok, run_equalIn_int w d e _ k' x y hu, List.all_cons, hx, hy]
    by_cases hxy : x = y
    · subst hxy
      simpa using ih
    · have : (x == y) = false := beq_eq_false_iff_ne.2 hxy
      simp [hxy]
/-- Two arrays of ints are compared. -/
theorem run_equalIn_ints {P : Program} {w : World} {T e : TypeId} {n : Nat} {k' : IntKind} (hT : P.underlying T = some (.array n e)) (hi : (P.info? e).isSome = true) (hu : P.underlying e = some (.int k')) (hc : P.cellsOf e = 1) (he : P.plainKey e = true)
    {p q : List Int} (hp : p.length = n) (hq : q.length = n) : (Op.equalIn 10000 T (.agg (ints p).toArray) (.agg (ints q).toArray)).run P w = .ok (p == q) w := by
  obtain ⟨i, hi⟩ := Option.isSome_iff_exists.1 hi
  rw [run_equalIn_array w 9999 (ints p).toArray (ints q).toArray hT hi, run_eqItems_ints hu hc he 9998 (List.range n) fun j hj => by rw [List.mem_range] at hj; omega]
  refine congrArg (fun b => Result.ok b w) ?_
  rw [Bool.eq_iff_iff, List.all_eq_true, beq_iff_eq]
  constructor
  · intro h
    apply List.ext_getElem?
    intro j
    rcases Nat.lt_or_ge j n with hj | hj
    · have := h j (List.mem_range.2 hj)
      rw [List.getElem?_eq_getElem (by omega), List.getElem?_eq_getElem (by omega)] at this ⊢
      simpa using this
    · rw [List.getElem?_eq_none (by omega), List.getElem?_eq_none (by omega)]
  · rintro rfl j _
    simp

/-- Slices of an array of ints. -/
theorem run_sliceAt_from {P : Program} {T e : TypeId} {n : Nat} (hT : P.underlying T = some (.array n e)) (hi : (P.info? e).isSome = true) (hc : P.cellsOf e = 1) (b k : Nat) (hk : k < n) (w : World) :
    (Instr.sliceAt T (.pointer (some ⟨b, 0, none⟩)) (some (.int .i64 k)) none none).run P w = .ok (.slice (some ⟨b, k, none⟩) (n - k) (n - k)) w := by
  obtain ⟨i, hi⟩ := Option.isSome_iff_exists.1 hi
  have e1 : P.arrayLen T = n := by unfold Program.arrayLen; rw [hT]
  have e2 : P.elem T = e := by unfold Program.elem; rw [hT]
  rw [run_sliceAt_array_l w T ⟨b, 0, none⟩ (by rw [e1, e2]; exact hT) .i64 (k : Int) (by omega) (by rw [e1]; omega), e1, e2, run_sizeOf w hi, hc]
  simp only [Result.andThen_ok, slicedAt, Int.toNat_natCast, Nat.mul_one]
  rw [if_neg (by omega), Addr.add_lit, Nat.zero_add]
theorem run_sliceAt_end {P : Program} {T e : TypeId} {n : Nat} (hT : P.underlying T = some (.array n e)) (hi : (P.info? e).isSome = true) (b : Nat) (w : World) :
    (Instr.sliceAt T (.pointer (some ⟨b, 0, none⟩)) (some (.int .i64 n)) none none).run P w = .ok (.slice (some ⟨b, 0, none⟩) 0 0) w := by
  obtain ⟨i, hi⟩ := Option.isSome_iff_exists.1 hi
  have e1 : P.arrayLen T = n := by unfold Program.arrayLen; rw [hT]
  have e2 : P.elem T = e := by unfold Program.elem; rw [hT]
  rw [run_sliceAt_array_l w T ⟨b, 0, none⟩ (by rw [e1, e2]; exact hT) .i64 (n : Int) (by omega) (by rw [e1]; omega), e1, e2, run_sizeOf w hi]
  simp only [Result.andThen_ok, slicedAt, Int.toNat_natCast]
  rw [if_pos trivial, Nat.sub_self]
theorem run_sliceAt_upto {P : Program} {T e : TypeId} {n : Nat} (hT : P.underlying T = some (.array n e)) (hi : (P.info? e).isSome = true) (b k : Nat) (hk : k ≤ n) (w : World) :
    (Instr.sliceAt T (.pointer (some ⟨b, 0, none⟩)) none (some (.int .i64 k)) none).run P w = .ok (.slice (some ⟨b, 0, none⟩) k n) w := by
  obtain ⟨i, hi⟩ := Option.isSome_iff_exists.1 hi
  have e1 : P.arrayLen T = n := by unfold Program.arrayLen; rw [hT]
  have e2 : P.elem T = e := by unfold Program.elem; rw [hT]
  rw [run_sliceAt_array_h w T ⟨b, 0, none⟩ (by rw [e1, e2]; exact hT) .i64 (k : Int) (by omega) (by rw [e1]; omega), e1, e2, run_sizeOf w hi]
  simp only [Result.andThen_ok, slicedAt, Int.toNat_natCast, Nat.zero_mul, Addr.add_zero', ite_self, Nat.sub_zero]
theorem run_sliceAt_all {P : Program} {T e : TypeId} {n : Nat} (hT : P.underlying T = some (.array n e)) (hi : (P.info? e).isSome = true) (b : Nat) (w : World) :
    (Instr.sliceAt T (.pointer (some ⟨b, 0, none⟩)) none none none).run P w = .ok (.slice (some ⟨b, 0, none⟩) n n) w := by
  obtain ⟨i, hi⟩ := Option.isSome_iff_exists.1 hi
  have e1 : P.arrayLen T = n := by unfold Program.arrayLen; rw [hT]
  have e2 : P.elem T = e := by unfold Program.elem; rw [hT]
  rw [run_sliceAt_array_all w T ⟨b, 0, none⟩ (by rw [e1, e2]; exact hT), e1, e2, run_sizeOf w hi]
  simp only [Result.andThen_ok, slicedAt, Nat.zero_mul, Addr.add_zero', ite_self, Nat.sub_zero]

end Go.Proofs.YtcpnfokpgiigcaaDoor
