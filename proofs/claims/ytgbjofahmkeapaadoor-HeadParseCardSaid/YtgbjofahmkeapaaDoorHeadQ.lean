/- Head, plain: lines read and written. -/
import Derived.Test.YtgbjofahmkeapaaDoorHeadP
import Derived.Test.YtgbjofahmkeapaaDoorHeadU
import Derived.Test.YtgbjofahmkeapaaDoorLaw13a
import Derived.Lib.IndexMore
namespace Go.Proofs.YtgbjofahmkeapaaDoor
set_option linter.unusedVariables false
set_option linter.unnecessarySimpa false
set_option linter.unusedSimpArgs false

theorem upto_shift {α : Type} (f : Nat → α) (n : Nat) : upto f (n + 1) = f 0 :: upto (fun k => f (k + 1)) n := by
  unfold upto
  rw [List.range_succ_eq_map, List.map_cons, List.map_map]
  rfl
theorem restK_shift {raw r : List UInt8} (h : (Lib.cut raw crlf).2.1 = r) : ∀ k, restK raw (k + 1) = restK r k
  | 0 => h
  | k + 1 => by
    show (Lib.cut (restK raw (k + 1)) crlf).2.1 = (Lib.cut (restK r k) crlf).2.1
    rw [restK_shift h k]
theorem parse_cons {raw l r : List UInt8} {b : Bool} (hne : raw ≠ []) (h : Lib.cut raw crlf = (l, r, b)) :
    parseHd raw = match fieldOf (l, b) with
      | none => ([], false)
      | some f => if (parseHd r).2 = true then (f :: (parseHd r).1, true) else ([], false) := by
  have hs := restK_shift (raw := raw) (r := r) (by rw [h])
  have hnl : nl raw = nl r + 1 := nl_of (fun j hj => by
    cases j with
    | zero => exact hne
    | succ j => rw [hs]; exact nl_ne (by omega)) (by rw [hs]; exact nl_end r)
  have h0 : lineAt raw 0 = (l, b) := by
    show ((Lib.cut raw crlf).1, (Lib.cut raw crlf).2.2) = _
    rw [h]
  have hl : linesL raw = (l, b) :: linesL r := by
    unfold linesL
    rw [hnl, upto_shift, h0]
    congr 2
    funext k
    unfold lineAt
    rw [hs]
  unfold parseHd
  rw [hl]
  cases hf : fieldOf (l, b) with
  | none => simp [hf]
  | some f =>
    by_cases hr : ((linesL r).all fun x => (fieldOf x).isSome) = true
    · simp only [List.all_cons, hf, hr, List.filterMap_cons, Option.isSome_some, Bool.and_self, if_true]
    · simp [hf, hr]
theorem parse_nil : parseHd [] = ([], true) := by decide +kernel
theorem parse_no {raw : List UInt8} (h : (parseHd raw).2 = false) : parseHd raw = ([], false) := by
  unfold parseHd at *
  split at h
  · cases h
  · rename_i hn
    rw [if_neg hn]
theorem fieldOf_some {x : List UInt8 × Bool} {f : Fld} (h : fieldOf x = some f) : x.2 = true ∧ nameB f.1 = true ∧ valueB f.2 = true := by
  unfold fieldOf at h
  split at h
  · rename_i hc
    cases h
    exact ⟨hc.1, hc.2.2.1, hc.2.2.2⟩
  · cases h
theorem parse_fields {raw : List UInt8} : ∀ f ∈ (parseHd raw).1, nameB f.1 = true ∧ valueB f.2 = true := by
  intro f hf
  unfold parseHd at hf
  split at hf
  · obtain ⟨x, _, hx⟩ := List.mem_filterMap.1 hf
    exact (fieldOf_some hx).2
  · cases hf
theorem cut_app {a l r : List UInt8} (h : Lib.cut a crlf = (l, r, true)) (b : List UInt8) : Lib.cut (a ++ b) crlf = (l, r ++ b, true) := by
  rcases cut_ways a crlf with ⟨hc, _⟩ | ⟨i, hi, hc⟩
  · rw [hc] at h; cases h
  · rw [hc] at h
    cases h
    obtain ⟨ho, hbef⟩ : Lib.occAt a crlf i = true ∧ ∀ j, j < i → Lib.occAt a crlf j = false := by
      rcases Lib.index_spec a crlf with ⟨e, _⟩ | ⟨i', e, _, h1, h2⟩
      · omega
      · obtain rfl : i' = i := by omega
        exact ⟨h1, h2⟩
    obtain ⟨h1, h2⟩ := (occ_crlf a i).1 ho
    have hlen := (List.getElem?_eq_some_iff.1 h2).1
    have hx : Lib.index (a ++ b) crlf = i := Lib.index_first (by rw [List.length_append]; omega) ((occ_crlf _ _).2 ⟨by rw [List.getElem?_append_left (by omega)]; exact h1, by rw [List.getElem?_append_left (by omega)]; exact h2⟩) fun j hj => by
      rw [Bool.eq_false_iff]
      intro e
      obtain ⟨e1, e2⟩ := (occ_crlf _ _).1 e
      rw [List.getElem?_append_left (by omega)] at e1 e2
      have := hbef j hj
      rw [(occ_crlf a j).2 ⟨e1, e2⟩] at this
      cases this
    rcases cut_ways (a ++ b) crlf with ⟨_, e⟩ | ⟨j, e, hc2⟩
    · omega
    · obtain rfl : j = i := by omega
      rw [hc2, List.take_append_of_le_length (by omega), List.drop_append_of_le_length (by show j + 2 ≤ _; omega)]
theorem parse_app (b : List UInt8) : ∀ (n : Nat) (a : List UInt8), a.length ≤ n → ∀ X, parseHd a = (X, true) → parseHd (a ++ b) = if (parseHd b).2 = true then (X ++ (parseHd b).1, true) else ([], false)
  | n, [], _, X, h => by
    rw [parse_nil] at h
    cases h
    cases hb : (parseHd b).2
    · rw [List.nil_append, parse_no hb, if_neg (by decide)]
    · rw [List.nil_append, List.nil_append, if_pos rfl]
      exact Prod.ext rfl hb
  | 0, c :: a, hn, _, _ => by simp at hn
  | n + 1, c :: a, hn, X, h => by
    obtain ⟨l, r, t, hc⟩ : ∃ l r t, Lib.cut (c :: a) crlf = (l, r, t) := ⟨_, _, _, rfl⟩
    have hless := cut_less (l := c :: a) (sep := crlf) (by simp) (by decide)
    rw [hc] at hless
    rw [parse_cons (by simp) hc] at h
    cases hf : fieldOf (l, t) with
    | none => rw [hf] at h; cases h
    | some f =>
      rw [hf] at h
      dsimp only at h
      obtain rfl : t = true := (fieldOf_some hf).1
      cases hr : (parseHd r).2
      · rw [hr, if_neg (by decide)] at h; cases h
      · rw [hr, if_pos rfl] at h
        cases h
        have ih := parse_app b n r (by dsimp only at hless; omega) (parseHd r).1 (Prod.ext rfl hr)
        rw [parse_cons (by simp) (cut_app hc b), hf]
        dsimp only
        rw [ih]
        cases hb : (parseHd b).2
        · rfl
        · rfl
/-- A field, written as a line. -/
def lineF (f : Fld) : List UInt8 := f.1 ++ [58, 32] ++ f.2 ++ [13, 10]
def writeL (l : List Fld) : List UInt8 := l.flatMap lineF
theorem no_cr {f : Fld} (hn : nameB f.1 = true) (hv : valueB f.2 = true) (p : Nat) : (f.1 ++ [58, 32] ++ f.2)[p]? ≠ some 13 := by
  intro h
  have hm := List.mem_of_getElem? h
  rcases List.mem_append.1 hm with hm | hm
  · rcases List.mem_append.1 hm with hm | hm
    · obtain ⟨i, hi⟩ := List.getElem?_of_mem hm
      have := (name_byte hn hi).1
      exact absurd this (by decide)
    · exact absurd hm (by decide)
  · obtain ⟨i, hi⟩ := List.getElem?_of_mem hm
    exact (value_byte hv hi).2.1 (by decide)
theorem line_cut {f : Fld} (hn : nameB f.1 = true) (hv : valueB f.2 = true) (rest : List UInt8) : Lib.cut (lineF f ++ rest) crlf = (f.1 ++ [58, 32] ++ f.2, rest, true) := by
  have e : lineF f ++ rest = (f.1 ++ [58, 32] ++ f.2) ++ (13 :: 10 :: rest) := by unfold lineF; simp
  rw [e]
  generalize hb : f.1 ++ [58, 32] ++ f.2 = body
  have hno := fun p => no_cr hn hv p
  rw [hb] at hno
  have hi : Lib.index (body ++ 13 :: 10 :: rest) crlf = body.length := Lib.index_first (by simp) ((occ_crlf _ _).2 ⟨by simp, by rw [List.getElem?_append_right (by omega)]; simp⟩) fun j hj => by
    rw [Bool.eq_false_iff]
    intro h
    have := ((occ_crlf _ _).1 h).1
    rw [List.getElem?_append_left hj] at this
    exact hno j this
  rcases cut_ways (body ++ 13 :: 10 :: rest) crlf with ⟨_, e⟩ | ⟨j, e, hc⟩
  · omega
  · obtain rfl : j = body.length := by omega
    rw [hc, List.take_left, List.drop_append]
    simp [crlf]
theorem line_field {f : Fld} (hn : nameB f.1 = true) (hv : valueB f.2 = true) : fieldOf (f.1 ++ [58, 32] ++ f.2, true) = some f := by
  have hc : Lib.cut (f.1 ++ [58, 32] ++ f.2) [58] = (f.1, 32 :: f.2, true) := by
    have h := cut58_hit (l := f.1 ++ [58, 32] ++ f.2) (n := f.1.length) (by simp) (fun j hj h => by
      rw [List.append_assoc, List.getElem?_append_left hj] at h
      exact (name_byte hn h).2.2.1 (by decide))
    rw [h]
    simp
  have ht : trim2 (32 :: f.2) = f.2 := by
    rw [trim2_alt, List.dropWhile_cons, if_pos (by decide), ← trim2_alt]
    unfold valueB at hv
    rw [Bool.and_eq_true] at hv
    exact eq_of_beq hv.2
  unfold fieldOf
  rw [hc]
  dsimp only
  rw [ht, if_pos ⟨rfl, rfl, hn, hv⟩]
theorem parse_write : ∀ (l : List Fld), (∀ f ∈ l, nameB f.1 = true ∧ valueB f.2 = true) → parseHd (writeL l) = (l, true)
  | [], _ => parse_nil
  | f :: l, h => by
    obtain ⟨hn, hv⟩ := h f List.mem_cons_self
    have e : writeL (f :: l) = lineF f ++ writeL l := rfl
    rw [e, parse_cons (by unfold lineF; simp) (line_cut hn hv (writeL l)), line_field hn hv, parse_write l (fun g hg => h g (List.mem_cons_of_mem _ hg))]
    rfl
theorem write_step {l : List Fld} {k : Nat} {f : Fld} (h : l[k]? = some f) : writeL (l.take (k + 1)) = writeL (l.take k) ++ lineF f := by
  unfold writeL
  rw [List.take_add_one, h, List.flatMap_append]
  simp
theorem write_len {m : Nat} : ∀ (l : List Fld), (∀ f ∈ l, f.1.length ≤ m ∧ f.2.length ≤ m) → (writeL l).length ≤ l.length * (m + m + 4)
  | [], _ => Nat.zero_le _
  | f :: l, h => by
    have h1 := h f List.mem_cons_self
    have h2 := write_len l (fun g hg => h g (List.mem_cons_of_mem _ hg))
    have e : writeL (f :: l) = lineF f ++ writeL l := rfl
    rw [e, List.length_append, List.length_cons, Nat.succ_mul]
    unfold lineF
    simp only [List.length_append, List.length_cons, List.length_nil]
    omega
theorem field_len {raw : List UInt8} : ∀ f ∈ (parseHd raw).1, f.1.length ≤ raw.length ∧ f.2.length ≤ raw.length := by
  intro f hf
  unfold parseHd at hf
  split at hf
  · obtain ⟨x, hx, e⟩ := List.mem_filterMap.1 hf
    obtain ⟨k, _, rfl⟩ := upto_mem hx
    have hl := lineAt_len raw k
    unfold fieldOf at e
    split at e
    · cases e
      have hc := cut_lens (lineAt raw k).1 [58]
      have ht := trim2_len (Lib.cut (lineAt raw k).1 [58]).2.1
      dsimp only
      omega
    · cases e
  · cases hf

end Go.Proofs.YtgbjofahmkeapaaDoor
