/- Head: the reference's Parse. -/
import Derived.Test.YtgbjofahmkeapaaDoorLaw13b
namespace Go.Proofs.YtgbjofahmkeapaaDoor
open Go.RowKit Go.Proofs.YtgbjofahmkeapaaDoorW.PrintWords
set_option linter.unusedVariables false
set_option linter.unnecessarySimpa false

theorem occ_crlf (l : List UInt8) (i : Nat) : Lib.occAt l crlf i = true ↔ l[i]? = some 13 ∧ l[i + 1]? = some 10 := by
  unfold Lib.occAt crlf
  rcases Nat.lt_or_ge i l.length with h | h
  · rw [List.drop_eq_getElem_cons h, List.getElem?_eq_getElem h]
    rcases Nat.lt_or_ge (i + 1) l.length with h2 | h2
    · rw [List.drop_eq_getElem_cons h2, List.getElem?_eq_getElem h2]
      simp [List.isPrefixOf]
      constructor
      · rintro ⟨e1, e2⟩; exact ⟨e1.symm, e2.symm⟩
      · rintro ⟨e1, e2⟩; exact ⟨e1.symm, e2.symm⟩
    · rw [List.drop_eq_nil_of_le h2, List.getElem?_eq_none h2]; simp [List.isPrefixOf]
  · rw [List.drop_eq_nil_of_le h, List.getElem?_eq_none h]; simp [List.isPrefixOf]
theorem occ_drop (l sub : List UInt8) (n j : Nat) : Lib.occAt (l.drop n) sub j = Lib.occAt l sub (n + j) := by
  unfold Lib.occAt
  rw [List.drop_drop]
theorem mem_upto {α : Type} {f : Nat → α} {n k : Nat} (h : k < n) : f k ∈ upto f n := List.mem_map.2 ⟨k, List.mem_range.2 h, rfl⟩
structure PInv (raw : List UInt8) (k from_ i : Nat) (out : List Fld) : Prop where
  rest : raw.drop from_ = restK raw k
  ne : ∀ j, j < k → restK raw j ≠ []
  ok : ∀ j, j < k → (fieldOf (lineAt raw j)).isSome = true
  fields : out = (upto (lineAt raw) k).filterMap fieldOf
  no : ∀ p, from_ ≤ p → p < i → Lib.occAt raw crlf p = false
  here : from_ ≤ i ∨ (i + 1 = from_ ∧ raw[i]? = some 10)
theorem pinv_start (raw : List UInt8) : PInv raw 0 0 0 [] := ⟨rfl, (fun _ h => absurd h (Nat.not_lt_zero _)), (fun _ h => absurd h (Nat.not_lt_zero _)), rfl, (fun _ _ h => absurd h (Nat.not_lt_zero _)), .inl (Nat.le_refl _)⟩
section
variable {raw : List UInt8} {k from_ i : Nat} {out : List Fld} (h : PInv raw k from_ i out)
include h
theorem PInv.skip (hn : Lib.occAt raw crlf i = false) : PInv raw k from_ (i + 1) out :=
  ⟨h.rest, h.ne, h.ok, h.fields, (fun p h1 h2 => by
    rcases Nat.lt_or_ge p i with h3 | h3
    · exact h.no p h1 h3
    · obtain rfl : p = i := by omega
      exact hn), .inl (by rcases h.here with h1 | ⟨h1, _⟩ <;> omega)⟩
theorem PInv.le : k ≤ nl raw := by
  rcases Nat.lt_or_ge (nl raw) k with h1 | h1
  · exact absurd (nl_end raw) (h.ne _ h1)
  · exact h1
theorem PInv.from_le (ho : Lib.occAt raw crlf i = true) : from_ ≤ i := by
  rcases h.here with h1 | ⟨_, h2⟩
  · exact h1
  · rw [((occ_crlf raw i).1 ho).1] at h2
    exact absurd h2 (by decide)
theorem PInv.cut_at (ho : Lib.occAt raw crlf i = true) : Lib.cut (restK raw k) crlf = ((raw.drop from_).take (i - from_), raw.drop (i + 2), true) := by
  have hle := h.from_le ho
  obtain ⟨h13, h10⟩ := (occ_crlf raw i).1 ho
  have hlen := (List.getElem?_eq_some_iff.1 h10).1
  have hi : Lib.index (raw.drop from_) crlf = (i - from_ : Nat) := Lib.index_first (by rw [List.length_drop]; omega) (by rw [occ_drop, show from_ + (i - from_) = i by omega]; exact ho) fun j hj => by
    rw [occ_drop]
    exact h.no _ (by omega) (by omega)
  rw [← h.rest]
  rcases cut_ways (raw.drop from_) crlf with ⟨_, e⟩ | ⟨n, e, hc⟩
  · rw [hi] at e; omega
  · rw [hi] at e
    obtain rfl : n = i - from_ := by omega
    rw [hc, List.drop_drop]
    show (_, List.drop (from_ + (i - from_ + 2)) raw, true) = _
    rw [show from_ + (i - from_ + 2) = i + 2 by omega]
theorem PInv.line (ho : Lib.occAt raw crlf i = true) : lineAt raw k = ((raw.drop from_).take (i - from_), true) := by
  unfold lineAt
  rw [h.cut_at ho]
theorem PInv.lt (ho : Lib.occAt raw crlf i = true) : k < nl raw := nl_lt h.le (by
  have hle := h.from_le ho
  have hlen := (List.getElem?_eq_some_iff.1 ((occ_crlf raw i).1 ho).2).1
  rw [← h.rest]
  intro e
  have := congrArg List.length e
  rw [List.length_drop, List.length_nil] at this
  omega)
theorem PInv.hit (ho : Lib.occAt raw crlf i = true) {f : Fld} (hf : fieldOf ((raw.drop from_).take (i - from_), true) = some f) : PInv raw (k + 1) (i + 2) (i + 1) (out ++ [f]) := by
  have hl := h.line ho
  refine ⟨by show _ = (Lib.cut (restK raw k) crlf).2.1; rw [h.cut_at ho], fun j hj => ?_, fun j hj => ?_, ?_, fun p h1 h2 => by omega, .inr ⟨rfl, ((occ_crlf raw i).1 ho).2⟩⟩
  · rcases Nat.lt_or_ge j k with h1 | h1
    · exact h.ne j h1
    · obtain rfl : j = k := by omega
      exact nl_ne (h.lt ho)
  · rcases Nat.lt_or_ge j k with h1 | h1
    · exact h.ok j h1
    · obtain rfl : j = k := by omega
      rw [hl, hf]; rfl
  · rw [h.fields, upto_succ, List.filterMap_append, hl]
    simp [hf]
omit h in
theorem PInv.bad {x : List UInt8 × Bool} (hk : k < nl raw) (hx : lineAt raw k = x) (hf : fieldOf x = none) : parseHd raw = ([], false) := by
  unfold parseHd
  rw [if_neg]
  intro hall
  have := List.all_eq_true.1 hall (lineAt raw k) (mem_upto hk)
  rw [hx, hf] at this
  exact absurd this (by decide)
theorem PInv.done (hi : raw.length ≤ i) (hf : raw.length ≤ from_) : parseHd raw = (out, true) := by
  have hn : nl raw = k := nl_of h.ne (by rw [← h.rest]; exact List.drop_eq_nil_of_le hf)
  unfold parseHd linesL
  rw [hn, if_pos, h.fields]
  refine List.all_eq_true.2 fun x hx => ?_
  obtain ⟨j, hj, rfl⟩ := upto_mem hx
  exact h.ok j hj
theorem PInv.open_ (hi : raw.length ≤ i) (hf : from_ < raw.length) : parseHd raw = ([], false) := by
  have hne : restK raw k ≠ [] := by
    rw [← h.rest]
    intro e
    have := congrArg List.length e
    rw [List.length_drop, List.length_nil] at this
    omega
  have hix : Lib.index (raw.drop from_) crlf = -1 := Lib.index_none fun j hj => by
    rw [occ_drop]
    rcases Nat.lt_or_ge (from_ + j) i with h1 | h1
    · exact h.no _ (by omega) h1
    · rw [Bool.eq_false_iff]
      intro e
      have := (List.getElem?_eq_some_iff.1 ((occ_crlf raw _).1 e).1).1
      omega
  refine PInv.bad (x := (restK raw k, false)) (nl_lt h.le hne) ?_ ?_
  · unfold lineAt
    rcases cut_ways (restK raw k) crlf with ⟨hc, _⟩ | ⟨n, e, _⟩
    · rw [hc]
    · rw [← h.rest, hix] at e; omega
  · unfold fieldOf
    rw [if_neg (by simp)]
end

theorem ex_mid (x : ByteArray) (a b : Nat) (h : a ≤ b) (hb : b ≤ x.size) : (x.extract a b).data.toList = (x.data.toList.drop a).take (b - a) := by
  rw [ByteArray.data_extract, Array.toList_extract]
theorem out_row {w w1 : World} {B : Nat} {v : Value} {L : List Fld} {o : Obj} (ho : w.ownsRow B 42 2 v L.length (flds L)) (hb : Below w.heap.size w w1) : (w1.alloc o).ownsRow B 42 2 v L.length (flds L) :=
  (row_same ho (fun g _ hg => hb.block g hg)).alloc _

set_option maxHeartbeats 8000000 in
set_option maxRecDepth 100000 in
theorem ref13_Parse (s : ByteArray) (hs : s.size ≤ 1000000) (w : World) :
    Calls Tryd.prog 13 #[.string s] w fun e w' => ∃ v, e = .returned (.tuple #[v, .bool (parseHd s.data.toList).2]) ∧ w'.ownsRow w.heap.size 42 2 v (parseHd s.data.toList).1.length (flds (parseHd s.data.toList).1) ∧ Below w.heap.size w w' := by
  have HSL := Lib.hid (size_list s)
  go_enter Tryd.func13, Tryd.ntmps13
  go_wp2
  go_loopw [4, 5, 6] (fun o f i wr => ∃ k n m : Nat, ∃ out : List Fld, f = .int .i64 n ∧ i = .int .i64 m ∧ m ≤ s.size ∧ n ≤ s.size ∧ out.length ≤ n ∧ Hid (PInv s.data.toList k n m out) ∧ wr.ownsRow w.heap.size 42 2 o out.length (flds out) ∧ Below w.heap.size w wr) (fun _ _ i _ => s.size - (intOf i).toNat)
  case atStart => exact ⟨0, 0, 0, [], rfl, rfl, by omega, by omega, by simp, pinv_start _, World.ownsRow_nil _ _ _ _, Below.refl _ _⟩
  case round =>
    obtain ⟨k, n, m, out, rfl, rfl, hm, hn, hol, hinv, hrow, hbl⟩ := hrel
    by_cases hml : m < s.size
    · obtain ⟨c, hx⟩ : ∃ c, s.data.toList[m]? = some c := ⟨_, List.getElem?_eq_getElem (by have := HSL.out; omega)⟩
      have hg : s[m]'hml = c := get_cons (l := s.data.toList.drop (m + 1)) (by rw [List.drop_eq_getElem_cons (by have := HSL.out; omega), (List.getElem?_eq_some_iff.1 hx).2]) _
      have HX := Lib.hid hx
      clear hx
      by_cases h13 : c.toNat = 13
      · have q0 : ((c.toNat : Int) != 13) = false := by rw [h13]; rfl
        obtain rfl : c = 13 := UInt8.toNat_inj.1 h13
        clear h13
        by_cases hm1 : m + 1 < s.size
        · have q1 : ((m : Int) + 1 == (s.size : Int)) = false := beq_eq_false_iff_ne.2 (by omega)
          obtain ⟨d, hy⟩ : ∃ d, s.data.toList[m + 1]? = some d := ⟨_, List.getElem?_eq_getElem (by have := HSL.out; omega)⟩
          have hgd : s[m + 1]'hm1 = d := get_cons (l := s.data.toList.drop (m + 1 + 1)) (by rw [List.drop_eq_getElem_cons (by have := HSL.out; omega), (List.getElem?_eq_some_iff.1 hy).2]) _
          have HY := Lib.hid hy
          clear hy
          by_cases h10 : d.toNat = 10
          · have q2 : ((d.toNat : Int) != 10) = false := by rw [h10]; rfl
            obtain rfl : d = 10 := UInt8.toNat_inj.1 h10
            clear h10
            have hocc := Lib.hid ((occ_crlf s.data.toList m).2 ⟨HX.out, HY.out⟩)
            have hle : n ≤ m := hinv.out.from_le hocc.out
            have hle2 : (n : Int) ≤ (m : Int) := by omega
            have hle3 : (m : Int) ≤ (s.size : Int) := by omega
            have hF := fun w1 => ref13_field (s.extract n m) (by rw [size_list, ex_mid s n m hle (by omega), List.length_take, List.length_drop]; have := HSL.out; omega) w1
            rw [ex_mid s n m hle (by omega)] at hF
            have hfo := fieldR_of ((s.data.toList.drop n).take (m - n))
            have hw2 : IntKind.i64.wrap ((m : Int) + 2) = (m : Int) + 2 := by rw [IntKind.wrap_i64]; omega
            generalize fieldR ((s.data.toList.drop n).take (m - n)) = fr at *
            obtain ⟨⟨fa, fb⟩, is⟩ := fr
            cases is
            · have hbad := Lib.hid (PInv.bad (hinv.out.lt hocc.out) (hinv.out.line hocc.out) (by simpa using hfo))
              clear hfo
              go_wp2_with (first | (go_at_call 34; refine (hF _).mono ?_; rintro e w1 ⟨rfl, hb1⟩))
              go_ret2
              refine ⟨_, by rw [hbad.out]; rfl, by rw [hbad.out]; exact World.ownsRow_nil _ _ _ _, ?_⟩
              exact hbl.trans ((hb1.mono hbl.size).alloc (Nat.le_trans hbl.size hb1.size) _)
            · have hhit := Lib.hid (hinv.out.hit hocc.out (f := (fa, fb)) (by simpa using hfo))
              clear hfo
              go_wp2_with (first | (go_at_call 34; refine (hF _).mono ?_; rintro e w1 ⟨rfl, hb1⟩; have hrow1 := out_row (o := .cells #[.string ⟨fa.toArray⟩, .string ⟨fb.toArray⟩] 42) hrow hb1; have hbw := hbl.trans ((hb1.mono hbl.size).alloc (Nat.le_trans hbl.size hb1.size) (.cells #[.string ⟨fa.toArray⟩, .string ⟨fb.toArray⟩] 42)); have hnew := heap_alloc_new w1 (.cells #[.string ⟨fa.toArray⟩, .string ⟨fb.toArray⟩] 42); have c0 : (w1.alloc (.cells #[.string ⟨fa.toArray⟩, .string ⟨fb.toArray⟩] 42)).cell? ⟨w1.heap.size, 0, none⟩ = some (.string ⟨fa.toArray⟩) := (by rw [cell_of_row _ _ _ _ _ _ hnew]; rfl); have c1 : (w1.alloc (.cells #[.string ⟨fa.toArray⟩, .string ⟨fb.toArray⟩] 42)).cell? ⟨w1.heap.size, 1, none⟩ = some (.string ⟨fb.toArray⟩) := (by rw [cell_of_row _ _ _ _ _ _ hnew]; rfl); clear hnew) | (at_builtin; refine wpList_appendF rfl _ _ rfl _ w.heap.size (w1.alloc (.cells #[.string ⟨fa.toArray⟩, .string ⟨fb.toArray⟩] 42)) (w1.heap.size + 1) (World.size_alloc _ _) _ out (fa, fb) (by rfl) (by rfl) hrow1 hbw.size (by omega) ?_; intro v2 w2 ho2 hg2 _; have hb2 := own_below hrow1 hbw.size hg2))
              refine ⟨⟨k + 1, m + 2, m + 1, out ++ [(fa, fb)], by go_num, by go_num, by omega, by omega, by rw [List.length_append, List.length_singleton]; omega, hhit.out, ho2, hbw.trans hb2⟩, by simp [intOf]; omega⟩
          · have q2 : ((d.toNat : Int) != 10) = true := bne_iff_ne.2 (by omega)
            have hsk := Lib.hid (hinv.out.skip (by
              rw [Bool.eq_false_iff]; intro e
              have := ((occ_crlf _ _).1 e).2
              rw [HY.out] at this
              exact h10 (by rw [Option.some.inj this]; rfl)))
            clear h10
            go_wp2
            exact ⟨⟨k, n, m + 1, out, rfl, by go_num, by omega, hn, hol, hsk.out, hrow, hbl⟩, by simp [intOf]; omega⟩
        · have q1 : ((m : Int) + 1 == (s.size : Int)) = true := beq_iff_eq.2 (by omega)
          have hsk := Lib.hid (hinv.out.skip (by
            rw [Bool.eq_false_iff]; intro e
            have := (List.getElem?_eq_some_iff.1 ((occ_crlf _ _).1 e).2).1
            have := HSL.out
            omega))
          go_wp2
          exact ⟨⟨k, n, m + 1, out, rfl, by go_num, by omega, hn, hol, hsk.out, hrow, hbl⟩, by simp [intOf]; omega⟩
      · have q0 : ((c.toNat : Int) != 13) = true := bne_iff_ne.2 (by omega)
        have hsk := Lib.hid (hinv.out.skip (by
          rw [Bool.eq_false_iff]; intro e
          have := ((occ_crlf _ _).1 e).1
          rw [HX.out] at this
          exact h13 (by rw [Option.some.inj this]; rfl)))
        clear h13
        go_wp2
        exact ⟨⟨k, n, m + 1, out, rfl, by go_num, by omega, hn, hol, hsk.out, hrow, hbl⟩, by simp [intOf]; omega⟩
    · obtain rfl : m = s.size := by omega
      by_cases hnl : n < s.size
      · have hop := Lib.hid (hinv.out.open_ (by have := HSL.out; omega) (by have := HSL.out; omega))
        have q0 : decide ((n : Int) < (s.size : Int)) = true := decide_eq_true (by omega)
        have q0n : decide (n < s.size) = true := decide_eq_true hnl
        go_wp2
        go_ret2
        exact ⟨_, by rw [hop.out]; rfl, by rw [hop.out]; exact World.ownsRow_nil _ _ _ _, hbl⟩
      · have hdn := Lib.hid (hinv.out.done (by have := HSL.out; omega) (by have := HSL.out; omega))
        have q0 : decide ((n : Int) < (s.size : Int)) = false := decide_eq_false (by omega)
        have q0n : decide (n < s.size) = false := decide_eq_false hnl
        go_wp2
        go_ret2
        exact ⟨_, by rw [hdn.out]; rfl, by rw [hdn.out]; exact hrow, hbl⟩

end Go.Proofs.YtgbjofahmkeapaaDoor
