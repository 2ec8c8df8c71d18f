/- Laws of eight pieces with colons: what is shown is parsed, and so on. No program in sight. -/
import Derived.Test.YtcpnfokpgiigcaaDoorSixP
namespace Go.Proofs.YtcpnfokpgiigcaaDoor

theorem colons_nil : colons [] = [] := rfl
theorem colons_one (a : List UInt8) : colons [a] = a := by simp [colons, List.intercalate]
theorem colons_cons (a b : List UInt8) (A : List (List UInt8)) : colons (a :: b :: A) = a ++ 58 :: colons (b :: A) := by simp [colons, List.intercalate]
theorem colons_snoc (a : List UInt8) : ∀ A : List (List UInt8), A ≠ [] → colons (A ++ [a]) = colons A ++ 58 :: a
  | [], h => absurd rfl h
  | [x], _ => by rw [List.singleton_append, colons_cons, colons_one, colons_one]
  | x :: y :: A, _ => by
    have := colons_snoc a (y :: A) (by simp)
    rw [List.cons_append, List.cons_append, colons_cons, colons_cons, ← List.cons_append, this]; simp
def tot (A : List (List UInt8)) : Nat := (A.map List.length).sum
theorem tot_cons (a : List UInt8) (A : List (List UInt8)) : tot (a :: A) = a.length + tot A := rfl
theorem tot_append (A B : List (List UInt8)) : tot (A ++ B) = tot A + tot B := by simp [tot]
theorem colons_len (A : List (List UInt8)) (h : A ≠ []) : (colons A).length + 1 = tot A + A.length := by
  induction A with
  | nil => exact absurd rfl h
  | cons a A ih =>
    cases A with
    | nil => rw [colons_one]; simp [tot]
    | cons b A =>
      rw [colons_cons, tot_cons]
      have := ih (by simp)
      simp only [List.length_append, List.length_cons] at *
      omega

/-- Texts that are not empty and have no colon. -/
def Fair (A : List (List UInt8)) : Prop := ∀ a ∈ A, a ≠ [] ∧ (58 : UInt8) ∉ a
theorem Fair.tail {a : List UInt8} {A : List (List UInt8)} (h : Fair (a :: A)) : Fair A := fun x hx => h x (List.mem_cons_of_mem _ hx)
theorem Fair.take {A : List (List UInt8)} (h : Fair A) (n : Nat) : Fair (A.take n) := fun x hx => h x (List.mem_of_mem_take hx)
theorem Fair.drop {A : List (List UInt8)} (h : Fair A) (n : Nat) : Fair (A.drop n) := fun x hx => h x (List.mem_of_mem_drop hx)
theorem texts_fair (p : List Int) : Fair (texts p) := by
  intro a ha
  obtain ⟨n, _, rfl⟩ := List.mem_map.1 ha
  exact ⟨hexs_ne _, (hexs_all _).2⟩

theorem gapL_free {b : UInt8} (h : b ≠ 58) (l : List UInt8) : gapL (b :: l) = (gapL l).map fun x => (b :: x.1, x.2) := by
  cases l with
  | nil => rfl
  | cons c l => exact gapL_miss (fun e => h e.1) l
theorem gapL_front {a : List UInt8} (h : (58 : UInt8) ∉ a) (l : List UInt8) : gapL (a ++ l) = (gapL l).map fun x => (a ++ x.1, x.2) := by
  induction a with
  | nil => cases h : gapL l <;> simp [h]
  | cons b a ih =>
    rw [List.cons_append, gapL_free (fun e => h (by simp [e])), ih (fun e => h (by simp [e]))]
    cases gapL l <;> simp
theorem gapL_colon {b : UInt8} (h : b ≠ 58) (l : List UInt8) : gapL (58 :: b :: l) = (gapL (b :: l)).map fun x => (58 :: x.1, x.2) := gapL_miss (fun e => h e.2) l
theorem colons_head {b : List UInt8} {A : List (List UInt8)} (h : Fair (b :: A)) : ∃ c t, c ≠ 58 ∧ colons (b :: A) = c :: t := by
  have hb := h b (by simp)
  cases b with
  | nil => exact absurd rfl hb.1
  | cons c t =>
    have hc : c ≠ 58 := fun e => hb.2 (by simp [e])
    cases A with
    | nil => exact ⟨c, t, hc, colons_one _⟩
    | cons x A => exact ⟨c, _, hc, colons_cons _ _ _⟩
/-- Behind texts with colons between the first two colons are the ones that stand there. -/
theorem gapL_colons (r : List UInt8) : ∀ A : List (List UInt8), Fair A → gapL (colons A ++ 58 :: 58 :: r) = some (colons A, r)
  | [], _ => gapL_hit r
  | [a], h => by
    rw [colons_one, gapL_front (h a (by simp)).2, gapL_hit]; simp
  | a :: b :: A, h => by
    have ih := gapL_colons r (b :: A) h.tail
    obtain ⟨c, t, hc, hb⟩ := colons_head h.tail
    rw [colons_cons, List.append_assoc, gapL_front (h a (by simp)).2, List.cons_append, hb, List.cons_append, gapL_colon hc, ← List.cons_append, ← hb, ih]
    simp
theorem gapL_none : ∀ A : List (List UInt8), Fair A → gapL (colons A) = none
  | [], _ => rfl
  | [a], h => by
    rw [colons_one, ← List.append_nil a, gapL_front (h a (by simp)).2]; rfl
  | a :: b :: A, h => by
    have ih := gapL_none (b :: A) h.tail
    obtain ⟨c, t, hc, hb⟩ := colons_head h.tail
    rw [colons_cons, gapL_front (h a (by simp)).2, hb, gapL_colon hc, ← hb, ih]
    rfl
theorem colons_ne {A : List (List UInt8)} (hA : A ≠ []) (h : Fair A) : colons A ≠ [] := by
  intro e
  cases A with
  | nil => exact hA rfl
  | cons a A =>
    have := colons_len (a :: A) (by simp)
    have ha := List.length_pos_iff.2 (h a (by simp)).1
    rw [e, tot_cons] at this
    simp only [List.length_nil, List.length_cons] at this
    omega
/-- Pieces' texts with colons between tell them. -/
theorem pieces_colons (A : List (List UInt8)) (h : ∀ a ∈ A, pieceB a = true ∧ (58 : UInt8) ∉ a) : piecesO (colons A) = some (A.map (valH 0)) := by
  have hf : Fair A := fun a ha => ⟨fun e => by have := (h a ha).1; rw [e] at this; exact Bool.noConfusion this, (h a ha).2⟩
  cases A with
  | nil => rfl
  | cons a A =>
    unfold piecesO
    rw [if_neg (colons_ne (by simp) hf)]
    have e : splitOn 58 (colons (a :: A)) = a :: A := splitOn_of_join 58 _ (by simp) fun p hp => (h p hp).2
    rw [e, if_pos (List.all_eq_true.2 fun p hp => (h p hp).1)]

theorem mayB_mem {p : List Int} (h : mayB p = true) : ∀ n ∈ p, 0 ≤ n ∧ n ≤ 65535 := fun n hn => by
  have := List.all_eq_true.1 h n hn
  simpa using this
theorem texts_piece {p : List Int} (h : ∀ n ∈ p, 0 ≤ n ∧ n ≤ 65535) : ∀ a ∈ texts p, pieceB a = true ∧ (58 : UInt8) ∉ a := by
  intro a ha
  obtain ⟨n, hn, rfl⟩ := List.mem_map.1 ha
  have hb := h n hn
  have hl := hexs_len n.toNat (by omega)
  refine ⟨?_, (hexs_all _).2⟩
  unfold pieceB
  rw [(hexs_all _).1, List.isEmpty_eq_false_iff.2 (hexs_ne _)]
  simp; exact hl.2
theorem texts_val (p : List Int) : (texts p).map (valH 0) = p.map Int.toNat := by
  unfold texts
  rw [List.map_map]
  exact List.map_congr_left fun n _ => hexs_val _

/-- The row is of noughts, and inside. -/
theorem noughts_get : ∀ (l : List Int) (j : Nat), j < noughts l → l[j]? = some 0
  | [], j, h => absurd h (Nat.not_lt_zero _)
  | x :: l, j, h => by
    unfold noughts at h
    split at h
    · rename_i hx
      cases j with
      | zero => rw [hx]; rfl
      | succ j => rw [List.getElem?_cons_succ]; exact noughts_get l j (by omega)
    · exact absurd h (Nat.not_lt_zero _)
theorem noughts_ge : ∀ (l : List Int) (k : Nat), (∀ j, j < k → l[j]? = some 0) → k ≤ noughts l
  | l, 0, _ => Nat.zero_le _
  | [], k + 1, h => by have := h 0 (by omega); simp at this
  | x :: l, k + 1, h => by
    have hx : x = 0 := by have := h 0 (by omega); simpa using this
    have := noughts_ge l k (fun j hj => by have := h (j + 1) (by omega); rwa [List.getElem?_cons_succ] at this)
    rw [noughts, if_pos hx]; omega
/-- What holds of the row behind the places that were looked at. -/
structure RunOk (p : List Int) (i : Nat) (r : Nat × Nat) : Prop where
  zero : r.2 = 0 → r.1 = 0
  one : r.2 ≠ 1
  inside : r.1 + r.2 ≤ p.length
  nought : ∀ j, r.1 ≤ j → j < r.1 + r.2 → p[j]? = some 0
  most : ∀ k, k < i → 2 ≤ noughts (p.drop k) → noughts (p.drop k) < r.2 ∨ noughts (p.drop k) = r.2 ∧ r.1 ≤ k
theorem RunOk.start (p : List Int) : RunOk p 0 (0, 0) := ⟨fun _ => rfl, by decide, Nat.zero_le _, fun j h1 h2 => by simp at h2, fun k hk => absurd hk (Nat.not_lt_zero _)⟩
theorem RunOk.next {p : List Int} {i : Nat} {r : Nat × Nat} (h : RunOk p i r) (hr : r.1 ≤ i) (hi : i < p.length) : RunOk p (i + 1) (if r.2 < noughts (p.drop i) ∧ 1 < noughts (p.drop i) then (i, noughts (p.drop i)) else r) := by
  have hle := noughts_le (p.drop i)
  rw [List.length_drop] at hle
  split
  · rename_i hc
    refine ⟨fun e => by simp at e; omega, by simp; omega, by simp; omega, fun j h1 h2 => ?_, fun k hk h2 => ?_⟩
    · simp at h1 h2
      have := noughts_get (p.drop i) (j - i) (by omega)
      rwa [List.getElem?_drop, show i + (j - i) = j by omega] at this
    · simp
      by_cases e : k = i
      · subst e; right; exact ⟨rfl, Nat.le_refl _⟩
      · rcases h.most k (by omega) h2 with h | h
        · left; omega
        · left; omega
  · rename_i hc
    refine ⟨h.zero, h.one, h.inside, h.nought, fun k hk h2 => ?_⟩
    by_cases e : k = i
    · subst e
      omega
    · exact h.most k (by omega) h2
theorem runFrom_ok (p : List Int) : ∀ (l : List Int) (i : Nat) (r : Nat × Nat), p.drop i = l → i ≤ p.length → r.1 ≤ i → RunOk p i r → RunOk p p.length (runFrom i l r)
  | [], i, r, hl, hi, _, h => by
    have : p.length ≤ i := List.drop_eq_nil_iff.1 hl
    rw [show p.length = i by omega]; exact h
  | x :: l, i, r, hl, hi, hr, h => by
    have hlt : i < p.length := by
      rcases Nat.lt_or_ge i p.length with h' | h'
      · exact h'
      · rw [List.drop_eq_nil_of_le h'] at hl; cases hl
    rw [runFrom_cons, ← hl]
    have hl2 : p.drop (i + 1) = l := by
      rw [List.drop_eq_getElem_cons hlt] at hl
      injection hl
    refine runFrom_ok p l (i + 1) _ hl2 hlt ?_ (h.next hr hlt)
    split
    · exact Nat.le_succ _
    · omega
theorem runR_ok (p : List Int) : RunOk p p.length (runR p) := runFrom_ok p p 0 (0, 0) rfl (Nat.zero_le _) (Nat.le_refl _) (RunOk.start p)
/-- No row of noughts is longer, and none that is as long stands ahead. -/
theorem runR_most (p : List Int) (i k : Nat) (hk : 2 ≤ k) (hi : i + k ≤ p.length) (h : ∀ j, i ≤ j → j < i + k → p[j]? = some 0) : k < (runR p).2 ∨ k = (runR p).2 ∧ (runR p).1 ≤ i := by
  have hn : k ≤ noughts (p.drop i) := noughts_ge _ k fun j hj => by rw [List.getElem?_drop]; exact h (i + j) (by omega) (by omega)
  have := (runR_ok p).most i (by omega) (by omega)
  omega

/-- Pieces about their row. -/
theorem three (p : List Int) (a n : Nat) (hin : a + n ≤ p.length) (h0 : ∀ j, a ≤ j → j < a + n → p[j]? = some 0) : p = p.take a ++ (List.replicate n 0 ++ p.drop (a + n)) := by
  have e : (p.drop a).take n = List.replicate n 0 := by
    apply List.ext_getElem?
    intro j
    rcases Nat.lt_or_ge j n with h | h
    · rw [List.getElem?_take_of_lt h, List.getElem?_drop, h0 (a + j) (by omega) (by omega), List.getElem?_replicate, if_pos h]
    · rw [List.getElem?_eq_none (by simp; omega), List.getElem?_eq_none (by simp; omega)]
  have := List.take_append_drop a p
  have h2 := List.take_append_drop n (p.drop a)
  rw [e, List.drop_drop] at h2
  rw [h2]; exact this.symm

theorem parse_colons {A : List (List UInt8)} (h : ∀ a ∈ A, pieceB a = true ∧ (58 : UInt8) ∉ a) (h8 : A.length = 8) : parseSix (colons A) = (A.map (valH 0), true) := by
  have hf : Fair A := fun a ha => ⟨fun e => by have := (h a ha).1; rw [e] at this; exact Bool.noConfusion this, (h a ha).2⟩
  unfold parseSix
  rw [gapL_none A hf, pieces_colons A h]
  simp [h8]
theorem parse_gap {A B : List (List UInt8)} (h : ∀ a ∈ A, pieceB a = true ∧ (58 : UInt8) ∉ a) (h2 : ∀ a ∈ B, pieceB a = true ∧ (58 : UInt8) ∉ a) (h7 : A.length + B.length ≤ 7) :
    parseSix (colons A ++ [58, 58] ++ colons B) = (A.map (valH 0) ++ List.replicate (8 - A.length - B.length) 0 ++ B.map (valH 0), true) := by
  have hf : Fair A := fun a ha => ⟨fun e => by have := (h a ha).1; rw [e] at this; exact Bool.noConfusion this, (h a ha).2⟩
  unfold parseSix
  rw [List.append_assoc]
  show (match gapL (colons A ++ 58 :: 58 :: colons B) with | none => _ | some (x, y) => _) = _
  rw [gapL_colons _ A hf]
  simp only [pieces_colons A h, pieces_colons B h2]
  rw [if_pos (by simpa using h7)]
  simp
theorem parse_two (l : List UInt8) (k : List Nat) (h : piecesO l = some k) (hk : 8 ≤ k.length) : parseSix (58 :: 58 :: l) = (no8, false) := by
  unfold parseSix
  rw [gapL_hit]
  simp only [h]
  simp [piecesO]; omega

theorem parse_showSix {p : List Int} (h8 : p.length = 8) (h : mayB p = true) : parseSix (showSix p) = (p.map Int.toNat, true) := by
  have hm := mayB_mem h
  have hr := runR_ok p
  unfold showSix
  rw [if_pos h]
  split
  · rw [parse_colons (texts_piece hm) (by simp [texts, h8]), texts_val]
  · rename_i hn
    have hin := hr.inside
    have h1 := hr.one
    rw [h8] at hin
    rw [parse_gap (texts_piece fun n hn => hm n (List.mem_of_mem_take hn)) (texts_piece fun n hn => hm n (List.mem_of_mem_drop hn)) (by simp [texts, h8]; omega)]
    rw [texts_val, texts_val]
    refine congrArg (fun x => (x, true)) ?_
    have e := congrArg (List.map Int.toNat) (three p _ _ (by rw [h8]; exact hin) hr.nought)
    rw [List.map_append, List.map_append, List.map_replicate] at e
    rw [List.append_assoc]
    refine Eq.trans ?_ e.symm
    rw [show 8 - (texts (p.take (runR p).1)).length - (texts (p.drop ((runR p).1 + (runR p).2))).length = (runR p).2 by simp [texts, h8]; omega]
    rfl

end Go.Proofs.YtcpnfokpgiigcaaDoor
