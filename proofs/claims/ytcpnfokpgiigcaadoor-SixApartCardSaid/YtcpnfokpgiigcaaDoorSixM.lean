/- More laws of eight pieces with colons: texts built up piece by piece, lengths, capital letters. No program in sight. -/
import Derived.Test.YtcpnfokpgiigcaaDoorSixL
namespace Go.Proofs.YtcpnfokpgiigcaaDoor

theorem colons_last {A : List (List UInt8)} (hA : A ≠ []) (h : Fair A) : ∃ l c, c ≠ 58 ∧ colons A = l ++ [c] := by
  obtain ⟨B, a, rfl⟩ : ∃ B a, A = B ++ [a] := ⟨_, _, (List.dropLast_concat_getLast hA).symm⟩
  have ha := h a (by simp)
  obtain ⟨l, c, rfl⟩ : ∃ l c, a = l ++ [c] := ⟨_, _, (List.dropLast_concat_getLast ha.1).symm⟩
  have hc : c ≠ 58 := fun e => ha.2 (by simp [e])
  by_cases hB : B = []
  · subst hB; exact ⟨l, c, hc, by rw [List.nil_append, colons_one]⟩
  · exact ⟨colons B ++ 58 :: l, c, hc, by rw [colons_snoc _ _ hB]; simp⟩
/-- The text of the first i of some texts, of which n from place a on are left out. -/
def pref (t : List (List UInt8)) (a n i : Nat) : List UInt8 := if n = 0 ∨ i ≤ a then colons (t.take i) else colons (t.take a) ++ [58, 58] ++ colons ((t.drop (a + n)).take (i - (a + n)))
def step1 (a n i : Nat) (s : List UInt8) : List UInt8 := if 0 < n ∧ i = a then s ++ [58, 58] else s
def needs (s : List UInt8) : Bool := !s.isEmpty && s.getLast? != some 58
def step2 (x s : List UInt8) : List UInt8 := (if needs s = true then s ++ [58] else s) ++ x
theorem needs_nil : needs [] = false := rfl
theorem needs_snoc (l : List UInt8) (c : UInt8) : needs (l ++ [c]) = (c != 58) := by
  unfold needs
  have : (l ++ [c]).isEmpty = false := by simp
  rw [this, List.getLast?_append]; simp [bne]
theorem pref_zero (t : List (List UInt8)) (a n : Nat) : pref t a n 0 = [] := by unfold pref; rw [if_pos (Or.inr (Nat.zero_le _))]; rfl
theorem pref_gap (t : List (List UInt8)) {a n i : Nat} (h1 : a ≤ i) (h2 : i < a + n) : pref t a n (i + 1) = step1 a n i (pref t a n i) := by
  unfold pref step1
  rw [if_neg (by omega), show i + 1 - (a + n) = 0 by omega, List.take_zero, colons_nil, List.append_nil]
  by_cases e : i = a
  · subst e; rw [if_pos (Or.inr (Nat.le_refl _)), if_pos ⟨by omega, rfl⟩]
  · rw [if_neg (by omega), if_neg (by omega), show i - (a + n) = 0 by omega, List.take_zero, colons_nil, List.append_nil]
theorem step2_colons {A : List (List UInt8)} (h : Fair A) (x : List UInt8) : step2 x (colons A) = colons (A ++ [x]) := by
  by_cases hA : A = []
  · subst hA; rw [colons_nil, List.nil_append, colons_one]; rfl
  · obtain ⟨l, c, hc, e⟩ := colons_last hA h
    unfold step2
    rw [e, needs_snoc, if_pos (by simp [hc]), colons_snoc _ _ hA, e]; simp
theorem step2_gap {B : List (List UInt8)} (h : Fair B) (x p : List UInt8) : step2 x (p ++ [58, 58] ++ colons B) = p ++ [58, 58] ++ colons (B ++ [x]) := by
  by_cases hB : B = []
  · subst hB
    rw [colons_nil, List.nil_append, colons_one, List.append_nil]
    unfold step2
    rw [show p ++ [58, 58] = (p ++ [58]) ++ [58] by simp, needs_snoc, if_neg (by decide)]
  · obtain ⟨l, c, hc, e⟩ := colons_last hB h
    unfold step2
    rw [e, ← List.append_assoc, needs_snoc, if_pos (by simp [hc]), colons_snoc _ _ hB, e]; simp
theorem step1_off {a n i : Nat} (h : n = 0 ∨ i < a ∨ a + n ≤ i) (s : List UInt8) : step1 a n i s = s := by unfold step1; rw [if_neg (by omega)]
theorem pref_text {t : List (List UInt8)} (hf : Fair t) {a n i : Nat} {x : List UInt8} (hx : t[i]? = some x) (h : n = 0 ∨ i < a ∨ a + n ≤ i) : pref t a n (i + 1) = step2 x (step1 a n i (pref t a n i)) := by
  rw [step1_off h]
  have hi : i < t.length := (List.getElem?_eq_some_iff.1 hx).1
  have ht : t.take (i + 1) = t.take i ++ [x] := by rw [List.take_add_one, hx]; rfl
  by_cases hc : n = 0 ∨ i + 1 ≤ a
  · unfold pref
    rw [if_pos hc, if_pos (by omega), ht, step2_colons (hf.take _)]
  · have hge : a + n ≤ i := by omega
    unfold pref
    rw [if_neg hc]
    have hd : (t.drop (a + n)).take (i + 1 - (a + n)) = (t.drop (a + n)).take (i - (a + n)) ++ [x] := by
      rw [show i + 1 - (a + n) = (i - (a + n)) + 1 by omega, List.take_add_one, List.getElem?_drop, show a + n + (i - (a + n)) = i by omega, hx]; rfl
    rw [if_neg (by omega), hd, step2_gap ((hf.drop _).take _)]
theorem pref_end {t : List (List UInt8)} {a n : Nat} (h : a + n ≤ t.length) : pref t a n t.length = if n = 0 then colons t else colons (t.take a) ++ [58, 58] ++ colons (t.drop (a + n)) := by
  unfold pref
  by_cases hn : n = 0
  · rw [if_pos (Or.inl hn), if_pos hn, List.take_length]
  · rw [if_neg (by omega), if_neg hn, List.take_of_length_le (l := t.drop (a + n)) (by simp)]
theorem texts_take (p : List Int) (n : Nat) : texts (p.take n) = (texts p).take n := by simp [texts, List.map_take]
theorem texts_drop (p : List Int) (n : Nat) : texts (p.drop n) = (texts p).drop n := by simp [texts, List.map_drop]
theorem showSix_pref {p : List Int} (h : mayB p = true) : showSix p = pref (texts p) (runR p).1 (runR p).2 p.length := by
  have hin := (runR_ok p).inside
  have hl : (texts p).length = p.length := by simp [texts]
  rw [← hl, pref_end (by rw [hl]; exact hin)]
  unfold showSix
  rw [if_pos h, texts_take, texts_drop]

/-- A list of the same length, element by element. -/
theorem showSix_no {p : List Int} (h : mayB p = false) : showSix p = [] := by unfold showSix; rw [h]; rfl
theorem showSix_ne {p : List Int} (h8 : p.length = 8) (h : mayB p = true) : showSix p ≠ [] := by
  unfold showSix
  rw [if_pos h]
  split
  · exact colons_ne (by intro e; have := congrArg List.length e; simp [texts, h8] at this) (texts_fair p)
  · simp
theorem toNat_inj {p q : List Int} (hp : ∀ n ∈ p, 0 ≤ n ∧ n ≤ 65535) (hq : ∀ n ∈ q, 0 ≤ n ∧ n ≤ 65535) (e : p.map Int.toNat = q.map Int.toNat) : p = q := by
  have back : ∀ l : List Int, (∀ n ∈ l, 0 ≤ n ∧ n ≤ 65535) → (l.map Int.toNat).map (fun n : Nat => (n : Int)) = l := by
    intro l hl
    rw [List.map_map]
    conv => rhs; rw [← List.map_id l]
    exact List.map_congr_left fun n hn => by have := hl n hn; show ((n.toNat : Nat) : Int) = n; omega
  rw [← back p hp, e, back q hq]
theorem showSix_inj {p q : List Int} (h8 : p.length = 8) (k8 : q.length = 8) (hp : mayB p = true) (hq : mayB q = true) (e : showSix p = showSix q) : p = q := by
  have h := parse_showSix h8 hp
  rw [e, parse_showSix k8 hq] at h
  injection h with h
  exact toNat_inj (mayB_mem hp) (mayB_mem hq) h.symm

theorem valH_lt (l : List UInt8) : ∀ n, valH n l < (n + 1) * 16 ^ l.length := by
  induction l with
  | nil => intro n; show n < (n + 1) * 16 ^ 0; omega
  | cons c l ih =>
    intro n
    have hb := hexD_bd c
    rw [valH_cons, List.length_cons, Nat.pow_succ]
    have := ih (16 * n + (hexD c).toNat)
    refine Nat.lt_of_lt_of_le this ?_
    rw [show (n + 1) * (16 ^ l.length * 16) = ((n + 1) * 16) * 16 ^ l.length by rw [Nat.mul_assoc, Nat.mul_comm 16]]
    exact Nat.mul_le_mul_right _ (by omega)
theorem piece_le {l : List UInt8} (h : l.length ≤ 4) : valH 0 l ≤ 65535 := by
  have h1 := valH_lt l 0
  have h2 : 16 ^ l.length ≤ 16 ^ 4 := Nat.pow_le_pow_right (by decide) h
  omega
theorem hexs_val_len {l : List UInt8} (h : l ≠ []) : (hexs (valH 0 l)).length ≤ l.length := by
  have h1 := valH_lt l 0
  obtain ⟨k, hk⟩ : ∃ k, l.length = k + 1 := ⟨l.length - 1, by have := List.length_pos_iff.2 h; omega⟩
  rw [hk] at h1 ⊢
  exact hexs_pow _ k (by omega)
theorem pieceB_out {l : List UInt8} (h : pieceB l = true) : l ≠ [] ∧ l.length ≤ 4 ∧ l.all isHex = true := by
  unfold pieceB at h
  rw [Bool.and_eq_true, Bool.and_eq_true] at h
  exact ⟨fun e => by rw [e] at h; exact Bool.noConfusion h.1.1, of_decide_eq_true h.1.2, h.2⟩
theorem pieces_facts {l : List UInt8} {a : List Nat} (h : piecesO l = some a) : (∀ n ∈ a, n ≤ 65535) ∧ (a = [] ∧ l = [] ∨ a ≠ [] ∧ tot (a.map hexs) + a.length ≤ l.length + 1) := by
  unfold piecesO at h
  split at h
  · rename_i e
    injection h with h
    subst h
    exact ⟨fun n hn => absurd hn (by simp), Or.inl ⟨rfl, e⟩⟩
  · split at h
    · rename_i hne hall
      injection h with h
      subst h
      have hp := fun x hx => pieceB_out (List.all_eq_true.1 hall x hx)
      refine ⟨fun n hn => ?_, Or.inr ⟨?_, ?_⟩⟩
      · obtain ⟨x, hx, rfl⟩ := List.mem_map.1 hn
        exact piece_le (hp x hx).2.1
      · obtain ⟨y, ys, e⟩ := splitOn_ne 58 l
        rw [e]; simp
      · have hle : tot (((splitOn 58 l).map (valH 0)).map hexs) ≤ tot (splitOn 58 l) := by
          rw [List.map_map]
          clear hall
          generalize splitOn 58 l = A at hp
          induction A with
          | nil => exact Nat.le_refl _
          | cons x A ih =>
            rw [List.map_cons, tot_cons, tot_cons]
            have := ih fun y hy => hp y (List.mem_cons_of_mem _ hy)
            have h2 := hexs_val_len (hp x (by simp)).1
            simp only [Function.comp] at *
            omega
        have hc := colons_len (splitOn 58 l) (by obtain ⟨y, ys, e⟩ := splitOn_ne 58 l; rw [e]; simp)
        have hj : colons (splitOn 58 l) = l := splitOn_join 58 l
        rw [hj] at hc
        rw [List.length_map]; omega
    · cases h
theorem gapL_out : ∀ {l x y : List UInt8}, gapL l = some (x, y) → l = x ++ 58 :: 58 :: y
  | [], _, _, h => by cases h
  | [_], _, _, h => by cases h
  | b :: c :: l, x, y, h => by
    rw [gapL] at h
    split at h
    · rename_i e
      injection h with h
      injection h with h1 h2
      subst h1 h2
      rw [e.1, e.2]; rfl
    · cases e : gapL (c :: l) with
      | none => rw [e] at h; cases h
      | some z =>
        rw [e] at h
        injection h with h
        injection h with h1 h2
        subst h1 h2
        have := gapL_out (l := c :: l) (x := z.1) (y := z.2) e
        rw [this]; rfl
theorem tot_texts_cast (a : List Nat) : tot (texts (a.map fun n : Nat => (n : Int))) = tot (a.map hexs) := by
  unfold texts
  rw [List.map_map]; rfl
theorem mayB_cast {a : List Nat} (h : ∀ n ∈ a, n ≤ 65535) : mayB (a.map fun n : Nat => (n : Int)) = true := by
  unfold mayB
  rw [List.all_eq_true]
  intro n hn
  obtain ⟨m, hm, rfl⟩ := List.mem_map.1 hn
  have := h m hm
  simp; omega
theorem tot_zero (n : Nat) : tot (texts (List.replicate n 0)) = n := by
  induction n with
  | zero => rfl
  | succ n ih => rw [List.replicate_succ]; unfold texts at ih ⊢; rw [List.map_cons, tot_cons, ih, show hexs (0 : Int).toNat = [48] from hexs_small (by decide)]; simp; omega
theorem texts_append (p q : List Int) : texts (p ++ q) = texts p ++ texts q := by simp [texts]
/-- How long the text of eight pieces is. -/
theorem show_len {p : List Int} (h8 : p.length = 8) : (showSix p).length ≤ tot (texts p) + 7 ∧ (1 ≤ (runR p).2 → (runR p).2 ≤ 7 → (showSix p).length + 2 * (runR p).2 ≤ tot (texts p) + 9) ∧ (8 ≤ (runR p).2 → (showSix p).length ≤ 2) := by
  have hr := runR_ok p
  have hin := hr.inside
  have h1 := hr.one
  rw [h8] at hin
  by_cases hm : mayB p = true
  · unfold showSix
    rw [if_pos hm]
    split
    · rename_i hn
      have := colons_len (texts p) (by intro e; have := congrArg List.length e; simp [texts, h8] at this)
      simp only [texts, List.length_map, h8] at this ⊢
      refine ⟨by omega, fun h => by omega, fun h => by omega⟩
    · rename_i hn
      have hz := hr.nought
      clear hr
      generalize (runR p).1 = a at *
      generalize (runR p).2 = n at *
      have e := congrArg (fun l => tot (texts l)) (three p a n (by omega) hz)
      simp only [texts_append, tot_append, tot_zero] at e
      have lA : (colons (texts (p.take a))).length + 1 = tot (texts (p.take a)) + a ∨ a = 0 ∧ (colons (texts (p.take a))).length = 0 := by
        by_cases ha : a = 0
        · right; subst ha; exact ⟨rfl, rfl⟩
        · left
          have := colons_len (texts (p.take a)) (by intro e; have := congrArg List.length e; simp [texts, h8] at this; omega)
          simp only [texts, List.length_map, List.length_take, h8] at this ⊢
          omega
      have lB : (colons (texts (p.drop (a + n)))).length + 1 = tot (texts (p.drop (a + n))) + (8 - (a + n)) ∨ 8 - (a + n) = 0 ∧ (colons (texts (p.drop (a + n)))).length = 0 := by
        by_cases ha : 8 - (a + n) = 0
        · right; refine ⟨ha, ?_⟩; rw [List.drop_eq_nil_of_le (by omega)]; rfl
        · left
          have := colons_len (texts (p.drop (a + n))) (by intro e; have := congrArg List.length e; simp [texts, h8] at this; omega)
          simp only [texts, List.length_map, List.length_drop, h8] at this ⊢
          omega
      simp only [List.length_append, List.length_cons, List.length_nil]
      have tA : a = 0 → tot (texts (p.take a)) = 0 := fun h => by subst h; rfl
      have tB : 8 - (a + n) = 0 → tot (texts (p.drop (a + n))) = 0 := fun h => by rw [List.drop_eq_nil_of_le (by omega)]; rfl
      refine ⟨?_, fun _ _ => ?_, fun _ => ?_⟩
      · rcases lA with lA | ⟨_, lA⟩ <;> rcases lB with lB | ⟨_, lB⟩ <;> omega
      · rcases lA with lA | ⟨_, lA⟩ <;> rcases lB with lB | ⟨_, lB⟩ <;> omega
      · rcases lA with lA | ⟨_, lA⟩ <;> rcases lB with lB | ⟨_, lB⟩ <;> omega
  · have e := showSix_no (by simpa using hm)
    rw [e]
    refine ⟨by simp, fun _ _ => ?_, fun _ => by simp⟩
    have e := congrArg (fun l => tot (texts l)) (three p _ _ (by omega) hr.nought)
    simp only [texts_append, tot_append, tot_zero] at e
    simp; omega
/-- What is parsed may be, and is shown by at most one byte more. -/
theorem parse_back {l : List UInt8} {k : List Nat} (h : parseSix l = (k, true)) : mayB (k.map fun n : Nat => (n : Int)) = true ∧ (showSix (k.map fun n : Nat => (n : Int))).length ≤ l.length + 1 := by
  have h8 : k.length = 8 := by have := parseSix_len l; rwa [h] at this
  have hp8 : (k.map fun n : Nat => (n : Int)).length = 8 := by rw [List.length_map]; exact h8
  have hl := show_len hp8
  rw [tot_texts_cast] at hl
  unfold parseSix at h
  split at h
  · split at h
    · rename_i a ha
      split at h
      · injection h with h
        subst h
        have hf := pieces_facts ha
        refine ⟨mayB_cast hf.1, ?_⟩
        rcases hf.2 with ⟨e, _⟩ | ⟨_, hf⟩
        · rw [e] at h8; exact absurd h8 (by decide)
        · omega
      · injection h with _ h; cases h
    · injection h with _ h; cases h
  · rename_i x y hg
    have hlen : l.length = x.length + y.length + 2 := by rw [gapL_out hg]; simp; omega
    split at h
    · rename_i a b ha hb
      split at h
      · rename_i h7
        injection h with h
        have fa := pieces_facts ha
        have fb := pieces_facts hb
        have hT : tot (k.map hexs) = tot (a.map hexs) + (8 - a.length - b.length) + tot (b.map hexs) := by
          rw [← h, List.map_append, List.map_append, tot_append, tot_append]
          have := tot_zero (8 - a.length - b.length)
          unfold texts at this
          rw [List.map_replicate] at this
          rw [List.map_replicate]
          have e : hexs (0 : Int).toNat = hexs 0 := rfl
          rw [e] at this; rw [this]
        have hn : 8 - a.length - b.length = 1 ∨ 8 - a.length - b.length ≤ (runR (k.map fun n : Nat => (n : Int))).2 := by
          by_cases h2 : 2 ≤ 8 - a.length - b.length
          · right
            have := runR_most (k.map fun n : Nat => (n : Int)) a.length (8 - a.length - b.length) h2 (by rw [hp8]; omega) (by
              intro j h1 h3
              rw [← h, List.getElem?_map, List.append_assoc, List.getElem?_append_right h1, List.getElem?_append_left (by simp; omega), List.getElem?_replicate, if_pos (by omega)]
              rfl)
            omega
          · left; omega
        refine ⟨mayB_cast fun n hn => ?_, ?_⟩
        · rw [← h] at hn
          rcases List.mem_append.1 hn with hn | hn
          · rcases List.mem_append.1 hn with hn | hn
            · exact fa.1 n hn
            · rw [(List.mem_replicate.1 hn).2]; decide
          · exact fb.1 n hn
        · generalize (runR (k.map fun n : Nat => (n : Int))).2 = r at *
          have ta : a = [] → tot (a.map hexs) = 0 := fun e => by rw [e]; rfl
          have tb : b = [] → tot (b.map hexs) = 0 := fun e => by rw [e]; rfl
          have la : a = [] → a.length = 0 := fun e => by rw [e]; rfl
          have lb : b = [] → b.length = 0 := fun e => by rw [e]; rfl
          have na : a ≠ [] → 1 ≤ a.length := fun e => List.length_pos_iff.2 e
          have nb : b ≠ [] → 1 ≤ b.length := fun e => List.length_pos_iff.2 e
          obtain ⟨l1, l2, l3⟩ := hl
          rcases fa.2 with ⟨ea, exx⟩ | ⟨ea, fa⟩ <;> rcases fb.2 with ⟨eb, ey⟩ | ⟨eb, fb⟩
          · have := ta ea; have := tb eb; have := la ea; have := lb eb
            rcases hn with hn | hn
            · omega
            · by_cases h8r : 8 ≤ r
              · have := l3 h8r; omega
              · omega
          · have := ta ea; have := la ea; have := nb eb
            rcases hn with hn | hn
            · by_cases h8r : 8 ≤ r
              · have := l3 h8r; omega
              · omega
            · by_cases h8r : 8 ≤ r
              · have := l3 h8r; omega
              · have := l2 (by omega) (by omega); omega
          · have := tb eb; have := lb eb; have := na ea
            rcases hn with hn | hn
            · by_cases h8r : 8 ≤ r
              · have := l3 h8r; omega
              · omega
            · by_cases h8r : 8 ≤ r
              · have := l3 h8r; omega
              · have := l2 (by omega) (by omega); omega
          · have := na ea; have := nb eb
            rcases hn with hn | hn
            · omega
            · by_cases h8r : 8 ≤ r
              · have := l3 h8r; omega
              · have := l2 (by omega) (by omega); omega
      · injection h with _ h; cases h
    · injection h with _ h; cases h

end Go.Proofs.YtcpnfokpgiigcaaDoor
