/- Blanks at a text's ends, and cleaned texts: plain functions and laws; what the library's trimming comes to. No program in sight. -/
import Derived.Test.YtnppnogmpoigkaaDoorLowP
import Derived.Shelf.GgClosure.StringsTrimFunc
import Derived.Lib.TrimUEq
namespace Go.Proofs.YtnppnogmpoigkaaDoor

def spB (c : UInt8) : Bool := decide (c.toNat ≤ 32)
def pB (r : Nat) : Bool := decide (r ≤ 32)
def trimRt (l : List UInt8) : List UInt8 := (l.reverse.dropWhile spB).reverse
def trimSp (l : List UInt8) : List UInt8 := trimRt (l.dropWhile spB)
def keepC (c : UInt8) : Bool := !(c == 9 || c == 10 || c == 13)
def cleanL (l : List UInt8) : List UInt8 := (trimSp l).filter keepC

theorem trimRt_nil : trimRt [] = [] := rfl
theorem trimRt_snoc (x : List UInt8) (c : UInt8) : trimRt (x ++ [c]) = if spB c = true then trimRt x else x ++ [c] := by
  unfold trimRt
  rw [List.reverse_append]
  show ((c :: x.reverse).dropWhile spB).reverse = _
  rw [List.dropWhile_cons]
  split
  · rfl
  · simp
theorem trimRt_app {b : List UInt8} (hb : ∀ c ∈ b, spB c = true) (x : List UInt8) : trimRt (x ++ b) = trimRt x := by
  unfold trimRt
  rw [List.reverse_append, List.dropWhile_append_of_pos (fun c hc => hb c (List.mem_reverse.1 hc))]
theorem trimRt_split (l : List UInt8) : ∃ z, (∀ c ∈ z, spB c = true) ∧ l = trimRt l ++ z := by
  refine ⟨(l.reverse.takeWhile spB).reverse, fun c hc => List.all_eq_true.1 List.all_takeWhile c (List.mem_reverse.1 hc), ?_⟩
  unfold trimRt
  rw [← List.reverse_append, List.takeWhile_append_dropWhile, List.reverse_reverse]

section
open Go.Lib
set_option maxRecDepth 100000 in
theorem decodeN_big (n b0 b1 b2 b3 : Nat) (h : 128 ≤ b0) : 32 < (decodeN n b0 b1 b2 b3).1 := by
  unfold decodeN
  repeat' split
  all_goals (simp only; omega)
theorem sp_dec (s : ByteArray) (pos : Nat) (h : spB (s.data.toList.getD pos 0) = true) : Utf8.decode s pos = ((s.data.toList.getD pos 0).toNat, 1) := by
  have := of_decide_eq_true h
  rw [decode_N, decodeN_ascii _ _ _ _ _ (by omega)]
theorem no_dec (s : ByteArray) (pos : Nat) (h : spB (s.data.toList.getD pos 0) = false) : pB (Utf8.decode s pos).1 = false := by
  have := of_decide_eq_false h
  rw [decode_N]
  unfold pB
  rw [decide_eq_false_iff_not]
  by_cases h1 : (s.data.toList.getD pos 0).toNat < 128
  · rw [decodeN_ascii _ _ _ _ _ h1]; exact this
  · have := decodeN_big (s.data.toList.length - pos) _ (s.data.toList.getD (pos + 1) 0).toNat (s.data.toList.getD (pos + 2) 0).toNat (s.data.toList.getD (pos + 3) 0).toNat (Nat.le_of_not_lt h1)
    omega
theorem left_sp (s : ByteArray) : ∀ (f pos : Nat), s.size ≤ pos + f →
    (s.data.toList.drop pos).dropWhile spB = if idxFuncFrom pB false s f pos = -1 then [] else s.data.toList.drop (idxFuncFrom pB false s f pos).toNat
  | 0, pos, h => by
    have : s.data.toList.drop pos = [] := List.drop_eq_nil_of_le (by rw [← size_eq]; omega)
    simp [idxFuncFrom, this]
  | f + 1, pos, h => by
    by_cases hp : pos < s.size
    · have hp' : pos < s.data.toList.length := by rw [← size_eq]; exact hp
      have hg : s.data.toList.getD pos 0 = s.data.toList[pos] := by rw [List.getD_eq_getElem?_getD, List.getElem?_eq_getElem hp']; rfl
      rw [List.drop_eq_getElem_cons hp', List.dropWhile_cons, ← hg]
      unfold idxFuncFrom
      rw [if_pos hp]
      cases hs : spB (s.data.toList.getD pos 0) with
      | true =>
        have e : pB (s.data.toList.getD pos 0).toNat = true := hs
        rw [sp_dec s pos hs, if_pos rfl]
        simp only [e, Bool.true_eq_false, if_false]
        exact left_sp s f (pos + 1) (by omega)
      | false =>
        rw [no_dec s pos hs, if_neg (by decide), if_pos rfl, if_neg (by omega), Int.toNat_natCast, hg, ← List.drop_eq_getElem_cons hp']
    · have : s.data.toList.drop pos = [] := List.drop_eq_nil_of_le (by rw [← size_eq]; omega)
      rw [this, idxFuncFrom_end _ _ _ _ _ hp, if_pos rfl]; rfl
theorem trimLeft_sp (s : ByteArray) : (trimLeftF pB s).data.toList = s.data.toList.dropWhile spB := by
  have h := left_sp s s.size 0 (by omega)
  rw [List.drop_zero] at h
  rw [h]
  unfold trimLeftF idxFunc
  split
  · rfl
  · rw [extract_data, List.take_of_length_le (by rw [List.length_drop, ← size_eq]; exact Nat.le_refl _)]
theorem take_last (l : List UInt8) (i : Nat) (hi : 0 < i) (hil : i ≤ l.length) : l.take i = l.take (i - 1) ++ [l.getD (i - 1) 0] := by
  obtain ⟨k, rfl⟩ : ∃ k, i = k + 1 := ⟨i - 1, by omega⟩
  have hk : k < l.length := by omega
  rw [List.take_succ_eq_append_getElem hk]
  simp [List.getD, hk]
theorem last_no (l : List UInt8) (i : Nat) (hi : 0 < i) (hil : i ≤ l.length) (h : spB (l.getD (i - 1) 0) = false) : pB (decodeLastL (l.take i)).1 = false := by
  have h' := of_decide_eq_false h
  unfold pB
  rw [decide_eq_false_iff_not]
  rcases last_cases l i hi hil with ⟨ha, hd⟩ | ⟨ha, hd⟩ | ⟨ha, st, hst, hd, hsum⟩
  · rw [hd]; exact h'
  · rw [hd]; decide
  · rw [hd]
    rw [decodeL_N] at hsum ⊢
    rw [getD_dropU, Nat.add_zero, getD_takeU l i st hst] at hsum ⊢
    by_cases h1 : (l.getD st 0).toNat < 128
    · rw [decodeN_ascii _ _ _ _ _ h1] at hsum
      have : st = i - 1 := by simp only at hsum; omega
      subst this; omega
    · have := decodeN_big ((l.take i).drop st).length _ (((l.take i).drop st).getD 1 0).toNat (((l.take i).drop st).getD 2 0).toNat (((l.take i).drop st).getD 3 0).toNat (Nat.le_of_not_lt h1)
      omega
theorem right_sp (s : ByteArray) : ∀ (f i : Nat), i ≤ f → i ≤ s.data.toList.length → OpenAt s.data.toList i →
    trimRt (s.data.toList.take i) = s.data.toList.take (if 0 ≤ lastIdxFuncFrom pB false s f i then (lastIdxFuncFrom pB false s f i).toNat + (decodeL (s.data.toList.drop (lastIdxFuncFrom pB false s f i).toNat)).2 else 0)
  | 0, i, hf, _, _ => by
    obtain rfl : i = 0 := by omega
    simp [lastIdxFuncFrom, trimRt_nil]
  | f + 1, i, hf, hil, ho => by
    by_cases hi : 0 < i
    · have hlen : (s.data.toList.take i).length = i := by rw [List.length_take]; omega
      have hw := decodeLastL_width (s.data.toList.take i) (by omega)
      rw [hlen] at hw
      have htl := take_last s.data.toList i hi hil
      cases hs : spB (s.data.toList.getD (i - 1) 0) with
      | true =>
        have h32 := of_decide_eq_true hs
        have hd : decodeLastL (s.data.toList.take i) = ((s.data.toList.getD (i - 1) 0).toNat, 1) := by
          rcases last_cases s.data.toList i hi hil with ⟨_, hd⟩ | ⟨ha, _⟩ | ⟨ha, _⟩
          · exact hd
          · omega
          · omega
        have e : pB (s.data.toList.getD (i - 1) 0).toNat = true := hs
        unfold lastIdxFuncFrom
        rw [hd, if_pos hi]
        simp only [e, Bool.true_eq_false, if_false]
        rw [htl, trimRt_snoc, if_pos hs]
        exact right_sp s f (i - 1) (by omega) (by omega) (.inr (by omega))
      | false =>
        unfold lastIdxFuncFrom
        rw [if_pos hi, last_no _ i hi hil hs, if_pos rfl, if_pos (by omega), Int.toNat_natCast, fw_width _ i hi hil ho, Nat.sub_add_cancel hw.2, htl, trimRt_snoc, if_neg (by rw [hs]; decide)]
    · obtain rfl : i = 0 := by omega
      rw [lastIdxFuncFrom_zero]
      simp [trimRt_nil]
theorem lastIdx_lt (s : ByteArray) : lastIdxFunc pB false s = -1 ∨ lastIdxFunc pB false s < s.size := by
  have key : ∀ f i, i ≤ s.size → lastIdxFuncFrom pB false s f i = -1 ∨ lastIdxFuncFrom pB false s f i < s.size := by
    intro f
    induction f with
    | zero => intro i _; exact .inl rfl
    | succ f ih =>
      intro i hi
      unfold lastIdxFuncFrom
      split
      · have hw := decodeLastL_width (s.data.toList.take i) (by rw [List.length_take, ← size_eq]; omega)
        split
        · exact .inr (by omega)
        · exact ih _ (by omega)
      · exact .inl rfl
  exact key s.size s.size (Nat.le_refl _)
theorem trimRight_sp (s : ByteArray) : (trimRightF pB s).data.toList = trimRt s.data.toList := by
  have h := right_sp s s.size s.size (Nat.le_refl _) (by rw [← size_eq]; exact Nat.le_refl _) (.inl (size_eq s))
  rw [List.take_of_length_le (by rw [← size_eq]; exact Nat.le_refl _)] at h
  rw [h]
  unfold trimRightF rightEndF
  rw [extract_data, List.drop_zero, Nat.sub_zero]
  congr 1
  show (if 0 ≤ lastIdxFunc pB false s then _ else 0) = (if 0 ≤ lastIdxFunc pB false s then _ else 0)
  split
  · rename_i h0
    congr 2
    rcases lastIdx_lt s with hm | hlt
    · omega
    · have hx : s.extract (lastIdxFunc pB false s).toNat s.size = ⟨(s.data.toList.drop (lastIdxFunc pB false s).toNat).toArray⟩ := by
        rw [extract_eq, List.take_of_length_le (by rw [List.length_drop, ← size_eq]; exact Nat.le_refl _)]
      have hxs : (⟨(s.data.toList.drop (lastIdxFunc pB false s).toNat).toArray⟩ : ByteArray).size ≠ 0 := by
        rw [size_eq]
        simp only [List.length_drop]
        rw [← size_eq]
        omega
      rw [hx]
      unfold decodeGoB decodeL
      rw [if_neg hxs]
      rfl
  · rfl
theorem trimF_sp (s : ByteArray) : (trimF pB s).data.toList = trimSp s.data.toList := by
  unfold trimF trimSp
  rw [trimRight_sp, trimLeft_sp]
end

/-- Neither begins nor ends by a blank. -/
structure Tight (l : List UInt8) : Prop where
  first : ∀ c r, l = c :: r → spB c = false
  last : ∀ c r, l = r ++ [c] → spB c = false
theorem drop_first {l : List UInt8} {c : UInt8} {r : List UInt8} (h : l.dropWhile spB = c :: r) : spB c = false := by
  induction l with
  | nil => cases h
  | cons x l ih =>
    rw [List.dropWhile_cons] at h
    split at h
    · exact ih h
    · injection h with h1 h2; subst h1; rename_i hn; simpa using hn
theorem rt_last {l : List UInt8} {c : UInt8} {r : List UInt8} (h : trimRt l = r ++ [c]) : spB c = false := by
  unfold trimRt at h
  have h2 := congrArg List.reverse h
  rw [List.reverse_reverse, List.reverse_append] at h2
  exact drop_first h2
theorem trim_tight (l : List UInt8) : Tight (trimSp l) := by
  refine ⟨fun c r h => ?_, fun c r h => rt_last h⟩
  obtain ⟨z, _, hz⟩ := trimRt_split (l.dropWhile spB)
  unfold trimSp at h
  rw [h] at hz
  exact drop_first hz
theorem tight_trim {l : List UInt8} (h : Tight l) : trimSp l = l := by
  have h1 : l.dropWhile spB = l := by
    cases l with
    | nil => rfl
    | cons c r => rw [List.dropWhile_cons, if_neg (by rw [h.first c r rfl]; decide)]
  unfold trimSp
  rw [h1]
  by_cases h0 : l = []
  · subst h0; rfl
  · have e := (List.dropLast_concat_getLast h0).symm
    rw [e, trimRt_snoc, if_neg (by rw [h.last _ _ e]; decide)]
theorem trim_twice (l : List UInt8) : trimSp (trimSp l) = trimSp l := tight_trim (trim_tight l)
theorem keep_tight {l : List UInt8} (h : Tight l) : Tight (l.filter keepC) := by
  have hk : ∀ c, spB c = false → keepC c = true := fun c hc => by
    have := of_decide_eq_false hc
    unfold keepC
    rw [Bool.not_eq_true', Bool.or_eq_false_iff, Bool.or_eq_false_iff]
    refine ⟨⟨?_, ?_⟩, ?_⟩
    all_goals (rw [beq_eq_false_iff_ne]; rintro rfl; exact this (by decide))
  constructor
  · intro c r e
    cases l with
    | nil => cases e
    | cons x l =>
      have hx := h.first x l rfl
      rw [List.filter_cons, if_pos (hk x hx)] at e
      injection e with e1 _
      rw [← e1]; exact hx
  · intro c r e
    by_cases h0 : l = []
    · subst h0; simp at e
    · have e2 := (List.dropLast_concat_getLast h0).symm
      have hx := h.last _ _ e2
      rw [e2, List.filter_append] at e
      have e3 : [l.getLast h0].filter keepC = [l.getLast h0] := by rw [List.filter_cons, if_pos (hk _ hx)]; rfl
      rw [e3] at e
      have e4 := (List.append_inj' e rfl).2
      injection e4 with e5 _
      rw [← e5]; exact hx
theorem clean_tight (l : List UInt8) : Tight (cleanL l) := keep_tight (trim_tight l)
theorem clean_twice (l : List UInt8) : cleanL (cleanL l) = cleanL l := by
  show (trimSp (cleanL l)).filter keepC = _
  rw [tight_trim (clean_tight l)]
  unfold cleanL
  rw [List.filter_filter]
  congr 1
  funext c
  exact Bool.and_self _
theorem trim_len (l : List UInt8) : (trimSp l).length ≤ l.length := by
  obtain ⟨z, _, hz⟩ := trimRt_split (l.dropWhile spB)
  have h1 := congrArg List.length hz
  rw [List.length_append] at h1
  have h2 := List.Sublist.length_le (List.dropWhile_sublist spB (l := l))
  unfold trimSp
  omega
theorem clean_len (l : List UInt8) : (cleanL l).length ≤ (trimSp l).length := List.length_filter_le _ _
theorem trim_sub (l : List UInt8) : (trimSp l).Sublist l := by
  obtain ⟨z, _, hz⟩ := trimRt_split (l.dropWhile spB)
  have h1 : (trimSp l).Sublist (l.dropWhile spB) := by
    conv => rhs; rw [hz]
    exact List.sublist_append_left _ _
  exact h1.trans (List.dropWhile_sublist spB)
theorem clean_sub (l : List UInt8) : (cleanL l).Sublist l := List.filter_sublist.trans (trim_sub l)
theorem trim_wide {a b : List UInt8} (ha : ∀ c ∈ a, spB c = true) (hb : ∀ c ∈ b, spB c = true) (l : List UInt8) : trimSp (a ++ l ++ b) = trimSp l := by
  unfold trimSp
  rw [List.append_assoc, List.dropWhile_append_of_pos ha, List.dropWhile_append]
  split
  · rename_i h
    have h1 : l.dropWhile spB = [] := by simpa using h
    have h2 : b.dropWhile spB = [] := by
      have := List.dropWhile_append_of_pos (l₂ := []) hb
      rwa [List.append_nil] at this
    rw [h1, h2]
  · exact trimRt_app hb _

end Go.Proofs.YtnppnogmpoigkaaDoor
