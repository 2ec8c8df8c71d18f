/- Paths that may be, shown and parsed again, beside others: plain laws. -/
import Derived.Test.YtcegcjefjclcnaaDoorEncP
import Derived.Test.YtcegcjefjclcnaaDoorMay
import Derived.Test.YtcegcjefjclcnaaDoorShow
import Derived.Test.YtcegcjefjclcnaaDoorConcat
import Derived.Test.YtcegcjefjclcnaaDoorLaw8u
import Derived.Lib.IndexLaws
namespace Go.Proofs.YtcegcjefjclcnaaDoor

theorem normR_mem : ∀ (r out : List (List UInt8)), ∀ x ∈ normR out r, x ∈ out ∨ x ∈ r ∨ x = []
  | [], out => fun x hx => .inl hx
  | s :: r, out => fun x hx => by
    have hdrop : ∀ x, x ∈ (if dotsN s = 2 then out.dropLast else out) → x ∈ out := fun x hx => by
      split at hx
      · exact (List.dropLast_sublist out).subset hx
      · exact hx
    by_cases hd : dotsN s = 0
    · rw [normR_keep hd] at hx
      rcases normR_mem r _ x hx with h | h | h
      · rcases List.mem_append.1 h with h | h
        · exact .inl h
        · exact .inr (.inl (by rw [List.mem_singleton.1 h]; exact List.mem_cons_self))
      · exact .inr (.inl (List.mem_cons_of_mem _ h))
      · exact .inr (.inr h)
    · by_cases hr : r = []
      · subst hr; rw [normR_last hd] at hx
        rcases List.mem_append.1 hx with h | h
        · exact .inl (hdrop x h)
        · exact .inr (.inr (List.mem_singleton.1 h))
      · rw [normR_dots hd out hr] at hx
        rcases normR_mem r _ x hx with h | h | h
        · exact .inl (hdrop x h)
        · exact .inr (.inl (List.mem_cons_of_mem _ h))
        · exact .inr (.inr h)
theorem normR_again (l : List (List UInt8)) : normR [] (normR [] l) = normR [] l := (normR_free _ [] (normR_none l [] (fun s hs => by cases hs))).trans (List.nil_append _)
theorem normR_pre : ∀ (a out b : List (List UInt8)), (∀ s ∈ a, dotsN s = 0) → normR out (a ++ b) = normR (out ++ a) b
  | [], out, b, _ => by rw [List.nil_append, List.append_nil]
  | s :: a, out, b, h => by
    rw [List.cons_append, normR_keep (h s List.mem_cons_self), normR_pre a _ b fun x hx => h x (List.mem_cons_of_mem _ hx)]; simp
theorem normR_ups {u : List UInt8} (hu : dotsN u = 2) : ∀ (n : Nat) (out b : List (List UInt8)), b ≠ [] → out.length ≤ n → normR out (List.replicate n u ++ b) = normR [] b
  | 0, out, b, _, h => by
    obtain rfl : out = [] := List.eq_nil_of_length_eq_zero (by omega)
    rfl
  | n + 1, out, b, hb, h => by
    rw [List.replicate_succ, List.cons_append, normR_dots (by omega) out (by simp [hb]), if_pos hu]
    exact normR_ups hu n _ b hb (by rw [List.length_dropLast]; omega)

theorem hexU_kept : ∀ d : Nat, d < 16 → set3 (hexU d) = false := by decide +kernel
theorem enc_kept {a : List UInt8} {c : UInt8} (h : c ∈ encode3 a) : set3 c = false := by
  obtain ⟨b, _, hx⟩ := List.mem_flatMap.1 h
  by_cases hf : set3 b = true
  · rw [enc1_turn hf] at hx
    rcases List.mem_cons.1 hx with rfl | hx
    · exact set3_37
    · rcases List.mem_cons.1 hx with rfl | hx
      · exact hexU_kept _ (by have := b.toNat_lt; omega)
      · rw [List.mem_singleton.1 hx]; exact hexU_kept _ (by omega)
  · rw [enc1_keep (by simpa using hf)] at hx
    rw [List.mem_singleton.1 hx]; simpa using hf
theorem enc_of_kept : ∀ (x : List UInt8), (∀ c ∈ x, set3 c = false) → encode3 x = x
  | [], _ => rfl
  | c :: x, h => by
    have ih := enc_of_kept x fun b hb => h b (List.mem_cons_of_mem _ hb)
    unfold encode3 at ih ⊢
    rw [encB_cons, enc1_keep (h c List.mem_cons_self), ih]; rfl
theorem splitOn_mem (c : UInt8) : ∀ (l p : List UInt8), p ∈ splitOn c l → ∀ b ∈ p, b ∈ l
  | [], p, h, b, hb => by rw [splitOn_nil] at h; rw [List.mem_singleton.1 h] at hb; cases hb
  | d :: l, p, h, b, hb => by
    by_cases hd : d = c
    · subst hd; rw [splitOn_hit] at h
      rcases List.mem_cons.1 h with rfl | h
      · cases hb
      · exact List.mem_cons_of_mem _ (splitOn_mem d l p h b hb)
    · obtain ⟨q, ps, e⟩ := splitOn_ne c l
      rw [splitOn_miss hd e] at h
      rcases List.mem_cons.1 h with rfl | h
      · rcases List.mem_cons.1 hb with rfl | hb
        · exact List.mem_cons_self
        · exact List.mem_cons_of_mem _ (splitOn_mem c l q (by rw [e]; exact List.mem_cons_self) b hb)
      · exact List.mem_cons_of_mem _ (splitOn_mem c l p (by rw [e]; exact List.mem_cons_of_mem _ h) b hb)

theorem showL_cons (x : List UInt8) (l : List (List UInt8)) : showL (x :: l) = 47 :: (x ++ showL l) := rfl
theorem showL_append (a b : List (List UInt8)) : showL (a ++ b) = showL a ++ showL b := by simp [showL]
theorem showL_join : ∀ (ps : List (List UInt8)), ps ≠ [] → showL ps = 47 :: [47].intercalate ps
  | [], h => absurd rfl h
  | [p], _ => by simp [showL, List.intercalate]
  | p :: q :: ps, _ => by
    have : [(47 : UInt8)].intercalate (p :: q :: ps) = p ++ 47 :: [47].intercalate (q :: ps) := by simp [List.intercalate]
    rw [this, showL_cons, showL_join (q :: ps) (by simp)]
theorem show_split (l : List UInt8) : showL (splitOn 47 l) = 47 :: l := by rw [showL_join _ (split_ne2 l), splitOn_join]
theorem show_drop (out : List (List UInt8)) : (showL out.dropLast).length ≤ (showL out).length := by
  by_cases h : out = []
  · subst h; exact Nat.le_refl _
  · have e := List.dropLast_concat_getLast h
    have e2 := congrArg (fun x => (showL x).length) e
    simp only [showL_append, List.length_append] at e2
    omega
theorem norm_total : ∀ (r out : List (List UInt8)), (showL (normR out r)).length ≤ (showL out).length + (showL r).length
  | [], out => Nat.le_add_right _ _
  | s :: r, out => by
    have hdrop : (showL (if dotsN s = 2 then out.dropLast else out)).length ≤ (showL out).length := by
      split
      · exact show_drop out
      · exact Nat.le_refl _
    have hs : (showL (s :: r)).length = 1 + s.length + (showL r).length := by rw [showL_cons]; simp; omega
    by_cases hd : dotsN s = 0
    · rw [normR_keep hd]
      have := norm_total r (out ++ [s])
      have h2 : (showL (out ++ [s])).length = (showL out).length + (1 + s.length) := by rw [showL_append, List.length_append]; simp [showL]; omega
      omega
    · by_cases hr : r = []
      · subst hr; rw [normR_last hd, showL_append, List.length_append]
        have : (showL [[]]).length = 1 := rfl
        omega
      · rw [normR_dots hd out hr]
        have := norm_total r (if dotsN s = 2 then out.dropLast else out)
        omega

theorem hasC_mem (l : List UInt8) (c : UInt8) : hasC l c = true ↔ c ∈ l := by
  unfold hasC
  rw [decide_eq_true_iff]
  constructor
  · intro h
    obtain ⟨o, ho⟩ : ∃ o : Nat, Lib.indexByte l c = o := ⟨(Lib.indexByte l c).toNat, by omega⟩
    exact List.mem_of_getElem? (Lib.indexByte_some ho).1
  · intro h
    have hge := Lib.indexByte_ge l c
    rcases (by omega : 0 ≤ Lib.indexByte l c ∨ Lib.indexByte l c = -1) with h1 | h1
    · exact h1
    · obtain ⟨k, hk⟩ := List.getElem?_of_mem h
      exact absurd hk (Lib.indexByte_none h1 k)
theorem may_iff (l : List (List UInt8)) : mayL l = true ↔ l ≠ [] ∧ ∀ x ∈ l, encode3 x = x ∧ (47 : UInt8) ∉ x ∧ dotsN x = 0 := by
  unfold mayL
  rw [Bool.and_eq_true, decide_eq_true_iff, Bool.not_eq_true', ← Bool.not_eq_true, List.any_eq_true]
  refine and_congr ⟨fun h e => by rw [e] at h; exact absurd h (by simp), fun h => by rcases l with _ | ⟨_, _⟩; · exact absurd rfl h
                                                                                     · simp⟩ ⟨fun h x hx => ?_, fun h ⟨x, hx, ho⟩ => ?_⟩
  · have h2 : oddB x = false := by
      cases ho : oddB x with
      | false => rfl
      | true => exact absurd ⟨x, hx, ho⟩ h
    unfold oddB at h2
    rw [Bool.or_eq_false_iff, Bool.or_eq_false_iff, Bool.not_eq_false', beq_iff_eq, decide_eq_false_iff_not] at h2
    refine ⟨h2.1, fun hm => ?_, by omega⟩
    rw [(hasC_mem x 47).2 hm] at h2
    exact absurd h2.2.1 (by decide)
  · obtain ⟨h1, h2, h3⟩ := h x hx
    unfold oddB at ho
    rw [Bool.or_eq_true, Bool.or_eq_true, Bool.not_eq_true', beq_eq_false_iff_ne, decide_eq_true_iff, hasC_mem] at ho
    rcases ho with ho | ho | ho
    · exact ho h1
    · exact h2 ho
    · omega

theorem pathSplit_ne (s : List UInt8) : pathSplit s ≠ [] := split_ne2 _
theorem parse_eq {s : List UInt8} (hs : s.length ≤ 300000) : parseL s = normR [] (pathSplit s) := normL_eq (pathSplit_small hs).2
theorem split_good {s x : List UInt8} (h : x ∈ pathSplit s) : encode3 x = x ∧ (47 : UInt8) ∉ x :=
  ⟨enc_of_kept x fun c hc => enc_kept (splitOn_mem 47 _ x h c hc), splitOn_free 47 _ x h⟩
theorem may_norm {init : List (List UInt8)} (hi : ∀ x ∈ init, encode3 x = x ∧ (47 : UInt8) ∉ x ∧ dotsN x = 0) (s : List UInt8) : mayL (normR init (pathSplit s)) = true :=
  (may_iff _).2 ⟨normR_ne _ _ (.inl (pathSplit_ne s)), fun x hx => by
    have h0 := normR_none (pathSplit s) init (fun y hy => (hi y hy).2.2) x hx
    rcases normR_mem _ _ x hx with h | h | h
    · exact hi x h
    · exact ⟨(split_good h).1, (split_good h).2, h0⟩
    · subst h; exact ⟨rfl, by simp, h0⟩⟩
theorem may_parse {s : List UInt8} (hs : s.length ≤ 300000) : mayL (parseL s) = true := by
  rw [parse_eq hs]; exact may_norm (fun x hx => by cases hx) s
theorem parse_show {l : List (List UInt8)} (hm : mayL l = true) (hl : (showL l).length ≤ 300000) : parseL (showL l) = l := by
  obtain ⟨hne, hall⟩ := (may_iff l).1 hm
  have hj := showL_join l hne
  have hk : ∀ c ∈ showL l, set3 c = false := fun c hc => by
    obtain ⟨x, hx, hc⟩ := List.mem_flatMap.1 hc
    rcases List.mem_cons.1 hc with rfl | hc
    · exact set3_47
    · rw [← (hall x hx).1] at hc; exact enc_kept hc
  rw [hj] at hk hl ⊢
  rw [parse_slash (by simp at hl; omega), enc_of_kept _ (fun c hc => hk c (List.mem_cons_of_mem _ hc)), splitOn_of_join 47 l hne (fun p hp => (hall p hp).2.1), normR_free _ _ (fun s hs => (hall s hs).2.2)]
  rfl
theorem show_parse_len {s : List UInt8} (hs : s.length ≤ 300000) : (showL (parseL s)).length ≤ 3 * s.length + 1 := by
  rw [parse_eq hs]
  have h1 := norm_total (pathSplit s) []
  have h2 : showL (pathSplit s) = 47 :: encode3 (trimSlash s) := show_split _
  have h3 := encB_len set3 (trimSlash s)
  have h4 := trimSlash_len s
  have h5 : (encode3 (trimSlash s)).length = (encB set3 (trimSlash s)).length := rfl
  rw [h2] at h1
  have h6 : (showL ([] : List (List UInt8))).length = 0 := rfl
  rw [h6, List.length_cons] at h1
  omega
theorem show_few {l : List (List UInt8)} {n : Nat} (h : ∀ x ∈ l, x.length ≤ n) : (showL l).length ≤ l.length * (n + 1) := by
  induction l with
  | nil => exact Nat.zero_le _
  | cons x l ih =>
    have h1 := h x List.mem_cons_self
    have h2 := ih fun y hy => h y (List.mem_cons_of_mem _ hy)
    rw [showL_cons]; simp only [List.length_cons, List.length_append, Nat.succ_mul]; omega

/-- Two dots and a slash, n times. -/
def upsL (n : Nat) : List UInt8 := (List.replicate n [46, 46, 47]).flatten
theorem upsL_succ (n : Nat) : upsL (n + 1) = 46 :: 46 :: 47 :: upsL n := by unfold upsL; rw [List.replicate_succ]; rfl
theorem upsL_snoc (n : Nat) : upsL (n + 1) = upsL n ++ [46, 46, 47] := by unfold upsL; rw [List.replicate_succ', List.flatten_append]; simp
theorem upsL_len (n : Nat) : (upsL n).length = 3 * n := by
  induction n with
  | zero => rfl
  | succ n ih => rw [upsL_succ]; simp; omega
theorem split_ups (s : List UInt8) : ∀ n, splitOn 47 (encode3 (upsL n ++ s)) = List.replicate n [46, 46] ++ splitOn 47 (encode3 s)
  | 0 => rfl
  | n + 1 => by
    have e : upsL (n + 1) ++ s = [46, 46] ++ 47 :: (upsL n ++ s) := by rw [upsL_succ]; rfl
    rw [e, split_enc (by decide), split_ups s n, List.replicate_succ]
    rfl
theorem pathSplit_ups (s : List UInt8) (n : Nat) : pathSplit (upsL (n + 1) ++ s) = List.replicate (n + 1) [46, 46] ++ splitOn 47 (encode3 s) := by
  rw [← split_ups]
  have e : trimSlash (upsL (n + 1) ++ s) = upsL (n + 1) ++ s := by rw [upsL_succ]; rfl
  unfold pathSplit; rw [e]
theorem merge_eq {b : List (List UInt8)} (hall : ∀ x ∈ b, x.length ≤ 1000000) {s : List UInt8} (hs : s.length ≤ 300000) : mergeL b s = normR [] (b.dropLast ++ pathSplit s) :=
  normL_eq fun x hx => by
    rcases List.mem_append.1 hx with h | h
    · exact hall x ((List.dropLast_sublist b).subset h)
    · exact (pathSplit_small hs).2 x h
theorem merge_may {b : List (List UInt8)} (hm : mayL b = true) (hall : ∀ x ∈ b, x.length ≤ 1000000) {s : List UInt8} (hs : s.length ≤ 300000) : mayL (mergeL b s) = true := by
  have h := (may_iff b).1 hm
  have hd : ∀ x ∈ b.dropLast, encode3 x = x ∧ (47 : UInt8) ∉ x ∧ dotsN x = 0 := fun x hx => h.2 x ((List.dropLast_sublist b).subset hx)
  rw [merge_eq hall hs, normR_pre _ _ _ (fun x hx => (hd x hx).2.2), List.nil_append]
  exact may_norm hd s
theorem merge_top {b : List (List UInt8)} (hm : mayL b = true) (hall : ∀ x ∈ b, x.length ≤ 1000000) (hb : b.length ≤ 1000) {s : List UInt8} (hs : s.length ≤ 1000) : mergeL b (upsL b.length ++ s) = parseL (upsL b.length ++ s) := by
  have h := (may_iff b).1 hm
  have hd : ∀ x ∈ b.dropLast, dotsN x = 0 := fun x hx => (h.2 x ((List.dropLast_sublist b).subset hx)).2.2
  obtain ⟨n, hn⟩ : ∃ n, b.length = n + 1 := by
    rcases b with _ | ⟨x, r⟩
    · exact absurd rfl h.1
    · exact ⟨r.length, rfl⟩
  have hl := upsL_len b.length
  have h46 : dotsN [46, 46] = 2 := by decide +kernel
  rw [merge_eq hall (by simp; omega), parse_eq (by simp; omega), hn, pathSplit_ups, normR_pre _ _ _ hd, List.nil_append, normR_ups h46 _ _ _ (split_ne2 _) (by rw [List.length_dropLast]; omega), normR_ups h46 _ _ _ (split_ne2 _) (Nat.zero_le _)]
theorem merge_none (s : List UInt8) : mergeL [] s = parseL s := rfl

end Go.Proofs.YtcegcjefjclcnaaDoor
