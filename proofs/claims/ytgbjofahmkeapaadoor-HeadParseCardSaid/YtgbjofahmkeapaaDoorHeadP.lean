/- Head, plain: what is set, dropped, got. -/
import Derived.Test.YtgbjofahmkeapaaDoorLaw13b
namespace Go.Proofs.YtgbjofahmkeapaaDoor
set_option linter.unusedVariables false
set_option linter.unnecessarySimpa false
set_option linter.unusedSimpArgs false

theorem lowL_low (l : List UInt8) : lowL (lowL l) = lowL l := by
  unfold lowL
  rw [List.map_map]
  congr 1
  funext c
  have key : ∀ n : Nat, n < 256 → lowC (lowC (UInt8.ofNat n)) = lowC (UInt8.ofNat n) := by decide +kernel
  have := key c.toNat c.toNat_lt
  rw [UInt8.ofNat_toNat] at this
  exact this
theorem sameN_self (n : List UInt8) : sameN n n = true := by unfold sameN; exact beq_self_eq_true _
theorem sameN_sym (a b : List UInt8) : sameN a b = sameN b a := by
  unfold sameN
  cases h : lowL a == lowL b
  · exact (beq_eq_false_iff_ne.2 (fun e => by rw [e, beq_self_eq_true] at h; cases h)).symm
  · rw [eq_of_beq h]; exact (beq_self_eq_true _).symm
theorem sameN_eq {a b : List UInt8} (h : sameN a b = true) (c : List UInt8) : sameN a c = sameN b c := by
  unfold sameN at *
  rw [eq_of_beq h]
theorem sameN_low (a n : List UInt8) : sameN a (lowL n) = sameN a n := by unfold sameN; rw [lowL_low]
theorem allL_low (n : List UInt8) (L : List Fld) : allL (lowL n) L = allL n L := by
  unfold allL
  congr 1
  congr 1
  funext f
  exact sameN_low f.1 n
theorem getL_low (n : List UInt8) (L : List Fld) : getL (lowL n) L = getL n L := by unfold getL; rw [allL_low]
theorem allL_append (n : List UInt8) (A B : List Fld) : allL n (A ++ B) = allL n A ++ allL n B := by unfold allL; rw [List.filter_append, List.map_append]
theorem dropL_append (N : List (List UInt8)) (A B : List Fld) : dropL N (A ++ B) = dropL N A ++ dropL N B := by unfold dropL; rw [List.filter_append]
theorem gone_one (n : List UInt8) (f : Fld) : goneB [n] f = sameN f.1 n := by
  unfold goneB
  rw [List.any_cons, List.any_nil, Bool.or_false, sameN_sym]
theorem gone_two (a b : List UInt8) (f : Fld) : goneB [a, b] f = (sameN f.1 a || sameN f.1 b) := by
  unfold goneB
  rw [List.any_cons, List.any_cons, List.any_nil, Bool.or_false, sameN_sym a, sameN_sym b]
theorem dropL_nil (L : List Fld) : dropL [] L = L := by
  unfold dropL goneB
  simp
theorem dropL_two (a b : List UInt8) (L : List Fld) : dropL [a] (dropL [b] L) = dropL [a, b] L := by
  unfold dropL
  rw [List.filter_filter]
  congr 1
  funext f
  rw [gone_one, gone_one, gone_two, Bool.not_or]
theorem dropL_len (N : List (List UInt8)) (L : List Fld) : (dropL N L).length ≤ L.length := List.length_filter_le _ _
theorem dropL_sm {k : Nat} {L : List Fld} (h : SmF k L) (N : List (List UInt8)) : SmF k (dropL N L) := ⟨Nat.le_trans (dropL_len N L) h.1, fun f hf => h.2 f (List.mem_filter.1 hf).1⟩
theorem allL_none {n : List UInt8} {L : List Fld} (h : ∀ f ∈ L, sameN f.1 n = false) : allL n L = [] := by
  unfold allL
  rw [List.filter_eq_nil_iff.2 (fun f hf => by rw [h f hf]; decide)]
  rfl
theorem drop_gone {N : List (List UInt8)} {n : List UInt8} (hn : n ∈ N) (L : List Fld) : allL n (dropL N L) = [] := allL_none fun f hf => by
  have h := (List.mem_filter.1 hf).2
  rw [Bool.eq_false_iff]
  intro e
  have : goneB N f = true := by
    unfold goneB
    exact List.any_eq_true.2 ⟨n, hn, by rw [sameN_sym]; exact e⟩
  rw [this] at h
  exact absurd h (by decide)
theorem drop_rest {a b o : List UInt8} (ha : sameN o a = false) (hb : sameN o b = false) (L : List Fld) : allL o (dropL [a, b] L) = allL o L := by
  unfold allL dropL
  rw [List.filter_filter]
  congr 1
  refine List.filter_congr fun f _ => ?_
  cases h : sameN f.1 o
  · rfl
  · rw [gone_two, sameN_eq h a, sameN_eq h b, ha, hb]; rfl
/-- In a list there is one field of a name, or none, as far as has been set. -/
def SetForm (n v : List UInt8) (x : List Fld × Bool) : Prop :=
  (x.2 = false ∧ ∀ f ∈ x.1, sameN f.1 n = false) ∨ (x.2 = true ∧ ∃ P Q, x.1 = P ++ (n, v) :: Q ∧ (∀ f ∈ P, sameN f.1 n = false) ∧ ∀ f ∈ Q, sameN f.1 n = false)
theorem setF_form (n v : List UInt8) : ∀ (l : List Fld) (x : List Fld × Bool), SetForm n v x → SetForm n v (l.foldl (setStep n v) x)
  | [], x, h => h
  | f :: l, x, h => by
    rw [List.foldl_cons]
    refine setF_form n v l _ ?_
    unfold setStep
    cases hf : sameN f.1 n
    · rw [if_neg (by decide)]
      rcases h with ⟨h1, h2⟩ | ⟨h1, P, Q, h2, h3, h4⟩
      · refine .inl ⟨h1, fun g hg => ?_⟩
        rcases List.mem_append.1 hg with hg | hg
        · exact h2 g hg
        · obtain rfl : g = f := by simpa using hg
          exact hf
      · refine .inr ⟨h1, P, Q ++ [f], by show x.1 ++ [f] = _; rw [h2]; simp, h3, fun g hg => ?_⟩
        rcases List.mem_append.1 hg with hg | hg
        · exact h4 g hg
        · obtain rfl : g = f := by simpa using hg
          exact hf
    · rw [if_pos rfl]
      rcases h with ⟨h1, h2⟩ | ⟨h1, h2⟩
      · rw [if_neg (by rw [h1]; decide)]
        exact .inr ⟨rfl, x.1, [], rfl, h2, fun _ h => by cases h⟩
      · rw [if_pos h1]
        exact .inr ⟨h1, h2⟩
theorem setL_form (n v : List UInt8) (L : List Fld) : ∃ P Q, setL n v L = P ++ (n, v) :: Q ∧ (∀ f ∈ P, sameN f.1 n = false) ∧ ∀ f ∈ Q, sameN f.1 n = false := by
  have h := setF_form n v L ([], false) (.inl ⟨rfl, fun _ h => by cases h⟩)
  unfold setL
  rcases h with ⟨h1, h2⟩ | ⟨h1, h2⟩
  · rw [if_neg (by show ¬ (setF n v L).2 = true; unfold setF; rw [h1]; decide)]
    exact ⟨_, [], rfl, h2, fun _ h => by cases h⟩
  · rw [if_pos (by show (setF n v L).2 = true; unfold setF; exact h1)]
    exact h2
theorem set_all (n v : List UInt8) (L : List Fld) : allL n (setL n v L) = [v] := by
  obtain ⟨P, Q, e, hP, hQ⟩ := setL_form n v L
  rw [e, allL_append, allL_none hP, show (n, v) :: Q = [(n, v)] ++ Q from rfl, allL_append, allL_none hQ]
  unfold allL
  rw [List.filter_cons, if_pos (sameN_self n)]
  rfl
theorem setF_skip (n v : List UInt8) : ∀ (l : List Fld) (x : List Fld × Bool), (∀ f ∈ l, sameN f.1 n = false) → l.foldl (setStep n v) x = (x.1 ++ l, x.2)
  | [], x, _ => by simp
  | f :: l, x, h => by
    rw [List.foldl_cons, setF_skip n v l _ (fun g hg => h g (List.mem_cons_of_mem _ hg))]
    unfold setStep
    rw [h f List.mem_cons_self, if_neg (by decide)]
    simp
theorem set_again (n v : List UInt8) (L : List Fld) : setL n v (setL n v L) = setL n v L := by
  obtain ⟨P, Q, e, hP, hQ⟩ := setL_form n v L
  rw [e]
  have : setF n v (P ++ (n, v) :: Q) = (P ++ (n, v) :: Q, true) := by
    unfold setF
    rw [List.foldl_append, setF_skip n v P _ hP, List.foldl_cons, setF_skip n v Q _ hQ]
    unfold setStep
    rw [sameN_self, if_pos rfl, if_neg (by simp)]
    simp
  unfold setL
  rw [this]; rfl
theorem setF_keep (n v : List UInt8) (p : Fld → Bool) (h1 : p (n, v) = false) (h2 : ∀ f : Fld, sameN f.1 n = true → p f = false) : ∀ (l : List Fld) (x : List Fld × Bool), (l.foldl (setStep n v) x).1.filter p = x.1.filter p ++ l.filter p
  | [], x => by simp
  | f :: l, x => by
    have hstep : (setStep n v x f).1.filter p = x.1.filter p ++ [f].filter p := by
      unfold setStep
      cases hf : sameN f.1 n
      · rw [if_neg (by simp)]
        exact List.filter_append _ _
      · have hpf := h2 f hf
        have hz : [f].filter p = [] := by simp [hpf]
        rw [if_pos rfl, hz, List.append_nil]
        by_cases hx : x.2 = true
        · rw [if_pos hx]
        · rw [if_neg hx]
          show List.filter p (x.1 ++ [(n, v)]) = _
          rw [List.filter_append]
          simp [h1]
    rw [List.foldl_cons, setF_keep n v p h1 h2 l, hstep, List.append_assoc, ← List.filter_append]
    rfl
theorem setL_keep (n v : List UInt8) (p : Fld → Bool) (h2 : ∀ f : Fld, sameN f.1 n = true → p f = false) (L : List Fld) : (setL n v L).filter p = L.filter p := by
  have h1 : p (n, v) = false := h2 (n, v) (sameN_self n)
  have h := setF_keep n v p h1 h2 L ([], false)
  unfold setL
  split
  · unfold setF; rw [h]; simp
  · rw [List.filter_append, List.filter_cons, if_neg (by rw [h1]; decide)]
    unfold setF; rw [h]; simp
theorem set_rest {n o : List UInt8} (v : List UInt8) (h : sameN n o = false) (L : List Fld) : allL o (setL n v L) = allL o L := by
  unfold allL
  rw [setL_keep n v _ (fun f hf => by rw [sameN_eq hf]; exact h)]
theorem set_without (n v : List UInt8) (L : List Fld) : dropL [n] (setL n v L) = dropL [n] L := by
  unfold dropL
  exact setL_keep n v _ (fun f hf => by rw [gone_one, hf]; rfl) L
theorem set_len (n v : List UInt8) (L : List Fld) : (setL n v L).length = (dropL [n] L).length + 1 := by
  obtain ⟨P, Q, e, hP, hQ⟩ := setL_form n v L
  have keep : ∀ l : List Fld, (∀ f ∈ l, sameN f.1 n = false) → dropL [n] l = l := fun l h => by
    unfold dropL
    exact List.filter_eq_self.2 fun f hf => by rw [gone_one, h f hf]; rfl
  rw [← set_without n v L, e, dropL_append, keep P hP, show (n, v) :: Q = [(n, v)] ++ Q from rfl, dropL_append, keep Q hQ]
  have : dropL [n] [(n, v)] = [] := by
    unfold dropL
    rw [List.filter_cons, if_neg (by rw [gone_one, sameN_self]; decide)]
    rfl
  rw [this]
  simp; omega
theorem setL_sm {k : Nat} {L : List Fld} (h : SmF k L) {n v : List UInt8} (hn : n.length ≤ 300) (hv : v.length ≤ 300) : SmF (k + 1) (setL n v L) := by
  constructor
  · rw [set_len]
    exact Nat.succ_le_succ (Nat.le_trans (dropL_len _ _) h.1)
  · intro f hf
    have hp := setF_mem' (n := n) (v := v) (p := fun f => f.1.length ≤ 300 ∧ f.2.length ≤ 300) ⟨hn, hv⟩ L ([], false) h.2 (fun _ h => by cases h)
    unfold setL at hf
    split at hf
    · exact hp f hf
    · rcases List.mem_append.1 hf with hf | hf
      · exact hp f hf
      · obtain rfl : f = (n, v) := by simpa using hf
        exact ⟨hn, hv⟩
theorem allL_few {k : Nat} {L : List Fld} (h : SmF k L) (n : List UInt8) : (allL n L).length ≤ k := Nat.le_trans (allL_len n L) h.1

end Go.Proofs.YtgbjofahmkeapaaDoor
