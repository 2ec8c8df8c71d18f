/- Encoded segments: plain laws; normL by recursion. -/
import Derived.Test.YtcegcjefjclcnaaDoorNorm
import Derived.Test.YtcegcjefjclcnaaDoorNormP
import Derived.Test.YtcegcjefjclcnaaDoorDotsP
import Derived.Test.YtcegcjefjclcnaaDoorPathS
namespace Go.Proofs.YtcegcjefjclcnaaDoor

theorem normL_eq {l : List (List UInt8)} (hall : ∀ x ∈ l, x.length ≤ 1000000) : normL l = normR [] l := by
  have key : ∀ k, k ≤ l.length → normR [] l = normR ((upto (segAt l) k).foldl nstep []) (l.drop k) ∨ (k = l.length ∧ normR [] l = (upto (segAt l) k).foldl nstep []) := by
    intro k
    induction k with
    | zero => intro _; exact .inl rfl
    | succ k ih =>
      intro hk
      rcases ih (by omega) with h | ⟨h, _⟩
      · obtain ⟨x, hx⟩ : ∃ x, l[k]? = some x := ⟨_, List.getElem?_eq_getElem (by omega)⟩
        obtain ⟨hlt, hget⟩ := List.getElem?_eq_some_iff.1 hx
        have e1 : (segAt l k).1.take 1000000 = x := by
          show (l[k]?.getD []).take 1000000 = x
          rw [hx]; exact List.take_of_length_le (hall x (List.mem_of_getElem? hx))
        rw [List.drop_eq_getElem_cons hlt, hget] at h
        rw [upto_succ, fold_snoc]
        generalize (upto (segAt l) k).foldl nstep [] = out at *
        have hn : nstep out (segAt l k) = if dotsN x = 0 then out ++ [x] else if (segAt l k).2 = true then (if dotsN x = 2 then out.dropLast else out) ++ [[]] else if dotsN x = 2 then out.dropLast else out := by
          unfold nstep; rw [e1]
        by_cases hd : dotsN x = 0
        · rw [hn, if_pos hd]
          rw [normR_keep hd] at h
          exact .inl h
        · rw [hn, if_neg hd]
          by_cases hl : k + 1 = l.length
          · have h2 : (segAt l k).2 = true := decide_eq_true hl
            rw [if_pos h2]
            rw [List.drop_eq_nil_of_le (by omega), normR_last hd] at h
            exact .inr ⟨hl, h⟩
          · have h2 : ¬ (segAt l k).2 = true := by rw [show (segAt l k).2 = false from decide_eq_false hl]; exact Bool.false_ne_true
            rw [if_neg h2]
            rw [normR_dots hd out (by intro e; have := congrArg List.length e; simp at this; omega)] at h
            exact .inl h
      · omega
  rcases key l.length (Nat.le_refl _) with h | ⟨_, h⟩
  · rw [List.drop_length, normR_nil] at h; exact h.symm
  · exact h.symm

theorem encB_append (f : UInt8 → Bool) (a b : List UInt8) : encB f (a ++ b) = encB f a ++ encB f b := by simp [encB]
theorem encB_cons (f : UInt8 → Bool) (c : UInt8) (b : List UInt8) : encB f (c :: b) = enc1 f c ++ encB f b := rfl
theorem enc1_keep {f : UInt8 → Bool} {c : UInt8} (h : f c = false) : enc1 f c = [c] := by unfold enc1; rw [if_neg (by rw [h]; exact Bool.false_ne_true)]
theorem enc1_turn {f : UInt8 → Bool} {c : UInt8} (h : f c = true) : enc1 f c = [37, hexU (c.toNat / 16), hexU (c.toNat % 16)] := by unfold enc1; rw [if_pos h]
theorem hexU_ne : ∀ d : Nat, d < 16 → hexU d ≠ 47 ∧ (hexU d = 50 → d = 2) ∧ (lowC (hexU d) = 101 → d = 14) := by decide +kernel
theorem enc_slash (a : List UInt8) (h : (47 : UInt8) ∉ a) : (47 : UInt8) ∉ encode3 a := by
  intro hm
  obtain ⟨c, hc, hx⟩ := List.mem_flatMap.1 hm
  by_cases hf : set3 c = true
  · rw [enc1_turn hf] at hx
    have h1 := hexU_ne (c.toNat / 16) (by have := c.toNat_lt; omega)
    have h2 := hexU_ne (c.toNat % 16) (by omega)
    rcases List.mem_cons.1 hx with hx | hx
    · cases hx
    · rcases List.mem_cons.1 hx with hx | hx
      · exact h1.1 hx.symm
      · exact h2.1 (List.mem_singleton.1 hx).symm
  · rw [enc1_keep (by simpa using hf)] at hx
    exact h (by rw [List.mem_singleton.1 hx]; exact hc)
theorem set3_47 : set3 47 = false := by decide +kernel
theorem set3_46 : set3 46 = false := by decide +kernel
theorem set3_37 : set3 37 = false := by decide +kernel
theorem set3_50 : set3 50 = false := by decide +kernel
theorem set3_e : ∀ n : Nat, n < 256 → lowC (UInt8.ofNat n) = 101 → set3 (UInt8.ofNat n) = false := by decide +kernel
theorem split_enc {a b : List UInt8} (h : (47 : UInt8) ∉ a) : splitOn 47 (encode3 (a ++ 47 :: b)) = encode3 a :: splitOn 47 (encode3 b) := by
  unfold encode3
  rw [encB_append, encB_cons, enc1_keep set3_47]
  exact splitOn_append 47 (encB set3 a) (encB set3 b) (enc_slash a h)
theorem enc_nil {a : List UInt8} : encode3 a = [] ↔ a = [] := by
  constructor
  · intro h
    cases a with
    | nil => rfl
    | cons c R =>
      unfold encode3 at h
      rw [encB_cons] at h
      by_cases hf : set3 c = true
      · rw [enc1_turn hf] at h; cases h
      · rw [enc1_keep (by simpa using hf)] at h; cases h
  · rintro rfl; rfl
theorem enc_take (a : List UInt8) : takeDot (encode3 a) = (takeDot a).map encode3 := by
  unfold encode3
  cases a with
  | nil => rfl
  | cons c R =>
    rw [encB_cons]
    by_cases hc : c = 46
    · subst hc
      rw [enc1_keep set3_46, takeDot_dot]
      exact takeDot_dot _
    · by_cases hf : set3 c = true
      · have hn : takeDot (c :: R) = none := takeDot_none hc (fun h => by
          have := h.2
          simp only [List.take_succ_cons, lowL, List.map_cons] at this
          injection this with h1 _
          have h37 : c = 37 := by
            have h2 : ∀ n : Nat, n < 256 → lowC (UInt8.ofNat n) = 37 → n = 37 := by decide +kernel
            exact UInt8.toNat_inj.1 (h2 c.toNat c.toNat_lt (by rw [UInt8.ofNat_toNat]; exact h1))
          subst h37; rw [set3_37] at hf; cases hf)
        rw [hn, enc1_turn hf]
        refine takeDot_none (by decide) (fun h => ?_)
        have := h.2
        simp only [List.take_succ_cons, lowL, List.map_cons] at this
        injection this with _ h1
        injection h1 with h1 h2
        injection h2 with h2 _
        have d1 := hexU_ne (c.toNat / 16) (by have := c.toNat_lt; omega)
        have d2 := hexU_ne (c.toNat % 16) (by omega)
        have h50 : ∀ d : Nat, d < 16 → lowC (hexU d) = 50 → d = 2 := by decide +kernel
        have e1 := h50 _ (by have := c.toNat_lt; omega) h1
        have e2 := d2.2.2 h2
        exact hc (UInt8.toNat_inj.1 (by show c.toNat = 46; omega))
      · have hk : enc1 set3 c = [c] := enc1_keep (by simpa using hf)
        rw [hk]
        show takeDot (c :: encB set3 R) = _
        by_cases h3 : 3 ≤ (c :: R).length ∧ lowL ((c :: R).take 3) = [37, 50, 101]
        · rw [takeDot_hex hc h3.1 h3.2]
          match R, h3 with
          | x :: y :: R', h3 =>
            have he := h3.2
            simp only [List.take_succ_cons, List.take_zero, lowL, List.map_cons, List.map_nil] at he
            injection he with h0 he
            injection he with h1 he
            injection he with h2 _
            have hx : x = 50 := by
              have hh : ∀ n : Nat, n < 256 → lowC (UInt8.ofNat n) = 50 → n = 50 := by decide +kernel
              exact UInt8.toNat_inj.1 (hh x.toNat x.toNat_lt (by rw [UInt8.ofNat_toNat]; exact h1))
            have hy : set3 y = false := by have := set3_e y.toNat y.toNat_lt (by rw [UInt8.ofNat_toNat]; exact h2); rwa [UInt8.ofNat_toNat] at this
            subst hx
            rw [encB_cons, enc1_keep set3_50, encB_cons, enc1_keep hy]
            exact takeDot_hex (l := 50 :: y :: encB set3 R') hc (by simp) (by rw [← h3.2]; rfl)
          | [], h3 => have := h3.1; simp at this
          | [x], h3 => have := h3.1; simp at this
        · rw [takeDot_none hc h3]
          refine takeDot_none hc (fun h => h3 ?_)
          -- the encoded text begins so: then the text does
          match R with
          | [] => have := h.1; simp [encB] at this
          | x :: R1 =>
            have hx : set3 x = false := by
              refine Classical.byContradiction fun hx => ?_
              have hx : set3 x = true := by simpa using hx
              have := h.2
              rw [encB_cons, enc1_turn hx] at this
              simp only [List.cons_append, List.take_succ_cons, lowL, List.map_cons] at this
              injection this with _ this
              injection this with this _
              exact absurd this (by decide)
            rw [encB_cons, enc1_keep hx] at h
            match R1 with
            | [] => have := h.1; simp [encB] at this
            | y :: R2 =>
              have hy : set3 y = false := by
                refine Classical.byContradiction fun hy => ?_
                have hy : set3 y = true := by simpa using hy
                have := h.2
                rw [encB_cons, enc1_turn hy] at this
                simp only [List.cons_append, List.nil_append, List.take_succ_cons, lowL, List.map_cons] at this
                injection this with _ this
                injection this with _ this
                injection this with this _
                exact absurd this (by decide)
              rw [encB_cons, enc1_keep hy] at h
              exact ⟨by simp, by rw [← h.2]; rfl⟩
theorem enc_dots (a : List UInt8) : dotsN (encode3 a) = dotsN a := by
  have key : ∀ k l, dotsFrom k (encode3 l) = dotsFrom k l := by
    have hh : ∀ m k l, 2 - k ≤ m → dotsFrom k (encode3 l) = dotsFrom k l := by
      intro m
      induction m with
      | zero =>
        intro k l hk
        by_cases hl : l = []
        · subst hl; rfl
        · have hl2 : encode3 l ≠ [] := fun e => hl (enc_nil.1 e)
          have e := enc_take l
          cases ht : takeDot l with
          | none => rw [ht] at e; rw [dotsFrom_none hl ht, dotsFrom_none hl2 e]
          | some r => rw [ht] at e; rw [dotsFrom_some hl ht, dotsFrom_some hl2 e, if_neg (by omega), if_neg (by omega)]
      | succ m ih =>
        intro k l hk
        by_cases hl : l = []
        · subst hl; rfl
        · have hl2 : encode3 l ≠ [] := fun e => hl (enc_nil.1 e)
          have e := enc_take l
          cases ht : takeDot l with
          | none => rw [ht] at e; rw [dotsFrom_none hl ht, dotsFrom_none hl2 e]
          | some r =>
            rw [ht] at e
            rw [dotsFrom_some hl ht, dotsFrom_some hl2 e]
            by_cases hk2 : k < 2
            · rw [if_pos hk2, if_pos hk2]; exact ih (k + 1) r (by omega)
            · rw [if_neg hk2, if_neg hk2]
    exact fun k l => hh (2 - k) k l (Nat.le_refl _)
  exact key 0 a

end Go.Proofs.YtcegcjefjclcnaaDoor
