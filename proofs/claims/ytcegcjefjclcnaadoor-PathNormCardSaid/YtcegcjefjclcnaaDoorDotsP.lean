/- Which dots a text is, with more behind it: plain laws. No program in sight. -/
import Derived.Test.YtcegcjefjclcnaaDoorPathP
namespace Go.Proofs.YtcegcjefjclcnaaDoor

theorem takeDot_append {l r : List UInt8} (h : takeDot l = some r) (m : List UInt8) : takeDot (l ++ m) = some (r ++ m) := by
  cases l with
  | nil => simp [takeDot] at h
  | cons c R =>
    by_cases hc : c = 46
    · subst hc
      rw [takeDot_dot] at h
      obtain rfl := Option.some.inj h
      exact takeDot_dot _
    · by_cases h3 : 3 ≤ (c :: R).length ∧ lowL ((c :: R).take 3) = [37, 50, 101]
      · rw [takeDot_hex hc h3.1 h3.2] at h
        obtain rfl := Option.some.inj h
        have e1 : ((c :: R) ++ m).take 3 = (c :: R).take 3 := List.take_append_of_le_length h3.1
        have e2 : ((c :: R) ++ m).drop 3 = (c :: R).drop 3 ++ m := List.drop_append_of_le_length h3.1
        rw [← e2]
        exact takeDot_hex (l := R ++ m) hc (by have := h3.1; simp at this ⊢; omega) (by rw [← h3.2, ← e1]; rfl)
      · rw [takeDot_none hc h3] at h; cases h
/-- The four ways a text can be told. -/
theorem dots_ways (l : List UInt8) : (l = [] ∧ dotsN l = 0) ∨ (∃ r, takeDot l = some r ∧ r = [] ∧ dotsN l = 1) ∨ (∃ r q, takeDot l = some r ∧ takeDot r = some q ∧ q = [] ∧ dotsN l = 2) ∨ (l ≠ [] ∧ dotsN l = 0) := by
  by_cases h0 : l = []
  · exact .inl ⟨h0, by rw [h0]; exact dotsFrom_nil 0⟩
  · cases h1 : takeDot l with
    | none => exact .inr (.inr (.inr ⟨h0, dotsFrom_none h0 h1⟩))
    | some r =>
      have e1 : dotsN l = dotsFrom 1 r := by unfold dotsN; rw [dotsFrom_some h0 h1]; rfl
      by_cases hr : r = []
      · exact .inr (.inl ⟨r, rfl, hr, by rw [e1, hr]; exact dotsFrom_nil 1⟩)
      · cases h2 : takeDot r with
        | none => exact .inr (.inr (.inr ⟨h0, by rw [e1]; exact dotsFrom_none hr h2⟩))
        | some q =>
          have e2 : dotsN l = dotsFrom 2 q := by rw [e1, dotsFrom_some hr h2]; rfl
          by_cases hq : q = []
          · exact .inr (.inr (.inl ⟨r, q, rfl, h2, hq, by rw [e2, hq]; exact dotsFrom_nil 2⟩))
          · refine .inr (.inr (.inr ⟨h0, ?_⟩))
            rw [e2]
            cases h3 : takeDot q with
            | none => exact dotsFrom_none hq h3
            | some p => rw [dotsFrom_some hq h3]; rfl
theorem dots_le (l : List UInt8) : dotsN l ≤ 2 := by
  rcases dots_ways l with ⟨_, h⟩ | ⟨_, _, _, h⟩ | ⟨_, _, _, _, _, h⟩ | ⟨_, h⟩ <;> omega
/-- One dot, in either form. -/
def Unit1 (u : List UInt8) : Prop := u ≠ [] ∧ takeDot u = some []
theorem unit_dot : Unit1 [46] := ⟨by simp, rfl⟩
theorem unit_hex : Unit1 [37, 50, 69] := ⟨by simp, by decide⟩
theorem dots_one {l u : List UInt8} (hu : Unit1 u) (h : l = [] ∨ dotsN l = 1) : dotsN (l ++ u) = dotsN l + 1 := by
  rcases h with rfl | h
  · show dotsFrom 0 u = dotsFrom 0 [] + 1
    simp [dotsFrom_some hu.1 hu.2, dotsFrom_nil]
  · rcases dots_ways l with ⟨_, h'⟩ | ⟨r, h1, hr, _⟩ | ⟨_, _, _, _, _, h'⟩ | ⟨_, h'⟩
    · omega
    · subst hr
      have h0 : l ≠ [] := by rintro rfl; simp [takeDot] at h1
      have e1 := takeDot_append h1 u
      rw [List.nil_append] at e1
      have e2 : dotsN (l ++ u) = dotsFrom 1 u := by unfold dotsN; rw [dotsFrom_some (by simp [h0]) e1]; rfl
      rw [e2, h, dotsFrom_some hu.1 hu.2]
      exact dotsFrom_nil 2
    · omega
    · omega
theorem dots_three {l u : List UInt8} (hu : Unit1 u) (h : dotsN l = 2) : dotsN (l ++ u) = 0 := by
  rcases dots_ways l with ⟨_, h'⟩ | ⟨_, _, _, h'⟩ | ⟨r, q, h1, h2, hq, _⟩ | ⟨_, h'⟩
  · omega
  · omega
  · subst hq
    have h0 : l ≠ [] := by rintro rfl; simp [takeDot] at h1
    have hr : r ≠ [] := by rintro rfl; simp [takeDot] at h2
    have e1 := takeDot_append h1 u
    have e2 := takeDot_append h2 u
    rw [List.nil_append] at e2
    unfold dotsN
    rw [dotsFrom_some (by simp [h0]) e1, if_pos (by decide), dotsFrom_some (by simp [hr]) e2, if_pos (by decide), dotsFrom_some hu.1 hu.2]
    rfl
  · omega
theorem takeDot_last {l : List UInt8} (h : takeDot l = some []) : ∃ m c, l = m ++ [c] ∧ (c = 46 ∨ lowC c = 101) := by
  cases l with
  | nil => simp [takeDot] at h
  | cons c R =>
    by_cases hc : c = 46
    · subst hc
      rw [takeDot_dot] at h
      obtain rfl := Option.some.inj h
      exact ⟨[], 46, rfl, .inl rfl⟩
    · by_cases h3 : 3 ≤ (c :: R).length ∧ lowL ((c :: R).take 3) = [37, 50, 101]
      · rw [takeDot_hex hc h3.1 h3.2] at h
        have hd := Option.some.inj h
        match R, h3, hd with
        | [a, b], h3, _ =>
          refine ⟨[c, a], b, rfl, .inr ?_⟩
          have := h3.2
          simp [lowL] at this
          exact this.2.2
        | [], h3, _ => simp at h3
        | [a], h3, _ => simp at h3
        | a :: b :: d :: R, _, hd => simp at hd
      · rw [takeDot_none hc h3] at h; cases h
theorem takeDot_split {l r : List UInt8} (h : takeDot l = some r) : ∃ u, l = u ++ r := by
  cases l with
  | nil => simp [takeDot] at h
  | cons c R =>
    by_cases hc : c = 46
    · subst hc
      rw [takeDot_dot] at h
      obtain rfl := Option.some.inj h
      exact ⟨[46], rfl⟩
    · by_cases h3 : 3 ≤ (c :: R).length ∧ lowL ((c :: R).take 3) = [37, 50, 101]
      · rw [takeDot_hex hc h3.1 h3.2] at h
        obtain rfl := Option.some.inj h
        exact ⟨(c :: R).take 3, (List.take_append_drop 3 _).symm⟩
      · rw [takeDot_none hc h3] at h; cases h
theorem dots_last {l : List UInt8} (h : dotsN l ≠ 0) : ∃ m c, l = m ++ [c] ∧ (c = 46 ∨ lowC c = 101) := by
  rcases dots_ways l with ⟨_, h'⟩ | ⟨r, h1, hr, _⟩ | ⟨r, q, h1, h2, hq, _⟩ | ⟨_, h'⟩
  · exact absurd h' h
  · subst hr; exact takeDot_last h1
  · subst hq
    obtain ⟨m, c, e, hc⟩ := takeDot_last h2
    obtain ⟨u, e2⟩ := takeDot_split h1
    exact ⟨u ++ m, c, by rw [e2, e]; simp, hc⟩
  · exact absurd h' h
theorem lowC_e : ∀ n : Nat, n < 256 → lowC (UInt8.ofNat n) = 101 → n = 101 ∨ n = 69 := by decide +kernel
theorem dots_odd {l : List UInt8} {c : UInt8} (h1 : c ≠ 46) (h2 : c ≠ 101) (h3 : c ≠ 69) : dotsN (l ++ [c]) = 0 := by
  refine Classical.byContradiction fun h => ?_
  obtain ⟨m, d, e, hd⟩ := dots_last h
  have e2 : c = d := by
    have := congrArg List.getLast? e
    simpa using this
  subst e2
  rcases hd with hd | hd
  · exact h1 hd
  · have := lowC_e c.toNat c.toNat_lt (by rw [UInt8.ofNat_toNat]; exact hd)
    rcases this with h | h
    · exact h2 (UInt8.toNat_inj.1 h)
    · exact h3 (UInt8.toNat_inj.1 h)

end Go.Proofs.YtcegcjefjclcnaaDoor
