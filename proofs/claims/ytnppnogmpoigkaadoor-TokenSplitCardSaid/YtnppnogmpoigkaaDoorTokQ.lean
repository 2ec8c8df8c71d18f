/- Token, plain: a name's policy, what fields tell, what parts are. -/
import Derived.Test.YtnppnogmpoigkaaDoorTokP
namespace Go.Proofs.YtnppnogmpoigkaaDoor
set_option linter.unusedVariables false
set_option linter.unnecessarySimpa false
set_option linter.unusedSimpArgs false

theorem pol_hit (s : List UInt8) : polOf s < 9 ∧ (polOf s ≠ 0 → sameN s (polName (polOf s)) = true) := by
  unfold polOf
  cases h : polN.findIdx? (polIs s) with
  | none => exact ⟨by decide, fun h => absurd rfl h⟩
  | some k =>
    obtain ⟨hk, hp, _⟩ := List.findIdx?_eq_some_iff_getElem.1 h
    have hk9 : k < 9 := hk
    refine ⟨hk9, fun h0 => ?_⟩
    have h1 : 1 ≤ k := Nat.pos_of_ne_zero h0
    have e := pol_at k hk9
    rw [List.getElem?_eq_getElem hk] at e
    have hp2 : polIs s (polName k) = true := by
      rw [← Option.some.inj e]; exact hp
    rw [pol_is hk9 h1] at hp2
    exact hp2
theorem sameN_length {a b : List UInt8} (h : sameN a b = true) : a.length = b.length := by
  unfold sameN at h
  have := congrArg List.length (eq_of_beq h)
  simpa [lowL] using this
theorem pol_length {s : List UInt8} (h : polOf s ≠ 0) : (polName (polOf s)).length = s.length := (sameN_length ((pol_hit s).2 h)).symm
theorem lastP_nils : lastP (splitT []) = 0 := by decide +kernel
theorem last_comma (s : List UInt8) : lastP (splitT (s ++ [44])) = lastP (splitT s) := by
  rw [splitT_two, lastP_append, lastP_nils, if_pos rfl]
theorem sameN_selfT (n : List UInt8) : sameN n n = true := by unfold sameN; exact beq_self_eq_true _
theorem sameN_symT (a b : List UInt8) : sameN a b = sameN b a := by
  unfold sameN
  cases h : lowL a == lowL b
  · exact (beq_eq_false_iff_ne.2 (fun e => by rw [e, beq_self_eq_true] at h; cases h)).symm
  · rw [eq_of_beq h]; exact (beq_self_eq_true _).symm
theorem allL_snoc (n : List UInt8) (L : List Fld) (f : Fld) : allL n (L ++ [f]) = allL n L ++ (if sameN f.1 n = true then [f.2] else []) := by
  unfold allL
  rw [List.filter_append, List.map_append]
  congr 1
  by_cases h : sameN f.1 n = true
  · rw [if_pos h, List.filter_cons, if_pos h]; rfl
  · rw [if_neg h, List.filter_cons, if_neg h]; rfl
theorem told_snoc (L : List Fld) (f : Fld) : toldL (L ++ [f]) = if sameN f.1 rpN = true ∧ lastP (splitT f.2) ≠ 0 then lastP (splitT f.2) else toldL L := by
  unfold toldL getL
  rw [allL_snoc]
  by_cases h : sameN f.1 rpN = true
  · rw [if_pos h]
    by_cases he : allL rpN L = []
    · rw [he, List.nil_append, inter_one]
      by_cases h0 : lastP (splitT f.2) = 0
      · rw [if_neg (fun h => h.2 h0), h0]; decide +kernel
      · rw [if_pos ⟨h, h0⟩]
    · rw [inter_snoc comma f.2 (allL rpN L) he]
      have e : comma.intercalate (allL rpN L) ++ comma ++ f.2 = comma.intercalate (allL rpN L) ++ 44 :: (32 :: f.2) := by simp [comma]
      rw [e, splitT_two, splitT_front (by decide), lastP_append]
      by_cases h0 : lastP (splitT f.2) = 0
      · rw [if_pos h0, if_neg (fun h => h.2 h0)]
      · rw [if_neg h0, if_pos ⟨h, h0⟩]
  · rw [if_neg h, List.append_nil, if_neg (fun h' => h h'.1)]
theorem told_drop (L : List Fld) : toldL (dropL [rpN] L) = 0 := by
  refine told_none ?_
  rw [List.isEmpty_iff]
  unfold allL dropL
  rw [List.filter_filter, List.filter_eq_nil_iff.2, List.map_nil]
  intro f hf h
  rw [Bool.and_eq_true] at h
  have h2 := h.2
  unfold goneB at h2
  rw [List.any_cons, List.any_nil, Bool.or_false, sameN_symT, h.1] at h2
  exact absurd h2 (by decide)
theorem dropL_lenT (N : List (List UInt8)) (L : List Fld) : (dropL N L).length ≤ L.length := List.length_filter_le _ _

theorem trim2_ends (l : List UInt8) : trim2 l = [] ∨ (∃ c t, trim2 l = c :: t ∧ blC c = false) ∧ (∃ c t, trim2 l = t ++ [c] ∧ blC c = false) ∧ ∀ c ∈ trim2 l, c ∈ l := by
  have key : ∀ m : List UInt8, trimR blC m = [] ∨ (∃ c t, trimR blC m = t ++ [c] ∧ blC c = false) := by
    intro m
    unfold trimR
    obtain ⟨a, h1, h2, h3⟩ := dw_split blC m.reverse
    rcases h3 with h3 | ⟨c, t, h3, hc⟩
    · rw [h3]; exact .inl rfl
    · rw [h3]; exact .inr ⟨c, t.reverse, by simp, hc⟩
  have sub : ∀ m : List UInt8, ∀ c ∈ trimR blC m, c ∈ m := by
    intro m c h
    unfold trimR at h
    rw [List.mem_reverse] at h
    exact List.mem_reverse.1 ((List.dropWhile_sublist _).subset h)
  by_cases h0 : trim2 l = []
  · exact .inl h0
  · refine .inr ⟨?_, ?_, ?_⟩
    · have e : trim2 l = (trimR blC l).dropWhile blC := by rw [trim_swap, ← trim2_alt]
      obtain ⟨a, h1, h2, h3⟩ := dw_split blC (trimR blC l)
      rw [← e] at h3
      rcases h3 with h3 | h3
      · exact absurd h3 h0
      · exact h3
    · rw [trim2_alt] at h0 ⊢
      exact (key _).resolve_left h0
    · intro c h
      rw [trim2_alt] at h
      exact (List.dropWhile_sublist _).subset (sub _ c h)
theorem splitT_part {s x : List UInt8} (h : x ∈ splitT s) : (44 ∉ x) ∧ (x = [] ∨ (∃ c t, x = c :: t ∧ blC c = false) ∧ ∃ c t, x = t ++ [c] ∧ blC c = false) := by
  unfold splitT at h
  obtain ⟨y, hy, rfl⟩ := List.mem_map.1 h
  have hf := splitOn_free 44 s y hy
  rcases trim2_ends y with h0 | ⟨h1, h2, h3⟩
  · exact ⟨by rw [h0]; exact List.not_mem_nil, .inl h0⟩
  · exact ⟨fun hc => hf (h3 _ hc), .inr ⟨h1, h2⟩⟩
theorem splitT_ne (s : List UInt8) : splitT s ≠ [] := by
  unfold splitT
  obtain ⟨p, ps, e⟩ := splitOn_ne 44 s
  rw [e]
  exact fun h => by cases h
theorem bl_no {c : UInt8} (h : blC c = false) : c ≠ 32 ∧ c ≠ 9 := by
  constructor <;> (rintro rfl; exact absurd h (by decide))

end Go.Proofs.YtnppnogmpoigkaaDoor
