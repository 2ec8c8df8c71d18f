/- Token, plain: lists split, what they tell. -/
import Derived.Test.YtnppnogmpoigkaaDoorLaw14
namespace Go.Proofs.YtnppnogmpoigkaaDoor
set_option linter.unusedVariables false
set_option linter.unnecessarySimpa false
set_option linter.unusedSimpArgs false

theorem splitOn_two (c : UInt8) : ∀ (a b : List UInt8), splitOn c (a ++ c :: b) = splitOn c a ++ splitOn c b
  | [], b => by rw [List.nil_append, splitOn_hit, splitOn_nil]; rfl
  | x :: a, b => by
    by_cases h : x = c
    · subst h
      rw [List.cons_append, splitOn_hit, splitOn_hit, splitOn_two x a b]; rfl
    · obtain ⟨p, ps, e⟩ := splitOn_ne c a
      rw [List.cons_append, splitOn_miss h e, splitOn_miss h (by rw [splitOn_two c a b, e]; rfl)]
      rfl
theorem splitT_two (a b : List UInt8) : splitT (a ++ 44 :: b) = splitT a ++ splitT b := by unfold splitT; rw [splitOn_two, List.map_append]
theorem lastStep_foldl : ∀ (l : List (List UInt8)) (p : Nat), l.foldl lastStep p = if lastP l = 0 then p else lastP l
  | [], p => by simp [lastP]
  | x :: l, p => by
    have h1 := lastStep_foldl l (lastStep p x)
    have h2 := lastStep_foldl l (lastStep 0 x)
    unfold lastP at *
    rw [List.foldl_cons, List.foldl_cons, h1, h2]
    have e : ∀ q, lastStep q x = if polOf x = 0 then q else polOf x := fun _ => rfl
    rw [e, e]
    generalize l.foldl lastStep 0 = F
    generalize polOf x = q
    by_cases hF : F = 0
    · by_cases hq : q = 0
      · simp [hF, hq]
      · simp [hF, hq]
    · by_cases hq : q = 0
      · simp [hF, hq]
      · simp [hF, hq]
theorem lastP_append (a b : List (List UInt8)) : lastP (a ++ b) = if lastP b = 0 then lastP a else lastP b := by
  unfold lastP
  rw [List.foldl_append, lastStep_foldl]
  rfl

theorem trim2_front {c : UInt8} (h : blC c = true) (l : List UInt8) : trim2 (c :: l) = trim2 l := by
  rw [trim2_alt, List.dropWhile_cons, if_pos h, ← trim2_alt]
theorem trim2_back {c : UInt8} (h : blC c = true) (l : List UInt8) : trim2 (l ++ [c]) = trim2 l := by
  rw [trim2_alt, ← trim_swap, trimR_step h, trim_swap, ← trim2_alt]
theorem splitT_front {c : UInt8} (h : blC c = true) (l : List UInt8) : splitT (c :: l) = splitT l := by
  unfold splitT
  obtain ⟨p, ps, e⟩ := splitOn_ne 44 l
  rw [splitOn_miss (by rintro rfl; exact absurd h (by decide)) e, e, List.map_cons, List.map_cons, trim2_front h]
theorem splitOn_snoc {c : UInt8} (h : c ≠ 44) : ∀ l : List UInt8, ∃ I z, splitOn 44 l = I ++ [z] ∧ splitOn 44 (l ++ [c]) = I ++ [z ++ [c]]
  | [] => ⟨[], [], rfl, by rw [List.nil_append, splitOn_miss h (splitOn_nil 44)]; rfl⟩
  | x :: l => by
    obtain ⟨I, z, e1, e2⟩ := splitOn_snoc h l
    by_cases hx : x = 44
    · subst hx
      exact ⟨[] :: I, z, by rw [splitOn_hit, e1]; rfl, by rw [List.cons_append, splitOn_hit, e2]; rfl⟩
    · cases I with
      | nil => exact ⟨[], x :: z, by rw [splitOn_miss hx e1]; rfl, by rw [List.cons_append, splitOn_miss hx e2]; rfl⟩
      | cons y I => exact ⟨(x :: y) :: I, z, by rw [splitOn_miss hx e1]; rfl, by rw [List.cons_append, splitOn_miss hx e2]; rfl⟩
theorem splitT_back {c : UInt8} (h : blC c = true) (l : List UInt8) : splitT (l ++ [c]) = splitT l := by
  obtain ⟨I, z, e1, e2⟩ := splitOn_snoc (c := c) (by rintro rfl; exact absurd h (by decide)) l
  unfold splitT
  rw [e1, e2, List.map_append, List.map_append, List.map_cons, List.map_cons, trim2_back h]

end Go.Proofs.YtnppnogmpoigkaaDoor
