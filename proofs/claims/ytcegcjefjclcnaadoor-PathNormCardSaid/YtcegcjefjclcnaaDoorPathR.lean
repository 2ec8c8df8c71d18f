/- Segments without dots: what the law PathNorm asks. Plain laws. -/
import Derived.Test.YtcegcjefjclcnaaDoorPathQ
namespace Go.Proofs.YtcegcjefjclcnaaDoor

theorem norm_small {L : List (List UInt8)} (hall : ∀ x ∈ L, x.length ≤ 1000000) : ∀ x ∈ normR [] L, x.length ≤ 1000000 := fun x hx => by
  rcases normR_mem _ _ x hx with h | h | h
  · cases h
  · exact hall x h
  · subst h; exact Nat.zero_le _
theorem norm_twice {L : List (List UInt8)} (hall : ∀ x ∈ L, x.length ≤ 1000000) : normL (normR [] L) = normR [] L := by
  rw [normL_eq (norm_small hall), normR_again]
theorem norm_any {L : List (List UInt8)} (h : (L.any fun x => decide (0 < dotsN x)) = false) : normR [] L = L := by
  rw [normR_free L [] fun s hs => ?_, List.nil_append]
  have h1 := List.any_eq_false.1 h s hs
  have : ¬ 0 < dotsN s := fun e => h1 (decide_eq_true e)
  omega
theorem norm_pos (L : List (List UInt8)) : decide (0 < ((normR [] L).length : Int)) = decide (0 < (L.length : Int)) := by
  cases L with
  | nil => rfl
  | cons x r =>
    have h := normR_ne (x :: r) [] (.inl (by simp))
    have h2 : 0 < (normR [] (x :: r)).length := List.length_pos_iff.2 h
    rw [decide_eq_true (by omega), decide_eq_true (by simp)]

end Go.Proofs.YtcegcjefjclcnaaDoor
