/- Segments without dots, by recursion: plain laws. No program in sight. -/
import Derived.Test.YtcegcjefjclcnaaDoorPathP
namespace Go.Proofs.YtcegcjefjclcnaaDoor

/-- What segments do to those ahead of them. -/
def normR : List (List UInt8) → List (List UInt8) → List (List UInt8)
  | out, [] => out
  | out, s :: r => if dotsN s = 0 then normR (out ++ [s]) r
    else if r = [] then (if dotsN s = 2 then out.dropLast else out) ++ [[]] else normR (if dotsN s = 2 then out.dropLast else out) r
theorem normR_nil (out : List (List UInt8)) : normR out [] = out := rfl
theorem normR_keep {s : List UInt8} (h : dotsN s = 0) (out r : List (List UInt8)) : normR out (s :: r) = normR (out ++ [s]) r := by rw [normR, if_pos h]
theorem normR_last {s : List UInt8} (h : dotsN s ≠ 0) (out : List (List UInt8)) : normR out [s] = (if dotsN s = 2 then out.dropLast else out) ++ [[]] := by rw [normR, if_neg h, if_pos rfl]
theorem normR_dots {s : List UInt8} (h : dotsN s ≠ 0) (out : List (List UInt8)) {r : List (List UInt8)} (hr : r ≠ []) : normR out (s :: r) = normR (if dotsN s = 2 then out.dropLast else out) r := by rw [normR, if_neg h, if_neg hr]
theorem normR_ne : ∀ (r out : List (List UInt8)), r ≠ [] ∨ out ≠ [] → normR out r ≠ []
  | [], out, h => by rw [normR_nil]; exact h.resolve_left (fun h => h rfl)
  | s :: r, out, _ => by
    by_cases hd : dotsN s = 0
    · rw [normR_keep hd]; exact normR_ne r _ (.inr (by simp))
    · by_cases hr : r = []
      · subst hr; rw [normR_last hd]; simp
      · rw [normR_dots hd out hr]; exact normR_ne r _ (.inl hr)
theorem normR_free : ∀ (r out : List (List UInt8)), (∀ s ∈ r, dotsN s = 0) → normR out r = out ++ r
  | [], out, _ => by rw [normR_nil, List.append_nil]
  | s :: r, out, h => by
    rw [normR_keep (h s List.mem_cons_self), normR_free r _ fun x hx => h x (List.mem_cons_of_mem _ hx)]; simp
/-- A segment and two dots behind it are as if neither were there. -/
theorem normR_up {a u : List UInt8} (ha : dotsN a = 0) (hu : dotsN u = 2) {r : List (List UInt8)} (hr : r ≠ []) (out : List (List UInt8)) : normR out (a :: u :: r) = normR out r := by
  rw [normR_keep ha, normR_dots (by omega) _ hr, if_pos hu, List.dropLast_concat]
theorem normR_dot {u : List UInt8} (hu : dotsN u = 1) {r : List (List UInt8)} (hr : r ≠ []) (out : List (List UInt8)) : normR out (u :: r) = normR out r := by
  rw [normR_dots (by omega) _ hr, if_neg (by omega)]
theorem normR_top {u : List UInt8} (hu : dotsN u = 2) {r : List (List UInt8)} (hr : r ≠ []) : normR [] (u :: r) = normR [] r := by
  rw [normR_dots (by omega) _ hr, if_pos hu]; rfl
theorem normR_len : ∀ (r out : List (List UInt8)), (normR out r).length ≤ out.length + r.length
  | [], out => Nat.le_refl _
  | s :: r, out => by
    by_cases hd : dotsN s = 0
    · rw [normR_keep hd]; have := normR_len r (out ++ [s]); simp at this ⊢; omega
    · by_cases hr : r = []
      · subst hr; rw [normR_last hd]; split <;> simp <;> omega
      · rw [normR_dots hd out hr]
        have := normR_len r (if dotsN s = 2 then out.dropLast else out)
        have hle : (if dotsN s = 2 then out.dropLast else out).length ≤ out.length := by
          split
          · rw [List.length_dropLast]; omega
          · exact Nat.le_refl _
        rw [List.length_cons]; omega
theorem dots_empty : dotsN [] = 0 := dotsFrom_nil 0
/-- No dots stay. -/
theorem normR_none : ∀ (r out : List (List UInt8)), (∀ s ∈ out, dotsN s = 0) → ∀ s ∈ normR out r, dotsN s = 0
  | [], out, h => h
  | s :: r, out, h => by
    have hdrop : ∀ x ∈ (if dotsN s = 2 then out.dropLast else out), dotsN x = 0 := fun x hx => by
      split at hx
      · exact h x ((List.dropLast_sublist out).subset hx)
      · exact h x hx
    by_cases hd : dotsN s = 0
    · rw [normR_keep hd]
      exact normR_none r _ fun x hx => by
        rcases List.mem_append.1 hx with hx | hx
        · exact h x hx
        · obtain rfl := List.mem_singleton.1 hx; exact hd
    · by_cases hr : r = []
      · subst hr; rw [normR_last hd]
        intro x hx
        rcases List.mem_append.1 hx with hx | hx
        · exact hdrop x hx
        · obtain rfl := List.mem_singleton.1 hx; exact dots_empty
      · rw [normR_dots hd out hr]; exact normR_none r _ hdrop

end Go.Proofs.YtcegcjefjclcnaaDoor
