/- Dots, and segments without them: plain functions. No program in sight. -/
import Derived.Test.YtcegcjefjclcnaaDoorSplit
import Derived.Test.YtcegcjefjclcnaaDoorLowP
namespace Go.Proofs.YtcegcjefjclcnaaDoor

/-- What stands behind a dot, in whatever form. -/
def takeDot (l : List UInt8) : Option (List UInt8) := if l.head? = some 46 then some l.tail else if 3 ≤ l.length ∧ lowL (l.take 3) = [37, 50, 101] then some (l.drop 3) else none
/-- Which dots a segment is, k having been seen. -/
def dotsFrom (k : Nat) (l : List UInt8) : Nat :=
  if l = [] then k else match takeDot l with
    | none => 0
    | some r => if k < 2 then dotsFrom (k + 1) r else 0
termination_by 2 - k
decreasing_by omega
def dotsN (l : List UInt8) : Nat := dotsFrom 0 l
theorem dotsFrom_nil (k : Nat) : dotsFrom k [] = k := by rw [dotsFrom]; simp
theorem dotsFrom_none {k : Nat} {l : List UInt8} (h : l ≠ []) (e : takeDot l = none) : dotsFrom k l = 0 := by rw [dotsFrom, if_neg h, e]
theorem dotsFrom_some {k : Nat} {l r : List UInt8} (h : l ≠ []) (e : takeDot l = some r) : dotsFrom k l = if k < 2 then dotsFrom (k + 1) r else 0 := by rw [dotsFrom, if_neg h, e]
theorem takeDot_dot (l : List UInt8) : takeDot (46 :: l) = some l := rfl
theorem takeDot_hex {c : UInt8} {l : List UInt8} (hc : c ≠ 46) (h : 3 ≤ (c :: l).length) (e : lowL ((c :: l).take 3) = [37, 50, 101]) : takeDot (c :: l) = some ((c :: l).drop 3) := by
  unfold takeDot; rw [if_neg (by simpa using hc), if_pos ⟨h, e⟩]
theorem takeDot_none {c : UInt8} {l : List UInt8} (hc : c ≠ 46) (h : ¬ (3 ≤ (c :: l).length ∧ lowL ((c :: l).take 3) = [37, 50, 101])) : takeDot (c :: l) = none := by
  unfold takeDot; rw [if_neg (by simpa using hc), if_neg h]

end Go.Proofs.YtcegcjefjclcnaaDoor
