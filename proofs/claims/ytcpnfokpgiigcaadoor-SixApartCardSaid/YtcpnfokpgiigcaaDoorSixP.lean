/- Eight pieces with colons: plain functions, and what holds of them. No program in sight. -/
import Derived.Test.YtcpnfokpgiigcaaDoorSplit
namespace Go.Proofs.YtcpnfokpgiigcaaDoor

/-- What a digit to the base of 16 is worth. -/
def hexD (c : UInt8) : Int := if 48 ≤ c.toNat ∧ c.toNat ≤ 57 then (c.toNat : Int) - 48 else if 97 ≤ c.toNat ∧ c.toNat ≤ 102 then (c.toNat : Int) - 87 else if 65 ≤ c.toNat ∧ c.toNat ≤ 70 then (c.toNat : Int) - 55 else -1
def isHex (c : UInt8) : Bool := decide (0 ≤ hexD c)
theorem hexD_bd (c : UInt8) : -1 ≤ hexD c ∧ hexD c ≤ 15 := by
  unfold hexD; split
  · omega
  · split
    · omega
    · split <;> omega
def hexC (d : Nat) : UInt8 := if d < 10 then UInt8.ofNat (48 + d) else UInt8.ofNat (87 + d)
def hexs (n : Nat) : List UInt8 := if n < 16 then [hexC n] else hexs (n / 16) ++ [hexC (n % 16)]
termination_by n
decreasing_by omega
theorem hexs_small {n : Nat} (h : n < 16) : hexs n = [hexC n] := by rw [hexs, if_pos h]
theorem hexs_big {n : Nat} (h : 16 ≤ n) : hexs n = hexs (n / 16) ++ [hexC (n % 16)] := by rw [hexs, if_neg (by omega)]
theorem hexs_snoc (n : Nat) : ∃ l, hexs n = l ++ [hexC (n % 16)] := by
  rcases Nat.lt_or_ge n 16 with h | h
  · exact ⟨[], by rw [hexs_small h, Nat.mod_eq_of_lt h]; rfl⟩
  · exact ⟨_, hexs_big h⟩
theorem hexs_ne (n : Nat) : hexs n ≠ [] := by obtain ⟨l, h⟩ := hexs_snoc n; rw [h]; simp
/-- What digits to the base of 16 tell. -/
def valH (n : Nat) : List UInt8 → Nat
  | [] => n
  | c :: l => valH (16 * n + (hexD c).toNat) l
theorem valH_cons (n : Nat) (c : UInt8) (l : List UInt8) : valH n (c :: l) = valH (16 * n + (hexD c).toNat) l := rfl
theorem valH_append (l m : List UInt8) : ∀ n, valH n (l ++ m) = valH (valH n l) m := by
  induction l with
  | nil => intro n; rfl
  | cons c l ih => intro n; exact ih _
theorem hexC_val : ∀ d : Nat, d < 16 → hexD (hexC d) = (d : Int) ∧ hexC d ≠ 58 ∧ isHex (hexC d) = true := by decide
theorem hexs_val (n : Nat) : valH 0 (hexs n) = n := by
  induction n using Nat.strongRecOn with
  | ind n ih =>
    rcases Nat.lt_or_ge n 16 with h | h
    · rw [hexs_small h, valH_cons, (hexC_val n h).1]; show 16 * 0 + Int.toNat (n : Int) = n; rw [Int.toNat_natCast]; omega
    · rw [hexs_big h, valH_append, ih (n / 16) (by omega), valH_cons, (hexC_val (n % 16) (by omega)).1]
      show 16 * (n / 16) + Int.toNat ((n % 16 : Nat) : Int) = n; rw [Int.toNat_natCast]; omega
theorem hexs_all (n : Nat) : (hexs n).all isHex = true ∧ (58 : UInt8) ∉ hexs n := by
  induction n using Nat.strongRecOn with
  | ind n ih =>
    rcases Nat.lt_or_ge n 16 with h | h
    · have := hexC_val n h
      rw [hexs_small h]; simp [this.2.2, Ne.symm this.2.1]
    · have := hexC_val (n % 16) (by omega)
      have hi := ih (n / 16) (by omega)
      rw [hexs_big h, List.all_append, hi.1]; simp [this.2.2, Ne.symm this.2.1, hi.2]
theorem hexs_len (n : Nat) (h : n ≤ 65535) : 1 ≤ (hexs n).length ∧ (hexs n).length ≤ 4 := by
  have e : ∀ m, 16 ≤ m → (hexs m).length = (hexs (m / 16)).length + 1 := fun m hm => by rw [hexs_big hm]; simp
  have s : ∀ m, m < 16 → (hexs m).length = 1 := fun m hm => by rw [hexs_small hm]; rfl
  by_cases h1 : n < 16
  · rw [s n h1]; omega
  · rw [e n (by omega)]
    by_cases h2 : n / 16 < 16
    · rw [s _ h2]; omega
    · rw [e _ (by omega)]
      by_cases h3 : n / 16 / 16 < 16
      · rw [s _ h3]; omega
      · rw [e _ (by omega), s _ (by omega)]; omega
theorem hexs_pow (n : Nat) : ∀ k, n < 16 ^ (k + 1) → (hexs n).length ≤ k + 1 := by
  intro k
  induction k generalizing n with
  | zero => intro h; rw [hexs_small (by simpa using h)]; simp
  | succ k ih =>
    intro h
    rcases Nat.lt_or_ge n 16 with h1 | h1
    · rw [hexs_small h1]; simp
    · rw [hexs_big h1, List.length_append]
      have := ih (n / 16) (by rw [Nat.div_lt_iff_lt_mul (by decide), ← Nat.pow_succ]; exact h)
      simp; omega
theorem hexs_16 (n : Nat) (h : n ≤ 9223372036854775807) : (hexs n).length ≤ 16 := hexs_pow n 15 (by omega)

/-- What a text between colons tells, and whether it is a piece. -/
def pieceB (l : List UInt8) : Bool := !l.isEmpty && decide (l.length ≤ 4) && l.all isHex
def piecesO (l : List UInt8) : Option (List Nat) := if l = [] then some [] else if (splitOn 58 l).all pieceB = true then some ((splitOn 58 l).map (valH 0)) else none
/-- A text about its first two colons. -/
def gapL : List UInt8 → Option (List UInt8 × List UInt8)
  | [] => none
  | [_] => none
  | b :: c :: l => if b = 58 ∧ c = 58 then some ([], l) else (gapL (c :: l)).map fun x => (b :: x.1, x.2)
theorem gapL_hit (l : List UInt8) : gapL (58 :: 58 :: l) = some ([], l) := by rw [gapL, if_pos ⟨rfl, rfl⟩]
theorem gapL_miss {b c : UInt8} (h : ¬ (b = 58 ∧ c = 58)) (l : List UInt8) : gapL (b :: c :: l) = (gapL (c :: l)).map fun x => (b :: x.1, x.2) := by rw [gapL, if_neg h]
def no8 : List Nat := List.replicate 8 0
/-- The pieces that a text tells, and whether it does. -/
def parseSix (l : List UInt8) : List Nat × Bool :=
  match gapL l with
  | none => match piecesO l with
    | some a => if a.length = 8 then (a, true) else (no8, false)
    | none => (no8, false)
  | some (x, y) => match piecesO x, piecesO y with
    | some a, some b => if a.length + b.length ≤ 7 then (a ++ List.replicate (8 - a.length - b.length) 0 ++ b, true) else (no8, false)
    | _, _ => (no8, false)
theorem parseSix_len (l : List UInt8) : (parseSix l).1.length = 8 := by
  unfold parseSix
  split
  · split
    · split
      · assumption
      · rfl
    · rfl
  · split
    · split
      · rw [List.length_append, List.length_append, List.length_replicate]; omega
      · rfl
    · rfl

/-- How many noughts a list begins with. -/
def noughts : List Int → Nat
  | [] => 0
  | x :: l => if x = 0 then noughts l + 1 else 0
theorem noughts_le : ∀ l, noughts l ≤ l.length
  | [] => Nat.le_refl _
  | x :: l => by
    unfold noughts
    have := noughts_le l
    split <;> simp <;> omega
/-- The longest row of noughts, of two at least: where, and how long; what is looked at from place i on. -/
def runFrom : Nat → List Int → Nat × Nat → Nat × Nat
  | _, [], r => r
  | i, x :: l, r => runFrom (i + 1) l (if r.2 < noughts (x :: l) ∧ 1 < noughts (x :: l) then (i, noughts (x :: l)) else r)
def runR (p : List Int) : Nat × Nat := runFrom 0 p (0, 0)
theorem runFrom_cons (i : Nat) (x : Int) (l : List Int) (r : Nat × Nat) : runFrom i (x :: l) r = runFrom (i + 1) l (if r.2 < noughts (x :: l) ∧ 1 < noughts (x :: l) then (i, noughts (x :: l)) else r) := rfl
def mayB (p : List Int) : Bool := p.all fun n => decide (0 ≤ n ∧ n ≤ 65535)
def texts (p : List Int) : List (List UInt8) := p.map fun n => hexs n.toNat
def colons (t : List (List UInt8)) : List UInt8 := [58].intercalate t
/-- The text of pieces. -/
def showSix (p : List Int) : List UInt8 :=
  if mayB p = true then
    if (runR p).2 = 0 then colons (texts p) else colons (texts (p.take (runR p).1)) ++ [58, 58] ++ colons (texts (p.drop ((runR p).1 + (runR p).2)))
  else []

end Go.Proofs.YtcpnfokpgiigcaaDoor
