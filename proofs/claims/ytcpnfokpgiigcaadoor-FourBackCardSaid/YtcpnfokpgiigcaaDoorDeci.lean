/- deci.Plain and deci.Read by plain functions on bytes; deci.Show in the form of a contract. -/
import Derived.Test.YtcpnfokpgiigcaaDoorD
import Derived.Test.YtcpnfokpgiigcaaDoorEv
import Derived.Test.YtcpnfokpgiigcaaDoorDeciShow
namespace Go.Proofs.YtcpnfokpgiigcaaDoor
open Go.RowKit Go.Proofs.YtcpnfokpgiigcaaDoorW.PrintWords Go.Proofs.YtcpnfokpgiigcaaDoor.D

def isDig (c : UInt8) : Bool := decide (48 ≤ c.toNat) && decide (c.toNat ≤ 57)
def plainB (l : List UInt8) : Bool := !l.isEmpty && l.all isDig
def valD (n : Nat) (l : List UInt8) : Nat := l.foldl (fun n c => 10 * n + (c.toNat - 48)) n
def readD (l : List UInt8) (most : Int) : Int × Bool := if plainB l = true ∧ (valD 0 l : Int) ≤ most then (valD 0 l, true) else (0, false)

theorem digit_f (c : UInt8) : ascii_Digit.f (c.toNat : Int) = some (isDig c) := by
  unfold ascii_Digit.f ascii_in.f isDig
  by_cases h : 48 ≤ c.toNat
  · rw [if_pos (by omega)]; simp only [Option.bind_some, h, decide_true, Bool.true_and]
    congr 1; apply Bool.eq_iff_iff.2; simp; omega
  · rw [if_neg (by omega)]; simp [h]
theorem plain_l0 (s : ByteArray) (hs : s.size ≤ 140737488351232) : ∀ (l : List UInt8) (i : Nat), s.data.toList.drop i = l →
    Ev (fun k => deci_Plain.l0 k s (s.size : Int) i) (l.all isDig && !s.data.toList.isEmpty)
  | [], i, h => by
    refine Ev.step (f := fun _ => some (!s.data.toList.isEmpty)) (fun k => ?_) (Ev.some _)
    have := drop_done h
    simp only [deci_Plain.l0]
    rw [if_neg (by omega), ba_toList]; rw [ne_nil_isEmpty]
  | b :: l, i, h => by
    obtain ⟨h1, h2, h3⟩ := bt_cons h
    have hw := wrap64_succ h2 hs
    by_cases hd : isDig b = true
    · refine Ev.step (f := fun k => deci_Plain.l0 k s (s.size : Int) ((i + 1 : Nat) : Int)) (fun k => ?_) ?_
      · simp only [deci_Plain.l0]
        rw [if_pos (by omega), if_pos (by omega), if_pos (by omega), h1, digit_f, Option.bind_some, if_pos hd, hw]
      · rw [List.all_cons, hd, Bool.true_and]
        exact plain_l0 s hs l (i + 1) h3
    · refine Ev.step (f := fun _ => some false) (fun k => ?_) ?_
      · simp only [deci_Plain.l0]
        rw [if_pos (by omega), if_pos (by omega), if_pos (by omega), h1, digit_f, Option.bind_some, if_neg hd]
      · rw [List.all_cons, Bool.eq_false_iff.2 hd]; simp only [Bool.false_and]
        exact Ev.some _
theorem plain_f (s : ByteArray) (hs : s.size ≤ 140737488351232) : Ev (fun k => deci_Plain.f k s) (plainB s.data.toList) := by
  have := plain_l0 s hs s.data.toList 0 rfl
  rw [Bool.and_comm] at this
  exact this
theorem valD_cons (b : UInt8) (l : List UInt8) (n : Nat) : valD n (b :: l) = valD (10 * n + (b.toNat - 48)) l := by unfold valD; rw [List.foldl_cons]
theorem valD_mono (l : List UInt8) : ∀ n : Nat, n ≤ valD n l := by
  induction l with
  | nil => intro n; exact Nat.le_refl _
  | cons b l ih => intro n; rw [valD_cons]; exact Nat.le_trans (by omega) (ih (10 * n + (b.toNat - 48)))
theorem valD_append (l m : List UInt8) (n : Nat) : valD n (l ++ m) = valD (valD n l) m := by simp [valD, List.foldl_append]
theorem read_l0 (s : ByteArray) (hs : s.size ≤ 140737488351232) (most : Int) (m0 : 0 ≤ most) (m1 : most ≤ 9223372036854775807) : ∀ (l : List UInt8) (i n : Nat), s.data.toList.drop i = l → l.all isDig = true → (n : Int) ≤ most →
    Ev (fun k => deci_Read.l0 k s most n (s.size : Int) i) (if (valD n l : Int) ≤ most then ((valD n l : Int), true) else (0, false)) := by
  intro l
  induction l with
  | nil =>
    intro i n h _ hn
    refine Ev.step (f := fun _ => some ((n : Int), true)) (fun k => ?_) ?_
    · have := drop_done h
      simp only [deci_Read.l0]
      rw [if_neg (by omega)]
    · rw [if_pos (by simpa [valD] using hn)]
      exact Ev.some _
  | cons b l ih =>
    intro i n h ha hn
    obtain ⟨h1, h2, h3⟩ := bt_cons h
    have hw := wrap64_succ h2 hs
    rw [List.all_cons, Bool.and_eq_true] at ha
    obtain ⟨hd, ha⟩ := ha
    have hd' : 48 ≤ b.toNat ∧ b.toNat ≤ 57 := by simpa [isDig] using hd
    have e1 : ((b.toNat : Int) - 48) % 256 = ((b.toNat - 48 : Nat) : Int) := by omega
    have e2 : wrap64 (most - ((b.toNat - 48 : Nat) : Int)) = most - ((b.toNat - 48 : Nat) : Int) := wrap64_id (by omega) (by omega)
    by_cases hm : most < ((b.toNat - 48 : Nat) : Int)
    · refine Ev.step (f := fun _ => some (0, false)) (fun k => ?_) ?_
      · simp only [deci_Read.l0]
        rw [if_pos (by omega), if_pos (by omega), if_pos (by omega), h1, e1, e2]
        rw [if_pos hm]; split <;> rfl
      · have := valD_mono l (10 * n + (b.toNat - 48))
        rw [valD_cons, if_neg (by omega)]; exact Ev.some _
    · have e3 : wrap64 (Int.tdiv (most - ((b.toNat - 48 : Nat) : Int)) 10) = (most - ((b.toNat - 48 : Nat) : Int)) / 10 := by
        rw [Int.tdiv_eq_ediv_of_nonneg (by omega), wrap64_id (by omega) (by omega)]
      by_cases hg : (n : Int) > (most - ((b.toNat - 48 : Nat) : Int)) / 10
      · refine Ev.step (f := fun _ => some (0, false)) (fun k => ?_) ?_
        · simp only [deci_Read.l0]
          rw [if_pos (by omega), if_pos (by omega), if_pos (by omega), h1, e1, e2, e3, if_pos hg]
        · have := valD_mono l (10 * n + (b.toNat - 48))
          rw [valD_cons, if_neg (by omega)]; exact Ev.some _
      · have e4 : wrap64 (wrap64 (10 * (n : Int)) + ((b.toNat - 48 : Nat) : Int)) = ((10 * n + (b.toNat - 48) : Nat) : Int) := by
          rw [wrap64_id (n := 10 * (n : Int)) (by omega) (by omega), wrap64_id (by omega) (by omega)]; omega
        refine Ev.step (f := fun k => deci_Read.l0 k s most ((10 * n + (b.toNat - 48) : Nat) : Int) (s.size : Int) ((i + 1 : Nat) : Int)) (fun k => ?_) ?_
        · simp only [deci_Read.l0]
          rw [if_pos (by omega), if_pos (by omega), if_pos (by omega), h1, e1, e2, e3, if_neg hg, if_neg hm, hw, e4]
        · rw [valD_cons]
          exact ih (i + 1) _ h3 ha (by omega)
theorem read_f (s : ByteArray) (hs : s.size ≤ 140737488351232) (most : Int) (m0 : 0 ≤ most) (m1 : most ≤ 9223372036854775807) : Ev (fun k => deci_Read.f k s most) (readD s.data.toList most) := by
  unfold deci_Read.f
  refine Ev.bind (plain_f s hs) ?_
  by_cases hp : plainB s.data.toList = true
  · simp only [hp, if_true]
    refine Ev.step (f := fun k => deci_Read.l0 k s most 0 (s.size : Int) 0) (fun k => by simp only [deci_Read.j0]; rw [if_neg (by simp; omega)]) ?_
    have ha : s.data.toList.all isDig = true := by unfold plainB at hp; rw [Bool.and_eq_true] at hp; exact hp.2
    have := read_l0 s hs most m0 m1 s.data.toList 0 0 rfl ha (by omega)
    unfold readD
    simp only [hp, true_and]
    exact this
  · simp only [Bool.not_eq_true] at hp
    rw [hp]
    refine Ev.step (f := fun _ => some (0, false)) (fun k => by rw [if_neg (by decide)]; simp only [deci_Read.j0, if_true]) ?_
    unfold readD
    rw [if_neg (by rw [hp]; simp)]
    exact Ev.some _

/-- deci.Read, at any text and any bound that is not negative. -/
theorem deci_Read_any (s : ByteArray) (hs : s.size ≤ 140737488351232) (most : Int) (m0 : 0 ≤ most) (m1 : most ≤ 9223372036854775807) (w : World) (hG : Good w) :
    Calls Tryd.prog 36 #[.string s, .int .i64 most] w fun e w' => e = .returned (.tuple #[.int .i64 (readD s.data.toList most).1, .bool (readD s.data.toList most).2]) ∧ Drawn0 w w' := by
  obtain ⟨k, hk⟩ := (read_f s hs most m0 m1).rounds
  exact deci_Read.calls k s most _ _ w hG hk
/-- deci.Plain, at any text. -/
theorem deci_Plain_any (s : ByteArray) (hs : s.size ≤ 140737488351232) (w : World) (hG : Good w) :
    Calls Tryd.prog 23 #[.string s] w fun e w' => e = .returned (.bool (plainB s.data.toList)) ∧ Drawn0 w w' := by
  obtain ⟨k, hk⟩ := (plain_f s hs).rounds
  exact deci_Plain.calls k s _ w hG hk

def digs (n : Nat) : List UInt8 := (revDigs n).reverse
def deci_Show.f (a0 : Int) : Option ByteArray := if 0 ≤ a0 ∧ a0 ≤ 9223372036854775807 then some ⟨(digs a0.toNat).toArray⟩ else none
theorem deci_Show.calls (a0 : Int) (r : ByteArray) (w : World) (_hG : Good w) (h : deci_Show.f a0 = some r) :
    Calls Tryd.prog 24 #[.int .i64 a0] w fun e w' => e = .returned (.string r) ∧ Below w.heap.size w w' := by
  unfold deci_Show.f at h
  split at h
  · rename_i hb
    obtain rfl := Option.some.inj h
    exact deci_Show a0 hb.1 hb.2 w
  · cases h

end Go.Proofs.YtcpnfokpgiigcaaDoor
