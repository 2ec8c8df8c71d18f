/- four.Looks, four.Inner, and the reference's Plain and Show of layer 2 by plain functions. -/
import Derived.Test.YtcpnfokpgiigcaaDoorDeci
import Derived.Test.YtcpnfokpgiigcaaDoorLast
namespace Go.Proofs.YtcpnfokpgiigcaaDoor
open Go.RowKit Go.Proofs.YtcpnfokpgiigcaaDoorW.PrintWords Go.Proofs.YtcpnfokpgiigcaaDoor.D

theorem rdigit_f (c : UInt8) : postmarkref01_Digit.f (c.toNat : Int) = some (isDig c) := by
  unfold postmarkref01_Digit.f isDig
  by_cases h : 48 ≤ c.toNat
  · rw [if_pos (by omega)]; simp only [h, decide_true, Bool.true_and]
    congr 1; apply Bool.eq_iff_iff.2; simp; omega
  · rw [if_neg (by omega)]; simp [h]
theorem rplain_l0 (s : ByteArray) (hs : s.size ≤ 140737488351232) (l : List UInt8) : ∀ (i : Nat), s.data.toList.drop i = l →
    Ev (fun k => postmarkref02_Plain.l0 k s i) (l.all isDig && !s.data.toList.isEmpty) := by
  induction l with
  | nil =>
    intro i h
    refine Ev.step (f := fun _ => some (!s.data.toList.isEmpty)) (fun k => ?_) (Ev.some _)
    have := drop_done h
    simp only [postmarkref02_Plain.l0]
    rw [if_neg (by omega)]
    congr 1
    rw [size_list]
    cases s.data.toList with
    | nil => rfl
    | cons b l => simp
  | cons b l ih =>
    intro i h
    obtain ⟨h1, h2, h3⟩ := bt_cons h
    have hw := wrap64_succ h2 hs
    by_cases hd : isDig b = true
    · refine Ev.step (f := fun k => postmarkref02_Plain.l0 k s ((i + 1 : Nat) : Int)) (fun k => ?_) ?_
      · simp only [postmarkref02_Plain.l0]
        rw [if_pos (by omega), if_pos (by omega), h1, rdigit_f, Option.bind_some, if_pos hd, hw]
      · rw [List.all_cons, hd, Bool.true_and]
        exact ih (i + 1) h3
    · refine Ev.step (f := fun _ => some false) (fun k => ?_) ?_
      · simp only [postmarkref02_Plain.l0]
        rw [if_pos (by omega), if_pos (by omega), h1, rdigit_f, Option.bind_some, if_neg hd]
      · rw [List.all_cons, Bool.eq_false_iff.2 hd]; simp only [Bool.false_and]
        exact Ev.some _
theorem rplain_f (s : ByteArray) (hs : s.size ≤ 140737488351232) : Ev (fun k => postmarkref02_Plain.f k s) (plainB s.data.toList) := by
  have := rplain_l0 s hs s.data.toList 0 rfl
  rw [Bool.and_comm] at this
  exact this
/-- The reference's Plain. -/
theorem rPlain_any (s : ByteArray) (hs : s.size ≤ 140737488351232) (w : World) (hG : Good w) :
    Calls Tryd.prog 38 #[.string s] w fun e w' => e = .returned (.bool (plainB s.data.toList)) ∧ Drawn0 w w' := by
  obtain ⟨k, hk⟩ := (rplain_f s hs).rounds
  exact postmarkref02_Plain.calls k s _ w hG hk

theorem strOf_one (n : Nat) : strOfNums [(48 : Int) + (n : Int) % 10] = ⟨#[UInt8.ofNat (48 + n % 10)]⟩ := by
  unfold strOfNums
  simp only [List.map_cons, List.map_nil]
  have : ((48 : Int) + (n : Int) % 10).toNat = 48 + n % 10 := by omega
  rw [this]
theorem rshow_l0 (n : Int) (h0 : 0 ≤ n) : ∀ (k m : Nat), m < 10 ^ k → m ≤ 9223372036854775807 → ∀ (t : List UInt8), t.length + k ≤ 30 → (m = 0 → t ≠ []) →
    Ev (fun k => postmarkref02_Show.l0 k n ⟨t.toArray⟩ m) ⟨((if m = 0 then [] else digs m) ++ t).toArray⟩ := by
  intro k
  induction k with
  | zero =>
    intro m hm _ t ht hz
    obtain rfl : m = 0 := by simpa using hm
    refine Ev.step (f := fun k => postmarkref02_Show.j1 k n ⟨t.toArray⟩ ((0 : Nat) : Int) false) (fun k => ?_) ?_
    · simp only [postmarkref02_Show.l0]
      rw [if_pos (by rfl), ba_toList, mk_toList]
      have : (t == []) = false := beq_eq_false_iff_ne.2 (hz rfl)
      rw [this]
    · refine Ev.step (f := fun _ => some ⟨t.toArray⟩) (fun k => ?_) (by simpa using Ev.some _)
      simp only [postmarkref02_Show.j1]
      rw [if_neg (by decide), if_neg (by omega)]
  | succ k ih =>
    intro m hm hm2 t ht hz
    by_cases h : m = 0
    · subst h
      refine Ev.step (f := fun k => postmarkref02_Show.j1 k n ⟨t.toArray⟩ ((0 : Nat) : Int) false) (fun k => ?_) ?_
      · simp only [postmarkref02_Show.l0]
        rw [if_pos (by rfl), ba_toList, mk_toList]
        have : (t == []) = false := beq_eq_false_iff_ne.2 (hz rfl)
        rw [this]
      · refine Ev.step (f := fun _ => some ⟨t.toArray⟩) (fun k => ?_) (by simpa using Ev.some _)
        simp only [postmarkref02_Show.j1]
        rw [if_neg (by decide), if_neg (by omega)]
    · have e1 : Int.tmod (m : Int) 10 = (m : Int) % 10 := Int.tmod_eq_emod_of_nonneg (by omega)
      have e2 : wrap64 (48 + (m : Int) % 10) % 256 = 48 + (m : Int) % 10 := by unfold wrap64; omega
      have e3 : wrap64 (Int.tdiv (m : Int) 10) = ((m / 10 : Nat) : Int) := by
        rw [Int.tdiv_eq_ediv_of_nonneg (by omega), wrap64_id (by omega) (by omega)]; omega
      have e4 : (⟨#[UInt8.ofNat (48 + m % 10)]⟩ : ByteArray) ++ ⟨t.toArray⟩ = ⟨(UInt8.ofNat (48 + m % 10) :: t).toArray⟩ := by
        apply toList_inj
        simp [ByteArray.data_append]
      have hsz : (⟨#[UInt8.ofNat (48 + m % 10)]⟩ : ByteArray).size + (⟨t.toArray⟩ : ByteArray).size ≤ 9223372036854775807 := by
        rw [size_list, size_list, mk_toList]; simp; omega
      refine Ev.step (f := fun k => postmarkref02_Show.j1 k n ⟨t.toArray⟩ (m : Int) true) (fun k => ?_) ?_
      · simp only [postmarkref02_Show.l0]
        rw [if_neg (by omega)]
      · refine Ev.step (f := fun k => postmarkref02_Show.l0 k n ⟨(UInt8.ofNat (48 + m % 10) :: t).toArray⟩ ((m / 10 : Nat) : Int)) (fun k => ?_) ?_
        · simp only [postmarkref02_Show.j1]
          rw [if_pos trivial, e1, if_neg (by omega), Option.bind_some, e2, strOf_one, if_pos hsz, e4, e3]
        · have := ih (m / 10) (by rw [Nat.pow_succ] at hm; omega) (by omega) (UInt8.ofNat (48 + m % 10) :: t) (by simp; omega) (by simp)
          have e5 : (if m / 10 = 0 then [] else digs (m / 10)) ++ UInt8.ofNat (48 + m % 10) :: t = digs m ++ t := by
            unfold digs
            by_cases hs : m < 10
            · rw [if_pos (by omega), revDigs_small m hs, Nat.mod_eq_of_lt hs]; rfl
            · rw [if_neg (by omega), revDigs_big m (by omega)]; simp
          rw [e5] at this
          rw [if_neg h]
          exact this
theorem rshow_f (n : Nat) (h : n ≤ 9223372036854775807) : Ev (fun k => postmarkref02_Show.f k n) ⟨(digs n).toArray⟩ := by
  show Ev (fun k => postmarkref02_Show.l0 k n ⟨#[]⟩ n) _
  by_cases hz : n = 0
  · subst hz
    refine Ev.step (f := fun k => postmarkref02_Show.j1 k ((0 : Nat) : Int) ⟨#[]⟩ ((0 : Nat) : Int) true) (fun k => ?_) ?_
    · simp only [postmarkref02_Show.l0]
      rw [if_pos (by rfl), ba_toList]; rfl
    · refine Ev.step (f := fun k => postmarkref02_Show.l0 k ((0 : Nat) : Int) ⟨([48] : List UInt8).toArray⟩ ((0 : Nat) : Int)) (fun k => ?_) ?_
      · simp only [postmarkref02_Show.j1]
        have e1 : (⟨#[48]⟩ : ByteArray) ++ (⟨#[]⟩ : ByteArray) = ⟨([48] : List UInt8).toArray⟩ := toList_inj (by simp [ByteArray.data_append])
        rw [if_pos trivial, if_neg (by decide), Option.bind_some, show wrap64 (48 + Int.tmod ((0 : Nat) : Int) 10) % 256 = 48 from by simp [wrap64], show strOfNums [48] = (⟨#[48]⟩ : ByteArray) from rfl, if_pos (by decide), e1, show wrap64 (Int.tdiv ((0 : Nat) : Int) 10) = ((0 : Nat) : Int) from by simp [wrap64]]
      · have := rshow_l0 ((0 : Nat) : Int) (by decide) 0 0 (by decide) (by decide) [48] (by decide) (fun _ => by decide)
        simpa [digs, revDigs_small] using this
  · have := rshow_l0 n (by omega) 19 n (by omega) h [] (by decide) (fun e => absurd e hz)
    rw [if_neg hz, List.append_nil] at this
    exact this
/-- The reference's Show, of a number that is not negative. -/
theorem rShow_any (n : Int) (h0 : 0 ≤ n) (h1 : n ≤ 9223372036854775807) (w : World) (hG : Good w) :
    Calls Tryd.prog 40 #[.int .i64 n] w fun e w' => e = .returned (.string ⟨(digs n.toNat).toArray⟩) ∧ Below w.heap.size w w' := by
  obtain ⟨k, hk⟩ := (rshow_f n.toNat (by omega)).rounds
  rw [Int.toNat_of_nonneg h0] at hk
  exact postmarkref02_Show.calls k n _ w hG hk

def looksB (l : List UInt8) : Bool := plainB (behind 46 l)
theorem looks_f (s : ByteArray) (hs : s.size ≤ 140737488351232) : Ev (fun k => four_Looks.f k s) (looksB s.data.toList) := by
  obtain ⟨h1, h2, h3⟩ := drop_last s 46
  have e : (((46 : UInt8).toNat : Nat) : Int) = 46 := rfl
  rw [e] at h1 h2 h3
  have hw : wrap64 (Lib.lastIndexByte s 46 + 1) = Lib.lastIndexByte s 46 + 1 := wrap64_id (by omega) (by omega)
  unfold four_Looks.f strings_LastIndexByte.f
  rw [if_pos hs]
  refine Ev.congr (f := fun k => (deci_Plain.f k (s.extract (Lib.lastIndexByte s 46 + 1).toNat s.size)).bind fun t => some t) (fun k => ?_) ?_
  · rw [Option.bind_some]
    rw [hw, if_pos (by omega), if_pos (by omega)]
  · have hx : (s.extract (Lib.lastIndexByte s 46 + 1).toNat s.size).data.toList = behind 46 s.data.toList := by
      rw [← h1, Lib.extract_to_end]
    have hp := plain_f (s.extract (Lib.lastIndexByte s 46 + 1).toNat s.size) (by rw [size_list, hx]; have := behind_le 46 s.data.toList; rw [← size_list] at this; omega)
    rw [hx] at hp
    exact Ev.bind hp (Ev.some _)
/-- four.Looks. -/
theorem four_Looks_any (s : ByteArray) (hs : s.size ≤ 140737488351232) (w : World) (hG : Good w) :
    Calls Tryd.prog 21 #[.string s] w fun e w' => e = .returned (.bool (looksB s.data.toList)) ∧ Drawn0 w w' := by
  obtain ⟨k, hk⟩ := (looks_f s hs).rounds
  exact four_Looks.calls k s _ w hG hk
/-- four.Inner. -/
theorem four_Inner_any (n : Int) (w : World) (hG : Good w) :
    Calls Tryd.prog 22 #[.int .i64 n] w fun e w' => e = .returned (.bool (decide (2130706432 ≤ n ∧ n ≤ 2147483647))) ∧ Drawn0 w w' := by
  refine four_Inner.calls n _ w hG ?_
  unfold four_Inner.f
  by_cases h0 : n ≥ 0
  · rw [if_pos h0]
    by_cases h1 : n ≤ 4294967295
    · rw [if_pos h1]; congr 1; apply Bool.eq_iff_iff.2; simp; omega
    · rw [if_neg h1]; congr 1; apply Bool.eq_iff_iff.2; simp; omega
  · rw [if_neg h0]; congr 1; apply Bool.eq_iff_iff.2; simp; omega

end Go.Proofs.YtcpnfokpgiigcaaDoor
