/- deci.Plain and deci.Read by plain functions on bytes; deci.Show in the form of a contract. four.Looks, four.Inner, and the reference's Plain and Show of layer 2 by plain functions. Numbers in digits: plain lemmas. No program in sight. The contracts of four.Show and four.Parse. The contracts of four.Parse's part and of four.Parse. four.Show and four.Parse in the form of contracts that the print takes. -/
import Derived.Test.YtcpjonglfnakpaaDoorD
import Derived.Test.YtcpjonglfnakpaaDoorMB
import Derived.Test.YtcpjonglfnakpaaDoorDeciShow
namespace Go.Proofs.YtcpjonglfnakpaaDoor
open Go.RowKit Go.Proofs.YtcpjonglfnakpaaDoorW.PrintWords Go.Proofs.YtcpjonglfnakpaaDoor.D

def isDig (c : UInt8) : Bool := decide (48 ≤ c.toNat) && decide (c.toNat ≤ 57)
def plainB (l : List UInt8) : Bool := !l.isEmpty && l.all isDig
def valD (n : Nat) (l : List UInt8) : Nat := l.foldl (fun n c => 10 * n + (c.toNat - 48)) n
def readD (l : List UInt8) (most : Int) : Int × Bool := if plainB l = true ∧ (valD 0 l : Int) ≤ most then (valD 0 l, true) else (0, false)

theorem digit_f (c : UInt8) : ascii_Digit.f (c.toNat : Int) = some (isDig c) := by
  unfold ascii_Digit.f ascii_in.f isDig
  by_cases h : 48 ≤ c.toNat
  · rw [if_pos (by omega)]; simp only [Option.bind_some, h, decide_true, Bool.true_and]
    congr 1; apply Bool.eq_iff_iff.2; simp; omega
  · rw [if_neg (by omega)]; simp [h]
theorem plain_l0 (s : ByteArray) (hs : s.size ≤ 140737488351232) : ∀ (l : List UInt8) (i : Nat), s.data.toList.drop i = l →
    Ev (fun k => deci_Plain.l0 k s (s.size : Int) i) (l.all isDig && !s.data.toList.isEmpty)
  | [], i, h => by
    refine Ev.step (f := fun _ => some (!s.data.toList.isEmpty)) (fun k => ?_) (Ev.some _)
    have := drop_done h
    simp only [deci_Plain.l0]
    rw [if_neg (by omega), ba_toList]; rw [ne_nil_isEmpty]
  | b :: l, i, h => by
    obtain ⟨h1, h2, h3⟩ := bt_cons h
    have hw := wrap64_succ h2 hs
    by_cases hd : isDig b = true
    · refine Ev.step (f := fun k => deci_Plain.l0 k s (s.size : Int) ((i + 1 : Nat) : Int)) (fun k => ?_) ?_
      · simp only [deci_Plain.l0]
        rw [if_pos (by omega), if_pos (by omega), if_pos (by omega), h1, digit_f, Option.bind_some, if_pos hd, hw]
      · rw [List.all_cons, hd, Bool.true_and]
        exact plain_l0 s hs l (i + 1) h3
    · refine Ev.step (f := fun _ => some false) (fun k => ?_) ?_
      · simp only [deci_Plain.l0]
        rw [if_pos (by omega), if_pos (by omega), if_pos (by omega), h1, digit_f, Option.bind_some, if_neg hd]
      · rw [List.all_cons, Bool.eq_false_iff.2 hd]; simp only [Bool.false_and]
        exact Ev.some _
theorem plain_f (s : ByteArray) (hs : s.size ≤ 140737488351232) : Ev (fun k => deci_Plain.f k s) (plainB s.data.toList) := by
  have := plain_l0 s hs s.data.toList 0 rfl
  rw [Bool.and_comm] at this
  exact this
theorem valD_cons (b : UInt8) (l : List UInt8) (n : Nat) : valD n (b :: l) = valD (10 * n + (b.toNat - 48)) l := by unfold valD; rw [List.foldl_cons]
theorem valD_mono (l : List UInt8) : ∀ n : Nat, n ≤ valD n l := by
  induction l with
  | nil => intro n; exact Nat.le_refl _
  | cons b l ih => intro n; rw [valD_cons]; exact Nat.le_trans (by omega) (ih (10 * n + (b.toNat - 48)))
theorem valD_append (l m : List UInt8) (n : Nat) : valD n (l ++ m) = valD (valD n l) m := by simp [valD, List.foldl_append]
theorem read_l0 (s : ByteArray) (hs : s.size ≤ 140737488351232) (most : Int) (m0 : 0 ≤ most) (m1 : most ≤ 9223372036854775807) : ∀ (l : List UInt8) (i n : Nat), s.data.toList.drop i = l → l.all isDig = true → (n : Int) ≤ most →
    Ev (fun k => deci_Read.l0 k s most n (s.size : Int) i) (if (valD n l : Int) ≤ most then ((valD n l : Int), true) else (0, false)) := by
  intro l
  induction l with
  | nil =>
    intro i n h _ hn
    refine Ev.step (f := fun _ => some ((n : Int), true)) (fun k => ?_) ?_
    · have := drop_done h
      simp only [deci_Read.l0]
      rw [if_neg (by omega)]
    · rw [if_pos (by simpa [valD] using hn)]
      exact Ev.some _
  | cons b l ih =>
    intro i n h ha hn
    obtain ⟨h1, h2, h3⟩ := bt_cons h
    have hw := wrap64_succ h2 hs
    rw [List.all_cons, Bool.and_eq_true] at ha
    obtain ⟨hd, ha⟩ := ha
    have hd' : 48 ≤ b.toNat ∧ b.toNat ≤ 57 := by simpa [isDig] using hd
    have e1 : ((b.toNat : Int) - 48) % 256 = ((b.toNat - 48 : Nat) : Int) := by omega
    have e2 : wrap64 (most - ((b.toNat - 48 : Nat) : Int)) = most - ((b.toNat - 48 : Nat) : Int) := wrap64_id (by omega) (by omega)
    by_cases hm : most < ((b.toNat - 48 : Nat) : Int)
    · refine Ev.step (f := fun _ => some (0, false)) (fun k => ?_) ?_
      · simp only [deci_Read.l0]
        rw [if_pos (by omega), if_pos (by omega), if_pos (by omega), h1, e1, e2]
        rw [if_pos hm]; split <;> rfl
      · have := valD_mono l (10 * n + (b.toNat - 48))
        rw [valD_cons, if_neg (by omega)]; exact Ev.some _
    · have e3 : wrap64 (Int.tdiv (most - ((b.toNat - 48 : Nat) : Int)) 10) = (most - ((b.toNat - 48 : Nat) : Int)) / 10 := by
        rw [Int.tdiv_eq_ediv_of_nonneg (by omega), wrap64_id (by omega) (by omega)]
      by_cases hg : (n : Int) > (most - ((b.toNat - 48 : Nat) : Int)) / 10
      · refine Ev.step (f := fun _ => some (0, false)) (fun k => ?_) ?_
        · simp only [deci_Read.l0]
          rw [if_pos (by omega), if_pos (by omega), if_pos (by omega), h1, e1, e2, e3, if_pos hg]
        · have := valD_mono l (10 * n + (b.toNat - 48))
          rw [valD_cons, if_neg (by omega)]; exact Ev.some _
      · have e4 : wrap64 (wrap64 (10 * (n : Int)) + ((b.toNat - 48 : Nat) : Int)) = ((10 * n + (b.toNat - 48) : Nat) : Int) := by
          rw [wrap64_id (n := 10 * (n : Int)) (by omega) (by omega), wrap64_id (by omega) (by omega)]; omega
        refine Ev.step (f := fun k => deci_Read.l0 k s most ((10 * n + (b.toNat - 48) : Nat) : Int) (s.size : Int) ((i + 1 : Nat) : Int)) (fun k => ?_) ?_
        · simp only [deci_Read.l0]
          rw [if_pos (by omega), if_pos (by omega), if_pos (by omega), h1, e1, e2, e3, if_neg hg, if_neg hm, hw, e4]
        · rw [valD_cons]
          exact ih (i + 1) _ h3 ha (by omega)
theorem read_f (s : ByteArray) (hs : s.size ≤ 140737488351232) (most : Int) (m0 : 0 ≤ most) (m1 : most ≤ 9223372036854775807) : Ev (fun k => deci_Read.f k s most) (readD s.data.toList most) := by
  unfold deci_Read.f
  refine Ev.bind (plain_f s hs) ?_
  by_cases hp : plainB s.data.toList = true
  · simp only [hp, if_true]
    refine Ev.step (f := fun k => deci_Read.l0 k s most 0 (s.size : Int) 0) (fun k => by simp only [deci_Read.j0]; rw [if_neg (by simp; omega)]) ?_
    have ha : s.data.toList.all isDig = true := by unfold plainB at hp; rw [Bool.and_eq_true] at hp; exact hp.2
    have := read_l0 s hs most m0 m1 s.data.toList 0 0 rfl ha (by omega)
    unfold readD
    simp only [hp, true_and]
    exact this
  · simp only [Bool.not_eq_true] at hp
    rw [hp]
    refine Ev.step (f := fun _ => some (0, false)) (fun k => by rw [if_neg (by decide)]; simp only [deci_Read.j0, if_true]) ?_
    unfold readD
    rw [if_neg (by rw [hp]; simp)]
    exact Ev.some _

/-- deci.Read, at any text and any bound that is not negative. -/
theorem deci_Read_any (s : ByteArray) (hs : s.size ≤ 140737488351232) (most : Int) (m0 : 0 ≤ most) (m1 : most ≤ 9223372036854775807) (w : World) (hG : Good w) :
    Calls Tryd.prog 26 #[.string s, .int .i64 most] w fun e w' => e = .returned (.tuple #[.int .i64 (readD s.data.toList most).1, .bool (readD s.data.toList most).2]) ∧ Drawn0 w w' := by
  obtain ⟨k, hk⟩ := (read_f s hs most m0 m1).rounds
  exact deci_Read.calls k s most _ _ w hG hk
/-- deci.Plain, at any text. -/
theorem deci_Plain_any (s : ByteArray) (hs : s.size ≤ 140737488351232) (w : World) (hG : Good w) :
    Calls Tryd.prog 28 #[.string s] w fun e w' => e = .returned (.bool (plainB s.data.toList)) ∧ Drawn0 w w' := by
  obtain ⟨k, hk⟩ := (plain_f s hs).rounds
  exact deci_Plain.calls k s _ w hG hk

def digs (n : Nat) : List UInt8 := (revDigs n).reverse
def deci_Show.f (a0 : Int) : Option ByteArray := if 0 ≤ a0 ∧ a0 ≤ 9223372036854775807 then some ⟨(digs a0.toNat).toArray⟩ else none
theorem deci_Show.calls (a0 : Int) (r : ByteArray) (w : World) (_hG : Good w) (h : deci_Show.f a0 = some r) :
    Calls Tryd.prog 27 #[.int .i64 a0] w fun e w' => e = .returned (.string r) ∧ Below w.heap.size w w' := by
  unfold deci_Show.f at h
  split at h
  · rename_i hb
    obtain rfl := Option.some.inj h
    exact deci_Show a0 hb.1 hb.2 w
  · cases h

end Go.Proofs.YtcpjonglfnakpaaDoor

namespace Go.Proofs.YtcpjonglfnakpaaDoor
open Go.RowKit Go.Proofs.YtcpjonglfnakpaaDoorW.PrintWords Go.Proofs.YtcpjonglfnakpaaDoor.D

theorem strOf_one (n : Nat) : strOfNums [(48 : Int) + (n : Int) % 10] = ⟨#[UInt8.ofNat (48 + n % 10)]⟩ := by
  unfold strOfNums
  simp only [List.map_cons, List.map_nil]
  have : ((48 : Int) + (n : Int) % 10).toNat = 48 + n % 10 := by omega
  rw [this]
def looksB (l : List UInt8) : Bool := plainB (behind 46 l)
theorem looks_f (s : ByteArray) (hs : s.size ≤ 140737488351232) : Ev (fun k => four_Looks.f k s) (looksB s.data.toList) := by
  obtain ⟨h1, h2, h3⟩ := drop_last s 46
  have e : (((46 : UInt8).toNat : Nat) : Int) = 46 := rfl
  rw [e] at h1 h2 h3
  have hw : wrap64 (Lib.lastIndexByte s 46 + 1) = Lib.lastIndexByte s 46 + 1 := wrap64_id (by omega) (by omega)
  unfold four_Looks.f strings_LastIndexByte.f
  rw [if_pos hs]
  refine Ev.congr (f := fun k => (deci_Plain.f k (s.extract (Lib.lastIndexByte s 46 + 1).toNat s.size)).bind fun t => some t) (fun k => ?_) ?_
  · rw [Option.bind_some]
    rw [hw, if_pos (by omega), if_pos (by omega)]
  · have hx : (s.extract (Lib.lastIndexByte s 46 + 1).toNat s.size).data.toList = behind 46 s.data.toList := by
      rw [← h1, Lib.extract_to_end]
    have hp := plain_f (s.extract (Lib.lastIndexByte s 46 + 1).toNat s.size) (by rw [size_list, hx]; have := behind_le 46 s.data.toList; rw [← size_list] at this; omega)
    rw [hx] at hp
    exact Ev.bind hp (Ev.some _)
/-- four.Looks. -/
theorem four_Looks_any (s : ByteArray) (hs : s.size ≤ 140737488351232) (w : World) (hG : Good w) :
    Calls Tryd.prog 14 #[.string s] w fun e w' => e = .returned (.bool (looksB s.data.toList)) ∧ Drawn0 w w' := by
  obtain ⟨k, hk⟩ := (looks_f s hs).rounds
  exact four_Looks.calls k s _ w hG hk
/-- four.Inner. -/
theorem four_Inner_any (n : Int) (w : World) (hG : Good w) :
    Calls Tryd.prog 31 #[.int .i64 n] w fun e w' => e = .returned (.bool (decide (2130706432 ≤ n ∧ n ≤ 2147483647))) ∧ Drawn0 w w' := by
  refine four_Inner.calls n _ w hG ?_
  unfold four_Inner.f
  by_cases h0 : n ≥ 0
  · rw [if_pos h0]
    by_cases h1 : n ≤ 4294967295
    · rw [if_pos h1]; congr 1; apply Bool.eq_iff_iff.2; simp; omega
    · rw [if_neg h1]; congr 1; apply Bool.eq_iff_iff.2; simp; omega
  · rw [if_neg h0]; congr 1; apply Bool.eq_iff_iff.2; simp; omega

end Go.Proofs.YtcpjonglfnakpaaDoor

namespace Go.Proofs.YtcpjonglfnakpaaDoor
open Go.RowKit

theorem valD_snoc (l : List UInt8) (c : UInt8) (n : Nat) : valD n (l ++ [c]) = 10 * valD n l + (c.toNat - 48) := by rw [valD_append]; rfl
theorem digs_small (n : Nat) (h : n < 10) : digs n = [UInt8.ofNat (48 + n)] := by unfold digs; rw [revDigs_small n h]; rfl
theorem digs_big (n : Nat) (h : 10 ≤ n) : digs n = digs (n / 10) ++ [UInt8.ofNat (48 + n % 10)] := by unfold digs; rw [revDigs_big n h, List.reverse_cons]
theorem dig_of (d : Nat) (h : d < 10) : (UInt8.ofNat (48 + d)).toNat = 48 + d ∧ isDig (UInt8.ofNat (48 + d)) = true := by
  have : (UInt8.ofNat (48 + d)).toNat = 48 + d := by rw [UInt8.toNat_ofNat']; omega
  refine ⟨this, ?_⟩
  unfold isDig; rw [this]; simp; omega
theorem digs_dig (n : Nat) : (digs n).all isDig = true := by
  induction n using Nat.strongRecOn with
  | _ n ih =>
    by_cases h : n < 10
    · rw [digs_small n h, List.all_cons, (dig_of n h).2]; rfl
    · rw [digs_big n (by omega), List.all_append, ih (n / 10) (by omega), List.all_cons, (dig_of (n % 10) (by omega)).2]; rfl
theorem digs_ne (n : Nat) : digs n ≠ [] := by
  have := revDigs_pos n
  intro h
  have h2 : (digs n).length = 0 := by rw [h]; rfl
  unfold digs at h2
  rw [List.length_reverse] at h2
  omega
theorem digs_plain (n : Nat) : plainB (digs n) = true := by
  unfold plainB
  rw [digs_dig]
  cases h : digs n with
  | nil => exact absurd h (digs_ne n)
  | cons a l => rfl
theorem digs_val (n : Nat) : valD 0 (digs n) = n := by
  induction n using Nat.strongRecOn with
  | _ n ih =>
    by_cases h : n < 10
    · rw [digs_small n h]
      show 10 * 0 + ((UInt8.ofNat (48 + n)).toNat - 48) = n
      rw [(dig_of n h).1]; omega
    · rw [digs_big n (by omega), valD_snoc, ih (n / 10) (by omega), (dig_of (n % 10) (by omega)).1]; omega
theorem digs_inj {m n : Nat} (h : digs m = digs n) : m = n := by rw [← digs_val m, h, digs_val]
theorem readD_digs (n : Nat) (most : Int) (h : (n : Int) ≤ most) : readD (digs n) most = ((n : Int), true) := by
  unfold readD; rw [digs_val, if_pos ⟨digs_plain n, h⟩]

theorem valD_lt (l : List UInt8) (hl : l.all isDig = true) : ∀ n, valD n l < (n + 1) * 10 ^ l.length ∧ n * 10 ^ l.length ≤ valD n l := by
  induction l with
  | nil => intro n; simp [valD]
  | cons b l ih =>
    intro n
    rw [List.all_cons, Bool.and_eq_true] at hl
    have hb : 48 ≤ b.toNat ∧ b.toNat ≤ 57 := by have := hl.1; simpa [isDig] using this
    have := ih hl.2 (10 * n + (b.toNat - 48))
    rw [valD_cons, List.length_cons, Nat.pow_succ]
    constructor
    · refine Nat.lt_of_lt_of_le this.1 ?_
      have : 10 * n + (b.toNat - 48) + 1 ≤ (n + 1) * 10 := by omega
      calc _ ≤ ((n + 1) * 10) * 10 ^ l.length := Nat.mul_le_mul_right _ this
        _ = (n + 1) * (10 ^ l.length * 10) := by rw [Nat.mul_assoc, Nat.mul_comm 10]
    · refine Nat.le_trans ?_ this.2
      calc n * (10 ^ l.length * 10) = (n * 10) * 10 ^ l.length := by rw [Nat.mul_assoc, Nat.mul_comm 10]
        _ ≤ _ := Nat.mul_le_mul_right _ (by omega)
/-- Of two texts of digits that are as long, the one that is behind by bytes tells more. -/
theorem bytes_val (x : List UInt8) : ∀ (y : List UInt8) (n m : Nat), x.length = y.length → x.all isDig = true → y.all isDig = true → n < m → valD n x < valD m y := by
  intro y n m hxy hx hy h
  have h1 := (valD_lt x hx n).1
  have h2 := (valD_lt y hy m).2
  rw [← hxy] at h2
  exact Nat.lt_of_lt_of_le h1 (Nat.le_trans (Nat.mul_le_mul_right _ h) h2)
theorem bytesLess_val (x : List UInt8) : ∀ (y : List UInt8) (n : Nat), x.length = y.length → x.all isDig = true → y.all isDig = true → Op.bytesLess x y = decide (valD n x < valD n y) := by
  induction x with
  | nil => intro y n h _ _; cases y with
    | nil => simp [Op.bytesLess, valD]
    | cons => simp at h
  | cons a x ih =>
    intro y n h hx hy
    cases y with
    | nil => simp at h
    | cons b y =>
      rw [List.all_cons, Bool.and_eq_true] at hx hy
      have ha : 48 ≤ a.toNat ∧ a.toNat ≤ 57 := by have := hx.1; simpa [isDig] using this
      have hb : 48 ≤ b.toNat ∧ b.toNat ≤ 57 := by have := hy.1; simpa [isDig] using this
      have hl : x.length = y.length := by simpa using h
      rw [valD_cons, valD_cons]
      unfold Op.bytesLess
      by_cases h1 : a.toNat < b.toNat
      · have e1 : decide (a < b) = true := by simp [UInt8.lt_iff_toNat_lt, h1]
        rw [e1, Bool.true_or, decide_eq_true (bytes_val x y _ _ hl hx.2 hy.2 (by omega))]
      · have e1 : decide (a < b) = false := by simp [UInt8.lt_iff_toNat_lt]; omega
        rw [e1, Bool.false_or]
        by_cases h2 : a.toNat = b.toNat
        · have e2 : a = b := UInt8.toNat_inj.1 h2
          subst e2
          rw [beq_self_eq_true, Bool.true_and, ih y _ hl hx.2 hy.2]
        · have e2 : (a == b) = false := beq_eq_false_iff_ne.2 (fun e => h2 (by rw [e]))
          have := bytes_val y x (10 * n + (b.toNat - 48)) (10 * n + (a.toNat - 48)) hl.symm hy.2 hx.2 (by omega)
          rw [e2, Bool.false_and, decide_eq_false (by omega)]

theorem digs_len_mono (m n : Nat) (h : m ≤ n) : (digs m).length ≤ (digs n).length := by
  induction n using Nat.strongRecOn generalizing m with
  | _ n ih =>
    by_cases hm : m < 10
    · rw [digs_small m hm]
      have := digs_ne n
      cases e : digs n with
      | nil => exact absurd e this
      | cons a l => simp
    · rw [digs_big m (by omega), digs_big n (by omega)]
      have := ih (n / 10) (by omega) (m / 10) (by omega)
      simp; omega
/-- How the reference holds a number in digits against another one. -/
theorem digs_compare (v m : Nat) : ((digs m).length < (digs v).length ∨ ((digs v).length = (digs m).length ∧ Op.bytesLess (digs m) (digs v) = true)) ↔ m < v := by
  constructor
  · rintro (h | ⟨h, hb⟩)
    · apply Nat.lt_of_not_le; intro hle
      have := digs_len_mono v m hle; omega
    · rw [bytesLess_val _ _ 0 h.symm (digs_dig m) (digs_dig v), digs_val, digs_val] at hb
      exact of_decide_eq_true hb
  · intro h
    have := digs_len_mono m v (by omega)
    by_cases e : (digs v).length = (digs m).length
    · right
      refine ⟨e, ?_⟩
      rw [bytesLess_val _ _ 0 e.symm (digs_dig m) (digs_dig v), digs_val, digs_val]
      exact decide_eq_true h
    · left; omega

/-- Without zeros ahead. -/
def strip0 : List UInt8 → List UInt8
  | a :: b :: l => if a = 48 then strip0 (b :: l) else a :: b :: l
  | l => l
theorem strip0_hit (b : UInt8) (l : List UInt8) : strip0 (48 :: b :: l) = strip0 (b :: l) := by rw [strip0, if_pos rfl]
theorem strip0_miss {a : UInt8} (b : UInt8) (l : List UInt8) (h : a ≠ 48) : strip0 (a :: b :: l) = a :: b :: l := by rw [strip0, if_neg h]
theorem strip0_one (a : UInt8) : strip0 [a] = [a] := rfl
/-- Digits without zeros ahead are the number's digits. -/
theorem canon (l : List UInt8) : l ≠ [] → l.all isDig = true → (∀ a b t, l = a :: b :: t → a ≠ 48) → l = digs (valD 0 l) := by
  induction h : l.length using Nat.strongRecOn generalizing l with
  | _ k ih =>
    intro hne hd hz
    obtain ⟨t, c, rfl⟩ : ∃ t c, l = t ++ [c] := ⟨l.dropLast, l.getLast hne, (List.dropLast_concat_getLast hne).symm⟩
    rw [List.all_append, Bool.and_eq_true] at hd
    have hc : 48 ≤ c.toNat ∧ c.toNat ≤ 57 := by have := hd.2; simpa [isDig] using this
    have ec : UInt8.ofNat (48 + (c.toNat - 48)) = c := by
      apply UInt8.toNat_inj.1; rw [(dig_of _ (by omega)).1]; omega
    rw [valD_snoc]
    cases t with
    | nil =>
      rw [digs_small _ (by show 10 * 0 + _ < 10; omega)]
      show [c] = [UInt8.ofNat (48 + (10 * 0 + (c.toNat - 48)))]
      rw [Nat.mul_zero, Nat.zero_add, ec]
    | cons a t =>
      have ha : a ≠ 48 := by
        cases t with
        | nil => exact hz a c [] rfl
        | cons b t => exact hz a b (t ++ [c]) rfl
      have hda : 48 ≤ a.toNat ∧ a.toNat ≤ 57 := by have := hd.1; simp [isDig] at this; exact this.1
      have hpos : 1 ≤ valD 0 (a :: t) := by
        rw [valD_cons]
        refine Nat.le_trans ?_ (valD_mono t _)
        have : a.toNat ≠ 48 := fun e => ha (UInt8.toNat_inj.1 e)
        omega
      have := ih (a :: t).length (by rw [← h]; simp) (a :: t) rfl (by simp) hd.1 (fun x y z e => by injection e with e1 _; rw [← e1]; exact ha)
      rw [digs_big _ (by omega)]
      have e1 : (10 * valD 0 (a :: t) + (c.toNat - 48)) / 10 = valD 0 (a :: t) := by omega
      have e2 : (10 * valD 0 (a :: t) + (c.toNat - 48)) % 10 = c.toNat - 48 := by omega
      rw [e1, e2, ec, ← this]
theorem strip0_facts (l : List UInt8) : l ≠ [] → l.all isDig = true → strip0 l = digs (valD 0 l) := by
  induction l with
  | nil => intro h; exact absurd rfl h
  | cons a l ih =>
    intro _ hd
    cases l with
    | nil => rw [strip0_one]; exact canon [a] (by simp) hd (fun x y t e => by simp at e)
    | cons b l =>
      by_cases h : a = 48
      · subst h
        rw [strip0_hit, ih (by simp) (by rw [List.all_cons, Bool.and_eq_true] at hd; exact hd.2)]
        rfl
      · rw [strip0_miss b l h]
        exact canon _ (by simp) hd (fun x y t e => by injection e with e1 _; rw [← e1]; exact h)

end Go.Proofs.YtcpjonglfnakpaaDoor

namespace Go.Proofs.YtcpjonglfnakpaaDoor
open Go.RowKit

def fourParts (n : Nat) : List (List UInt8) := [digs (n / 16777216), digs (n / 65536 % 256), digs (n / 256 % 256), digs (n % 256)]
def showFour (n : Nat) : List UInt8 := [46].intercalate (fourParts n)
theorem and255 (x : Int) (h0 : 0 ≤ x) (h1 : x < 9223372036854775808) : Go.bits .and .i64 x 255 = x % 256 :=
  bits_mask .i64 63 (by decide) (fun n a b => by rw [IntKind.wrap_i64]; omega) 8 (by decide) x h0 (by simpa using h1)

theorem four_join (n : Nat) : Lib.join (((fourParts n).map fun x => (⟨x.toArray⟩ : ByteArray)).map (·.data.toList)) (⟨#[46]⟩ : ByteArray).data.toList = showFour n := by
  rw [List.map_map]
  show Lib.join ((fourParts n).map _) [46] = _
  rw [List.map_congr_left (g := id) (fun x _ => by simp), List.map_id]
  rfl
theorem digs_len (n : Nat) (h : n ≤ 9223372036854775807) : (digs n).length ≤ 19 := by
  unfold digs; rw [List.length_reverse]; exact revDigs_len63 n h
theorem showFour_len (n : Nat) (h : n ≤ 4294967295) : (showFour n).length ≤ 79 := by
  have h1 := digs_len (n / 16777216) (by omega)
  have h2 := digs_len (n / 65536 % 256) (by omega)
  have h3 := digs_len (n / 256 % 256) (by omega)
  have h4 := digs_len (n % 256) (by omega)
  unfold showFour fourParts
  simp only [List.intercalate, List.intersperse_cons_cons, List.intersperse_singleton, List.flatten_cons, List.flatten_nil, List.length_append, List.length_cons, List.length_nil]
  omega

set_option maxHeartbeats 1000000 in
theorem four_Show_any (n : Int) (h0 : 0 ≤ n) (h1 : n ≤ 4294967295) (w : World) :
    Calls Tryd.prog 32 #[.int .i64 n] w fun e w' => e = .returned (.string ⟨(showFour n.toNat).toArray⟩) ∧ Below w.heap.size w w' := by
  have hlt : decide (n < 0) = false := by simp; omega
  have hgt : decide (4294967295 < n) = false := by simp; omega
  obtain ⟨i0, hi, hz0, hz1, hz2⟩ := info_parts Tryd.infoStr
  go_enter Tryd.func32, Tryd.ntmps32
  go_wp2
  go_loopw [3, 11] (fun v i wr => ∃ k : Nat, k ≤ 4 ∧ i = .int .i64 k ∧ wr.ownsRow w.heap.size 9 1 v k (strs ((fourParts n.toNat).take k)) ∧ Below w.heap.size w wr) (fun _ i _ => 4 - (intOf i).toNat)
  case atStart => exact ⟨0, by omega, rfl, World.ownsRow_nil _ _ _ _, Below.refl _ _⟩
  case round =>
    obtain ⟨k, hk, rfl, ho, hb⟩ := hrel
    obtain rfl | rfl | rfl | rfl | rfl : k = 0 ∨ k = 1 ∨ k = 2 ∨ k = 3 ∨ k = 4 := by omega
    · go_wp2_with fail
      rw [and255 _ (by omega) (by omega)]
      refine (deci_Show (n / 16777216 % 256) (by omega) (by omega) _).mono ?_
      rintro e w1 ⟨rfl, hb1⟩
      have ho1 := row_below ho hb1
      have hbb := below_on hb hb.size hb1
      go_wp2_with (at_builtin; refine wpList_append_own _ rfl _ _ 55 rfl w.heap.size 9 i0 (.string ⟨#[]⟩) 1 16 Tryd.underlying55 hi hz0 hz1 hz2 rfl (by decide) _ _ _ rfl (ho1.alloc _) ⟨w1.heap.size, 0, none⟩ 1 1 [.string ⟨(revDigs (n / 16777216 % 256).toNat).reverse.toArray⟩] rfl rfl (cell_new_at rfl _ _) (by simp [Value.oneCell']) (by decide) (by decide) (by have := hbb.size; simp; omega) ?_)
      intro v' w2 ho2 hg2 _
      have hb2 : Below w.heap.size w w2 := (hbb.alloc hbb.size _).grown hg2 (by have := hbb.size; simp; omega) (fun k hk => row_base ho1 k hk)
      have ho3 : w2.ownsRow w.heap.size 9 1 v' 1 (strs ((fourParts n.toNat).take 1)) := by
        have e : ((n / 16777216 % 256).toNat) = n.toNat / 16777216 := by omega
        rw [e] at ho2
        exact ho2
      clear ho2
      go_wp2
      go_roundw
      case rel => exact ⟨1, by omega, by go_num, ho3, hb2⟩
      case measure => simp [intOf]
    · go_wp2_with fail
      rw [and255 _ (by omega) (by omega)]
      refine (deci_Show (n / 65536 % 256) (by omega) (by omega) _).mono ?_
      rintro e w1 ⟨rfl, hb1⟩
      have ho1 := row_below ho hb1
      have hbb := below_on hb hb.size hb1
      go_wp2_with (at_builtin; refine wpList_append_own _ rfl _ _ 55 rfl w.heap.size 9 i0 (.string ⟨#[]⟩) 1 16 Tryd.underlying55 hi hz0 hz1 hz2 rfl (by decide) _ _ _ rfl (ho1.alloc _) ⟨w1.heap.size, 0, none⟩ 1 1 [.string ⟨(revDigs (n / 65536 % 256).toNat).reverse.toArray⟩] rfl rfl (cell_new_at rfl _ _) (by simp [Value.oneCell']) (by decide) (by decide) (by have := hbb.size; simp; omega) ?_)
      intro v' w2 ho2 hg2 _
      have hb2 : Below w.heap.size w w2 := (hbb.alloc hbb.size _).grown hg2 (by have := hbb.size; simp; omega) (fun k hk => row_base ho1 k hk)
      have ho3 : w2.ownsRow w.heap.size 9 1 v' 2 (strs ((fourParts n.toNat).take 2)) := by
        have e : ((n / 65536 % 256).toNat) = n.toNat / 65536 % 256 := by omega
        rw [e] at ho2
        exact ho2
      clear ho2
      go_wp2
      go_roundw
      case rel => exact ⟨2, by omega, by go_num, ho3, hb2⟩
      case measure => simp [intOf]
    · go_wp2_with fail
      rw [and255 _ (by omega) (by omega)]
      refine (deci_Show (n / 256 % 256) (by omega) (by omega) _).mono ?_
      rintro e w1 ⟨rfl, hb1⟩
      have ho1 := row_below ho hb1
      have hbb := below_on hb hb.size hb1
      go_wp2_with (at_builtin; refine wpList_append_own _ rfl _ _ 55 rfl w.heap.size 9 i0 (.string ⟨#[]⟩) 1 16 Tryd.underlying55 hi hz0 hz1 hz2 rfl (by decide) _ _ _ rfl (ho1.alloc _) ⟨w1.heap.size, 0, none⟩ 1 1 [.string ⟨(revDigs (n / 256 % 256).toNat).reverse.toArray⟩] rfl rfl (cell_new_at rfl _ _) (by simp [Value.oneCell']) (by decide) (by decide) (by have := hbb.size; simp; omega) ?_)
      intro v' w2 ho2 hg2 _
      have hb2 : Below w.heap.size w w2 := (hbb.alloc hbb.size _).grown hg2 (by have := hbb.size; simp; omega) (fun k hk => row_base ho1 k hk)
      have ho3 : w2.ownsRow w.heap.size 9 1 v' 3 (strs ((fourParts n.toNat).take 3)) := by
        have e : ((n / 256 % 256).toNat) = n.toNat / 256 % 256 := by omega
        rw [e] at ho2
        exact ho2
      clear ho2
      go_wp2
      go_roundw
      case rel => exact ⟨3, by omega, by go_num, ho3, hb2⟩
      case measure => simp [intOf]
    · go_wp2_with fail
      rw [and255 _ (by omega) (by omega)]
      refine (deci_Show (n % 256) (by omega) (by omega) _).mono ?_
      rintro e w1 ⟨rfl, hb1⟩
      have ho1 := row_below ho hb1
      have hbb := below_on hb hb.size hb1
      go_wp2_with (at_builtin; refine wpList_append_own _ rfl _ _ 55 rfl w.heap.size 9 i0 (.string ⟨#[]⟩) 1 16 Tryd.underlying55 hi hz0 hz1 hz2 rfl (by decide) _ _ _ rfl (ho1.alloc _) ⟨w1.heap.size, 0, none⟩ 1 1 [.string ⟨(revDigs (n % 256).toNat).reverse.toArray⟩] rfl rfl (cell_new_at rfl _ _) (by simp [Value.oneCell']) (by decide) (by decide) (by have := hbb.size; simp; omega) ?_)
      intro v' w2 ho2 hg2 _
      have hb2 : Below w.heap.size w w2 := (hbb.alloc hbb.size _).grown hg2 (by have := hbb.size; simp; omega) (fun k hk => row_base ho1 k hk)
      have ho3 : w2.ownsRow w.heap.size 9 1 v' 4 (strs ((fourParts n.toNat).take 4)) := by
        have e : ((n % 256).toNat) = n.toNat % 256 := by omega
        rw [e] at ho2
        exact ho2
      clear ho2
      go_wp2
      go_roundw
      case rel => exact ⟨4, by omega, by go_num, ho3, hb2⟩
      case measure => simp [intOf]
    · obtain ⟨g, cap, rfl, hg1, hg2⟩ := ho.form (by decide)
      have hj := Tryd.strings_Join g 0 cap ((fourParts n.toNat).map fun x => ⟨x.toArray⟩) ⟨#[46]⟩ wr (fun j x hx => by
          rw [Nat.zero_add, ho.cellAt j (by have := (List.getElem?_eq_some_iff.1 hx).1; simpa [fourParts] using this)]
          rw [List.getElem?_map] at hx
          simp only [strs, List.getElem?_map]
          show Option.map _ ((fourParts n.toNat)[j]?) = _
          rw [Option.map_eq_some_iff] at hx ⊢
          obtain ⟨y, hy, rfl⟩ := hx
          exact ⟨y, hy, rfl⟩) hg2 (by simp [fourParts]) (row_cap ho) (by have := showFour_len n.toNat (by omega); rw [four_join]; omega)
      go_wp2_with fail
      refine hj.mono ?_
      rintro e w1 ⟨rfl, hb1⟩
      go_wp2
      go_ret
      refine ⟨?_, below_on hb hb.size hb1⟩
      rw [← four_join]; rfl

end Go.Proofs.YtcpjonglfnakpaaDoor

namespace Go.Proofs.YtcpjonglfnakpaaDoor
open Go.RowKit Go.Proofs.YtcpjonglfnakpaaDoorW.PrintWords

/-- What a part of a number tells, and whether it is one. -/
def partK (l : List UInt8) : Nat := (readD l 255).1.toNat
def partB (l : List UInt8) : Bool := (readD l 255).2 && (digs (partK l) == l)
theorem readD_bd (l : List UInt8) : 0 ≤ (readD l 255).1 ∧ (readD l 255).1 ≤ 255 := by
  unfold readD; split
  · rename_i h; exact ⟨by simp, h.2⟩
  · simp
theorem partK_le (l : List UInt8) : partK l ≤ 255 := by have := readD_bd l; unfold partK; omega
theorem or_join (m k : Nat) (hm : m ≤ 16777215) (hk : k ≤ 255) : Go.bits .or .i64 ((m : Int) * 256) k = (m : Int) * 256 + k := by
  rw [bits_join .i64 63 (by decide) (fun n a b => by rw [IntKind.wrap_i64]; omega) 8 ((m : Int) * 256) k (by omega) (by omega) (by omega) (by omega) (by omega) (by omega)]

set_option maxHeartbeats 1000000 in
theorem four_Part (s : ByteArray) (hs : s.size ≤ 140737488351232) (B m : Nat) (hm : m ≤ 16777215) (w : World) (hG : Good w) (hB : w.heap[B]? = some (.cells #[.int .i64 m] 3 (0, 0))) :
    Calls Tryd.prog 25 #[.string s, .pointer (some ⟨B, 0, none⟩)] w fun e w' => e = .returned (.bool (partB s.data.toList)) ∧ w.grownBy w' (some B) ∧ w'.heap[B]? = some (.cells #[.int .i64 ((m : Int) * 256 + partK s.data.toList)] 3 (0, 0)) := by
  have hc := cell_of_one hB
  have hf := free_of_one hB
  have hbd := readD_bd s.data.toList
  obtain ⟨k, b, hk⟩ : ∃ k b, Hid (readD s.data.toList 255 = (k, b)) := ⟨_, _, rfl⟩
  rw [hk.out] at hbd
  obtain ⟨k, rfl⟩ := Int.eq_ofNat_of_zero_le hbd.1
  have hor := or_join m k hm (by have := hbd.2; simp at this; omega)
  have hpk : Hid (partK s.data.toList = k) := by show _ = _; unfold partK; rw [hk.out]; simp
  have hpb : Hid (partB s.data.toList = (b && (digs k == s.data.toList))) := by show _ = _; unfold partB; rw [hpk.out, hk.out]
  have hk1 : (k : Int) ≤ 255 := hbd.2
  clear hbd
  have hread := deci_Read_any s hs 255 (by omega) (by omega) w hG
  rw [hk.out] at hread
  cases b with
  | false =>
    go_enter Tryd.func25, Tryd.ntmps25
    go_wp2_with (go_at_call 26; refine hread.mono ?_; rintro e w' ⟨rfl, ⟨nd, rfl⟩⟩)
    go_ret
    exact ⟨by rw [hpb.out]; rfl, grown_of_drewN (grown_setCell (w.drewN nd) ⟨B, 0, none⟩ _), by rw [hpk.out]; exact one_setCell (w := w.drewN nd) hB⟩
  | true =>
    by_cases hd : digs k = s.data.toList
    · have hd' : ((revDigs k).reverse == s.toList) = true := by rw [ba_toList]; exact beq_iff_eq.2 hd
      have HD := Lib.hid hd
      clear hd
      go_enter Tryd.func25, Tryd.ntmps25
      go_wp2_with (first | (go_at_call 26; refine hread.mono ?_; rintro e w' ⟨rfl, ⟨nd, rfl⟩⟩) | (go_at_call 27; refine (deci_Show k (by omega) (by omega) _).mono ?_; rintro e w1 ⟨rfl, hb1⟩))
      go_ret
      have hB1 : ((w.drewN nd).setCell ⟨B, 0, none⟩ (.int .i64 ((m : Int) * 256 + k))).heap[B]? = some (.cells #[.int .i64 ((m : Int) * 256 + k)] 3 (0, 0)) := one_setCell (w := w.drewN nd) hB
      exact ⟨by rw [hpb.out, HD.out]; simp, grown_then (grown_of_drewN (grown_setCell (w.drewN nd) ⟨B, 0, none⟩ _)) hb1, by rw [hpk.out]; exact block_below hB1 hb1 (lt_of_block hB1)⟩
    · have hd' : ((revDigs k).reverse == s.toList) = false := by rw [ba_toList]; exact beq_eq_false_iff_ne.2 hd
      have HD := Lib.hid hd
      clear hd
      go_enter Tryd.func25, Tryd.ntmps25
      go_wp2_with (first | (go_at_call 26; refine hread.mono ?_; rintro e w' ⟨rfl, ⟨nd, rfl⟩⟩) | (go_at_call 27; refine (deci_Show k (by omega) (by omega) _).mono ?_; rintro e w1 ⟨rfl, hb1⟩))
      go_ret
      have hB1 : ((w.drewN nd).setCell ⟨B, 0, none⟩ (.int .i64 ((m : Int) * 256 + k))).heap[B]? = some (.cells #[.int .i64 ((m : Int) * 256 + k)] 3 (0, 0)) := one_setCell (w := w.drewN nd) hB
      exact ⟨by rw [hpb.out, beq_eq_false_iff_ne.2 HD.out]; rfl, grown_then (grown_of_drewN (grown_setCell (w.drewN nd) ⟨B, 0, none⟩ _)) hb1, by rw [hpk.out]; exact block_below hB1 hb1 (lt_of_block hB1)⟩

def foldParts : Nat → List (List UInt8) → Option Nat
  | n, [] => some n
  | n, p :: ps => if partB p = true then foldParts (n * 256 + partK p) ps else none
def pairOf : Option Nat → Int × Bool
  | some n => (n, true)
  | none => (0, false)
def parseFour (l : List UInt8) : Int × Bool := if (splitOn 46 l).length = 4 then pairOf (foldParts 0 (splitOn 46 l)) else (0, false)

set_option maxHeartbeats 1000000 in
theorem four_Parse_any (s : ByteArray) (hs : s.size < 4294967281) (w : World) (hG : Good w) :
    Calls Tryd.prog 13 #[.string s] w fun e w' => e = .returned (.tuple #[.int .i64 (parseFour s.data.toList).1, .bool (parseFour s.data.toList).2]) ∧ Below w.heap.size w w' := by
  have hsp := split_any 46 s hs w hG
  have hle := splitOn_le 46 s.data.toList
  rw [← size_list] at hle
  obtain ⟨ps, hps⟩ : ∃ ps, Hid (splitOn 46 s.data.toList = ps) := ⟨_, rfl⟩
  rw [hps.out] at hsp hle
  have hpf : Hid (parseFour s.data.toList = if ps.length = 4 then pairOf (foldParts 0 ps) else (0, false)) := by show _ = _; unfold parseFour; rw [hps.out]
  by_cases h4 : ps.length = 4
  · have H4 := Lib.hid h4
    have h4b : ((ps.length : Int) != 4) = false := by rw [h4]; decide
    clear h4
    have hnb : w.heap.size < (w.alloc (.cells (strs ps).toArray 9)).heap.size := by simp
    have hrow : (w.alloc (.cells (strs ps).toArray 9)).heap[w.heap.size]? = some (.cells (strs ps).toArray 9 (0, 0)) := heap_alloc_new w _
    go_enter Tryd.func13, Tryd.ntmps13
    go_wp2_with (go_at_call 24; refine hsp.mono ?_; rintro e w' ⟨rfl, rfl⟩)
    go_loopw [17] (fun i wr => ∃ k m : Nat, k ≤ 4 ∧ i = .int .i64 k ∧ Hid (m < 256 ^ k) ∧ Hid (foldParts 0 ps = foldParts m (ps.drop k)) ∧ wr.heap[w.heap.size]? = some (.cells (strs ps).toArray 9 (0, 0)) ∧ wr.heap[w.heap.size + 1]? = some (.cells #[.int .i64 m] 3 (0, 0)) ∧ Below w.heap.size w wr) (fun i _ => 4 - (intOf i).toNat)
    case atStart => exact ⟨0, 0, by omega, rfl, by show 0 < 256 ^ 0; decide, by show _ = _; rfl, block_alloc hrow _, by have := heap_alloc_new (w.alloc (.cells (strs ps).toArray 9)) (.cells #[.int .i64 0] 3); rwa [World.size_alloc] at this, ((Below.refl _ _).alloc (Nat.le_refl _) _).alloc (by simp) _⟩
    case round =>
      obtain ⟨k, m, hk, rfl, hm, hfp, hr, hB, hb⟩ := hrel
      have hcm := cell_of_one hB
      by_cases hk4 : k < 4
      · have hkl : k < ps.length := by rw [H4.out]; exact hk4
        obtain ⟨p, hp⟩ : ∃ p, Hid (ps[k]? = some p) := ⟨ps[k], List.getElem?_eq_getElem hkl⟩
        have hmem : p ∈ ps := List.mem_of_getElem? hp.out
        have hpl := hle p hmem
        have hcell : wr.cell? ⟨w.heap.size, k, none⟩ = some (.string ⟨p.toArray⟩) := by
          simp only [World.cell?, hr, strs]
          simp [hp.out]
        have hm' : m ≤ 16777215 := by
          have := hm.out
          obtain rfl | rfl | rfl | rfl : k = 0 ∨ k = 1 ∨ k = 2 ∨ k = 3 := by omega
          all_goals (simp at this; omega)
        have hG' := hG.below (hb.mono (Nat.le_refl _))
        have hpart := four_Part ⟨p.toArray⟩ (by rw [size_list, mk_toList]; omega) (w.heap.size + 1) m hm' wr hG' hB
        rw [mk_toList] at hpart
        have hdrop : Hid (ps.drop k = p :: ps.drop (k + 1)) := by
          show _ = _
          rw [List.drop_eq_getElem_cons hkl]
          congr 1
          have := hp.out; rw [List.getElem?_eq_getElem hkl] at this; exact Option.some.inj this
        have hlen : ps.length ≤ 4 ∧ 4 ≤ ps.length := by rw [H4.out]; exact ⟨Nat.le_refl _, Nat.le_refl _⟩
        have hpk := partK_le p
        cases hpb : partB p with
        | true =>
          rw [hpb] at hpart
          have HPB := Lib.hid hpb
          clear hpb hmem hle hm' hpl
          go_wp2_with (go_at_call 25; refine hpart.mono ?_; rintro e w1 ⟨rfl, hg1, hB1⟩)
          refine ⟨⟨k + 1, m * 256 + partK p, by omega, by go_num, ?_, ?_, ?_, ?_, ?_⟩, by simp [intOf]; omega⟩
          · have := hm.out
            show _ < _
            rw [Nat.pow_succ]; omega
          · refine hfp.out.trans ?_
            rw [hdrop.out, foldParts, if_pos HPB.out]
          · exact block_grown hg1 hr (fun k hk => by cases hk; omega)
          · exact hB1
          · exact hb.grown hg1 hb.size (fun k hk => by cases hk; omega)
        | false =>
          rw [hpb] at hpart
          have HPB := Lib.hid hpb
          clear hpb hmem hle hm' hpl
          go_wp2_with (go_at_call 25; refine hpart.mono ?_; rintro e w1 ⟨rfl, hg1, hB1⟩)
          go_ret2
          refine ⟨?_, hb.grown hg1 hb.size (fun k hk => by cases hk; omega)⟩
          rw [hpf.out, if_pos H4.out, hfp.out, hdrop.out, foldParts, if_neg (by rw [HPB.out]; decide)]
          rfl
      · have hk5 : k = 4 := by omega
        subst hk5
        have hlen : ps.length ≤ 4 ∧ 4 ≤ ps.length := by rw [H4.out]; exact ⟨Nat.le_refl _, Nat.le_refl _⟩
        go_wp2
        go_ret2
        refine ⟨?_, hb⟩
        rw [hpf.out, if_pos H4.out, hfp.out, List.drop_eq_nil_of_le hlen.1]
        rfl
  · have h4b : ((ps.length : Int) != 4) = true := by simp; omega
    go_enter Tryd.func13, Tryd.ntmps13
    go_wp2_with (go_at_call 24; refine hsp.mono ?_; rintro e w' ⟨rfl, rfl⟩)
    go_ret2
    exact ⟨by rw [hpf.out, if_neg h4]; rfl, (Below.refl _ _).alloc (Nat.le_refl _) _⟩

end Go.Proofs.YtcpjonglfnakpaaDoor

namespace Go.Proofs.YtcpjonglfnakpaaDoor
open Go.RowKit Go.Proofs.YtcpjonglfnakpaaDoorW.PrintWords

theorem four_Show_no (n : Int) (h : n < 0 ∨ 4294967295 < n) (w : World) :
    Calls Tryd.prog 32 #[.int .i64 n] w fun e w' => e = .returned (.string ⟨#[]⟩) ∧ Below w.heap.size w w' := by
  by_cases h0 : n < 0
  · have hlt : decide (n < 0) = true := by simpa using h0
    go_enter Tryd.func32, Tryd.ntmps32
    go_wp2
    go_ret
    exact ⟨rfl, Below.refl _ _⟩
  · have hlt : decide (n < 0) = false := by simp; omega
    have hgt : decide (4294967295 < n) = true := by simp; omega
    go_enter Tryd.func32, Tryd.ntmps32
    go_wp2
    go_ret
    exact ⟨rfl, Below.refl _ _⟩
def showF (n : Int) : List UInt8 := if 0 ≤ n ∧ n ≤ 4294967295 then showFour n.toNat else []
def four_Show.f (a0 : Int) : Option ByteArray := some ⟨(showF a0).toArray⟩
theorem four_Show.calls (a0 : Int) (r : ByteArray) (w : World) (_hG : Good w) (h : four_Show.f a0 = some r) :
    Calls Tryd.prog 32 #[.int .i64 a0] w fun e w' => e = .returned (.string r) ∧ Below w.heap.size w w' := by
  obtain rfl := Option.some.inj h
  unfold showF
  by_cases hb : 0 ≤ a0 ∧ a0 ≤ 4294967295
  · rw [if_pos hb]; exact four_Show_any a0 hb.1 hb.2 w
  · rw [if_neg hb]; exact four_Show_no a0 (by omega) w
def four_Parse.f (a0 : ByteArray) : Option (Int × Bool) := if a0.size < 4294967281 then some (parseFour a0.data.toList) else none
theorem four_Parse.calls (a0 : ByteArray) (r1 : Int) (r2 : Bool) (w : World) (hG : Good w) (h : four_Parse.f a0 = some (r1, r2)) :
    Calls Tryd.prog 13 #[.string a0] w fun e w' => e = .returned (.tuple #[.int .i64 r1, .bool r2]) ∧ Below w.heap.size w w' := by
  unfold four_Parse.f at h
  split at h
  · rename_i hs
    have := Option.some.inj h
    have hp := four_Parse_any a0 hs w hG
    rw [this] at hp
    exact hp
  · cases h

end Go.Proofs.YtcpjonglfnakpaaDoor
