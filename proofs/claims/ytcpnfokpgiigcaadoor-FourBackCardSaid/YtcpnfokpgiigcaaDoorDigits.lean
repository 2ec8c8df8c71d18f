/- Numbers in digits: plain lemmas. No program in sight. -/
import Derived.Test.YtcpnfokpgiigcaaDoorDeci2
namespace Go.Proofs.YtcpnfokpgiigcaaDoor
open Go.RowKit

theorem valD_snoc (l : List UInt8) (c : UInt8) (n : Nat) : valD n (l ++ [c]) = 10 * valD n l + (c.toNat - 48) := by rw [valD_append]; rfl
theorem digs_small (n : Nat) (h : n < 10) : digs n = [UInt8.ofNat (48 + n)] := by unfold digs; rw [revDigs_small n h]; rfl
theorem digs_big (n : Nat) (h : 10 ≤ n) : digs n = digs (n / 10) ++ [UInt8.ofNat (48 + n % 10)] := by unfold digs; rw [revDigs_big n h, List.reverse_cons]
theorem dig_of (d : Nat) (h : d < 10) : (UInt8.ofNat (48 + d)).toNat = 48 + d ∧ isDig (UInt8.ofNat (48 + d)) = true := by
  have : (UInt8.ofNat (48 + d)).toNat = 48 + d := by rw [UInt8.toNat_ofNat']; omega
  refine ⟨this, ?_⟩
  unfold isDig; rw [this]; simp; omega
theorem digs_dig (n : Nat) : (digs n).all isDig = true := by
  induction n using Nat.strongRecOn with
  | _ n ih =>
    by_cases h : n < 10
    · rw [digs_small n h, List.all_cons, (dig_of n h).2]; rfl
    · rw [digs_big n (by omega), List.all_append, ih (n / 10) (by omega), List.all_cons, (dig_of (n % 10) (by omega)).2]; rfl
theorem digs_ne (n : Nat) : digs n ≠ [] := by
  have := revDigs_pos n
  intro h
  have h2 : (digs n).length = 0 := by rw [h]; rfl
  unfold digs at h2
  rw [List.length_reverse] at h2
  omega
theorem digs_plain (n : Nat) : plainB (digs n) = true := by
  unfold plainB
  rw [digs_dig]
  cases h : digs n with
  | nil => exact absurd h (digs_ne n)
  | cons a l => rfl
theorem digs_val (n : Nat) : valD 0 (digs n) = n := by
  induction n using Nat.strongRecOn with
  | _ n ih =>
    by_cases h : n < 10
    · rw [digs_small n h]
      show 10 * 0 + ((UInt8.ofNat (48 + n)).toNat - 48) = n
      rw [(dig_of n h).1]; omega
    · rw [digs_big n (by omega), valD_snoc, ih (n / 10) (by omega), (dig_of (n % 10) (by omega)).1]; omega
theorem digs_inj {m n : Nat} (h : digs m = digs n) : m = n := by rw [← digs_val m, h, digs_val]
theorem readD_digs (n : Nat) (most : Int) (h : (n : Int) ≤ most) : readD (digs n) most = ((n : Int), true) := by
  unfold readD; rw [digs_val, if_pos ⟨digs_plain n, h⟩]

theorem valD_lt (l : List UInt8) (hl : l.all isDig = true) : ∀ n, valD n l < (n + 1) * 10 ^ l.length ∧ n * 10 ^ l.length ≤ valD n l := by
  induction l with
  | nil => intro n; simp [valD]
  | cons b l ih =>
    intro n
    rw [List.all_cons, Bool.and_eq_true] at hl
    have hb : 48 ≤ b.toNat ∧ b.toNat ≤ 57 := by have := hl.1; simpa [isDig] using this
    have := ih hl.2 (10 * n + (b.toNat - 48))
    rw [valD_cons, List.length_cons, Nat.pow_succ]
    constructor
    · refine Nat.lt_of_lt_of_le this.1 ?_
      have : 10 * n + (b.toNat - 48) + 1 ≤ (n + 1) * 10 := by omega
      calc _ ≤ ((n + 1) * 10) * 10 ^ l.length := Nat.mul_le_mul_right _ this
        _ = (n + 1) * (10 ^ l.length * 10) := by rw [Nat.mul_assoc, Nat.mul_comm 10]
    · refine Nat.le_trans ?_ this.2
      calc n * (10 ^ l.length * 10) = (n * 10) * 10 ^ l.length := by rw [Nat.mul_assoc, Nat.mul_comm 10]
        _ ≤ _ := Nat.mul_le_mul_right _ (by omega)
/-- Of two texts of digits that are as long, the one that is behind by bytes tells more. -/
theorem bytes_val (x : List UInt8) : ∀ (y : List UInt8) (n m : Nat), x.length = y.length → x.all isDig = true → y.all isDig = true → n < m → valD n x < valD m y := by
  intro y n m hxy hx hy h
  have h1 := (valD_lt x hx n).1
  have h2 := (valD_lt y hy m).2
  rw [← hxy] at h2
  exact Nat.lt_of_lt_of_le h1 (Nat.le_trans (Nat.mul_le_mul_right _ h) h2)
theorem bytesLess_val (x : List UInt8) : ∀ (y : List UInt8) (n : Nat), x.length = y.length → x.all isDig = true → y.all isDig = true → Op.bytesLess x y = decide (valD n x < valD n y) := by
  induction x with
  | nil => intro y n h _ _; cases y with
    | nil => simp [Op.bytesLess, valD]
    | cons => simp at h
  | cons a x ih =>
    intro y n h hx hy
    cases y with
    | nil => simp at h
    | cons b y =>
      rw [List.all_cons, Bool.and_eq_true] at hx hy
      have ha : 48 ≤ a.toNat ∧ a.toNat ≤ 57 := by have := hx.1; simpa [isDig] using this
      have hb : 48 ≤ b.toNat ∧ b.toNat ≤ 57 := by have := hy.1; simpa [isDig] using this
      have hl : x.length = y.length := by simpa using h
      rw [valD_cons, valD_cons]
      unfold Op.bytesLess
      by_cases h1 : a.toNat < b.toNat
      · have e1 : decide (a < b) = true := by simp [UInt8.lt_iff_toNat_lt, h1]
        rw [e1, Bool.true_or, decide_eq_true (bytes_val x y _ _ hl hx.2 hy.2 (by omega))]
      · have e1 : decide (a < b) = false := by simp [UInt8.lt_iff_toNat_lt]; omega
        rw [e1, Bool.false_or]
        by_cases h2 : a.toNat = b.toNat
        · have e2 : a = b := UInt8.toNat_inj.1 h2
          subst e2
          rw [beq_self_eq_true, Bool.true_and, ih y _ hl hx.2 hy.2]
        · have e2 : (a == b) = false := beq_eq_false_iff_ne.2 (fun e => h2 (by rw [e]))
          have := bytes_val y x (10 * n + (b.toNat - 48)) (10 * n + (a.toNat - 48)) hl.symm hy.2 hx.2 (by omega)
          rw [e2, Bool.false_and, decide_eq_false (by omega)]

theorem digs_len_mono (m n : Nat) (h : m ≤ n) : (digs m).length ≤ (digs n).length := by
  induction n using Nat.strongRecOn generalizing m with
  | _ n ih =>
    by_cases hm : m < 10
    · rw [digs_small m hm]
      have := digs_ne n
      cases e : digs n with
      | nil => exact absurd e this
      | cons a l => simp
    · rw [digs_big m (by omega), digs_big n (by omega)]
      have := ih (n / 10) (by omega) (m / 10) (by omega)
      simp; omega
/-- How the reference holds a number in digits against another one. -/
theorem digs_compare (v m : Nat) : ((digs m).length < (digs v).length ∨ ((digs v).length = (digs m).length ∧ Op.bytesLess (digs m) (digs v) = true)) ↔ m < v := by
  constructor
  · rintro (h | ⟨h, hb⟩)
    · apply Nat.lt_of_not_le; intro hle
      have := digs_len_mono v m hle; omega
    · rw [bytesLess_val _ _ 0 h.symm (digs_dig m) (digs_dig v), digs_val, digs_val] at hb
      exact of_decide_eq_true hb
  · intro h
    have := digs_len_mono m v (by omega)
    by_cases e : (digs v).length = (digs m).length
    · right
      refine ⟨e, ?_⟩
      rw [bytesLess_val _ _ 0 e.symm (digs_dig m) (digs_dig v), digs_val, digs_val]
      exact decide_eq_true h
    · left; omega

/-- Without zeros ahead. -/
def strip0 : List UInt8 → List UInt8
  | a :: b :: l => if a = 48 then strip0 (b :: l) else a :: b :: l
  | l => l
theorem strip0_hit (b : UInt8) (l : List UInt8) : strip0 (48 :: b :: l) = strip0 (b :: l) := by rw [strip0, if_pos rfl]
theorem strip0_miss {a : UInt8} (b : UInt8) (l : List UInt8) (h : a ≠ 48) : strip0 (a :: b :: l) = a :: b :: l := by rw [strip0, if_neg h]
theorem strip0_one (a : UInt8) : strip0 [a] = [a] := rfl
/-- Digits without zeros ahead are the number's digits. -/
theorem canon (l : List UInt8) : l ≠ [] → l.all isDig = true → (∀ a b t, l = a :: b :: t → a ≠ 48) → l = digs (valD 0 l) := by
  induction h : l.length using Nat.strongRecOn generalizing l with
  | _ k ih =>
    intro hne hd hz
    obtain ⟨t, c, rfl⟩ : ∃ t c, l = t ++ [c] := ⟨l.dropLast, l.getLast hne, (List.dropLast_concat_getLast hne).symm⟩
    rw [List.all_append, Bool.and_eq_true] at hd
    have hc : 48 ≤ c.toNat ∧ c.toNat ≤ 57 := by have := hd.2; simpa [isDig] using this
    have ec : UInt8.ofNat (48 + (c.toNat - 48)) = c := by
      apply UInt8.toNat_inj.1; rw [(dig_of _ (by omega)).1]; omega
    rw [valD_snoc]
    cases t with
    | nil =>
      rw [digs_small _ (by show 10 * 0 + _ < 10; omega)]
      show [c] = [UInt8.ofNat (48 + (10 * 0 + (c.toNat - 48)))]
      rw [Nat.mul_zero, Nat.zero_add, ec]
    | cons a t =>
      have ha : a ≠ 48 := by
        cases t with
        | nil => exact hz a c [] rfl
        | cons b t => exact hz a b (t ++ [c]) rfl
      have hda : 48 ≤ a.toNat ∧ a.toNat ≤ 57 := by have := hd.1; simp [isDig] at this; exact this.1
      have hpos : 1 ≤ valD 0 (a :: t) := by
        rw [valD_cons]
        refine Nat.le_trans ?_ (valD_mono t _)
        have : a.toNat ≠ 48 := fun e => ha (UInt8.toNat_inj.1 e)
        omega
      have := ih (a :: t).length (by rw [← h]; simp) (a :: t) rfl (by simp) hd.1 (fun x y z e => by injection e with e1 _; rw [← e1]; exact ha)
      rw [digs_big _ (by omega)]
      have e1 : (10 * valD 0 (a :: t) + (c.toNat - 48)) / 10 = valD 0 (a :: t) := by omega
      have e2 : (10 * valD 0 (a :: t) + (c.toNat - 48)) % 10 = c.toNat - 48 := by omega
      rw [e1, e2, ec, ← this]
theorem strip0_facts (l : List UInt8) : l ≠ [] → l.all isDig = true → strip0 l = digs (valD 0 l) := by
  induction l with
  | nil => intro h; exact absurd rfl h
  | cons a l ih =>
    intro _ hd
    cases l with
    | nil => rw [strip0_one]; exact canon [a] (by simp) hd (fun x y t e => by simp at e)
    | cons b l =>
      by_cases h : a = 48
      · subst h
        rw [strip0_hit, ih (by simp) (by rw [List.all_cons, Bool.and_eq_true] at hd; exact hd.2)]
        rfl
      · rw [strip0_miss b l h]
        exact canon _ (by simp) hd (fun x y t e => by injection e with e1 _; rw [← e1]; exact h)

end Go.Proofs.YtcpnfokpgiigcaaDoor
