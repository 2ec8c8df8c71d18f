/- Digits to the base of 16, and texts of pieces. -/
import Derived.Test.YtcpnfokpgiigcaaDoorSixR
import Derived.Test.YtcpnfokpgiigcaaDoorApp
namespace Go.Proofs.YtcpnfokpgiigcaaDoor
open Go.RowKit Go.Proofs.YtcpnfokpgiigcaaDoorW.PrintWords

def digits16 : ByteArray := ⟨#[48, 49, 50, 51, 52, 53, 54, 55, 56, 57, 97, 98, 99, 100, 101, 102]⟩
theorem digit_at : ∀ k : Nat, k < 16 → digits16.extract k (k + 1) = ⟨#[hexC k]⟩ := by decide +kernel
theorem and15 (x : Int) (h0 : 0 ≤ x) (h1 : x < 9223372036854775808) : Go.bits .and .i64 x 15 = x % 16 :=
  bits_mask .i64 63 (by decide) (fun n a b => by rw [IntKind.wrap_i64]; omega) 4 (by decide) x h0 (by simpa using h1)

theorem hexD_dig {c : UInt8} (h0 : 48 ≤ c.toNat) (h1 : c.toNat ≤ 57) : hexD c = (c.toNat : Int) - 48 := by unfold hexD; rw [if_pos ⟨h0, h1⟩]
theorem hexD_low {c : UInt8} (h0 : 97 ≤ c.toNat) (h1 : c.toNat ≤ 102) : hexD c = (c.toNat : Int) - 87 := by unfold hexD; rw [if_neg (by omega), if_pos ⟨h0, h1⟩]
theorem hexD_cap {c : UInt8} (h0 : 65 ≤ c.toNat) (h1 : c.toNat ≤ 70) : hexD c = (c.toNat : Int) - 55 := by unfold hexD; rw [if_neg (by omega), if_neg (by omega), if_pos ⟨h0, h1⟩]
theorem hexD_no {c : UInt8} (h0 : c.toNat < 48 ∨ 57 < c.toNat) (h1 : c.toNat < 97 ∨ 102 < c.toNat) (h2 : c.toNat < 65 ∨ 70 < c.toNat) : hexD c = -1 := by unfold hexD; rw [if_neg (by omega), if_neg (by omega), if_neg (by omega)]

theorem hexD_cases (c : UInt8) : (c.toNat < 48 ∧ hexD c = -1) ∨ (48 ≤ c.toNat ∧ c.toNat ≤ 57 ∧ hexD c = (c.toNat : Int) - 48) ∨ (58 ≤ c.toNat ∧ c.toNat < 65 ∧ hexD c = -1) ∨ (65 ≤ c.toNat ∧ c.toNat ≤ 70 ∧ hexD c = (c.toNat : Int) - 55) ∨ (71 ≤ c.toNat ∧ c.toNat < 97 ∧ hexD c = -1) ∨ (97 ≤ c.toNat ∧ c.toNat ≤ 102 ∧ hexD c = (c.toNat : Int) - 87) ∨ (103 ≤ c.toNat ∧ hexD c = -1) := by
  rcases Nat.lt_or_ge c.toNat 48 with h | h
  · exact Or.inl ⟨h, hexD_no (by omega) (by omega) (by omega)⟩
  right
  rcases Nat.lt_or_ge c.toNat 58 with h2 | h2
  · exact Or.inl ⟨h, by omega, hexD_dig h (by omega)⟩
  right
  rcases Nat.lt_or_ge c.toNat 65 with h3 | h3
  · exact Or.inl ⟨h2, h3, hexD_no (by omega) (by omega) (by omega)⟩
  right
  rcases Nat.lt_or_ge c.toNat 71 with h4 | h4
  · exact Or.inl ⟨h3, by omega, hexD_cap h3 (by omega)⟩
  right
  rcases Nat.lt_or_ge c.toNat 97 with h5 | h5
  · exact Or.inl ⟨h4, h5, hexD_no (by omega) (by omega) (by omega)⟩
  right
  rcases Nat.lt_or_ge c.toNat 103 with h6 | h6
  · exact Or.inl ⟨h5, by omega, hexD_low h5 (by omega)⟩
  · exact Or.inr ⟨h6, hexD_no (by omega) (by omega) (by omega)⟩

set_option maxHeartbeats 1000000 in
theorem ref01_Hex (c : UInt8) (w : World) : Calls Tryd.prog 60 #[.int .u8 c.toNat] w fun e w' => e = .returned (.int .i64 (hexD c)) ∧ w' = w := by
  have hc : c.toNat < 256 := c.toNat_lt
  rcases hexD_cases c with ⟨h, e⟩ | ⟨h, h2, e⟩ | ⟨h, h2, e⟩ | ⟨h, h2, e⟩ | ⟨h, h2, e⟩ | ⟨h, h2, e⟩ | ⟨h, e⟩
  all_goals (rw [e]; clear e; generalize c.toNat = n at *)
  all_goals go_enter Tryd.func60, Tryd.ntmps60
  all_goals go_wp2
  all_goals go_ret
  all_goals refine ⟨?_, rfl⟩
  all_goals first | rfl | (refine congrArg (fun x => Ending.returned (Value.int .i64 x)) ?_; omega)

theorem or32 : ∀ n : Nat, n < 256 → Go.bits .or .u8 (n : Int) 32 = ((n ||| 32 : Nat) : Int) ∧ (n ||| 32) < 256 ∧ (65 ≤ n → n ≤ 90 → n ||| 32 = n + 32) ∧ (97 ≤ n → n ≤ 122 → n ||| 32 = n) ∧ (71 ≤ n → n < 97 → ¬ (97 ≤ (n ||| 32) ∧ (n ||| 32) ≤ 102)) ∧ (103 ≤ n → ¬ (97 ≤ (n ||| 32) ∧ (n ||| 32) ≤ 102)) := by decide +kernel
theorem ascii_in (c a b : Nat) (w : World) : Calls Tryd.prog 57 #[.int .u8 c, .int .u8 a, .int .u8 b] w fun e w' => e = .returned (.bool (decide (a ≤ c ∧ c ≤ b))) ∧ w' = w := by
  by_cases h1 : a ≤ c
  · by_cases h2 : c ≤ b
    · rw [decide_eq_true (show a ≤ c ∧ c ≤ b from ⟨h1, h2⟩)]
      go_enter Tryd.func57, Tryd.ntmps57
      go_wp2
      go_ret
      exact ⟨rfl, rfl⟩
    · rw [decide_eq_false (show ¬ (a ≤ c ∧ c ≤ b) from fun h => h2 h.2)]
      go_enter Tryd.func57, Tryd.ntmps57
      go_wp2
      go_ret
      exact ⟨rfl, rfl⟩
  · rw [decide_eq_false (show ¬ (a ≤ c ∧ c ≤ b) from fun h => h1 h.1)]
    go_enter Tryd.func57, Tryd.ntmps57
    go_wp2
    go_ret
    exact ⟨rfl, rfl⟩
theorem ascii_Digit (c : Nat) (w : World) : Calls Tryd.prog 42 #[.int .u8 c] w fun e w' => e = .returned (.bool (decide (48 ≤ c ∧ c ≤ 57))) ∧ w' = w := by
  obtain ⟨r, hr⟩ : ∃ r, r = decide (48 ≤ c ∧ c ≤ 57) := ⟨_, rfl⟩
  have h := ascii_in c 48 57 w
  rw [← hr] at h ⊢
  clear hr
  go_enter Tryd.func42, Tryd.ntmps42
  go_wp2_with fail
  refine h.mono ?_
  rintro e w1 ⟨rfl, rfl⟩
  go_wp2
  go_ret
  exact ⟨rfl, rfl⟩
set_option maxHeartbeats 1000000 in
theorem ascii_Hex (c : UInt8) (w : World) : Calls Tryd.prog 59 #[.int .u8 c.toNat] w fun e w' => e = .returned (.int .i64 (hexD c)) ∧ w' = w := by
  have hc : c.toNat < 256 := c.toNat_lt
  have hcs := hexD_cases c
  obtain ⟨D, hD⟩ : ∃ D, Hid (hexD c = D) := ⟨_, rfl⟩
  rw [hD.out] at hcs
  generalize c.toNat = n at *
  obtain ⟨hor, hk, k1, k2, k3, k4⟩ := or32 n hc
  generalize hkk : (n ||| 32 : Nat) = k at *
  have hDg := ascii_Digit n w
  have hIn := ascii_in k 97 102 w
  by_cases h1 : 48 ≤ n ∧ n ≤ 57
  · have hd : D = (n : Int) - 48 := by omega
    rw [decide_eq_true h1] at hDg
    obtain ⟨h1, h2⟩ := h1
    clear hcs k1 k2 k3 k4 hIn hor
    go_enter Tryd.func59, Tryd.ntmps59
    go_wp2_with (go_at_call 42; refine hDg.mono ?_; rintro e w1 ⟨rfl, rfl⟩)
    go_ret
    refine ⟨?_, rfl⟩
    rw [hD.out, hd]
    rfl
  · rw [decide_eq_false h1] at hDg
    by_cases h2 : (97 ≤ k ∧ k ≤ 102) ∧ 65 ≤ n
    · have hd : D = (k : Int) - 87 := by omega
      rw [decide_eq_true h2.1] at hIn
      obtain ⟨⟨h2, h3⟩, h4⟩ := h2
      clear hcs k1 k2 k3 k4 h1
      go_enter Tryd.func59, Tryd.ntmps59
      go_wp2_with (first | (go_at_call 42; refine hDg.mono ?_; rintro e w1 ⟨rfl, rfl⟩) | (go_at_call 57; refine hIn.mono ?_; rintro e w1 ⟨rfl, rfl⟩))
      go_ret
      refine ⟨?_, rfl⟩
      rw [hD.out, hd]
      refine congrArg (fun x => Ending.returned (Value.int .i64 x)) ?_
      omega
    · have hd : D = -1 := by omega
      subst hd
      by_cases h3 : 97 ≤ k ∧ k ≤ 102
      · have h4 : n < 65 := by omega
        rw [decide_eq_true h3] at hIn
        clear hcs k1 k2 k3 k4 h1 h2 h3
        go_enter Tryd.func59, Tryd.ntmps59
        go_wp2_with (first | (go_at_call 42; refine hDg.mono ?_; rintro e w1 ⟨rfl, rfl⟩) | (go_at_call 57; refine hIn.mono ?_; rintro e w1 ⟨rfl, rfl⟩))
        go_ret
        refine ⟨?_, rfl⟩
        rw [hD.out]; rfl
      · rw [decide_eq_false h3] at hIn
        clear hcs k1 k2 k3 k4 h1 h2 h3
        go_enter Tryd.func59, Tryd.ntmps59
        go_wp2_with (first | (go_at_call 42; refine hDg.mono ?_; rintro e w1 ⟨rfl, rfl⟩) | (go_at_call 57; refine hIn.mono ?_; rintro e w1 ⟨rfl, rfl⟩))
        go_ret
        refine ⟨?_, rfl⟩
        rw [hD.out]; rfl
set_option maxHeartbeats 1000000 in
theorem six_text (n : Nat) : n ≤ 9223372036854775807 → ∀ w, Calls Tryd.prog 61 #[.int .i64 n] w fun e w' => e = .returned (.string ⟨(hexs n).toArray⟩) ∧ w' = w := by
  induction n using Nat.strongRecOn with
  | ind n ih =>
    intro hn w
    have hand := and15 n (by omega) (by omega)
    have hsl : ∀ w, (Instr.slice 9 (.string digits16) (some (.int .i64 ((n : Int) % 16))) (some (.int .i64 ((n : Int) % 16 + 1))) none).run Tryd.prog w = .ok (.string ⟨#[hexC (n % 16)]⟩) w := by
      intro w
      rw [run_slice_string w 9 digits16 .i64 .i64 _ _ Tryd.underlying9 (by omega) (by omega) (by show _ ≤ (16 : Int); omega)]
      rw [show ((n : Int) % 16).toNat = n % 16 by omega, show ((n : Int) % 16 + 1).toNat = n % 16 + 1 by omega, digit_at (n % 16) (by omega)]
    unfold digits16 at hsl
    rcases Nat.lt_or_ge n 16 with h | h
    · rw [hexs_small h]
      go_enter Tryd.func61, Tryd.ntmps61
      go_wp2
      go_ret
      exact ⟨by rw [Nat.mod_eq_of_lt h]; rfl, rfl⟩
    · rw [hexs_big h]
      have hsh : Go.bits .and .i64 n 15 = n % 16 := hand
      have hih := ih (n / 16) (by omega) (by omega)
      go_enter Tryd.func61, Tryd.ntmps61
      go_wp2_with fail
      refine (hih w).mono ?_
      rintro e w1 ⟨rfl, rfl⟩
      have hl16 := hexs_16 (n / 16) (by omega)
      go_wp2
      go_ret
      refine ⟨congrArg (fun x => Ending.returned (.string x)) (toList_inj ?_), rfl⟩
      simp [ByteArray.data_append]

def empN : Value → Nat
  | .string s => if s.size = 0 then 1 else 0
  | _ => 0
theorem empN_le (v : Value) : empN v ≤ 1 := by
  unfold empN
  split
  · split <;> omega
  · omega
def lead (k : Nat) : List UInt8 := if k = 0 then [] else hexs k
theorem lead_step (k : Nat) (hk : k ≠ 0) : lead (k / 16) ++ [hexC (k % 16)] = lead k := by
  unfold lead
  rw [if_neg hk]
  rcases Nat.lt_or_ge k 16 with h | h
  · rw [if_pos (by omega), hexs_small h, Nat.mod_eq_of_lt h]; rfl
  · rw [if_neg (by omega), hexs_big h]
theorem lead_first (k : Nat) : lead (k / 16) ++ [hexC (k % 16)] = hexs k := by
  by_cases h : k = 0
  · subst h; rw [hexs_small (by decide)]; rfl
  · rw [lead_step k h]; unfold lead; rw [if_neg h]
set_option maxHeartbeats 1000000 in
set_option maxRecDepth 100000 in
theorem ref06_text (n0 : Nat) (hn : n0 ≤ 9223372036854775807) (w : World) : Calls Tryd.prog 49 #[.int .i64 n0] w fun e w' => e = .returned (.string ⟨(hexs n0).toArray⟩) ∧ w' = w := by
  have hmax := hexs_16 n0 hn
  obtain ⟨L, hL⟩ : ∃ L, Hid (hexs n0 = L) := ⟨_, rfl⟩
  rw [hL.out] at hmax
  go_enter Tryd.func49, Tryd.ntmps49
  go_wp2
  go_loop [0, 4] (fun m s => ∃ (k : Nat) (t : List UInt8), m = .int .i64 k ∧ s = .string ⟨t.toArray⟩ ∧ k ≤ n0 ∧ t.length ≤ 16 ∧ ((t = [] ∧ k = n0) ∨ (t ≠ [] ∧ Hid (lead k ++ t = L)))) (fun m s => 2 * (intOf m).toNat + empN s)
  case atStart => exact ⟨n0, [], rfl, rfl, Nat.le_refl _, by simp, Or.inl ⟨rfl, rfl⟩⟩
  case round =>
    obtain ⟨k, t, rfl, rfl, hk, ht, hc⟩ := hrel
    have hsl : ∀ w, (Instr.slice 9 (.string digits16) (some (.int .i64 ((k : Int) % 16))) (some (.int .i64 ((k : Int) % 16 + 1))) none).run Tryd.prog w = .ok (.string ⟨#[hexC (k % 16)]⟩) w := by
      intro w
      rw [run_slice_string w 9 digits16 .i64 .i64 _ _ Tryd.underlying9 (by omega) (by omega) (by show _ ≤ (16 : Int); omega)]
      rw [show ((k : Int) % 16).toNat = k % 16 by omega, show ((k : Int) % 16 + 1).toNat = k % 16 + 1 by omega, digit_at (k % 16) (by omega)]
    unfold digits16 at hsl
    rcases hc with ⟨rfl, rfl⟩ | ⟨hne, hl⟩
    · have HL2 := Lib.hid (lead_first k)
      by_cases hk0 : k = 0
      · subst hk0
        go_wp2
        go_round
        case rel => exact ⟨0, [hexC 0], rfl, rfl, Nat.le_refl _, by simp, Or.inr ⟨by simp, HL2.out.trans hL.out⟩⟩
        case measure => decide
      · go_wp2
        go_round
        case rel => exact ⟨k / 16, [hexC (k % 16)], by go_num, rfl, by omega, by simp, Or.inr ⟨by simp, HL2.out.trans hL.out⟩⟩
        case measure => refine Nat.lt_of_le_of_lt (Nat.add_le_add_left (empN_le _) _) ?_; simp only [intOf]; omega
    · have hte : t.isEmpty = false := List.isEmpty_eq_false_iff.2 hne
      have hpos : 0 < t.length := List.length_pos_iff.2 hne
      by_cases hk0 : k = 0
      · subst hk0
        go_wp2
        go_ret
        exact ⟨by rw [hL.out, ← hl.out]; rfl, rfl⟩
      · have hl2 : Hid (lead (k / 16) ++ hexC (k % 16) :: t = L) := by show _ = _; rw [← hl.out, ← lead_step k hk0]; simp
        have ht2 : t.length + 1 ≤ 16 := by have := congrArg List.length hl2.out; simp at this; omega
        go_wp2
        go_round
        case rel => exact ⟨k / 16, hexC (k % 16) :: t, by go_num, congrArg Value.string (toList_inj (by simp [ByteArray.data_append])), by omega, by simp; omega, Or.inr ⟨by simp, hl2⟩⟩
        case measure => refine Nat.lt_of_le_of_lt (Nat.add_le_add_left (empN_le _) _) ?_; simp only [intOf]; omega

end Go.Proofs.YtcpnfokpgiigcaaDoor
