/- ascii.in, ascii.Digit, ascii.Hex. The document's answer for what a byte is worth. six.May six.Run Digits to the base of 16, and texts of pieces. The reference's gap and pieces, and six.split. six.split. six.Parse. -/
import Derived.Test.YtcpjonglfnakpaaDoorMA
import Derived.Test.YtcpjonglfnakpaaDoorProg
import Derived.Test.YtcpjonglfnakpaaDoorMB
import Derived.Test.YtcpjonglfnakpaaDoorShelf
import Derived.Deep.LoopGhost
namespace Go.Proofs.YtcpjonglfnakpaaDoor
open Go.RowKit

theorem ascii_in (c a b : Nat) (w : World) : Calls Tryd.prog 37 #[.int .u8 c, .int .u8 a, .int .u8 b] w fun e w' => e = .returned (.bool (decide (a ≤ c ∧ c ≤ b))) ∧ w' = w := by
  by_cases h1 : a ≤ c
  · by_cases h2 : c ≤ b
    · rw [decide_eq_true (show a ≤ c ∧ c ≤ b from ⟨h1, h2⟩)]
      go_enter Tryd.func37, Tryd.ntmps37
      go_wp2
      go_ret
      exact ⟨rfl, rfl⟩
    · rw [decide_eq_false (show ¬ (a ≤ c ∧ c ≤ b) from fun h => h2 h.2)]
      go_enter Tryd.func37, Tryd.ntmps37
      go_wp2
      go_ret
      exact ⟨rfl, rfl⟩
  · rw [decide_eq_false (show ¬ (a ≤ c ∧ c ≤ b) from fun h => h1 h.1)]
    go_enter Tryd.func37, Tryd.ntmps37
    go_wp2
    go_ret
    exact ⟨rfl, rfl⟩
theorem ascii_Digit (c : Nat) (w : World) : Calls Tryd.prog 41 #[.int .u8 c] w fun e w' => e = .returned (.bool (decide (48 ≤ c ∧ c ≤ 57))) ∧ w' = w := by
  obtain ⟨r, hr⟩ : ∃ r, r = decide (48 ≤ c ∧ c ≤ 57) := ⟨_, rfl⟩
  have h := ascii_in c 48 57 w
  rw [← hr] at h ⊢
  clear hr
  go_enter Tryd.func41, Tryd.ntmps41
  go_wp2_with fail
  refine h.mono ?_
  rintro e w1 ⟨rfl, rfl⟩
  go_wp2
  go_ret
  exact ⟨rfl, rfl⟩
set_option maxHeartbeats 1000000 in
theorem ascii_Hex (c : UInt8) (w : World) : Calls Tryd.prog 44 #[.int .u8 c.toNat] w fun e w' => e = .returned (.int .i64 (hexD c)) ∧ w' = w := by
  have hc : c.toNat < 256 := c.toNat_lt
  have hcs := hexD_cases c
  obtain ⟨D, hD⟩ : ∃ D, Hid (hexD c = D) := ⟨_, rfl⟩
  rw [hD.out] at hcs
  generalize c.toNat = n at *
  obtain ⟨hor, hk, k1, k2, k3, k4⟩ := or32 n hc
  generalize hkk : (n ||| 32 : Nat) = k at *
  have hDg := ascii_Digit n w
  have hIn := ascii_in k 97 102 w
  by_cases h1 : 48 ≤ n ∧ n ≤ 57
  · have hd : D = (n : Int) - 48 := by omega
    rw [decide_eq_true h1] at hDg
    obtain ⟨h1, h2⟩ := h1
    clear hcs k1 k2 k3 k4 hIn hor
    go_enter Tryd.func44, Tryd.ntmps44
    go_wp2_with (go_at_call 41; refine hDg.mono ?_; rintro e w1 ⟨rfl, rfl⟩)
    go_ret
    refine ⟨?_, rfl⟩
    rw [hD.out, hd]
    rfl
  · rw [decide_eq_false h1] at hDg
    by_cases h2 : (97 ≤ k ∧ k ≤ 102) ∧ 65 ≤ n
    · have hd : D = (k : Int) - 87 := by omega
      rw [decide_eq_true h2.1] at hIn
      obtain ⟨⟨h2, h3⟩, h4⟩ := h2
      clear hcs k1 k2 k3 k4 h1
      go_enter Tryd.func44, Tryd.ntmps44
      go_wp2_with (first | (go_at_call 41; refine hDg.mono ?_; rintro e w1 ⟨rfl, rfl⟩) | (go_at_call 37; refine hIn.mono ?_; rintro e w1 ⟨rfl, rfl⟩))
      go_ret
      refine ⟨?_, rfl⟩
      rw [hD.out, hd]
      refine congrArg (fun x => Ending.returned (Value.int .i64 x)) ?_
      omega
    · have hd : D = -1 := by omega
      subst hd
      by_cases h3 : 97 ≤ k ∧ k ≤ 102
      · have h4 : n < 65 := by omega
        rw [decide_eq_true h3] at hIn
        clear hcs k1 k2 k3 k4 h1 h2 h3
        go_enter Tryd.func44, Tryd.ntmps44
        go_wp2_with (first | (go_at_call 41; refine hDg.mono ?_; rintro e w1 ⟨rfl, rfl⟩) | (go_at_call 37; refine hIn.mono ?_; rintro e w1 ⟨rfl, rfl⟩))
        go_ret
        refine ⟨?_, rfl⟩
        rw [hD.out]; rfl
      · rw [decide_eq_false h3] at hIn
        clear hcs k1 k2 k3 k4 h1 h2 h3
        go_enter Tryd.func44, Tryd.ntmps44
        go_wp2_with (first | (go_at_call 41; refine hDg.mono ?_; rintro e w1 ⟨rfl, rfl⟩) | (go_at_call 37; refine hIn.mono ?_; rintro e w1 ⟨rfl, rfl⟩))
        go_ret
        refine ⟨?_, rfl⟩
        rw [hD.out]; rfl

end Go.Proofs.YtcpjonglfnakpaaDoor

namespace Go.Proofs.YtcpjonglfnakpaaDoor
open Go.RowKit

end Go.Proofs.YtcpjonglfnakpaaDoor

namespace Go.Proofs.YtcpjonglfnakpaaDoor
open Go.RowKit Go.Proofs.YtcpjonglfnakpaaDoorW.PrintWords

theorem and65535 (n : Int) : Go.bits .and .i64 n 65535 = n % 65536 := by
  have h127 : (BitVec.ofInt 64 65535).toNat = 2 ^ 16 - 1 := by decide
  have key : (BitVec.ofInt 64 n &&& BitVec.ofInt 64 65535).toNat = (n % ((2 ^ 64 : Nat) : Int)).toNat % 2 ^ 16 := by
    rw [BitVec.toNat_and, BitVec.toNat_ofInt, h127, Nat.and_two_pow_sub_one_eq_mod]
  show IntKind.i64.wrap ((BitVec.ofInt 64 n &&& BitVec.ofInt 64 65535).toNat : Nat) = n % 65536
  rw [key, IntKind.wrap_i64]
  omega
def maskd (p : List Int) (k : Nat) : List Int := (p.take k).map (· % 65536) ++ List.replicate (8 - k) 0
theorem maskd_set {p : List Int} {k : Nat} {x : Int} (h8 : p.length = 8) (hx : p[k]? = some x) : (maskd p k).set k (x % 65536) = maskd p (k + 1) := by
  have hk : k < 8 := by have := (List.getElem?_eq_some_iff.1 hx).1; omega
  unfold maskd
  rw [List.set_append_right _ _ (by simp; omega), show k - ((p.take k).map (· % 65536)).length = 0 by simp; omega, List.take_add_one, hx, show 8 - k = (8 - (k + 1)) + 1 by omega, List.replicate_succ]
  simp

theorem maskd_may {p : List Int} (h8 : p.length = 8) : (maskd p 8 == p) = mayB p := by
  have e : maskd p 8 = p.map (· % 65536) := by unfold maskd; rw [List.take_of_length_le (by omega)]; simp
  rw [e, Bool.eq_iff_iff, beq_iff_eq]
  unfold mayB
  rw [List.all_eq_true]
  constructor
  · intro h n hn
    obtain ⟨i, hi⟩ := List.mem_iff_getElem?.1 hn
    have := congrArg (fun l : List Int => l[i]?) h
    simp only [List.getElem?_map, hi, Option.map_some, Option.some.injEq] at this
    simp; omega
  · intro h
    conv => rhs; rw [← List.map_id p]
    exact List.map_congr_left fun n hn => by have := h n hn; simp at this; show n % 65536 = n; omega

set_option maxHeartbeats 1000000 in
theorem six_May_any (p : List Int) (h8 : p.length = 8) (w : World) :
    Calls Tryd.prog 33 #[.agg (ints p).toArray] w fun e w' => e = .returned (.bool (mayB p)) ∧ Below w.heap.size w w' := by
  go_enter Tryd.func33, Tryd.ntmps33
  go_wp2_with (refine wpList_load_row rfl 22 _ rfl _ rfl 22 (ints p).toArray (0, 0) _ ((IntRow.new w _ p).alloc _) Tryd.underlying22 rfl (by rw [List.size_toArray, ints_length, h8]; kernel_rfl) ?_)
  go_loopw [7] (fun i wr => ∃ k : Nat, k ≤ 8 ∧ i = .int .i64 k ∧ IntRow wr w.heap.size 22 p ∧ IntRow wr (w.heap.size + 1) 22 (maskd p k) ∧ Below w.heap.size w wr) (fun i _ => 8 - (intOf i).toNat)
  case atStart =>
    refine ⟨0, by omega, rfl, (IntRow.new w _ p).alloc _, ?_, ((Below.refl _ _).alloc (Nat.le_refl _) _).alloc (by simp) _⟩
    have := IntRow.new (w.alloc (.cells (ints p).toArray 22)) 22 (maskd p 0)
    rwa [World.size_alloc] at this
  case round =>
    obtain ⟨k, hk, rfl, hr, hB, hb⟩ := hrel
    by_cases hk8 : k < 8
    · obtain ⟨x, hx⟩ : ∃ x, p[k]? = some x := ⟨p[k], List.getElem?_eq_getElem (by omega)⟩
      have hix : ∀ w : World, (Instr.index 22 (.agg (ints p).toArray) (.int .i64 k)).run Tryd.prog w = .ok (.int .i64 x) w := fun w => run_index_ints Tryd.underlying22 (by kernel_rfl) (by kernel_rfl) (by kernel_rfl) h8 hx
      have hset := hB.set k (x % 65536)
      rw [maskd_set h8 hx] at hset
      have hand := and65535 x
      obtain ⟨y, hy⟩ : ∃ y, (maskd p k)[k]? = some y := ⟨_, List.getElem?_eq_getElem (by unfold maskd; simp; omega)⟩
      have hc := hB.cell hy
      have hf := hB.free k
      have HX := Lib.hid hx
      clear hx hy
      go_wp2
      refine ⟨⟨k + 1, by omega, by go_num, hr.other _ (by simp) _, hset, ?_⟩, by simp [intOf]; omega⟩
      exact hb.grown (grown_setCell _ _ _) hb.size (fun k hk => by cases hk; simp)
    · obtain rfl : k = 8 := by omega
      have h9 : (maskd p 8).length = 8 := by unfold maskd; simp [h8]
      have heq : ∀ w : World, (Op.equalIn 10000 22 (.agg (ints (maskd p 8)).toArray) (.agg (ints p).toArray)).run Tryd.prog w = .ok (maskd p 8 == p) w := fun w => run_equalIn_ints Tryd.underlying22 (by kernel_rfl) Tryd.underlying3 (by kernel_rfl) (by kernel_rfl) h9 h8
      go_wp2_with (first | (refine wpList_load_row rfl 22 _ rfl _ rfl 22 (ints p).toArray (0, 0) _ hr Tryd.underlying22 rfl (by rw [List.size_toArray, ints_length, h8]; kernel_rfl) ?_) | (refine wpList_load_row rfl 22 _ rfl _ rfl 22 (ints (maskd p 8)).toArray (0, 0) _ hB Tryd.underlying22 rfl (by rw [List.size_toArray, ints_length, h9]; kernel_rfl) ?_))
      go_ret
      refine ⟨?_, hb⟩
      rw [maskd_may h8]
      rfl
end Go.Proofs.YtcpjonglfnakpaaDoor

namespace Go.Proofs.YtcpjonglfnakpaaDoor
open Go.RowKit Go.Proofs.YtcpjonglfnakpaaDoorW.PrintWords

/-- What holds between the rounds. -/
structure RunAt (p : List Int) (k a N : Nat) : Prop where
  n : ∃ n, (n = N ∧ 2 ≤ N ∨ n = 0 ∧ N = 1 ∧ a = 0) ∧ runFrom k (p.drop k) (a, n) = runR p
  pos : 1 ≤ N
theorem RunAt.keep {p : List Int} {k a N : Nat} (h : RunAt p k a N) (hk : k < p.length) (hn : noughts (p.drop k) ≤ N) : RunAt p (k + 1) a N := by
  obtain ⟨⟨n, hc, hr⟩, hp⟩ := h
  refine ⟨⟨n, hc, ?_⟩, hp⟩
  rw [List.drop_eq_getElem_cons hk] at hr hn
  rw [runFrom_cons, if_neg (by rcases hc with ⟨h, _⟩ | ⟨_, h, _⟩ <;> omega)] at hr
  exact hr
theorem RunAt.more {p : List Int} {k a N : Nat} (h : RunAt p k a N) (hk : k < p.length) (hn : N < noughts (p.drop k)) : RunAt p (k + 1) k (noughts (p.drop k)) := by
  obtain ⟨⟨n, hc, hr⟩, hp⟩ := h
  refine ⟨⟨_, Or.inl ⟨rfl, by omega⟩, ?_⟩, by omega⟩
  rw [List.drop_eq_getElem_cons hk] at hr hn ⊢
  rw [runFrom_cons, if_pos (by rcases hc with ⟨h, _⟩ | ⟨h, _⟩ <;> simp only [h] <;> omega)] at hr
  exact hr
theorem noughts_step {p : List Int} {k j : Nat} (hj : noughts (p.drop k) = j + noughts (p.drop (k + j))) (hx : p[k + j]? = some 0) : noughts (p.drop k) = (j + 1) + noughts (p.drop (k + (j + 1))) := by
  have hlt := (List.getElem?_eq_some_iff.1 hx).1
  have he := (List.getElem?_eq_some_iff.1 hx).2
  rw [hj, List.drop_eq_getElem_cons hlt, noughts, if_pos he]
  rw [show k + (j + 1) = k + j + 1 from rfl]; omega
theorem noughts_stop {p : List Int} {k j : Nat} {x : Int} (hj : noughts (p.drop k) = j + noughts (p.drop (k + j))) (hx : p[k + j]? = some x) (h : x ≠ 0) : noughts (p.drop k) = j := by
  have hlt := (List.getElem?_eq_some_iff.1 hx).1
  have he := (List.getElem?_eq_some_iff.1 hx).2
  rw [hj, List.drop_eq_getElem_cons hlt, noughts, if_neg (by rw [he]; exact h)]; omega

set_option maxHeartbeats 1000000 in
set_option maxRecDepth 100000 in
theorem six_Run_any (p : List Int) (h8 : p.length = 8) (w : World) :
    Calls Tryd.prog 92 #[.agg (ints p).toArray] w fun e w' => e = .returned (.tuple #[.int .i64 (runR p).1, .int .i64 (runR p).2]) ∧ w' = w.alloc (.cells (ints p).toArray 22) := by
  have hrow : IntRow (w.alloc (.cells (ints p).toArray 22)) w.heap.size 22 p := IntRow.new w _ p
  obtain ⟨w0, hw0⟩ : ∃ w0, w0 = w.alloc (.cells (ints p).toArray 22) := ⟨_, rfl⟩
  have HW := Lib.hid hw0
  go_enter Tryd.func92, Tryd.ntmps92
  go_wp2
  go_step3
  go_wp2
  go_step3
  go_wp2
  rw [← hw0] at hrow ⊢
  clear hw0
  go_loopg [4, 5, 10] 8 (fun g at_ lo i wx => ∃ k a N : Nat, k + g = 8 ∧ i = .int .i64 k ∧ at_ = .int .i64 a ∧ lo = .int .i64 N ∧ a ≤ 8 ∧ N ≤ 8 ∧ Hid (RunAt p k a N) ∧ wx = w0)
  case atStart => exact ⟨0, 0, 1, by omega, rfl, rfl, rfl, by omega, by omega, ⟨⟨0, Or.inr ⟨rfl, rfl, rfl⟩, rfl⟩, by omega⟩, rfl⟩
  case round =>
    obtain ⟨k, a, N, hk, rfl, rfl, rfl, ha, hN8, hrf, rfl⟩ := hrel
    cases gk with
    | zero =>
      have hk8 : k = 8 := by omega
      subst hk8
      obtain ⟨⟨n, hn, hr⟩, hp⟩ := hrf.out
      rw [List.drop_eq_nil_of_le (by omega)] at hr
      have hr' : runR p = (a, n) := hr.symm
      have e1 : (runR p).1 = a := by rw [hr']
      have e2 : (runR p).2 = n := by rw [hr']
      rcases hn with ⟨rfl, h2⟩ | ⟨rfl, rfl, rfl⟩
      · go_wp2
        go_ret2
        exact ⟨by rw [e1, e2]; rfl, HW.out⟩
      · go_wp2
        go_ret2
        exact ⟨by rw [e1, e2]; rfl, HW.out⟩
    | succ g0 =>
      have hk8 : k < 8 := by omega
      have hsl := run_sliceAt_from (P := Tryd.prog) Tryd.underlying22 (by kernel_rfl) (by kernel_rfl) w.heap.size k hk8
      go_wp2
      go_loopg [7, 16] (8 - k) (fun g n j wy => ∃ m : Nat, m + g = 8 - k ∧ n = .int .i64 m ∧ j = .int .i64 m ∧ Hid (noughts (p.drop k) = m + noughts (p.drop (k + m))) ∧ wy = wr)
      case atStart => exact ⟨0, by omega, rfl, rfl, by show _ = _; simp, rfl⟩
      case round =>
        obtain ⟨m, hm, rfl, rfl, hno, rfl⟩ := hrel
        cases gk with
        | zero =>
          have hmk : m = 8 - k := by omega
          have hlt : ¬ ((m : Int) < ((8 - k : Nat) : Int)) := by omega
          have hno2 : noughts (p.drop k) = m := by rw [hno.out, List.drop_eq_nil_of_le (by omega)]; rfl
          have hm8 : m ≤ 8 := by omega
          clear hmk hm
          by_cases hNm : N < m
          · have hNi : (N : Int) < (m : Int) := by omega
            have hrm := hrf.out.more (by omega) (by rw [hno2]; exact hNm)
            rw [hno2] at hrm
            have HR := Lib.hid hrm
            clear hno2 hrm
            go_wp2
            go_roundg g0
            case measure => omega
            case rel => exact ⟨k + 1, k, m, by omega, by go_num, rfl, rfl, by omega, by omega, HR.out, rfl⟩
          · have hNi : ¬ ((N : Int) < (m : Int)) := by omega
            have HR := Lib.hid (hrf.out.keep (by omega) (by rw [hno2]; omega))
            clear hno2
            go_wp2
            go_roundg g0
            case measure => omega
            case rel => exact ⟨k + 1, a, N, by omega, by go_num, rfl, rfl, ha, hN8, HR.out, rfl⟩
        | succ g1 =>
          have hlt : ((m : Int) < ((8 - k : Nat) : Int)) := by omega
          obtain ⟨x, hx⟩ : ∃ x, p[k + m]? = some x := ⟨_, List.getElem?_eq_getElem (by omega)⟩
          have hc := hrow.cell hx
          by_cases hx0 : x = 0
          · subst hx0
            have HS := Lib.hid (noughts_step hno.out hx)
            clear hx
            go_wp2
            go_roundg g1
            case measure => omega
            case rel => exact ⟨m + 1, by omega, by go_num, by go_num, HS.out, rfl⟩
          · have hno2 := noughts_stop hno.out hx hx0
            have hxb : (x != 0) = true := by simpa using hx0
            clear hx
            by_cases hNm : N < m
            · have hNi : ¬ ((m : Int) ≤ (N : Int)) := by omega
              have hrm := hrf.out.more (by omega) (by rw [hno2]; exact hNm)
              rw [hno2] at hrm
              have HR := Lib.hid hrm
              clear hno2 hrm
              go_wp2
              go_roundg g0
              case measure => omega
              case rel => exact ⟨k + 1, k, m, by omega, by go_num, rfl, rfl, by omega, by omega, HR.out, rfl⟩
            · have hNi : ((m : Int) ≤ (N : Int)) := by omega
              have HR := Lib.hid (hrf.out.keep (by omega) (by rw [hno2]; omega))
              clear hno2
              go_wp2
              go_roundg g0
              case measure => omega
              case rel => exact ⟨k + 1, a, N, by omega, by go_num, rfl, rfl, ha, hN8, HR.out, rfl⟩
end Go.Proofs.YtcpjonglfnakpaaDoor

namespace Go.Proofs.YtcpjonglfnakpaaDoor
open Go.RowKit Go.Proofs.YtcpjonglfnakpaaDoorW.PrintWords

def digits16 : ByteArray := ⟨#[48, 49, 50, 51, 52, 53, 54, 55, 56, 57, 97, 98, 99, 100, 101, 102]⟩
theorem digit_at : ∀ k : Nat, k < 16 → digits16.extract k (k + 1) = ⟨#[hexC k]⟩ := by decide +kernel
theorem and15 (x : Int) (h0 : 0 ≤ x) (h1 : x < 9223372036854775808) : Go.bits .and .i64 x 15 = x % 16 :=
  bits_mask .i64 63 (by decide) (fun n a b => by rw [IntKind.wrap_i64]; omega) 4 (by decide) x h0 (by simpa using h1)

set_option maxHeartbeats 1000000 in
theorem six_text (n : Nat) : n ≤ 9223372036854775807 → ∀ w, Calls Tryd.prog 94 #[.int .i64 n] w fun e w' => e = .returned (.string ⟨(hexs n).toArray⟩) ∧ w' = w := by
  induction n using Nat.strongRecOn with
  | ind n ih =>
    intro hn w
    have hand := and15 n (by omega) (by omega)
    have hsl : ∀ w, (Instr.slice 9 (.string digits16) (some (.int .i64 ((n : Int) % 16))) (some (.int .i64 ((n : Int) % 16 + 1))) none).run Tryd.prog w = .ok (.string ⟨#[hexC (n % 16)]⟩) w := by
      intro w
      rw [run_slice_string w 9 digits16 .i64 .i64 _ _ Tryd.underlying9 (by omega) (by omega) (by show _ ≤ (16 : Int); omega)]
      rw [show ((n : Int) % 16).toNat = n % 16 by omega, show ((n : Int) % 16 + 1).toNat = n % 16 + 1 by omega, digit_at (n % 16) (by omega)]
    unfold digits16 at hsl
    rcases Nat.lt_or_ge n 16 with h | h
    · rw [hexs_small h]
      go_enter Tryd.func94, Tryd.ntmps94
      go_wp2
      go_ret
      exact ⟨by rw [Nat.mod_eq_of_lt h]; rfl, rfl⟩
    · rw [hexs_big h]
      have hsh : Go.bits .and .i64 n 15 = n % 16 := hand
      have hih := ih (n / 16) (by omega) (by omega)
      go_enter Tryd.func94, Tryd.ntmps94
      go_wp2_with fail
      refine (hih w).mono ?_
      rintro e w1 ⟨rfl, rfl⟩
      have hl16 := hexs_16 (n / 16) (by omega)
      go_wp2
      go_ret
      refine ⟨congrArg (fun x => Ending.returned (.string x)) (toList_inj ?_), rfl⟩
      simp [ByteArray.data_append]

def empN : Value → Nat
  | .string s => if s.size = 0 then 1 else 0
  | _ => 0
theorem empN_le (v : Value) : empN v ≤ 1 := by
  unfold empN
  split
  · split <;> omega
  · omega
def lead (k : Nat) : List UInt8 := if k = 0 then [] else hexs k
theorem lead_step (k : Nat) (hk : k ≠ 0) : lead (k / 16) ++ [hexC (k % 16)] = lead k := by
  unfold lead
  rw [if_neg hk]
  rcases Nat.lt_or_ge k 16 with h | h
  · rw [if_pos (by omega), hexs_small h, Nat.mod_eq_of_lt h]; rfl
  · rw [if_neg (by omega), hexs_big h]
theorem lead_first (k : Nat) : lead (k / 16) ++ [hexC (k % 16)] = hexs k := by
  by_cases h : k = 0
  · subst h; rw [hexs_small (by decide)]; rfl
  · rw [lead_step k h]; unfold lead; rw [if_neg h]
end Go.Proofs.YtcpjonglfnakpaaDoor

namespace Go.Proofs.YtcpjonglfnakpaaDoor
open Go.RowKit Go.Proofs.YtcpjonglfnakpaaDoorW.PrintWords

/-- Where the first two colons stand. -/
def gapI (l : List UInt8) : Int := match gapL l with
  | some x => x.1.length
  | none => -1
theorem gapI_hit (l : List UInt8) : gapI (58 :: 58 :: l) = 0 := by unfold gapI; rw [gapL_hit]; rfl
theorem gapI_miss {b c : UInt8} (h : ¬ (b = 58 ∧ c = 58)) (l : List UInt8) : gapI (b :: c :: l) = if gapI (c :: l) = -1 then -1 else gapI (c :: l) + 1 := by
  unfold gapI
  rw [gapL_miss h]
  cases gapL (c :: l) with
  | none => rfl
  | some x => simp

/-- A row of ints of the call's own. -/
def IntOwn (w : World) (base : Nat) (v : Value) (l : List Int) : Prop := w.ownsRow base 3 1 v l.length (ints l)
theorem Tryd.infoInt : (Tryd.prog.info? 3).map (fun i => (i.zero, i.size, i.bytes)) = some (some (.int .i64 0), 1, 8) := by kernel_rfl
def casts (a : List Nat) : List Int := a.map fun n : Nat => (n : Int)
theorem casts_append (a b : List Nat) : casts (a ++ b) = casts a ++ casts b := by simp [casts]
theorem casts_length (a : List Nat) : (casts a).length = a.length := by simp [casts]

/-- What the reference's pieces do with the rest of a text: the pieces so far, the number, its digits. -/
def scan (out : List Nat) (n d : Nat) : List UInt8 → Option (List Nat)
  | [] => if d = 0 then none else some (out ++ [n])
  | c :: l => if c = 58 then (if d = 0 then none else scan (out ++ [n]) 0 0 l) else if hexD c < 0 ∨ 4 < d + 1 then none else scan out (16 * n + (hexD c).toNat) (d + 1) l
theorem scan_nil (out : List Nat) (n d : Nat) : scan out n d [] = if d = 0 then none else some (out ++ [n]) := rfl
theorem scan_colon (out : List Nat) (n d : Nat) (l : List UInt8) : scan out n d (58 :: l) = if d = 0 then none else scan (out ++ [n]) 0 0 l := by rw [scan, if_pos rfl]
theorem scan_dig {c : UInt8} (h : c ≠ 58) (out : List Nat) (n d : Nat) (l : List UInt8) : scan out n d (c :: l) = if hexD c < 0 ∨ 4 < d + 1 then none else scan out (16 * n + (hexD c).toNat) (d + 1) l := by rw [scan, if_neg h]
/-- A piece whose first digits have been read. -/
def restB (d : Nat) (p : List UInt8) : Bool := decide (0 < d + p.length) && decide (d + p.length ≤ 4) && p.all isHex
theorem scan_all : ∀ (l : List UInt8) (out : List Nat) (n d : Nat) (p : List UInt8) (ps : List (List UInt8)), splitOn 58 l = p :: ps → d ≤ 4 → scan out n d l = if restB d p = true ∧ ps.all pieceB = true then some (out ++ valH n p :: ps.map (valH 0)) else none
  | [], out, n, d, p, ps, h, hd => by
    rw [splitOn_nil] at h
    injection h with h1 h2
    subst h1 h2
    rw [scan_nil]
    by_cases h0 : d = 0
    · subst h0; simp [restB]
    · rw [if_neg h0, if_pos (by simp [restB]; omega)]; rfl
  | c :: l, out, n, d, p, ps, h, hd => by
    by_cases hc : c = 58
    · subst hc
      rw [splitOn_hit] at h
      injection h with h1 h2
      subst h1
      rw [scan_colon]
      by_cases h0 : d = 0
      · subst h0; simp [restB]
      · rw [if_neg h0]
        obtain ⟨q, qs, e⟩ := splitOn_ne 58 l
        rw [scan_all l _ 0 0 q qs e (by omega)]
        rw [e] at h2
        subst h2
        have e2 : restB d [] = true := by simp [restB]; omega
        have e3 : pieceB q = restB 0 q := by
          unfold pieceB restB
          cases q with
          | nil => rfl
          | cons a q => simp
        rw [e2, List.all_cons, e3]
        simp [valH]
    · obtain ⟨q, qs, e⟩ := splitOn_ne 58 l
      rw [splitOn_miss hc e] at h
      injection h with h1 h2
      subst h1 h2
      rw [scan_dig hc]
      by_cases h1 : hexD c < 0 ∨ 4 < d + 1
      · rw [if_pos h1, if_neg]
        intro ⟨h2, _⟩
        unfold restB at h2
        rw [Bool.and_eq_true, Bool.and_eq_true, List.all_cons, Bool.and_eq_true] at h2
        obtain ⟨⟨_, h3⟩, h4, _⟩ := h2
        have h3 := of_decide_eq_true h3
        have h4 : 0 ≤ hexD c := of_decide_eq_true h4
        simp only [List.length_cons] at h3
        omega
      · rw [if_neg h1, scan_all l _ _ _ q qs e (by omega)]
        have e2 : restB d (c :: q) = restB (d + 1) q := by
          have h4 : isHex c = true := decide_eq_true (by omega)
          unfold restB
          rw [List.all_cons, h4, List.length_cons, Bool.true_and, show d + (q.length + 1) = d + 1 + q.length by omega]
        rw [e2, valH_cons]
theorem scan_pieces (l : List UInt8) (h : l ≠ []) : piecesO l = scan [] 0 0 l := by
  obtain ⟨q, qs, e⟩ := splitOn_ne 58 l
  rw [scan_all l [] 0 0 q qs e (by omega)]
  unfold piecesO
  have e3 : pieceB q = restB 0 q := by
    unfold pieceB restB
    cases q with
    | nil => rfl
    | cons a q => simp
  rw [if_neg h, e, List.all_cons, e3]
  simp

/-- What splitting leaves: the pieces in a row of the call's own, or none. -/
def Split (o : Option (List Nat)) (w : World) (e : Ending) (w' : World) : Prop := ∃ v, e = .returned (.tuple #[v, .bool o.isSome]) ∧ IntOwn w' w.heap.size v (casts (o.getD [])) ∧ Below w.heap.size w w'
theorem split_none {w w' : World} (hb : Below w.heap.size w w') : Split none w (.returned (.tuple #[.slice none 0 0, .bool false])) w' := ⟨_, rfl, World.ownsRow_nil _ _ _ _, hb⟩

end Go.Proofs.YtcpjonglfnakpaaDoor

namespace Go.Proofs.YtcpjonglfnakpaaDoor
open Go.RowKit Go.Proofs.YtcpjonglfnakpaaDoorW.PrintWords

theorem row_lower {w : World} {base base' : Nat} {e : TypeId} {size n : Nat} {v : Value} {xs : List Value} (h : w.ownsRow base e size v n xs) (hb : base' ≤ base) : w.ownsRow base' e size v n xs := by
  refine ⟨h.1, ?_⟩
  rcases h.2 with h | ⟨g, cap, cur, h1, h2, h3⟩
  · exact Or.inl h
  · exact Or.inr ⟨g, cap, cur, h1, Nat.le_trans hb h2, h3⟩
theorem all_take_snoc {α : Type} {l : List α} {f : α → Bool} {k : Nat} {x : α} (h : (l.take k).all f = true) (hx : l[k]? = some x) (hf : f x = true) : (l.take (k + 1)).all f = true := by
  rw [List.take_add_one, hx, List.all_append, h]; simp [hf]
theorem valH_take {p : List UInt8} {j : Nat} {b : UInt8} (hx : p[j]? = some b) : valH 0 (p.take (j + 1)) = 16 * valH 0 (p.take j) + (hexD b).toNat := by
  rw [List.take_add_one, hx, valH_append]; rfl

set_option maxHeartbeats 2000000 in
set_option maxRecDepth 100000 in
theorem six_split (s : ByteArray) (hs : s.size ≤ 1000000) (w : World) (hG : Good w) :
    Calls Tryd.prog 23 #[.string s] w (Split (piecesO s.data.toList) w) := by
  by_cases h0 : s.data.toList = []
  · have e : s.size = 0 := by rw [size_list, h0]; rfl
    have e2 : s.toList.isEmpty = true := by rw [ba_toList, h0]; rfl
    have hp : Hid (piecesO s.data.toList = some []) := by show _ = _; unfold piecesO; rw [if_pos h0]
    clear h0
    go_enter Tryd.func23, Tryd.ntmps23
    go_wp2
    go_ret2
    rw [hp.out]
    exact ⟨_, rfl, World.ownsRow_nil _ _ _ _, Below.refl _ _⟩
  · have e : s.size ≠ 0 := by rw [size_list]; intro e; exact h0 (List.eq_nil_of_length_eq_zero e)
    have e2 : s.toList.isEmpty = false := by rw [ba_toList]; exact List.isEmpty_eq_false_iff.2 h0
    have hsp := split_any 58 s (by omega) w hG
    have hle := splitOn_le 58 s.data.toList
    have hcnt : (splitOn 58 s.data.toList).length ≤ s.size + 1 := by rw [splitOn_length, size_list]; have := List.count_le_length (a := (58 : UInt8)) (l := s.data.toList); omega
    rw [← size_list] at hle
    obtain ⟨ps, hps⟩ : ∃ ps, Hid (splitOn 58 s.data.toList = ps) := ⟨_, rfl⟩
    rw [hps.out] at hsp hle hcnt
    obtain ⟨o, ho⟩ : ∃ o, Hid (piecesO s.data.toList = o) := ⟨_, rfl⟩
    have hpo : Hid (o = if ps.all pieceB = true then some (ps.map (valH 0)) else none) := by show _ = _; rw [← ho.out]; unfold piecesO; rw [if_neg h0, hps.out]
    rw [ho.out]
    have hrow : (w.alloc (.cells (strs ps).toArray 9)).heap[w.heap.size]? = some (.cells (strs ps).toArray 9 (0, 0)) := heap_alloc_new w _
    have HLE := Lib.hid hle
    clear h0 hle
    go_enter Tryd.func23, Tryd.ntmps23
    go_wp2_with (go_at_call 24; refine hsp.mono ?_; rintro e w' ⟨rfl, rfl⟩)
    go_loopg [4, 15] ps.length (fun g v i wr => ∃ (k : Nat), k + g = ps.length ∧ i = .int .i64 k ∧ wr.ownsRow (w.heap.size + 1) 3 1 v k (ints (casts ((ps.take k).map (valH 0)))) ∧ Hid ((ps.take k).all pieceB = true) ∧ wr.heap[w.heap.size]? = some (.cells (strs ps).toArray 9 (0, 0)) ∧ Below w.heap.size w wr)
    case atStart => exact ⟨0, by omega, rfl, World.ownsRow_nil _ _ _ _, rfl, hrow, (Below.refl _ _).alloc (Nat.le_refl _) _⟩
    case round =>
      obtain ⟨k, hk, rfl, how, hall, hr, hb⟩ := hrel
      have hwl := lt_of_block hr
      cases gk with
      | zero =>
        have hkp : k = ps.length := by omega
        have hlt : ¬ ((k : Int) < (ps.length : Int)) := by omega
        have ho2 : Hid (o = some (ps.map (valH 0))) := by
          show _ = _
          rw [hpo.out, if_pos]
          have := hall.out; rwa [hkp, List.take_length] at this
        have how2 := row_lower (base' := w.heap.size) how (by omega)
        rw [hkp, List.take_length] at how2
        clear how hkp hk
        go_wp2
        go_ret2
        rw [ho2.out]
        refine ⟨_, rfl, ?_, hb⟩
        unfold IntOwn
        rw [casts_length, show (some (ps.map (valH 0))).getD [] = ps.map (valH 0) from rfl, List.length_map]
        exact how2
      | succ g0 =>
        have hlt : ((k : Int) < (ps.length : Int)) := by omega
        have hkl : k < ps.length := by omega
        obtain ⟨p, hp⟩ : ∃ p, Hid (ps[k]? = some p) := ⟨ps[k], List.getElem?_eq_getElem hkl⟩
        have hmem : p ∈ ps := List.mem_of_getElem? hp.out
        have hpl := HLE.out p hmem
        obtain ⟨t, ht⟩ : ∃ t, Hid (t = (⟨p.toArray⟩ : ByteArray)) := ⟨_, rfl⟩
        have htl : Hid (t.data.toList = p) := by show _ = _; rw [ht.out]
        have hts : Hid (t.size = p.length) := by show _ = _; rw [size_list, htl.out]
        have hts2 : t.size ≤ s.size := by rw [hts.out]; exact hpl
        have hcell : wr.cell? ⟨w.heap.size, k, none⟩ = some (.string t) := by
          rw [ht.out]
          simp only [World.cell?, hr, strs]
          simp [hp.out]
        have HM := Lib.hid hmem
        clear hmem hpl
        go_wp2
        go_loopg [7, 21] t.size (fun g n i wy => ∃ (j m : Nat), j + g = t.size ∧ i = .int .i64 j ∧ n = .int .i64 m ∧ m ≤ 65535 ∧ Hid (m = valH 0 (p.take j) ∧ (p.take j).all isHex = true) ∧ wy = wr)
        case atStart => exact ⟨0, 0, by omega, rfl, rfl, by omega, ⟨rfl, rfl⟩, rfl⟩
        case round =>
          obtain ⟨j, m, hj, rfl, rfl, hm, hv, rfl⟩ := hrel
          cases gk with
          | zero =>
            have hjl : ¬ ((j : Int) < (t.size : Int)) := by omega
            have hjp : p.length ≤ j := by rw [← hts.out]; omega
            have hv2 : Hid (m = valH 0 p ∧ p.all isHex = true) := by have := hv.out; rwa [List.take_of_length_le hjp] at this
            by_cases hpb : pieceB p = true
            · obtain ⟨q1, q2, q3⟩ := pieceB_out hpb
              have hte : t.toList.isEmpty = false := by rw [ba_toList, htl.out]; exact List.isEmpty_eq_false_iff.2 q1
              have ht4 : t.size ≤ 4 := by rw [hts.out]; exact q2
              have hall2 := Lib.hid (all_take_snoc hall.out hp.out hpb)
              have hmap : Hid ((ps.take (k + 1)).map (valH 0) = (ps.take k).map (valH 0) ++ [m]) := by
                show _ = _
                rw [List.take_add_one, hp.out, List.map_append, hv2.out.1]; rfl
              clear q1 q2 q3 hpb hj hjp
              go_wp2_with (at_builtin; refine wpList_append1 rfl _ _ 52 rfl 3 _ (.int .i64 0) 8 Tryd.underlying52 Tryd.infoInt rfl w.heap.size (w.heap.size + 1) (by omega) w _ _ k _ (.int .i64 m) (by rfl) (by rfl) how hb (by omega) (by simp [Value.oneCell']) (by omega) (by omega) ?_)
              intro v' w2 ho3 hb2 hg2 hne
              have hr2 := block_grown hg2 hr (fun b hb e => by have := row_base how b hb; omega)
              go_wp2
              go_roundg g0
              case measure => omega
              case rel =>
                refine ⟨k + 1, by omega, by go_num, ?_, hall2, hr2, hb2⟩
                rw [hmap.out, casts_append, ints_append, List.map_take]; exact ho3
            · have ho2 : Hid (o = none) := by
                show _ = _
                rw [hpo.out, if_neg]
                intro h
                exact hpb (List.all_eq_true.1 h p HM.out)
              have hc : t.toList.isEmpty = true ∨ t.toList.isEmpty = false ∧ 4 < t.size := by
                rw [ba_toList, htl.out, hts.out]
                by_cases h1 : p = []
                · left; rw [h1]; rfl
                · right
                  refine ⟨List.isEmpty_eq_false_iff.2 h1, ?_⟩
                  by_cases h2 : p.length ≤ 4
                  · exfalso; apply hpb; unfold pieceB; rw [hv2.out.2, List.isEmpty_eq_false_iff.2 h1]; simp [h2]
                  · omega
              clear hpb hj hjp
              rcases hc with hc | ⟨hc, hc2⟩
              · go_wp2
                go_ret2
                rw [ho2.out]
                exact split_none hb
              · go_wp2
                go_ret2
                rw [ho2.out]
                exact split_none hb
          | succ g1 =>
            have hjl : ((j : Int) < (t.size : Int)) := by omega
            have hjs : j < t.size := by omega
            have hjp : j < p.length := by rw [← hts.out]; omega
            obtain ⟨b, hbj⟩ : ∃ b, p[j]? = some b := ⟨_, List.getElem?_eq_getElem hjp⟩
            have hd : t.data.toList.drop j = b :: p.drop (j + 1) := by rw [htl.out, List.drop_eq_getElem_cons hjp]; congr 1; rw [List.getElem?_eq_getElem hjp] at hbj; exact Option.some.inj hbj
            have hg := get_cons hd hjs
            have hx := ascii_Hex b
            have hbd := hexD_bd b
            have hvt := valH_take hbj
            have hmb := List.mem_of_getElem? hbj
            have hall3 : 0 ≤ hexD b → (p.take (j + 1)).all isHex = true := fun h => all_take_snoc hv.out.2 hbj (decide_eq_true h)
            have hbx : isHex b = decide (0 ≤ hexD b) := rfl
            obtain ⟨D, hD⟩ : ∃ D, Hid (hexD b = D) := ⟨_, rfl⟩
            rw [hD.out] at hx hbd hvt hall3 hbx
            by_cases hD0 : D < 0
            · have ho2 : Hid (o = none) := by
                show _ = _
                rw [hpo.out, if_neg]
                intro h
                obtain ⟨q1, q2, q3⟩ := pieceB_out (List.all_eq_true.1 h p HM.out)
                have := List.all_eq_true.1 q3 b hmb
                rw [hbx] at this
                have := of_decide_eq_true this
                omega
              clear hbj hd hvt hmb hall3 hbx
              go_wp2_with (go_at_call 44; refine (hx _).mono ?_; rintro e w1 ⟨rfl, rfl⟩)
              go_ret2
              rw [ho2.out]
              exact split_none hb
            · obtain ⟨D, rfl⟩ := Int.eq_ofNat_of_zero_le (by omega : 0 ≤ D)
              rw [Int.toNat_natCast, ← hv.out.1] at hvt
              have HV := Lib.hid (And.intro hvt.symm (hall3 (by omega)))
              by_cases hbig : 65535 < m * 16 + D
              · have ho2 : Hid (o = none) := by
                  show _ = _
                  rw [hpo.out, if_neg]
                  intro h
                  obtain ⟨q1, q2, q3⟩ := pieceB_out (List.all_eq_true.1 h p HM.out)
                  have := piece_le (l := p.take (j + 1)) (by rw [List.length_take]; omega)
                  rw [hvt] at this
                  omega
                clear hbj hd hvt hmb hall3 hbx
                go_wp2_with (go_at_call 44; refine (hx _).mono ?_; rintro e w1 ⟨rfl, rfl⟩)
                go_ret2
                rw [ho2.out]
                exact split_none hb
              · clear hbj hd hvt hmb hall3 hbx
                go_wp2_with (go_at_call 44; refine (hx _).mono ?_; rintro e w1 ⟨rfl, rfl⟩)
                go_roundg g1
                case measure => omega
                case rel => exact ⟨j + 1, m * 16 + D, by omega, by go_num, by go_num, by omega, ⟨by have := HV.out.1; omega, HV.out.2⟩, rfl⟩

end Go.Proofs.YtcpjonglfnakpaaDoor

namespace Go.Proofs.YtcpjonglfnakpaaDoor
open Go.RowKit Go.Proofs.YtcpjonglfnakpaaDoorW.PrintWords Go.Lib

theorem gapL_bound : ∀ {l x y : List UInt8}, gapL l = some (x, y) → l.take x.length = x ∧ l.drop (x.length + 2) = y := by
  intro l x y h
  rw [gapL_out h]
  constructor
  · simp
  · rw [show x ++ 58 :: 58 :: y = (x ++ [58, 58]) ++ y by simp, List.drop_left' (by simp)]
theorem index_gap : ∀ l : List UInt8, index l [58, 58] = gapI l
  | [] => rfl
  | [b] => by
    have : ([58, 58] : List UInt8).isPrefixOf [b] = false := by simp [List.isPrefixOf]
    rw [index, this]; rfl
  | b :: c :: l => by
    have ih := index_gap (c :: l)
    by_cases h : b = 58 ∧ c = 58
    · obtain ⟨rfl, rfl⟩ := h
      rw [gapI_hit, index]; simp [List.isPrefixOf]
    · have hp : ([58, 58] : List UInt8).isPrefixOf (b :: c :: l) = false := by
        simp [List.isPrefixOf]; intro e; exact fun e2 => h ⟨e.symm, e2.symm⟩
      rw [gapI_miss h, index, hp, ih]; simp
theorem cut_gap (l : List UInt8) : cut l [58, 58] = match gapL l with
    | some x => (x.1, x.2, true)
    | none => (l, [], false) := by
  unfold cut
  rw [index_gap]
  unfold gapI
  cases h : gapL l with
  | none => rfl
  | some x =>
    obtain ⟨x, y⟩ := x
    have := gapL_bound h
    simp [this.1, this.2]

/-- Eight noughts. -/
def zer : List Int := List.replicate 8 0
/-- An array's block behind a copy into it. -/
theorem IntRow.copied {w : World} {b : Nat} {T : TypeId} {l : List Int} (h : IntRow w b T l) (o : Nat) (xs : List Int) : IntRow (w.setRow b ((ints l).toArray.toList.take o ++ ints xs ++ (ints l).toArray.toList.drop (o + (ints xs).length)).toArray) b T (l.take o ++ xs ++ l.drop (o + xs.length)) := by
  unfold IntRow
  rw [setRow_heap w b (ints l).toArray _ T (0, 0) h]
  congr 2
  rw [ints_length, ints_append, ints_append]
  simp [ints, List.map_take, List.map_drop]
theorem below_setRow {B : Nat} {w0 w : World} (h : Below B w0 w) {g : Nat} (hg : B ≤ g) (cs : Array Value) : Below B w0 (w.setRow g cs) :=
  h.trans ⟨rfl, rfl, rfl, by simp [World.setRow], fun i hi => by
    have hne : g ≠ i := by omega
    simp [World.setRow, Array.getElem?_modify, hne]⟩

/-- What holds of a world behind a copy into a block of ints. -/
structure Copied (w w' : World) (g : Nat) (T : TypeId) (l : List Int) : Prop where
  row : IntRow w' g T l
  below : ∀ B w0, Below B w0 w → B ≤ g → Below B w0 w'
  rest : ∀ k, k ≠ g → w'.heap[k]? = w.heap[k]?
  size : w'.heap.size = w.heap.size
theorem copy_own {P : Program} {dT sT ty elem : TypeId} (hu : P.underlying dT = some (.slice elem)) (hs : (P.info? elem).map (·.size) = some 1) {w : World} {g o dLen dCap : Nat} {T : TypeId} {cur : List Int} (hg : IntRow w g T cur) {base : Nat} {v : Value} {n : Nat} {xs : List Int} (hv : w.ownsRow base elem 1 v n (ints xs)) (hn : n ≤ dLen) (ho : o + n ≤ cur.length) :
    ∃ w', (Builtin.copy_ #[dT, sT] ty #[.slice (some ⟨g, o, none⟩) dLen dCap, v]).run P w = .ok (goInt n) w' ∧ Copied w w' g T (cur.take o ++ xs ++ cur.drop (o + n)) := by
  have hxl : xs.length = n := by have := hv.1; simpa [ints_length] using this
  rcases hv.2 with ⟨rfl, rfl⟩ | ⟨g2, cap, cu, rfl, _⟩
  · refine ⟨w, ?_, ?_⟩
    · exact @_root_.Go.run_copy_nil P w dT sT ty elem ⟨g, o, none⟩ dLen dCap hu (by cases h : P.info? elem <;> simp [h] at hs ⊢)
    · obtain rfl : xs = [] := List.eq_nil_of_length_eq_zero hxl
      refine ⟨?_, fun _ _ h _ => h, fun _ _ => rfl, rfl⟩
      rw [List.append_nil, Nat.add_zero, List.take_append_drop]; exact hg
  · have hrun := run_copy_row (P := P) w dT sT ty elem g o dLen dCap ⟨g2, 0, none⟩ n cap (ints cur).toArray T (ints xs) hu hs hg (by rw [ints_length, hxl]; exact (Nat.min_eq_left hn).symm) (fun j u hj => by
        rw [Addr.add_lit, Nat.zero_add, hv.cellAt j (by have := (List.getElem?_eq_some_iff.1 hj).1; rw [ints_length, hxl] at this; omega)]; exact hj) (by simp [ints_length]; omega) (fun u hu => by obtain ⟨m, _, rfl⟩ := List.mem_map.1 hu; rfl)
    rw [ints_length, hxl] at hrun
    refine ⟨_, hrun, ?_, fun B w0 h hB => below_setRow h hB _, fun k hk => ?_, ?_⟩
    · have := hg.copied o xs
      rw [ints_length, hxl] at this
      exact this
    · simp [World.setRow, Array.getElem?_modify, Ne.symm hk]
    · simp [World.setRow]

theorem parse_by {l x y : List UInt8} {g : Bool} (h : cut l [58, 58] = (x, y, g)) : parseSix l = match piecesO x, piecesO y with
    | some a, some b => if (g = true ∧ a.length + b.length ≤ 7) ∨ (g = false ∧ a.length + b.length = 8) then (a ++ List.replicate (8 - a.length - b.length) 0 ++ b, true) else (no8, false)
    | _, _ => (no8, false) := by
  rw [cut_gap] at h
  unfold parseSix
  cases hg : gapL l with
  | none =>
    rw [hg] at h
    injection h with h1 h
    injection h with h2 h3
    subst h1 h2 h3
    have e : piecesO [] = some [] := rfl
    rw [e]
    cases piecesO l with
    | none => rfl
    | some a =>
      simp only [List.length_nil, Nat.add_zero]
      by_cases h8 : a.length = 8
      · rw [if_pos h8, if_pos (Or.inr ⟨trivial, h8⟩), h8]; simp
      · rw [if_neg h8, if_neg (by simp [h8])]
  | some z =>
    rw [hg] at h
    injection h with h1 h
    injection h with h2 h3
    subst h1 h2 h3
    obtain ⟨z1, z2⟩ := z
    simp only []
    generalize piecesO z1 = oa
    generalize piecesO z2 = ob
    cases oa with
    | none => rfl
    | some a =>
      cases ob with
      | none => rfl
      | some b =>
        simp only []
        by_cases h7 : a.length + b.length ≤ 7
        · rw [if_pos h7, if_pos (Or.inl ⟨trivial, h7⟩)]
        · rw [if_neg h7, if_neg (by simp; omega)]
theorem cut_le {l x y : List UInt8} {g : Bool} (h : cut l [58, 58] = (x, y, g)) : x.length ≤ l.length ∧ y.length ≤ l.length := by
  rw [cut_gap] at h
  cases hg : gapL l with
  | none =>
    rw [hg] at h
    injection h with h1 h
    injection h with h2 h3
    subst h1 h2; simp
  | some z =>
    rw [hg] at h
    injection h with h1 h
    injection h with h2 h3
    subst h1 h2
    have := gapL_out (l := l) (x := z.1) (y := z.2) hg
    rw [this]; simp; omega

/-- An array in a block and a Boolean in a slot are handed back. -/
theorem result_arr {fn : Func} {p u : Tmp} {ty e : TypeId} {k : Nat} (h : fn.results = #[.cell p ty, .tmp u]) {P : Program} (hu : P.underlying ty = some (.array k e)) {l : List Int} (hi : (P.info? ty).map (·.size) = some (ints l).toArray.size) {tmps : Array Value} {w : World} {b : Nat} {T : TypeId} (hp : tmps.getD p undef = .pointer (some ⟨b, 0, none⟩)) (hr : IntRow w b T l) {x : Value} (hx : tmps.getD u undef = x) :
    (results fn tmps).run P w = .ok (.tuple #[.agg (ints l).toArray, x]) w := by
  rw [results_cell_tmp h, hp, hx]
  simp [asAddr, run_loadVar_row w b T ty (ints l).toArray (0, 0) _ hr hu rfl hi]
theorem IntRow.put {w : World} {b : Nat} {T : TypeId} {l : List Int} (h : IntRow w b T l) (l' : List Int) : IntRow (w.setRow b (ints l').toArray) b T l' := setRow_heap w b _ _ T (0, 0) h
theorem pieces_count {l : List UInt8} {o : Option (List Nat)} (h : piecesO l = o) : (o.getD []).length ≤ l.length + 1 := by
  cases o with
  | none => simp
  | some a =>
    rcases (pieces_facts h).2 with ⟨e, _⟩ | ⟨_, e⟩
    · subst e; simp
    · show a.length ≤ _; omega
theorem casts_no8 : casts no8 = zer := rfl
theorem row_of_heap {w w' : World} {base : Nat} {e : TypeId} {size n : Nat} {v : Value} {xs : List Value} (h : w.ownsRow base e size v n xs) (hk : ∀ k, base ≤ k → w'.heap[k]? = w.heap[k]?) : w'.ownsRow base e size v n xs := by
  refine ⟨h.1, ?_⟩
  rcases h.2 with h | ⟨g, cap, cur, h1, h2, h3, h4⟩
  · exact Or.inl h
  · exact Or.inr ⟨g, cap, cur, h1, h2, by rw [hk g h2]; exact h3, h4⟩
theorem zer_length : zer.length = 8 := rfl
/-- Pieces laid into eight noughts from both ends. -/
theorem laid_both (a b : List Int) (h : a.length + b.length ≤ 8) (o : Nat) (ho : b.length = 0 ∧ o = 0 ∨ b.length ≠ 0 ∧ o = 8 - b.length) :
    (zer.take 0 ++ a ++ zer.drop (0 + a.length)).take o ++ b ++ (zer.take 0 ++ a ++ zer.drop (0 + a.length)).drop (o + b.length) = a ++ List.replicate (8 - a.length - b.length) 0 ++ b := by
  have e : zer.take 0 ++ a ++ zer.drop (0 + a.length) = a ++ List.replicate (8 - a.length) 0 := by
    unfold zer
    rw [List.take_zero, List.nil_append, Nat.zero_add, List.drop_replicate]
  rw [e]
  rcases ho with ⟨h0, rfl⟩ | ⟨h0, rfl⟩
  · obtain rfl : b = [] := List.eq_nil_of_length_eq_zero h0
    simp
  · have e2 : (a ++ List.replicate (8 - a.length) 0).take (8 - b.length) = a ++ List.replicate (8 - a.length - b.length) 0 := by
      rw [List.take_append, List.take_of_length_le (l := a) (by omega), List.take_replicate]
      congr 2; omega
    have e3 : (a ++ List.replicate (8 - a.length) 0).drop (8 - b.length + b.length) = [] := List.drop_eq_nil_of_le (by simp; omega)
    rw [e2, e3, List.append_nil]
theorem casts_zero (n : Nat) : casts (List.replicate n 0) = List.replicate n 0 := by simp [casts]
theorem ints_one (l : List Int) : (ints l).toArray.all (·.oneCell') = true := by
  simp [ints, Value.oneCell']
theorem own_slice {w : World} {base : Nat} {e : TypeId} {size n : Nat} {v : Value} {xs : List Value} (h : w.ownsRow base e size v n xs) : ∃ a c, v = .slice a n c := by
  rcases h.2 with ⟨rfl, rfl⟩ | ⟨g, c, cur, rfl, _⟩
  · exact ⟨_, _, rfl⟩
  · exact ⟨_, _, rfl⟩
set_option maxHeartbeats 2000000 in
set_option maxRecDepth 100000 in
theorem six_Parse_any (s : ByteArray) (hs : s.size ≤ 1000000) (w : World) (hG : Good w) :
    Calls Tryd.prog 12 #[.string s] w fun e w' => e = .returned (.tuple #[.agg (ints (casts (parseSix s.data.toList).1)).toArray, .bool (parseSix s.data.toList).2]) ∧ Below w.heap.size w w' := by
  obtain ⟨m, hm⟩ := hG.max
  obtain ⟨x, y, g, hc⟩ : ∃ x y g, Hid (cut s.data.toList [58, 58] = (x, y, g)) := ⟨_, _, _, rfl⟩
  have hcut := fun wx (h : Good wx) => Tryd.strings_Cut s ⟨#[58, 58]⟩ h.max.choose wx (by omega) h.max.choose_spec
  rw [show (⟨#[58, 58]⟩ : ByteArray).data.toList = [58, 58] from rfl, hc.out] at hcut
  have hle := cut_le hc.out
  rw [← size_list] at hle
  have hpb := Lib.hid (parse_by hc.out)
  obtain ⟨W0, hW0⟩ : ∃ W0, W0 = (w.alloc (.cells (ints zer).toArray 22)).alloc (.cells (ints zer).toArray 22) := ⟨_, rfl⟩
  have hr1 : IntRow W0 w.heap.size 22 zer := by rw [hW0]; exact (IntRow.new w _ zer).alloc _
  have hr2 : IntRow W0 (w.heap.size + 1) 22 zer := by rw [hW0]; have := IntRow.new (w.alloc (.cells (ints zer).toArray 22)) 22 zer; rwa [World.size_alloc] at this
  have hb0 : Below w.heap.size w W0 := by rw [hW0]; exact ((Below.refl _ _).alloc (Nat.le_refl _) _).alloc (by simp) _
  have hG0 : Good W0 := hG.below hb0
  go_enter Tryd.func12, Tryd.ntmps12
  go_wp2_with fail
  rw [show (w.alloc (.cells #[.int .i64 0, .int .i64 0, .int .i64 0, .int .i64 0, .int .i64 0, .int .i64 0, .int .i64 0, .int .i64 0] 22)).alloc (.cells #[.int .i64 0, .int .i64 0, .int .i64 0, .int .i64 0, .int .i64 0, .int .i64 0, .int .i64 0, .int .i64 0] 22) = W0 from hW0.symm]
  clear hW0
  refine (hcut W0 hG0).mono ?_
  rintro e W1 ⟨rfl, nd, hW1⟩
  have hb1 : Below w.heap.size w W1 := by rw [hW1]; exact below_on hb0 hb0.size ⟨rfl, rfl, rfl, Nat.le_refl _, fun _ _ => rfl⟩
  have hG1 : Good W1 := by rw [hW1]; exact hG0.drewN nd
  have hr1 : IntRow W1 w.heap.size 22 zer := by rw [hW1]; exact hr1
  have hr2 : IntRow W1 (w.heap.size + 1) 22 zer := by rw [hW1]; exact hr2
  clear hW1 hb0 hG0 hcut
  have hs1 := six_split ⟨x.toArray⟩ (by rw [size_list, mk_toList]; omega) W1 hG1
  rw [mk_toList] at hs1
  obtain ⟨oa, hoa⟩ : ∃ oa, Hid (piecesO x = oa) := ⟨_, rfl⟩
  obtain ⟨ob, hob⟩ : ∃ ob, Hid (piecesO y = ob) := ⟨_, rfl⟩
  rw [hoa.out] at hs1
  go_wp2_with fail
  refine hs1.mono ?_
  rintro e W2 ⟨v1, rfl, hv1, hb12⟩
  have hb2 := below_on hb1 hb1.size hb12
  have hG2 := hG1.below hb12
  have hb2lt : w.heap.size + 1 < W2.heap.size := Nat.lt_of_lt_of_le hr2.lt hb12.size
  have hr1 := hr1.below hb12 hr1.lt
  have hr2 := hr2.below hb12 hr2.lt
  have hs2 := six_split ⟨y.toArray⟩ (by rw [size_list, mk_toList]; omega) W2 hG2
  rw [mk_toList, hob.out] at hs2
  go_wp2_with fail
  refine hs2.mono ?_
  rintro e W3 ⟨v2, rfl, hv2, hb23⟩
  have hb3 := below_on hb2 hb2.size hb23
  have hr1 := hr1.below hb23 hr1.lt
  have hr2 := hr2.below hb23 hr2.lt
  have hv1 : IntOwn W3 W1.heap.size v1 (casts (oa.getD [])) := row_below hv1 hb23
  have hsz1 := hb1.size
  have hsz2 := hb2.size
  have hv1 : W3.ownsRow W1.heap.size 3 1 v1 (oa.getD []).length (ints (casts (oa.getD []))) := by rw [← casts_length]; exact hv1
  have hv2 : W3.ownsRow W2.heap.size 3 1 v2 (ob.getD []).length (ints (casts (ob.getD []))) := by rw [← casts_length]; exact hv2
  have hla := pieces_count hoa.out
  have hlb := pieces_count hob.out
  obtain ⟨na, hna⟩ : ∃ na, na = (oa.getD []).length := ⟨_, rfl⟩
  obtain ⟨nb, hnb⟩ : ∃ nb, nb = (ob.getD []).length := ⟨_, rfl⟩
  rw [← hna] at hv1 hla
  rw [← hnb] at hv2 hlb
  obtain ⟨a1, c1, rfl⟩ := own_slice hv1
  obtain ⟨a2, c2, rfl⟩ := own_slice hv2
  have HA := Lib.hid hna
  have HB := Lib.hid hnb
  clear hna hnb
  clear hs1 hs2
  have hsz8 : (Tryd.prog.info? 22).map (·.size) = some (ints zer).toArray.size := by kernel_rfl
  cases oa with
  | none =>
    have hp : Hid (parseSix s.data.toList = (no8, false)) := by show _ = _; rw [hpb.out, hoa.out]
    go_wp2_with (refine wpList_store_row rfl 22 _ _ rfl w.heap.size (ints zer).toArray (by rfl) (by rfl) 22 (ints zer).toArray hr1 hsz8 rfl (ints_one _) ?_)
    refine bodyPost_ret (result_arr rfl Tryd.underlying22 hsz8 rfl (hr1.put zer) rfl) rfl ⟨?_, below_setRow hb3 (Nat.le_refl _) _⟩
    rw [hp.out, casts_no8]
    rfl
  | some a =>
    cases ob with
    | none =>
      have hp : Hid (parseSix s.data.toList = (no8, false)) := by show _ = _; rw [hpb.out, hoa.out, hob.out]
      go_wp2_with (refine wpList_store_row rfl 22 _ _ rfl w.heap.size (ints zer).toArray (by rfl) (by rfl) 22 (ints zer).toArray hr1 hsz8 rfl (ints_one _) ?_)
      refine bodyPost_ret (result_arr rfl Tryd.underlying22 hsz8 rfl (hr1.put zer) rfl) rfl ⟨?_, below_setRow hb3 (Nat.le_refl _) _⟩
      rw [hp.out, casts_no8]
      rfl
    | some b =>
      have ha : na = a.length := HA.out
      have hb : nb = b.length := HB.out
      by_cases hok : (g = true ∧ a.length + b.length ≤ 7) ∨ (g = false ∧ a.length + b.length = 8)
      · have hp : Hid (parseSix s.data.toList = (a ++ List.replicate (8 - a.length - b.length) 0 ++ b, true)) := by show _ = _; rw [hpb.out, hoa.out, hob.out]; exact if_pos hok
        have hok2 : (g = true ∧ na + nb ≤ 7) ∨ (g = false ∧ na + nb ≤ 8 ∧ 8 ≤ na + nb) := by
          rw [ha, hb]
          rcases hok with ⟨h1, h2⟩ | ⟨h1, h2⟩
          · exact Or.inl ⟨h1, h2⟩
          · exact Or.inr ⟨h1, by omega, by omega⟩
        have hab : na + nb ≤ 8 := by rcases hok2 with ⟨_, h⟩ | ⟨_, h, _⟩ <;> omega
        have hsa := run_sliceAt_all (P := Tryd.prog) Tryd.underlying22 (by kernel_rfl) (w.heap.size + 1)
        obtain ⟨o, d, hsl2, hod⟩ : ∃ o d : Nat, (∀ w', (Instr.sliceAt 22 (.pointer (some ⟨w.heap.size + 1, 0, none⟩)) (some (.int .i64 (8 - (nb : Int)))) none none).run Tryd.prog w' = .ok (.slice (some ⟨w.heap.size + 1, o, none⟩) d d) w') ∧ (nb = 0 ∧ o = 0 ∧ d = 0 ∨ nb ≠ 0 ∧ o = 8 - nb ∧ d = nb) := by
          by_cases h : nb = 0
          · exact ⟨0, 0, fun w' => by rw [h]; exact run_sliceAt_end (P := Tryd.prog) Tryd.underlying22 (by kernel_rfl) _ w', Or.inl ⟨h, rfl, rfl⟩⟩
          · refine ⟨8 - nb, nb, fun w' => ?_, Or.inr ⟨h, rfl, rfl⟩⟩
            have := run_sliceAt_from (P := Tryd.prog) Tryd.underlying22 (by kernel_rfl) (by kernel_rfl) (w.heap.size + 1) (8 - nb) (by omega) w'
            rw [show ((8 - nb : Nat) : Int) = 8 - (nb : Int) by omega, show 8 - (8 - nb) = nb by omega] at this
            exact this
        obtain ⟨W4, hcp1, C1⟩ := copy_own (P := Tryd.prog) (dT := 52) (sT := 52) (ty := 3) (dLen := 8) (dCap := 8) (o := 0) Tryd.underlying52 (by kernel_rfl) hr2 hv1 (by omega) (by rw [zer_length]; omega)
        have hb4 := C1.below _ _ hb3 (by omega)
        have hsz12 := hb12.size
        have hlt2 := hr2.lt
        have hv24 : W4.ownsRow W2.heap.size 3 1 (.slice a2 nb c2) nb (ints (casts b)) := row_of_heap hv2 fun k hk => C1.rest k (by have := hb2lt; omega)
        obtain ⟨W5, hcp2, C2⟩ := copy_own (P := Tryd.prog) (dT := 52) (sT := 52) (ty := 3) (dLen := d) (dCap := d) (o := o) Tryd.underlying52 (by kernel_rfl) C1.row hv24 (by omega) (by simp [zer, casts]; omega)
        have hb5 := C2.below _ _ hb4 (by omega)
        have hr15 : IntRow W5 w.heap.size 22 zer := by
          unfold IntRow
          rw [C2.rest _ (by omega), C1.rest _ (by omega)]; exact hr1
        obtain ⟨L, hL⟩ : ∃ L, L = casts (a ++ List.replicate (8 - a.length - b.length) 0 ++ b) := ⟨_, rfl⟩
        have hcl := laid_both (casts a) (casts b) (by rw [casts_length, casts_length, ← ha, ← hb]; exact hab) o (by rw [casts_length, ← hb]; omega)
        rw [casts_length, casts_length, ← ha, ← hb] at hcl
        have hLL : (List.take o (zer.take 0 ++ casts a ++ zer.drop (0 + na)) ++ casts b ++ List.drop (o + nb) (zer.take 0 ++ casts a ++ zer.drop (0 + na))) = L := by
          rw [hcl, hL, casts_append, casts_append, casts_zero, ← ha, ← hb]
        have hC2 := C2
        rw [show (some a).getD [] = a from rfl, hLL] at C2
        have hL8 : L.length = 8 := by rw [hL, casts_length]; simp; omega
        have hszL : (Tryd.prog.info? 22).map (·.size) = some (ints L).toArray.size := by rw [List.size_toArray, ints_length, hL8]; kernel_rfl
        have hcL := Lib.hid hL
        clear ha hb hok hL hLL hcl hC2 C1
        rcases hok2 with ⟨rfl, h7⟩ | ⟨rfl, h7, h8⟩
        · have hx8 : ¬ ((8 : Int) ≤ (na : Int) + nb) := by omega
          go_wp2_with (first
            | (refine wpList_load_row rfl 22 _ rfl _ rfl 22 _ (0, 0) _ C2.row Tryd.underlying22 rfl hszL ?_)
            | (refine wpList_store_row rfl 22 _ _ rfl w.heap.size (ints L).toArray (by rfl) (by rfl) 22 (ints zer).toArray hr15 hszL (by rw [List.size_toArray, ints_length, List.size_toArray, ints_length, hL8]; rfl) (ints_one _) ?_))
          refine bodyPost_ret (result_arr rfl Tryd.underlying22 hszL rfl (hr15.put L) rfl) rfl ⟨?_, below_setRow hb5 (Nat.le_refl _) _⟩
          rw [hp.out, hcL.out]
          rfl
        · have hx8 : ((na : Int) + nb != 8) = false := by simp; omega
          go_wp2_with (first
            | (refine wpList_load_row rfl 22 _ rfl _ rfl 22 _ (0, 0) _ C2.row Tryd.underlying22 rfl hszL ?_)
            | (refine wpList_store_row rfl 22 _ _ rfl w.heap.size (ints L).toArray (by rfl) (by rfl) 22 (ints zer).toArray hr15 hszL (by rw [List.size_toArray, ints_length, List.size_toArray, ints_length, hL8]; rfl) (ints_one _) ?_))
          refine bodyPost_ret (result_arr rfl Tryd.underlying22 hszL rfl (hr15.put L) rfl) rfl ⟨?_, below_setRow hb5 (Nat.le_refl _) _⟩
          rw [hp.out, hcL.out]
          rfl
      · have hp : Hid (parseSix s.data.toList = (no8, false)) := by show _ = _; rw [hpb.out, hoa.out, hob.out]; exact if_neg hok
        have hno : (g = true ∧ 8 ≤ na + nb) ∨ (g = false ∧ (na + nb < 8 ∨ 8 < na + nb)) := by
          rw [ha, hb]
          cases g
          · right; refine ⟨rfl, ?_⟩; simp at hok; omega
          · left; refine ⟨rfl, ?_⟩; simp at hok; omega
        clear ha hb hok
        rcases hno with ⟨rfl, h7⟩ | ⟨rfl, h7 | h7⟩
        · have hx8 : (8 : Int) ≤ (na : Int) + nb := by omega
          go_wp2_with (refine wpList_store_row rfl 22 _ _ rfl w.heap.size (ints zer).toArray (by rfl) (by rfl) 22 (ints zer).toArray hr1 hsz8 rfl (ints_one _) ?_)
          refine bodyPost_ret (result_arr rfl Tryd.underlying22 hsz8 rfl (hr1.put zer) rfl) rfl ⟨?_, below_setRow hb3 (Nat.le_refl _) _⟩
          rw [hp.out, casts_no8]
          rfl
        · have hx8 : ((na : Int) + nb != 8) = true := by simp; omega
          go_wp2_with (refine wpList_store_row rfl 22 _ _ rfl w.heap.size (ints zer).toArray (by rfl) (by rfl) 22 (ints zer).toArray hr1 hsz8 rfl (ints_one _) ?_)
          refine bodyPost_ret (result_arr rfl Tryd.underlying22 hsz8 rfl (hr1.put zer) rfl) rfl ⟨?_, below_setRow hb3 (Nat.le_refl _) _⟩
          rw [hp.out, casts_no8]
          rfl
        · have hx8 : ((na : Int) + nb != 8) = true := by simp; omega
          go_wp2_with (refine wpList_store_row rfl 22 _ _ rfl w.heap.size (ints zer).toArray (by rfl) (by rfl) 22 (ints zer).toArray hr1 hsz8 rfl (ints_one _) ?_)
          refine bodyPost_ret (result_arr rfl Tryd.underlying22 hsz8 rfl (hr1.put zer) rfl) rfl ⟨?_, below_setRow hb3 (Nat.le_refl _) _⟩
          rw [hp.out, casts_no8]
          rfl

end Go.Proofs.YtcpjonglfnakpaaDoor
