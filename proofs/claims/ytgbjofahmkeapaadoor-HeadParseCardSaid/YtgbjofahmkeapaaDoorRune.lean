/- strings.IndexAny and ContainsAny at the bytes 0, 10, 13, for any text. -/
import Derived.Test.YtgbjofahmkeapaaDoorNameP
import Derived.Test.YtgbjofahmkeapaaDoorShelf
import Derived.Test.YtgbjofahmkeapaaDoorGood
import Derived.Laws.RangeAny
import Derived.Laws.RangeString
import Derived.WalkMore
import Derived.BigRegion
import Derived.Deep.RegionHeld3
namespace Go.Proofs.YtgbjofahmkeapaaDoor
open Go.RowKit

section
open Go.Lib
set_option maxRecDepth 100000 in
theorem decodeN_facts (n b0 b1 b2 b3 : Nat) (h : 128 ≤ b0) (hn : 1 ≤ n) (h256 : b0 < 256) :
    128 ≤ (decodeN n b0 b1 b2 b3).1 ∧ (decodeN n b0 b1 b2 b3).1 ≤ 1114111 ∧ ¬ (55296 ≤ (decodeN n b0 b1 b2 b3).1 ∧ (decodeN n b0 b1 b2 b3).1 < 57344) ∧ 1 ≤ (decodeN n b0 b1 b2 b3).2 ∧ (decodeN n b0 b1 b2 b3).2 ≤ n ∧ (decodeN n b0 b1 b2 b3).2 ≤ 4 ∧
      (1 < (decodeN n b0 b1 b2 b3).2 → 128 ≤ b1) ∧ (2 < (decodeN n b0 b1 b2 b3).2 → 128 ≤ b2) ∧ (3 < (decodeN n b0 b1 b2 b3).2 → 128 ≤ b3) := by
  unfold decodeN
  repeat' split
  all_goals (refine ⟨?_, ?_, ?_, ?_, ?_, ?_, ?_, ?_, ?_⟩ <;> (simp only; omega))
/-- What is decoded at a byte from 128 on. -/
theorem decode_high (s : ByteArray) (pos : Nat) (hp : pos < s.size) (h : 128 ≤ (s.data.toList.getD pos 0).toNat) :
    128 ≤ (Utf8.decode s pos).1 ∧ (Utf8.decode s pos).1 ≤ 1114111 ∧ ¬ (55296 ≤ (Utf8.decode s pos).1 ∧ (Utf8.decode s pos).1 < 57344) ∧ 1 ≤ (Utf8.decode s pos).2 ∧ pos + (Utf8.decode s pos).2 ≤ s.size ∧
      ∀ k, k < (Utf8.decode s pos).2 → 128 ≤ (s.data.toList.getD (pos + k) 0).toNat := by
  have hl : s.size = s.data.toList.length := size_list s
  have hf := decodeN_facts (s.data.toList.length - pos) _ (s.data.toList.getD (pos + 1) 0).toNat (s.data.toList.getD (pos + 2) 0).toNat (s.data.toList.getD (pos + 3) 0).toNat h (by omega) (s.data.toList.getD pos 0).toNat_lt
  rw [← decode_N] at hf
  obtain ⟨h1, h2, h3, h4, h5, h6, h7, h8, h9⟩ := hf
  refine ⟨h1, h2, h3, h4, by omega, fun k hk => ?_⟩
  rcases (by omega : k = 0 ∨ k = 1 ∨ k = 2 ∨ k = 3) with rfl | rfl | rfl | rfl
  · exact h
  · exact h7 (by omega)
  · exact h8 (by omega)
  · exact h9 (by omega)
end
theorem enc_facts {r : Int} (h0 : 128 ≤ r) (h1 : r ≤ 1114111) (h2 : ¬ (55296 ≤ r ∧ r < 57344)) :
    ∃ (n : Nat) (x : UInt8) (h : n + 1 < (Utf8.encode r).size), (Utf8.encode r).size = n + 2 ∧ n ≤ 2 ∧ (Utf8.encode r)[n + 1]'h = x ∧ 128 ≤ x.toNat := by
  have hv : Utf8.valid r = true := by unfold Utf8.valid; simp; omega
  obtain ⟨c, rfl⟩ := Int.eq_ofNat_of_zero_le (show 0 ≤ r by omega)
  have hb : ∀ m, m < 64 → (UInt8.ofNat (128 + m)).toNat = 128 + m := fun m hm => by rw [UInt8.toNat_ofNat']; omega
  have e : Utf8.encode (c : Int) = if c < 128 then ⟨#[UInt8.ofNat c]⟩ else if c < 2048 then ⟨#[UInt8.ofNat (192 + c / 64), UInt8.ofNat (128 + c % 64)]⟩ else if c < 65536 then ⟨#[UInt8.ofNat (224 + c / 4096), UInt8.ofNat (128 + c / 64 % 64), UInt8.ofNat (128 + c % 64)]⟩
      else ⟨#[UInt8.ofNat (240 + c / 262144), UInt8.ofNat (128 + c / 4096 % 64), UInt8.ofNat (128 + c / 64 % 64), UInt8.ofNat (128 + c % 64)]⟩ := by
    unfold Utf8.encode
    simp only [hv, if_true, Int.toNat_natCast]
  rw [e, if_neg (by omega)]
  by_cases h3 : c < 2048
  · rw [if_pos h3]
    exact ⟨0, UInt8.ofNat (128 + c % 64), (by show 1 < 2; decide), rfl, by decide, rfl, by rw [hb _ (by omega)]; omega⟩
  · rw [if_neg h3]
    by_cases h4 : c < 65536
    · rw [if_pos h4]
      exact ⟨1, UInt8.ofNat (128 + c % 64), (by show 2 < 3; decide), rfl, by decide, rfl, by rw [hb _ (by omega)]; omega⟩
    · rw [if_neg h4]
      exact ⟨2, UInt8.ofNat (128 + c % 64), (by show 3 < 4; decide), rfl, by decide, rfl, by rw [hb _ (by omega)]; omega⟩

theorem run_convert_rune {P : Program} (w : World) (src dst : TypeId) (hs : P.underlying src = some (.int .i32)) (hd : P.underlying dst = some .string) (r : Int) : (convert src dst (.int .i32 r)).run P w = .ok (.string (Utf8.encode r)) w := by
  simp [convert, run_underlying hs, run_underlying hd, Conv.intToString]

theorem indexByte_high (x : UInt8) (hx : 128 ≤ x.toNat) : ∀ l : List UInt8, (l.all fun b => decide (b.toNat < 128)) = true → Lib.indexByte l x = -1
  | [], _ => rfl
  | b :: l, h => by
    rw [List.all_cons, Bool.and_eq_true] at h
    have hb := of_decide_eq_true h.1
    have hne : (b == x) = false := beq_eq_false_iff_ne.2 (fun e => by rw [e] at hb; omega)
    rw [Lib.indexByte, hne, indexByte_high x hx l h.2]; rfl
theorem ib_high (x : UInt8) (hx : 128 ≤ x.toNat) (t : ByteArray) (w : World) (h : (t.data.toList.all fun b => decide (b.toNat < 128)) = true) :
    Calls Tryd.prog 82 #[.string t, .int .u8 x.toNat] w fun e w' => e = .returned (.int .i64 (-1)) ∧ w' = w := by
  have := Tryd.strings_IndexByte t (x.toNat : Int) w
  rw [Int.toNat_natCast] at this
  have e : x.toNat.toUInt8 = x := by simp
  rw [e, indexByte_high x hx _ h] at this
  exact this

set_option maxHeartbeats 4000000 in
set_option maxRecDepth 100000 in
theorem ixr_high (r : Int) (h0 : 128 ≤ r) (h1 : r ≤ 1114111) (h2 : ¬ (55296 ≤ r ∧ r < 57344)) (w : World) :
    Calls Tryd.prog 72 #[.string ⟨#[0, 10, 13]⟩, .int .i32 r] w fun e w' => e = .returned (.int .i64 (-1)) ∧ Below w.heap.size w w' := by
  have q1 : decide ((0 : Int) ≤ r) = true := decide_eq_true (by omega)
  have q2 : decide (r < 128) = false := decide_eq_false (by omega)
  by_cases hr : r = 65533
  · subst hr
    have hsz : (⟨#[0, 10, 13]⟩ : ByteArray).size = 3 := rfl
    obtain ⟨C, hC⟩ : ∃ C : ByteArray, C = ⟨#[0, 10, 13]⟩ := ⟨_, rfl⟩
    have hCs : C.size = 3 := by rw [hC]; rfl
    have hb2 : (2 : Int) ≤ (C.size : Int) := by omega
    have hb3 : (3 : Int) ≤ (C.size : Int) := by omega
    have hb4 : 2 ≤ C.size := by omega
    have hb5 : 3 ≤ C.size := by omega
    have hw2 : IntKind.i64.wrap (1 + 1) = 2 := by rfl
    have hw3 : IntKind.i64.wrap (2 + 1) = 3 := by rfl
    have hw4 : IntKind.i64.wrap 2 = 2 := by rfl
    have hw5 : IntKind.i64.wrap 3 = 3 := by rfl
    have hb6 : (0 : Int) ≤ 2 := by decide
    have hb7 : (0 : Int) ≤ 3 := by decide
    have hCb : ∀ (i : Nat) (h : i < C.size), (C[i]'h).toNat < 128 := by
      subst hC
      intro i h
      have : i < 3 := h
      rcases (by omega : i = 0 ∨ i = 1 ∨ i = 2) with rfl | rfl | rfl <;> (revert h; decide)
    rw [← hC]
    clear hC hsz hCs
    go_enter Tryd.func72, Tryd.ntmps72
    go_wp2
    go_loopw [5, 6] (fun _ _ wr => ∃ i : Nat, i ≤ C.size ∧ wr = w.iter C i) (fun _ _ wr => C.size - wr.iterPos w.heap.size)
    case atStart => exact ⟨0, by omega, rfl⟩
    case round =>
      obtain ⟨i, hi, rfl⟩ := hrel
      by_cases hlt : i < C.size
      · obtain ⟨x, hx⟩ : ∃ x : UInt8, C[i]'hlt = x := ⟨_, rfl⟩
        have hb := hCb i hlt
        have hnx := fun ty => run_next_ascii (P := Tryd.prog) w C i ty hlt hb
        rw [hx] at hnx hb
        have q3 : ((x.toNat : Int) == 65533) = false := beq_eq_false_iff_ne.2 (by omega)
        clear hx hCb
        go_wp2
        exact ⟨⟨i + 1, by omega, rfl⟩, by simp; omega⟩
      · obtain rfl : i = C.size := by omega
        have hnx := run_next_end (P := Tryd.prog) w C C.size
        clear hCb
        go_wp2
        go_ret
        exact ⟨rfl, (Below.refl _ _).alloc (Nat.le_refl _) _⟩
  · have q3 : (r == 65533) = false := beq_eq_false_iff_ne.2 hr
    have hV := fun w => Tryd.utf8_ValidRune r w
    have hv : Lib.validRune r = true := by unfold Lib.validRune; simp; omega
    rw [hv] at hV
    obtain ⟨n, x, hn, hs, hn2, hx, hx128⟩ := enc_facts h0 h1 h2
    have hcv := fun w => run_convert_rune (P := Tryd.prog) w 21 9 Tryd.underlying21 Tryd.underlying9 r
    generalize Utf8.encode r = S at *
    have hI := ib_high x hx128
    obtain ⟨C, hC⟩ : ∃ C : ByteArray, C = ⟨#[0, 10, 13]⟩ := ⟨_, rfl⟩
    have hCs : C.size = 3 := by rw [hC]; rfl
    have hb2 : (2 : Int) ≤ (C.size : Int) := by omega
    have hb3 : (3 : Int) ≤ (C.size : Int) := by omega
    have hb4 : 2 ≤ C.size := by omega
    have hb5 : 3 ≤ C.size := by omega
    have hw2 : IntKind.i64.wrap (1 + 1) = 2 := by rfl
    have hw3 : IntKind.i64.wrap (2 + 1) = 3 := by rfl
    have hw4 : IntKind.i64.wrap 2 = 2 := by rfl
    have hw5 : IntKind.i64.wrap 3 = 3 := by rfl
    have hb6 : (0 : Int) ≤ 2 := by decide
    have hb7 : (0 : Int) ≤ 3 := by decide
    have hC1 : C[1]'(by omega) = 10 := by subst hC; rfl
    have hC2 : C[2]'(by omega) = 13 := by subst hC; rfl
    have q10 : ((((10 : UInt8).toNat : Nat) : Int) != (x.toNat : Int)) = true := bne_iff_ne.2 (by show ((10 : Nat) : Int) ≠ _; omega)
    have q13 : ((((13 : UInt8).toNat : Nat) : Int) != (x.toNat : Int)) = true := bne_iff_ne.2 (by show ((13 : Nat) : Int) ≠ _; omega)
    have hCe : ∀ k, (C.extract k 3).data.toList.all (fun b => decide (b.toNat < 128)) = true := fun k => by
      subst hC
      rcases (by omega : k = 0 ∨ k = 1 ∨ k = 2 ∨ 3 ≤ k) with rfl | rfl | rfl | h
      · rfl
      · rfl
      · rfl
      · simp [ByteArray.data_extract, Array.extract_empty_of_stop_le_start h]
    rw [← hC]
    clear hC
    rcases (by omega : n = 0 ∨ n = 1 ∨ n = 2) with rfl | rfl | rfl
    · have hn1 : 1 < S.size := by omega
      have hx1 : S[1]'hn1 = x := hx
      have hs1 : S.size = 2 := hs
      clear hs hx
      go_enter Tryd.func72, Tryd.ntmps72
      go_wp2_with (first | (go_at_call 83; refine (hV _).mono ?_; rintro e w1 ⟨rfl, rfl⟩))
      go_step3
      go_wp2
      go_loopw [9, 10] (fun i f wr => i = .int .i64 1 ∧ f = .int .i64 0 ∧ wr = w1) (fun _ _ _ => 0)
      case atStart => exact ⟨rfl, rfl, rfl⟩
      case round =>
        obtain ⟨rfl, rfl, rfl⟩ := hrel
        go_wp2
        go_step3
        go_wp2
        go_big_region
        go_wp2
        have hIb : ∀ w' (t : ByteArray), Below wr.heap.size wr w' → (t.data.toList.all fun b => decide (b.toNat < 128)) = true → Calls Tryd.prog 82 #[.string t, .int .u8 x.toNat] w' fun e w'' => e = .returned (.int .i64 (-1)) ∧ Below wr.heap.size wr w'' := fun w' t h ht => (hI t w' ht).mono fun e w2 ⟨h1, h2⟩ => ⟨h1, by rw [h2]; exact h⟩
        have hmk : ∀ w', Below wr.heap.size wr w' → (fun w' => Below wr.heap.size wr w' ∧ True) w' := fun w' h => ⟨h, trivial⟩
        have hkd : Below wr.heap.size wr wr.drew := ⟨rfl, rfl, rfl, Nat.le_refl _, fun _ _ => rfl⟩
        have hkd2 : Below wr.heap.size wr wr.drew.drew := ⟨rfl, rfl, rfl, Nat.le_refl _, fun _ _ => rfl⟩
        go_region_held3 (fun w' => Below wr.heap.size wr w' ∧ True) (exact hmk _ (by assumption)) (first | (go_simp; go_at_call 82; refine (hIb _ _ ?_ ?_).mono ?_; (exact And.left (by assumption)); (first | exact hCe _ | rfl | simp); rintro e wm ⟨rfl, hmm⟩))
        all_goals
          go_wp2
          go_simp
          show Exit.noGoto _ Exit.ret _ _
          go_simp
          go_ret
          exact ⟨rfl, And.left (by assumption)⟩
    · have hn1 : 2 < S.size := by omega
      have hx1 : S[2]'hn1 = x := hx
      have hs1 : S.size = 3 := hs
      clear hs hx
      go_enter Tryd.func72, Tryd.ntmps72
      go_wp2_with (first | (go_at_call 83; refine (hV _).mono ?_; rintro e w1 ⟨rfl, rfl⟩))
      go_step3
      go_wp2
      go_loopw [9, 10] (fun i f wr => i = .int .i64 2 ∧ f = .int .i64 0 ∧ wr = w1) (fun _ _ _ => 0)
      case atStart => exact ⟨rfl, rfl, rfl⟩
      case round =>
        obtain ⟨rfl, rfl, rfl⟩ := hrel
        go_wp2
        go_step3
        go_wp2
        go_big_region
        go_wp2
        have hIb : ∀ w' (t : ByteArray), Below wr.heap.size wr w' → (t.data.toList.all fun b => decide (b.toNat < 128)) = true → Calls Tryd.prog 82 #[.string t, .int .u8 x.toNat] w' fun e w'' => e = .returned (.int .i64 (-1)) ∧ Below wr.heap.size wr w'' := fun w' t h ht => (hI t w' ht).mono fun e w2 ⟨h1, h2⟩ => ⟨h1, by rw [h2]; exact h⟩
        have hmk : ∀ w', Below wr.heap.size wr w' → (fun w' => Below wr.heap.size wr w' ∧ True) w' := fun w' h => ⟨h, trivial⟩
        have hkd : Below wr.heap.size wr wr.drew := ⟨rfl, rfl, rfl, Nat.le_refl _, fun _ _ => rfl⟩
        have hkd2 : Below wr.heap.size wr wr.drew.drew := ⟨rfl, rfl, rfl, Nat.le_refl _, fun _ _ => rfl⟩
        go_region_held3 (fun w' => Below wr.heap.size wr w' ∧ True) (exact hmk _ (by assumption)) (first | (go_simp; go_at_call 82; refine (hIb _ _ ?_ ?_).mono ?_; (exact And.left (by assumption)); (first | exact hCe _ | rfl | simp); rintro e wm ⟨rfl, hmm⟩))
        all_goals
          go_wp2
          go_simp
          show Exit.noGoto _ Exit.ret _ _
          go_simp
          go_ret
          exact ⟨rfl, And.left (by assumption)⟩
    · have hn1 : 3 < S.size := by omega
      have hx1 : S[3]'hn1 = x := hx
      have hs1 : S.size = 4 := hs
      clear hs hx
      go_enter Tryd.func72, Tryd.ntmps72
      go_wp2_with (first | (go_at_call 83; refine (hV _).mono ?_; rintro e w1 ⟨rfl, rfl⟩))
      go_step3
      go_wp2
      go_loopw [9, 10] (fun i f wr => i = .int .i64 3 ∧ f = .int .i64 0 ∧ wr = w1) (fun _ _ _ => 0)
      case atStart => exact ⟨rfl, rfl, rfl⟩
      case round =>
        obtain ⟨rfl, rfl, rfl⟩ := hrel
        go_wp2
        go_simp
        go_ret
        exact ⟨rfl, Below.refl _ _⟩

end Go.Proofs.YtgbjofahmkeapaaDoor
