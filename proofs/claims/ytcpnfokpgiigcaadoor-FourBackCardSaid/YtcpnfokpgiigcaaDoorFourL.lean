/- Four parts of a number: what is parsed is what is shown. Plain lemmas. -/
import Derived.Test.YtcpnfokpgiigcaaDoorRef5
namespace Go.Proofs.YtcpnfokpgiigcaaDoor
open Go.RowKit Go.Proofs.YtcpnfokpgiigcaaDoorW.PrintWords

theorem dot_free (l : List UInt8) (h : l.all isDig = true) : (46 : UInt8) ∉ l := by
  intro hm
  have := List.all_eq_true.1 h 46 hm
  exact absurd this (by decide)
theorem parts_free (n : Nat) : ∀ p ∈ fourParts n, (46 : UInt8) ∉ p := by
  intro p hp
  simp only [fourParts, List.mem_cons, List.not_mem_nil, or_false] at hp
  rcases hp with rfl | rfl | rfl | rfl <;> exact dot_free _ (digs_dig _)
theorem split_show (n : Nat) : splitOn 46 (showFour n) = fourParts n := splitOn_of_join 46 _ (by simp [fourParts]) (parts_free n)
theorem part_digs (k : Nat) (h : k ≤ 255) : partB (digs k) = true ∧ partK (digs k) = k := by
  have e := readD_digs k 255 (by omega)
  have e2 : partK (digs k) = k := by unfold partK; rw [e]; rfl
  refine ⟨?_, e2⟩
  unfold partB; rw [e2, e]; simp
theorem part_of (p : List UInt8) (h : partB p = true) : p = digs (partK p) ∧ partK p ≤ 255 := by
  unfold partB at h
  rw [Bool.and_eq_true] at h
  exact ⟨(beq_iff_eq.1 h.2).symm, partK_le p⟩
theorem fold_parts (n : Nat) (h : n ≤ 4294967295) : foldParts 0 (fourParts n) = some n := by
  obtain ⟨a1, a2⟩ := part_digs (n / 16777216) (by omega)
  obtain ⟨b1, b2⟩ := part_digs (n / 65536 % 256) (by omega)
  obtain ⟨c1, c2⟩ := part_digs (n / 256 % 256) (by omega)
  obtain ⟨d1, d2⟩ := part_digs (n % 256) (by omega)
  unfold fourParts
  rw [foldParts, if_pos a1, foldParts, if_pos b1, foldParts, if_pos c1, foldParts, if_pos d1, foldParts, a2, b2, c2, d2]
  congr 1; omega
/-- What is shown is parsed. -/
theorem parse_show (n : Nat) (h : n ≤ 4294967295) : parseFour (showFour n) = ((n : Int), true) := by
  unfold parseFour
  rw [split_show, if_pos (by rfl), fold_parts n h]; rfl
/-- What is parsed is what is shown. -/
theorem parse_cases (l : List UInt8) : parseFour l = (0, false) ∨ ∃ n : Nat, n ≤ 4294967295 ∧ parseFour l = ((n : Int), true) ∧ l = showFour n := by
  by_cases h4 : (splitOn 46 l).length = 4
  · obtain ⟨p, q, r, t, e⟩ : ∃ p q r t, splitOn 46 l = [p, q, r, t] := by
      match splitOn 46 l, h4 with
      | [p, q, r, t], _ => exact ⟨p, q, r, t, rfl⟩
    have hpf : parseFour l = pairOf (foldParts 0 [p, q, r, t]) := by unfold parseFour; rw [if_pos h4, e]
    rw [hpf]
    by_cases h1 : partB p = true
    · by_cases h2 : partB q = true
      · by_cases h3 : partB r = true
        · by_cases h5 : partB t = true
          · right
            obtain ⟨a1, a2⟩ := part_of p h1
            obtain ⟨b1, b2⟩ := part_of q h2
            obtain ⟨c1, c2⟩ := part_of r h3
            obtain ⟨d1, d2⟩ := part_of t h5
            refine ⟨(((0 * 256 + partK p) * 256 + partK q) * 256 + partK r) * 256 + partK t, by omega, ?_, ?_⟩
            · rw [foldParts, if_pos h1, foldParts, if_pos h2, foldParts, if_pos h3, foldParts, if_pos h5, foldParts]; rfl
            · rw [← splitOn_join 46 l, e]
              unfold showFour fourParts
              have e1 : ((((0 * 256 + partK p) * 256 + partK q) * 256 + partK r) * 256 + partK t) / 16777216 = partK p := by omega
              have e2 : ((((0 * 256 + partK p) * 256 + partK q) * 256 + partK r) * 256 + partK t) / 65536 % 256 = partK q := by omega
              have e3 : ((((0 * 256 + partK p) * 256 + partK q) * 256 + partK r) * 256 + partK t) / 256 % 256 = partK r := by omega
              have e4 : ((((0 * 256 + partK p) * 256 + partK q) * 256 + partK r) * 256 + partK t) % 256 = partK t := by omega
              rw [e1, e2, e3, e4, ← a1, ← b1, ← c1, ← d1]
          · left; rw [foldParts, if_pos h1, foldParts, if_pos h2, foldParts, if_pos h3, foldParts, if_neg h5]; rfl
        · left; rw [foldParts, if_pos h1, foldParts, if_pos h2, foldParts, if_neg h3]; rfl
      · left; rw [foldParts, if_pos h1, foldParts, if_neg h2]; rfl
    · left; rw [foldParts, if_neg h1]; rfl
  · left; unfold parseFour; rw [if_neg h4]
theorem show_inj {m n : Nat} (hm : m ≤ 4294967295) (hn : n ≤ 4294967295) (h : showFour m = showFour n) : m = n := by
  have := parse_show m hm
  rw [h, parse_show n hn] at this
  injection this with h1 _
  omega
/-- The last part of what is shown. -/
theorem behind_show (n : Nat) : behind 46 (showFour n) = digs (n % 256) := by
  have : showFour n = (digs (n / 16777216) ++ 46 :: (digs (n / 65536 % 256) ++ 46 :: digs (n / 256 % 256))) ++ 46 :: digs (n % 256) := by simp [showFour, fourParts, List.intercalate]
  rw [this, behind_app (dot_free _ (digs_dig _))]
theorem looks_show (n : Nat) : looksB (showFour n) = true := by unfold looksB; rw [behind_show]; exact digs_plain _
theorem showFour_ne (n : Nat) : showFour n ≠ [] := by
  intro h
  have := split_show n
  rw [h, splitOn_nil] at this
  unfold fourParts at this
  injection this with _ h2
  cases h2
theorem showFour_min (n : Nat) : 7 ≤ (showFour n).length := by
  have h1 := List.length_pos_iff.2 (digs_ne (n / 16777216))
  have h2 := List.length_pos_iff.2 (digs_ne (n / 65536 % 256))
  have h3 := List.length_pos_iff.2 (digs_ne (n / 256 % 256))
  have h4 := List.length_pos_iff.2 (digs_ne (n % 256))
  unfold showFour fourParts
  simp only [List.intercalate, List.intersperse_cons_cons, List.intersperse_singleton, List.flatten_cons, List.flatten_nil, List.length_append, List.length_cons, List.length_nil]
  omega
theorem digs3 (n : Nat) (h : n ≤ 255) : (digs n).length ≤ 3 := by
  have := revDigs_len 2 n (by omega)
  unfold digs; rw [List.length_reverse]; exact this
theorem showFour_max (n : Nat) (h : n ≤ 4294967295) : (showFour n).length ≤ 15 := by
  have h1 := digs3 (n / 16777216) (by omega)
  have h2 := digs3 (n / 65536 % 256) (by omega)
  have h3 := digs3 (n / 256 % 256) (by omega)
  have h4 := digs3 (n % 256) (by omega)
  unfold showFour fourParts
  simp only [List.intercalate, List.intersperse_cons_cons, List.intersperse_singleton, List.flatten_cons, List.flatten_nil, List.length_append, List.length_cons, List.length_nil]
  omega

/-! The two references of layers 2 and 5, in the form that the print takes. -/
theorem rShow5_no (n : Int) (h : n < 0 ∨ 4294967295 < n) (w : World) :
    Calls Tryd.prog 20 #[.int .i64 n] w fun e w' => e = .returned (.string ⟨#[]⟩) ∧ Below w.heap.size w w' := by
  by_cases h0 : n < 0
  · have hlt : decide (n < 0) = true := by simpa using h0
    go_enter Tryd.func20, Tryd.ntmps20
    go_wp2
    go_ret
    exact ⟨rfl, Below.refl _ _⟩
  · have hlt : decide (n < 0) = false := by simp; omega
    have hgt : decide (4294967295 < n) = true := by simp; omega
    go_enter Tryd.func20, Tryd.ntmps20
    go_wp2
    go_ret
    exact ⟨rfl, Below.refl _ _⟩
def postmarkref05_Show.f (a0 : Int) : Option ByteArray := some ⟨(showF a0).toArray⟩
theorem postmarkref05_Show.calls (a0 : Int) (r : ByteArray) (w : World) (hG : Good w) (h : postmarkref05_Show.f a0 = some r) :
    Calls Tryd.prog 20 #[.int .i64 a0] w fun e w' => e = .returned (.string r) ∧ Below w.heap.size w w' := by
  obtain rfl := Option.some.inj h
  unfold showF
  by_cases hb : 0 ≤ a0 ∧ a0 ≤ 4294967295
  · rw [if_pos hb]; exact rShow5_yes a0 hb.1 hb.2 w hG
  · rw [if_neg hb]; exact rShow5_no a0 (by omega) w
def postmarkref02_Read.f (a0 : ByteArray) (a1 : Int) : Option (Int × Bool) := if a0.size ≤ 140737488351232 ∧ 0 ≤ a1 ∧ a1 ≤ 2147483647 then some (readD a0.data.toList a1) else none
theorem postmarkref02_Read.calls (a0 : ByteArray) (a1 : Int) (r1 : Int) (r2 : Bool) (w : World) (hG : Good w) (h : postmarkref02_Read.f a0 a1 = some (r1, r2)) :
    Calls Tryd.prog 51 #[.string a0, .int .i64 a1] w fun e w' => e = .returned (.tuple #[.int .i64 r1, .bool r2]) ∧ Below w.heap.size w w' := by
  unfold postmarkref02_Read.f at h
  split at h
  · rename_i hb
    have e := Option.some.inj h
    obtain ⟨m, rfl⟩ := Int.eq_ofNat_of_zero_le hb.2.1
    have := rRead_any a0 hb.1 m (by have := hb.2.2; omega) w hG
    have e1 : (readD a0.data.toList ((m : Nat) : Int)) = (r1, r2) := e
    rw [e1] at this
    exact this
  · cases h
def postmarkref02_Plain.f (a0 : ByteArray) : Option Bool := if a0.size ≤ 140737488351232 then some (plainB a0.data.toList) else none
theorem postmarkref02_Plain.calls (a0 : ByteArray) (r : Bool) (w : World) (hG : Good w) (h : postmarkref02_Plain.f a0 = some r) :
    Calls Tryd.prog 38 #[.string a0] w fun e w' => e = .returned (.bool r) ∧ Drawn0 w w' := by
  unfold postmarkref02_Plain.f at h
  split at h
  · rename_i hb
    obtain rfl := Option.some.inj h
    exact rPlain_any a0 hb w hG
  · cases h

end Go.Proofs.YtcpnfokpgiigcaaDoor
