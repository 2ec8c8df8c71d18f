/- The reference's Show of layer 5, and its Read of layer 2. Four parts of a number: what is parsed is what is shown. Plain lemmas. Hosts: plain functions; what the library's search for a rune comes to. No program in sight. What a domain's name is. -/
import Derived.Test.YtcpjonglfnakpaaDoorME
import Derived.Laws.Cover1
import Derived.Test.YtcpjonglfnakpaaDoorMA
import Derived.Shelf.GgClosure.StringsIndexFunc
import Derived.Lib.TrimUEq
import Derived.Test.YtcpjonglfnakpaaDoorMC
import Derived.Test.YtcpjonglfnakpaaDoorShelf
import Derived.Test.YtcpjonglfnakpaaDoorMB
namespace Go.Proofs.YtcpjonglfnakpaaDoor
open Go.RowKit Go.Proofs.YtcpjonglfnakpaaDoorW.PrintWords

def strLen : Value → Nat
  | .string s => s.size
  | _ => 0

end Go.Proofs.YtcpjonglfnakpaaDoor

namespace Go.Proofs.YtcpjonglfnakpaaDoor
open Go.RowKit Go.Proofs.YtcpjonglfnakpaaDoorW.PrintWords

theorem dot_free (l : List UInt8) (h : l.all isDig = true) : (46 : UInt8) ∉ l := by
  intro hm
  have := List.all_eq_true.1 h 46 hm
  exact absurd this (by decide)
theorem parts_free (n : Nat) : ∀ p ∈ fourParts n, (46 : UInt8) ∉ p := by
  intro p hp
  simp only [fourParts, List.mem_cons, List.not_mem_nil, or_false] at hp
  rcases hp with rfl | rfl | rfl | rfl <;> exact dot_free _ (digs_dig _)
theorem split_show (n : Nat) : splitOn 46 (showFour n) = fourParts n := splitOn_of_join 46 _ (by simp [fourParts]) (parts_free n)
theorem part_digs (k : Nat) (h : k ≤ 255) : partB (digs k) = true ∧ partK (digs k) = k := by
  have e := readD_digs k 255 (by omega)
  have e2 : partK (digs k) = k := by unfold partK; rw [e]; rfl
  refine ⟨?_, e2⟩
  unfold partB; rw [e2, e]; simp
theorem part_of (p : List UInt8) (h : partB p = true) : p = digs (partK p) ∧ partK p ≤ 255 := by
  unfold partB at h
  rw [Bool.and_eq_true] at h
  exact ⟨(beq_iff_eq.1 h.2).symm, partK_le p⟩
theorem fold_parts (n : Nat) (h : n ≤ 4294967295) : foldParts 0 (fourParts n) = some n := by
  obtain ⟨a1, a2⟩ := part_digs (n / 16777216) (by omega)
  obtain ⟨b1, b2⟩ := part_digs (n / 65536 % 256) (by omega)
  obtain ⟨c1, c2⟩ := part_digs (n / 256 % 256) (by omega)
  obtain ⟨d1, d2⟩ := part_digs (n % 256) (by omega)
  unfold fourParts
  rw [foldParts, if_pos a1, foldParts, if_pos b1, foldParts, if_pos c1, foldParts, if_pos d1, foldParts, a2, b2, c2, d2]
  congr 1; omega
/-- What is shown is parsed. -/
theorem parse_show (n : Nat) (h : n ≤ 4294967295) : parseFour (showFour n) = ((n : Int), true) := by
  unfold parseFour
  rw [split_show, if_pos (by rfl), fold_parts n h]; rfl
/-- What is parsed is what is shown. -/
theorem parse_cases (l : List UInt8) : parseFour l = (0, false) ∨ ∃ n : Nat, n ≤ 4294967295 ∧ parseFour l = ((n : Int), true) ∧ l = showFour n := by
  by_cases h4 : (splitOn 46 l).length = 4
  · obtain ⟨p, q, r, t, e⟩ : ∃ p q r t, splitOn 46 l = [p, q, r, t] := by
      match splitOn 46 l, h4 with
      | [p, q, r, t], _ => exact ⟨p, q, r, t, rfl⟩
    have hpf : parseFour l = pairOf (foldParts 0 [p, q, r, t]) := by unfold parseFour; rw [if_pos h4, e]
    rw [hpf]
    by_cases h1 : partB p = true
    · by_cases h2 : partB q = true
      · by_cases h3 : partB r = true
        · by_cases h5 : partB t = true
          · right
            obtain ⟨a1, a2⟩ := part_of p h1
            obtain ⟨b1, b2⟩ := part_of q h2
            obtain ⟨c1, c2⟩ := part_of r h3
            obtain ⟨d1, d2⟩ := part_of t h5
            refine ⟨(((0 * 256 + partK p) * 256 + partK q) * 256 + partK r) * 256 + partK t, by omega, ?_, ?_⟩
            · rw [foldParts, if_pos h1, foldParts, if_pos h2, foldParts, if_pos h3, foldParts, if_pos h5, foldParts]; rfl
            · rw [← splitOn_join 46 l, e]
              unfold showFour fourParts
              have e1 : ((((0 * 256 + partK p) * 256 + partK q) * 256 + partK r) * 256 + partK t) / 16777216 = partK p := by omega
              have e2 : ((((0 * 256 + partK p) * 256 + partK q) * 256 + partK r) * 256 + partK t) / 65536 % 256 = partK q := by omega
              have e3 : ((((0 * 256 + partK p) * 256 + partK q) * 256 + partK r) * 256 + partK t) / 256 % 256 = partK r := by omega
              have e4 : ((((0 * 256 + partK p) * 256 + partK q) * 256 + partK r) * 256 + partK t) % 256 = partK t := by omega
              rw [e1, e2, e3, e4, ← a1, ← b1, ← c1, ← d1]
          · left; rw [foldParts, if_pos h1, foldParts, if_pos h2, foldParts, if_pos h3, foldParts, if_neg h5]; rfl
        · left; rw [foldParts, if_pos h1, foldParts, if_pos h2, foldParts, if_neg h3]; rfl
      · left; rw [foldParts, if_pos h1, foldParts, if_neg h2]; rfl
    · left; rw [foldParts, if_neg h1]; rfl
  · left; unfold parseFour; rw [if_neg h4]
theorem show_inj {m n : Nat} (hm : m ≤ 4294967295) (hn : n ≤ 4294967295) (h : showFour m = showFour n) : m = n := by
  have := parse_show m hm
  rw [h, parse_show n hn] at this
  injection this with h1 _
  omega
/-- The last part of what is shown. -/
theorem behind_show (n : Nat) : behind 46 (showFour n) = digs (n % 256) := by
  have : showFour n = (digs (n / 16777216) ++ 46 :: (digs (n / 65536 % 256) ++ 46 :: digs (n / 256 % 256))) ++ 46 :: digs (n % 256) := by simp [showFour, fourParts, List.intercalate]
  rw [this, behind_app (dot_free _ (digs_dig _))]
theorem looks_show (n : Nat) : looksB (showFour n) = true := by unfold looksB; rw [behind_show]; exact digs_plain _
theorem showFour_ne (n : Nat) : showFour n ≠ [] := by
  intro h
  have := split_show n
  rw [h, splitOn_nil] at this
  unfold fourParts at this
  injection this with _ h2
  cases h2
theorem showFour_min (n : Nat) : 7 ≤ (showFour n).length := by
  have h1 := List.length_pos_iff.2 (digs_ne (n / 16777216))
  have h2 := List.length_pos_iff.2 (digs_ne (n / 65536 % 256))
  have h3 := List.length_pos_iff.2 (digs_ne (n / 256 % 256))
  have h4 := List.length_pos_iff.2 (digs_ne (n % 256))
  unfold showFour fourParts
  simp only [List.intercalate, List.intersperse_cons_cons, List.intersperse_singleton, List.flatten_cons, List.flatten_nil, List.length_append, List.length_cons, List.length_nil]
  omega
theorem digs3 (n : Nat) (h : n ≤ 255) : (digs n).length ≤ 3 := by
  have := revDigs_len 2 n (by omega)
  unfold digs; rw [List.length_reverse]; exact this
theorem showFour_max (n : Nat) (h : n ≤ 4294967295) : (showFour n).length ≤ 15 := by
  have h1 := digs3 (n / 16777216) (by omega)
  have h2 := digs3 (n / 65536 % 256) (by omega)
  have h3 := digs3 (n / 256 % 256) (by omega)
  have h4 := digs3 (n % 256) (by omega)
  unfold showFour fourParts
  simp only [List.intercalate, List.intersperse_cons_cons, List.intersperse_singleton, List.flatten_cons, List.flatten_nil, List.length_append, List.length_cons, List.length_nil]
  omega

/-! The two references of layers 2 and 5, in the form that the print takes. -/
end Go.Proofs.YtcpjonglfnakpaaDoor

namespace Go.Proofs.YtcpjonglfnakpaaDoor

def okN (n : Nat) : Bool := decide (n = 46 ∨ n = 45 ∨ n = 95 ∨ (48 ≤ n ∧ n ≤ 57) ∨ (97 ≤ n ∧ n ≤ 122))
def okC (c : UInt8) : Bool := okN c.toNat
def oddR (r : Nat) : Bool := !okN r

section
open Go.Lib
set_option maxRecDepth 100000 in
theorem decodeN_high (n b0 b1 b2 b3 : Nat) (h : 128 ≤ b0) : 128 ≤ (decodeN n b0 b1 b2 b3).1 := by
  unfold decodeN
  repeat' split
  all_goals (simp only; omega)
theorem ok_small {n : Nat} (h : okN n = true) : n < 128 := by
  have := of_decide_eq_true h
  omega
theorem odd_from (s : ByteArray) : ∀ (f pos : Nat), s.size ≤ pos + f → decide (0 ≤ idxFuncFrom oddR true s f pos) = !((s.data.toList.drop pos).all okC)
  | 0, pos, h => by
    have : s.data.toList.drop pos = [] := List.drop_eq_nil_of_le (by rw [← size_eq]; omega)
    rw [this]; rfl
  | f + 1, pos, h => by
    by_cases hp : pos < s.size
    · have hp' : pos < s.data.toList.length := by rw [← size_eq]; exact hp
      have hg : s.data.toList.getD pos 0 = s.data.toList[pos] := by rw [List.getD_eq_getElem?_getD, List.getElem?_eq_getElem hp']; rfl
      rw [List.drop_eq_getElem_cons hp', List.all_cons, ← hg]
      unfold idxFuncFrom
      rw [if_pos hp]
      cases hs : okC (s.data.toList.getD pos 0) with
      | true =>
        have hlt := ok_small hs
        have e : oddR (s.data.toList.getD pos 0).toNat = false := by unfold oddR; rw [show okN _ = true from hs]; rfl
        rw [decode_N, decodeN_ascii _ _ _ _ _ hlt, if_neg (by rw [e]; decide), odd_from s f (pos + 1) (by omega), Bool.true_and]
      | false =>
        have e : oddR (Utf8.decode s pos).1 = true := by
          unfold oddR
          rw [Bool.not_eq_true', Bool.eq_false_iff]
          intro hk
          by_cases h1 : (s.data.toList.getD pos 0).toNat < 128
          · rw [decode_N, decodeN_ascii _ _ _ _ _ h1] at hk
            rw [show okC _ = okN (s.data.toList.getD pos 0).toNat from rfl, hk] at hs
            exact Bool.noConfusion hs
          · have h2 := ok_small hk
            rw [decode_N] at h2
            have := decodeN_high (s.data.toList.length - pos) _ (s.data.toList.getD (pos + 1) 0).toNat (s.data.toList.getD (pos + 2) 0).toNat (s.data.toList.getD (pos + 3) 0).toNat (Nat.le_of_not_lt h1)
            omega
        rw [if_pos e, Bool.false_and]
        exact decide_eq_true (by omega)
    · have : s.data.toList.drop pos = [] := List.drop_eq_nil_of_le (by rw [← size_eq]; omega)
      rw [this, idxFuncFrom_end _ _ _ _ _ hp]; rfl
theorem odd_any (s : ByteArray) : decide (0 ≤ idxFunc oddR true s) = !(s.data.toList.all okC) := by
  have h := odd_from s s.size 0 (by omega)
  rwa [List.drop_zero] at h
end

end Go.Proofs.YtcpjonglfnakpaaDoor

namespace Go.Proofs.YtcpjonglfnakpaaDoor
open Go.RowKit Go.Shelf

def ddL (l : List UInt8) : Bool := Lib.contains (46 :: l ++ [46]) [46, 46]
def okHost (l : List UInt8) : Bool := !l.isEmpty && decide (l.length ≤ 100) && !looksB l && !ddL l && l.all okC

set_option maxHeartbeats 2000000 in
theorem fits_pred (w : World) : PredAt Tryd.prog 40 #[] encR oddR w := fun W r _ => by
  unfold FnGives oddR
  by_cases h0 : 128 ≤ r
  · have e : (!okN r) = true := by unfold okN; rw [decide_eq_false (by omega)]; rfl
    rw [e]
    have q : decide ((128 : Int) ≤ (r : Int)) = true := decide_eq_true (by omega)
    go_enter Tryd.func40, Tryd.ntmps40
    go_wp2
    go_ret
    exact ⟨rfl, 0, rfl⟩
  · have q : decide ((128 : Int) ≤ (r : Int)) = false := decide_eq_false (by omega)
    have hd := ascii_Digit r
    have hwr : IntKind.u8.wrap (r : Int) = r := by rw [IntKind.wrap_u8]; omega
    by_cases h46 : r = 46
    · have e : (!okN r) = false := by unfold okN; rw [decide_eq_true (by omega)]; rfl
      rw [e]
      have q46 : ((r : Int) != 46) = false := by rw [bne_eq_false_iff_eq]; omega
      go_enter Tryd.func40, Tryd.ntmps40
      go_wp2
      go_ret
      exact ⟨rfl, 0, rfl⟩
    · by_cases h45 : r = 45
      · have e : (!okN r) = false := by unfold okN; rw [decide_eq_true (by omega)]; rfl
        rw [e]
        have q46 : ((r : Int) != 46) = true := by rw [bne_iff_ne]; omega
        have q45 : ((r : Int) != 45) = false := by rw [bne_eq_false_iff_eq]; omega
        go_enter Tryd.func40, Tryd.ntmps40
        go_wp2
        go_ret
        exact ⟨rfl, 0, rfl⟩
      · by_cases h95 : r = 95
        · have e : (!okN r) = false := by unfold okN; rw [decide_eq_true (by omega)]; rfl
          rw [e]
          have q46 : ((r : Int) != 46) = true := by rw [bne_iff_ne]; omega
          have q45 : ((r : Int) != 45) = true := by rw [bne_iff_ne]; omega
          have q95 : ((r : Int) != 95) = false := by rw [bne_eq_false_iff_eq]; omega
          go_enter Tryd.func40, Tryd.ntmps40
          go_wp2
          go_ret
          exact ⟨rfl, 0, rfl⟩
        · by_cases hdg : 48 ≤ r ∧ r ≤ 57
          · have e : (!okN r) = false := by unfold okN; rw [decide_eq_true (by omega)]; rfl
            rw [e]
            have q46 : ((r : Int) != 46) = true := by rw [bne_iff_ne]; omega
            have q45 : ((r : Int) != 45) = true := by rw [bne_iff_ne]; omega
            have q95 : ((r : Int) != 95) = true := by rw [bne_iff_ne]; omega
            rw [decide_eq_true (by omega)] at hd
            go_enter Tryd.func40, Tryd.ntmps40
            go_wp2_with fail
            refine (hd _).mono ?_
            rintro e w1 ⟨rfl, rfl⟩
            go_wp2
            go_ret
            exact ⟨rfl, 0, rfl⟩
          · by_cases h97 : r < 97
            · have e : (!okN r) = true := by unfold okN; rw [decide_eq_false (by omega)]; rfl
              rw [e]
              have q46 : ((r : Int) != 46) = true := by rw [bne_iff_ne]; omega
              have q45 : ((r : Int) != 45) = true := by rw [bne_iff_ne]; omega
              have q95 : ((r : Int) != 95) = true := by rw [bne_iff_ne]; omega
              have p97 : decide ((r : Int) < 97) = true := decide_eq_true (by omega)
              rw [decide_eq_false (by omega)] at hd
              go_enter Tryd.func40, Tryd.ntmps40
              go_wp2_with fail
              refine (hd _).mono ?_
              rintro e w1 ⟨rfl, rfl⟩
              go_wp2
              go_ret
              exact ⟨rfl, 0, rfl⟩
            · by_cases h122 : 122 < r
              · have e : (!okN r) = true := by unfold okN; rw [decide_eq_false (by omega)]; rfl
                rw [e]
                have q46 : ((r : Int) != 46) = true := by rw [bne_iff_ne]; omega
                have q45 : ((r : Int) != 45) = true := by rw [bne_iff_ne]; omega
                have q95 : ((r : Int) != 95) = true := by rw [bne_iff_ne]; omega
                have p97 : decide ((r : Int) < 97) = false := decide_eq_false (by omega)
                have p122 : decide ((122 : Int) < (r : Int)) = true := decide_eq_true (by omega)
                rw [decide_eq_false (by omega)] at hd
                go_enter Tryd.func40, Tryd.ntmps40
                go_wp2_with fail
                refine (hd _).mono ?_
                rintro e w1 ⟨rfl, rfl⟩
                go_wp2
                go_ret
                exact ⟨rfl, 0, rfl⟩
              · have e : (!okN r) = false := by unfold okN; rw [decide_eq_true (by omega)]; rfl
                rw [e]
                have q46 : ((r : Int) != 46) = true := by rw [bne_iff_ne]; omega
                have q45 : ((r : Int) != 45) = true := by rw [bne_iff_ne]; omega
                have q95 : ((r : Int) != 95) = true := by rw [bne_iff_ne]; omega
                have p97 : decide ((r : Int) < 97) = false := decide_eq_false (by omega)
                have p122 : decide ((122 : Int) < (r : Int)) = false := decide_eq_false (by omega)
                rw [decide_eq_false (by omega)] at hd
                go_enter Tryd.func40, Tryd.ntmps40
                go_wp2_with fail
                refine (hd _).mono ?_
                rintro e w1 ⟨rfl, rfl⟩
                go_wp2
                go_ret
                exact ⟨rfl, 0, rfl⟩

theorem dd_bytes (s : ByteArray) : Lib.contains ((⟨#[46]⟩ : ByteArray) ++ s ++ ⟨#[46]⟩).data.toList (⟨#[46, 46]⟩ : ByteArray).data.toList = ddL s.data.toList := by
  unfold ddL
  simp [ByteArray.data_append]
set_option maxHeartbeats 2000000 in
set_option maxRecDepth 100000 in
theorem host_fits (s : ByteArray) (hs : s.size ≤ 1000000) (w : World) (hG : Good w) :
    Calls Tryd.prog 21 #[.string s] w fun e w' => e = .returned (.bool (okHost s.data.toList)) ∧ Below w.heap.size w w' := by
  have hlen : s.data.toList.length = s.size := (size_list s).symm
  have cL := four_Looks_any s (by omega) w hG
  have cC := fun (w1 : World) (hG : Good w1) => (show Calls Tryd.prog 39 #[.string ((⟨#[46]⟩ : ByteArray) ++ s ++ ⟨#[46]⟩), .string ⟨#[46, 46]⟩] w1 fun e w' => e = .returned (.bool (ddL s.data.toList)) ∧ w' = w1 from by
    obtain ⟨m, hm⟩ := hG.max
    rw [← dd_bytes]
    exact Tryd.strings_Contains _ _ m w1 (by simp [ByteArray.size_append]; show 1 + s.size + 1 < _; omega) hm)
  have cF := fun (w1 : World) => (show Calls Tryd.prog 42 #[.string s, .func (.func 40) #[] #[]] w1 fun e w' => e = .returned (.bool (!(s.data.toList.all okC))) ∧ Below w1.heap.size w1 w' from by
    rw [← odd_any]
    exact Tryd.strings_ContainsFunc 40 #[] (enters_of Tryd.func40 (by kernel_rfl) rfl) oddR s w1 (fits_pred w1))
  have hemp : s.toList.isEmpty = s.data.toList.isEmpty := by rw [ba_toList]
  unfold okHost
  rw [hlen]
  generalize looksB s.data.toList = L at *
  generalize ddL s.data.toList = D at *
  generalize s.data.toList.all okC = K at *
  generalize s.data.toList.isEmpty = E at *
  clear hlen
  cases E with
  | true =>
    go_enter Tryd.func21, Tryd.ntmps21
    go_wp2
    go_ret
    exact ⟨rfl, Below.refl _ _⟩
  | false =>
    by_cases h100 : s.size ≤ 100
    · have q : decide ((100 : Int) < (s.size : Int)) = false := decide_eq_false (by omega)
      rw [decide_eq_true h100]
      cases L with
      | true =>
        go_enter Tryd.func21, Tryd.ntmps21
        go_wp2_with fail
        refine cL.mono ?_
        rintro e w1 ⟨rfl, hd1⟩
        go_wp2
        go_ret
        exact ⟨rfl, hd1.below⟩
      | false =>
        cases D with
        | true =>
          go_enter Tryd.func21, Tryd.ntmps21
          go_wp2_with fail
          refine cL.mono ?_
          rintro e w1 ⟨rfl, hd1⟩
          go_wp2_with fail
          refine (cC _ (hG.below hd1.below)).mono ?_
          rintro e w2 ⟨rfl, rfl⟩
          go_wp2
          go_ret
          exact ⟨rfl, hd1.below⟩
        | false =>
          go_enter Tryd.func21, Tryd.ntmps21
          go_wp2_with fail
          refine cL.mono ?_
          rintro e w1 ⟨rfl, hd1⟩
          go_wp2_with fail
          refine (cC _ (hG.below hd1.below)).mono ?_
          rintro e w2 ⟨rfl, rfl⟩
          go_wp2_with fail
          refine (cF _).mono ?_
          rintro e w3 ⟨rfl, hb3⟩
          go_wp2
          go_ret
          exact ⟨by cases K <;> rfl, below_on hd1.below hd1.below.size hb3⟩
    · have q : decide ((100 : Int) < (s.size : Int)) = true := decide_eq_true (by omega)
      rw [decide_eq_false h100]
      go_enter Tryd.func21, Tryd.ntmps21
      go_wp2
      go_ret
      exact ⟨rfl, Below.refl _ _⟩

end Go.Proofs.YtcpjonglfnakpaaDoor
