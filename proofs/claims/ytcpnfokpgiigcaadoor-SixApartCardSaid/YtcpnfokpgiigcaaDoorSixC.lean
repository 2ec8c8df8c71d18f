/- Capital letters in pieces; texts of four digits; how long a text of pieces is. No program in sight. -/
import Derived.Test.YtcpnfokpgiigcaaDoorSixM
namespace Go.Proofs.YtcpnfokpgiigcaaDoor

/-- A small letter up to f as a capital one. -/
def upC (c : UInt8) : UInt8 := if 97 ≤ c ∧ c ≤ 102 then c - 32 else c
theorem upC_hex (c : UInt8) : hexD (upC c) = hexD c := by
  unfold upC
  split
  · next h =>
    have h1 : 97 ≤ c.toNat := UInt8.le_iff_toNat_le.1 h.1
    have h2 : c.toNat ≤ 102 := UInt8.le_iff_toNat_le.1 h.2
    have e : (c - 32).toNat = c.toNat - 32 := by
      rw [UInt8.toNat_sub_of_le _ _ (UInt8.le_iff_toNat_le.2 (by show 32 ≤ c.toNat; omega))]; rfl
    unfold hexD
    rw [e, if_neg (by omega), if_neg (by omega), if_pos (by omega), if_neg (by omega), if_pos (by omega)]
    omega
  · rfl
theorem upC_isHex (c : UInt8) : isHex (upC c) = isHex c := by unfold isHex; rw [upC_hex]
theorem upC_colon (c : UInt8) : upC c = 58 ↔ c = 58 := by
  unfold upC
  split
  · next h =>
    have h1 : 97 ≤ c.toNat := UInt8.le_iff_toNat_le.1 h.1
    have h2 : c.toNat ≤ 102 := UInt8.le_iff_toNat_le.1 h.2
    have e : (c - 32).toNat = c.toNat - 32 := by
      rw [UInt8.toNat_sub_of_le _ _ (UInt8.le_iff_toNat_le.2 (by show 32 ≤ c.toNat; omega))]; rfl
    constructor
    · intro h'; have := congrArg UInt8.toNat h'; rw [e] at this; change c.toNat - 32 = 58 at this; omega
    · intro h'; rw [h'] at h1; change 97 ≤ 58 at h1; omega
  · exact Iff.rfl
theorem upC_split (l : List UInt8) : splitOn 58 (l.map upC) = (splitOn 58 l).map (List.map upC) := by
  induction l with
  | nil => rfl
  | cons b l ih =>
    obtain ⟨p, ps, e⟩ := splitOn_ne 58 l
    rw [List.map_cons]
    by_cases hb : b = 58
    · rw [(upC_colon b).2 hb, hb, splitOn_hit, splitOn_hit, ih]; rfl
    · rw [splitOn_miss hb e, splitOn_miss (fun h => hb ((upC_colon b).1 h)) (p := p.map upC) (ps := ps.map (List.map upC)) (by rw [ih, e]; rfl)]; rfl
theorem upC_val (l : List UInt8) : ∀ n, valH n (l.map upC) = valH n l := by
  induction l with
  | nil => intro n; rfl
  | cons c l ih => intro n; rw [List.map_cons, valH_cons, valH_cons, upC_hex, ih]
theorem upC_piece (l : List UInt8) : pieceB (l.map upC) = pieceB l := by
  unfold pieceB
  rw [List.isEmpty_map, List.length_map, List.all_map]
  congr 2
  funext c; exact upC_isHex c
theorem upC_pieces (l : List UInt8) : piecesO (l.map upC) = piecesO l := by
  unfold piecesO
  by_cases h : l = []
  · subst h; rfl
  · rw [if_neg h, if_neg (by simpa using h), upC_split, List.all_map, List.map_map]
    have e1 : (splitOn 58 l).all (pieceB ∘ List.map upC) = (splitOn 58 l).all pieceB := by congr 1; funext x; exact upC_piece x
    have e2 : (splitOn 58 l).map (valH 0 ∘ List.map upC) = (splitOn 58 l).map (valH 0) := by congr 1; funext x; exact upC_val x 0
    rw [e1, e2]
theorem upC_gap : ∀ l : List UInt8, gapL (l.map upC) = (gapL l).map fun x => (x.1.map upC, x.2.map upC)
  | [] => rfl
  | [_] => rfl
  | b :: c :: l => by
    have ih := upC_gap (c :: l)
    by_cases h : b = 58 ∧ c = 58
    · obtain ⟨rfl, rfl⟩ := h
      rw [gapL_hit]; exact gapL_hit _
    · rw [gapL_miss h, List.map_cons, List.map_cons, gapL_miss (fun e => h ⟨(upC_colon b).1 e.1, (upC_colon c).1 e.2⟩)]
      rw [List.map_cons] at ih
      rw [ih]
      cases gapL (c :: l) <;> rfl
theorem upC_parse (l : List UInt8) : parseSix (l.map upC) = parseSix l := by
  unfold parseSix
  rw [upC_gap, upC_pieces]
  cases gapL l with
  | none => rfl
  | some x => simp only [Option.map_some, upC_pieces]

/-- A number of 16 bits by four digits. -/
def hex4 (n : Nat) : List UInt8 := [hexC (n / 4096), hexC (n / 256 % 16), hexC (n / 16 % 16), hexC (n % 16)]
theorem hex4_piece {n : Nat} (h : n ≤ 65535) : pieceB (hex4 n) = true ∧ (58 : UInt8) ∉ hex4 n := by
  have h1 := hexC_val (n / 4096) (by omega)
  have h2 := hexC_val (n / 256 % 16) (by omega)
  have h3 := hexC_val (n / 16 % 16) (by omega)
  have h4 := hexC_val (n % 16) (by omega)
  unfold hex4
  refine ⟨?_, ?_⟩
  · simp [pieceB, h1.2.2, h2.2.2, h3.2.2, h4.2.2]
  · simp [Ne.symm h1.2.1, Ne.symm h2.2.1, Ne.symm h3.2.1, Ne.symm h4.2.1]
theorem hex4_val {n : Nat} (h : n ≤ 65535) : valH 0 (hex4 n) = n := by
  have h1 := hexC_val (n / 4096) (by omega)
  have h2 := hexC_val (n / 256 % 16) (by omega)
  have h3 := hexC_val (n / 16 % 16) (by omega)
  have h4 := hexC_val (n % 16) (by omega)
  unfold hex4
  simp only [valH_cons, h1.1, h2.1, h3.1, h4.1, Int.toNat_natCast]
  show 16 * (16 * (16 * (16 * 0 + n / 4096) + n / 256 % 16) + n / 16 % 16) + n % 16 = n
  omega
def fours (p : List Int) : List (List UInt8) := p.map fun n => hex4 n.toNat
theorem fours_piece {p : List Int} (h : ∀ n ∈ p, 0 ≤ n ∧ n ≤ 65535) : ∀ a ∈ fours p, pieceB a = true ∧ (58 : UInt8) ∉ a := by
  intro a ha
  obtain ⟨n, hn, rfl⟩ := List.mem_map.1 ha
  have := h n hn
  exact hex4_piece (by omega)
theorem fours_val {p : List Int} (h : ∀ n ∈ p, 0 ≤ n ∧ n ≤ 65535) : (fours p).map (valH 0) = p.map Int.toNat := by
  unfold fours
  rw [List.map_map]
  exact List.map_congr_left fun n hn => by have := h n hn; exact hex4_val (by omega)
theorem fours_long {p : List Int} (h8 : p.length = 8) (h : ∀ n ∈ p, 0 ≤ n ∧ n ≤ 65535) : parseSix (colons (fours p)) = (p.map Int.toNat, true) := by
  rw [parse_colons (fours_piece h) (by simp [fours, h8]), fours_val h]
theorem fours_short {p : List Int} (h8 : p.length = 8) (h : ∀ n ∈ p, 0 ≤ n ∧ n ≤ 65535) {a n : Nat} (hn : 1 ≤ n) (han : a + n ≤ 8) (h0 : ∀ j, a ≤ j → j < a + n → p[j]? = some 0) :
    parseSix (pref (fours p) a n 8) = (p.map Int.toNat, true) := by
  have hl : (fours p).length = 8 := by simp [fours, h8]
  have e := pref_end (t := fours p) (a := a) (n := n) (by omega)
  rw [hl, if_neg (by omega)] at e
  have e1 : (fours p).take a = fours (p.take a) := by simp [fours, List.map_take]
  have e2 : (fours p).drop (a + n) = fours (p.drop (a + n)) := by simp [fours, List.map_drop]
  have g1 : ∀ n ∈ p.take a, 0 ≤ n ∧ n ≤ 65535 := fun x hx => h x (List.mem_of_mem_take hx)
  have g2 : ∀ x ∈ p.drop (a + n), 0 ≤ x ∧ x ≤ 65535 := fun x hx => h x (List.mem_of_mem_drop hx)
  have l1 : (fours (p.take a)).length = a := by simp [fours, h8]; omega
  have l2 : (fours (p.drop (a + n))).length = 8 - (a + n) := by simp [fours, h8]
  rw [e, e1, e2, parse_gap (fours_piece g1) (fours_piece g2) (by omega), fours_val g1, fours_val g2, l1, l2]
  have e3 : 8 - a - (8 - (a + n)) = n := by omega
  rw [e3]
  conv => rhs; rw [three p a n (by omega) h0]
  simp
theorem fours_two {p : List Int} (h8 : p.length = 8) (h : ∀ n ∈ p, 0 ≤ n ∧ n ≤ 65535) : parseSix (58 :: 58 :: colons (fours p)) = (no8, false) :=
  parse_two _ _ (pieces_colons _ (fours_piece h)) (by simp [fours, h8])

theorem tot_le {p : List Int} (h : ∀ n ∈ p, 0 ≤ n ∧ n ≤ 65535) : tot (texts p) ≤ 4 * p.length := by
  induction p with
  | nil => exact Nat.le_refl _
  | cons n p ih =>
    have h1 := ih fun x hx => h x (List.mem_cons_of_mem _ hx)
    have h2 := h n List.mem_cons_self
    have h3 := (hexs_len n.toNat (by omega)).2
    show tot (hexs n.toNat :: texts p) ≤ _
    rw [tot_cons, List.length_cons]; omega
theorem show_39 {p : List Int} (h8 : p.length = 8) (h : mayB p = true) : (showSix p).length ≤ 39 := by
  have h1 := (show_len h8).1
  have h2 := tot_le (mayB_mem h)
  omega

end Go.Proofs.YtcpnfokpgiigcaaDoor
