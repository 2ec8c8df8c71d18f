/- The references of layer 5 by plain functions: they answer what four.Parse, four.Looks and four.Inner do. -/
import Derived.Test.YtcpnfokpgiigcaaDoorE
namespace Go.Proofs.YtcpnfokpgiigcaaDoor
open Go.RowKit Go.Proofs.YtcpnfokpgiigcaaDoorW.PrintWords Go.Proofs.YtcpnfokpgiigcaaDoor.E

theorem extract_list (s : ByteArray) (i j : Nat) : (s.extract i j).data.toList = (s.data.toList.take j).drop i := by
  rw [Lib.extract_data, List.drop_take]
def first46 (t : List UInt8) : List UInt8 := t.takeWhile (· != 46)
theorem first46_nil : first46 [] = [] := rfl
theorem first46_hit (t : List UInt8) : first46 (46 :: t) = [] := rfl
theorem first46_miss (b : UInt8) (t : List UInt8) (h : b ≠ 46) : first46 (b :: t) = b :: first46 t := by unfold first46; rw [List.takeWhile_cons_of_pos (by simpa using h)]
def rest46 : List UInt8 → List (List UInt8)
  | [] => []
  | b :: t => if b = 46 then splitOn 46 t else rest46 t
theorem split_first (t : List UInt8) : splitOn 46 t = first46 t :: rest46 t := by
  induction t with
  | nil => rfl
  | cons b t ih =>
    by_cases h : b = 46
    · subst h; rw [splitOn_hit, first46_hit, rest46, if_pos rfl]
    · rw [splitOn_miss h ih, first46_miss b t h, rest46, if_neg h]
/-- What is behind the first dot. -/
theorem rest_drop (t : List UInt8) : rest46 t = if (first46 t).length + 1 ≤ t.length then splitOn 46 (t.drop ((first46 t).length + 1)) else [] := by
  induction t with
  | nil => rfl
  | cons b t ih =>
    by_cases h : b = 46
    · subst h; rw [rest46, if_pos rfl, first46_hit]; simp
    · rw [rest46, if_neg h, ih, first46_miss b t h]
      simp
theorem first46_len (t : List UInt8) : (first46 t).length ≤ t.length := (List.takeWhile_sublist _).length_le
theorem first46_take (t : List UInt8) : t.take (first46 t).length = first46 t := by
  unfold first46
  exact (List.prefix_iff_eq_take.1 (List.takeWhile_prefix _)).symm

def partV (l : List UInt8) : Int := if (readD l 255).2 = true then (readD l 255).1 else -1
theorem byteAt_l0 (s : ByteArray) (hs : s.size ≤ 140737488351232) (i : Nat) (t : List UInt8) : ∀ (j : Nat), s.data.toList.drop j = t → i ≤ j → j ≤ s.size →
    Ev (fun k => postmarkref05_byteAt.l0 k s i j) (partV ((s.data.toList.take (j + (first46 t).length)).drop i), ((j + (first46 t).length : Nat) : Int)) := by
  have hread : ∀ e : Nat, e ≤ s.size → postmarkref02_Read.f (s.extract ((i : Nat) : Int).toNat ((e : Nat) : Int).toNat) 255 = some (readD ((s.data.toList.take e).drop i) 255) := by
    intro e he
    unfold postmarkref02_Read.f
    have hx : (s.extract ((i : Nat) : Int).toNat ((e : Nat) : Int).toNat).data.toList = (s.data.toList.take e).drop i := extract_list s i e
    rw [hx, if_pos]
    refine ⟨?_, by omega, by omega⟩
    rw [size_list, hx, List.length_drop, List.length_take, ← size_list]; omega
  induction t with
  | nil =>
    intro j h hij hj
    have hd := drop_done h
    have ej : j = s.size := by omega
    refine Ev.step (f := fun _ => some (partV ((s.data.toList.take j).drop i), ((j : Nat) : Int))) (fun k => ?_) (Ev.some _)
    simp only [postmarkref05_byteAt.l0]
    rw [if_neg (by omega), if_pos (by omega), if_pos (by omega), if_pos (by omega), hread j (by omega), Option.bind_some]
    unfold partV
    split <;> rfl
  | cons b t ih =>
    intro j h hij hj
    obtain ⟨h1, h2, h3⟩ := bt_cons h
    have hw := wrap64_succ h2 hs
    by_cases hb : b = 46
    · subst hb
      rw [first46_hit]
      refine Ev.step (f := fun _ => some (partV ((s.data.toList.take j).drop i), ((j : Nat) : Int))) (fun k => ?_) (Ev.some _)
      simp only [postmarkref05_byteAt.l0]
      rw [if_pos (by omega), if_pos (by omega), h1, if_pos (by rfl), if_pos (by omega), if_pos (by omega), if_pos (by omega), hread j (by omega), Option.bind_some]
      unfold partV
      split <;> rfl
    · have hb' : ¬ ((b.toNat : Int) = 46) := fun e => hb (UInt8.toNat_inj.1 (by have : (46 : UInt8).toNat = 46 := rfl; omega))
      have := ih (j + 1) h3 (by omega) (by omega)
      rw [first46_miss b t hb]
      have e : j + 1 + (first46 t).length = j + (b :: first46 t).length := by simp; omega
      rw [e] at this
      refine Ev.step (f := fun k => postmarkref05_byteAt.l0 k s i ((j + 1 : Nat) : Int)) (fun k => ?_) this
      simp only [postmarkref05_byteAt.l0]
      rw [if_pos (by omega), if_pos (by omega), h1, if_neg hb', hw]
theorem byteAt_f (s : ByteArray) (hs : s.size ≤ 140737488351232) (i : Nat) (hi : i ≤ s.size) :
    Ev (fun k => postmarkref05_byteAt.f k s i) (partV (first46 (s.data.toList.drop i)), ((i + (first46 (s.data.toList.drop i)).length : Nat) : Int)) := by
  have := byteAt_l0 s hs i _ i rfl (Nat.le_refl _) hi
  have e : (s.data.toList.take (i + (first46 (s.data.toList.drop i)).length)).drop i = first46 (s.data.toList.drop i) := by
    rw [List.drop_take, Nat.add_sub_cancel_left, first46_take]
  rw [e] at this
  exact this

def refFold : Nat → Nat → List (List UInt8) → Option Nat
  | 0, n, _ => some n
  | _ + 1, _, [] => none
  | c + 1, n, p :: ps => if (readD p 255).2 = true then refFold c (256 * n + (readD p 255).1.toNat) ps else none
def partsAt (s : ByteArray) (i : Nat) : List (List UInt8) := if i ≤ s.size then splitOn 46 (s.data.toList.drop i) else []
def finFour (s : ByteArray) : Option Nat → Int × Bool
  | some n => if showF (n : Int) = s.data.toList then ((n : Int), true) else (0, false)
  | none => (0, false)
theorem wrap_256 (n m : Nat) (hn : n < 16777216) (hm : m ≤ 255) : wrap64 (wrap64 (256 * (n : Int)) + (m : Int)) = ((256 * n + m : Nat) : Int) := by
  rw [wrap64_id (n := 256 * (n : Int)) (by omega) (by omega), wrap64_id (by omega) (by omega)]; omega
theorem wrap_at (i l : Nat) (h : i + l ≤ 140737488351232) : wrap64 (((i + l : Nat) : Int) + 1) = ((i + l + 1 : Nat) : Int) := by
  rw [wrap64_id (by omega) (by omega)]; omega
theorem finFour_some (s : ByteArray) (n : Nat) : finFour s (some n) = if showF (n : Int) = s.data.toList then ((n : Int), true) else (0, false) := rfl
def pw (d : Nat) : Nat := 256 ^ d
theorem pw_succ (d : Nat) : pw (d + 1) = pw d * 256 := Nat.pow_succ ..
theorem pw_le (d : Nat) (h : d ≤ 3) : pw d ≤ 16777216 := by
  obtain rfl | rfl | rfl | rfl : d = 0 ∨ d = 1 ∨ d = 2 ∨ d = 3 := by omega
  all_goals decide
theorem parse_l0 (s : ByteArray) (hs : s.size ≤ 140737488351232) : ∀ (c d i n : Nat), c + d = 4 → i ≤ s.size + 1 → n < pw d →
    Ev (fun k => postmarkref05_Parse.l0 k s n i (d : Int)) (finFour s (refFold c n (partsAt s i))) := by
  intro c
  induction c with
  | zero =>
    intro d i n hd hi hn
    refine Ev.step (f := fun _ => some (finFour s (some n))) (fun k => ?_) (Ev.some _)
    simp only [postmarkref05_Parse.l0]
    rw [if_neg (by omega), finFour_some]
    unfold postmarkref05_Show.f
    rw [Option.bind_some, ba_toList, ba_toList, mk_toList]
    by_cases hq : showF (n : Int) = s.data.toList
    · rw [if_pos hq, if_pos hq]
    · rw [if_neg hq, if_neg hq]
  | succ c ih =>
    intro d i n hd hi hn
    have hn3 : n < 16777216 := Nat.lt_of_lt_of_le hn (pw_le d (by omega))
    unfold partsAt
    by_cases hle : i ≤ s.size
    · rw [if_pos hle, split_first]
      have hb := byteAt_f s hs i hle
      refine Ev.step (f := fun k => (postmarkref05_byteAt.f k s i).bind fun r => if r.1 < 0 then some (0, false) else postmarkref05_Parse.l0 k s (wrap64 (wrap64 (256 * (n : Int)) + r.1)) (wrap64 (r.2 + 1)) (wrap64 ((d : Int) + 1))) (fun k => ?_) ?_
      · simp only [postmarkref05_Parse.l0]
        rw [if_pos (by omega), if_neg (by omega)]
      · refine Ev.bind hb ?_
        have hbd := readD_bd (first46 (s.data.toList.drop i))
        have hlen := first46_len (s.data.toList.drop i)
        rw [List.length_drop, ← size_list] at hlen
        have hp : partsAt s (i + (first46 (s.data.toList.drop i)).length + 1) = rest46 (s.data.toList.drop i) := by
          rw [rest_drop, partsAt, List.length_drop, ← size_list, List.drop_drop]
          by_cases hq : i + (first46 (s.data.toList.drop i)).length + 1 ≤ s.size
          · rw [if_pos hq, if_pos (by omega)]; rfl
          · rw [if_neg hq, if_neg (by omega)]
        unfold refFold
        rw [← hp]
        generalize first46 (s.data.toList.drop i) = F at *
        unfold partV
        obtain ⟨x, b, hx⟩ : ∃ x b, readD F 255 = (x, b) := ⟨_, _, rfl⟩
        rw [hx] at hbd ⊢
        obtain ⟨m, rfl⟩ := Int.eq_ofNat_of_zero_le hbd.1
        have hm : m ≤ 255 := by have := hbd.2; omega
        cases b with
        | true =>
          have hlt : 256 * n + m < pw (d + 1) := by
            rw [pw_succ]
            generalize pw d = P at hn
            omega
          have hnn : ¬ ((m : Int) < 0) := by omega
          have := ih (d + 1) (i + F.length + 1) (256 * n + m) (by omega) (by omega) hlt
          have e1 := wrap_256 n m hn3 hm
          have e2 := wrap_at i F.length (by omega)
          have e3 := wrap_at d 0 (by omega)
          refine Ev.congr (fun k => ?_) this
          simp only [if_true]
          rw [if_neg hnn, e1, e2]
          rw [Nat.add_zero] at e3
          rw [e3]
        | false =>
          refine Ev.congr (fun k => ?_) (Ev.some _)
          rfl
    · rw [if_neg hle]
      refine Ev.step (f := fun _ => some (0, false)) (fun k => ?_) (Ev.some _)
      simp only [postmarkref05_Parse.l0]
      rw [if_pos (by omega), if_pos (by omega)]
theorem refFold_lt : ∀ (c n : Nat) (ps : List (List UInt8)) (m : Nat), refFold c n ps = some m → m < (n + 1) * 256 ^ c
  | 0, n, _, m, h => by unfold refFold at h; injection h with h; omega
  | c + 1, n, [], m, h => by unfold refFold at h; cases h
  | c + 1, n, p :: ps, m, h => by
    unfold refFold at h
    split at h
    · have hb := readD_bd p
      have := refFold_lt c _ ps m h
      rw [Nat.pow_succ]
      refine Nat.lt_of_lt_of_le this ?_
      calc _ ≤ ((n + 1) * 256) * 256 ^ c := Nat.mul_le_mul_right _ (by omega)
        _ = _ := by rw [Nat.mul_assoc, Nat.mul_comm 256]
    · cases h
theorem refFold_parts (n : Nat) (h : n ≤ 4294967295) : refFold 4 0 (fourParts n) = some n := by
  have r1 := readD_digs (n / 16777216) 255 (by omega)
  have r2 := readD_digs (n / 65536 % 256) 255 (by omega)
  have r3 := readD_digs (n / 256 % 256) 255 (by omega)
  have r4 := readD_digs (n % 256) 255 (by omega)
  unfold fourParts
  rw [refFold, r1, if_pos rfl, refFold, r2, if_pos rfl, refFold, r3, if_pos rfl, refFold, r4, if_pos rfl, refFold]
  congr 1
  simp only [Int.toNat_natCast]
  omega
theorem fin_parse (s : ByteArray) : finFour s (refFold 4 0 (splitOn 46 s.data.toList)) = parseFour s.data.toList := by
  cases hr : refFold 4 0 (splitOn 46 s.data.toList) with
  | none =>
    rcases parse_cases s.data.toList with h | ⟨n, hn, h, e⟩
    · rw [h]; rfl
    · rw [e, split_show, refFold_parts n hn] at hr; cases hr
  | some m =>
    have hm := refFold_lt 4 0 _ m hr
    have hm' : m ≤ 4294967295 := by have e : (0 + 1) * 256 ^ 4 = 4294967296 := by decide
                                    omega
    have hs : showF (m : Int) = showFour m := by unfold showF; rw [if_pos (by omega)]; rfl
    unfold finFour
    simp only [hs]
    by_cases he : showFour m = s.data.toList
    · rw [if_pos he, ← he, parse_show m hm']
    · rw [if_neg he]
      rcases parse_cases s.data.toList with h | ⟨n, hn, h, e⟩
      · rw [h]
      · exfalso
        rw [e, split_show, refFold_parts n hn] at hr
        injection hr with hr
        exact he (by rw [← hr, e])
/-- The reference's Parse. -/
theorem rParse_any (s : ByteArray) (hs : s.size ≤ 140737488351232) (w : World) (hG : Good w) :
    Calls Tryd.prog 16 #[.string s] w fun e w' => e = .returned (.tuple #[.int .i64 (parseFour s.data.toList).1, .bool (parseFour s.data.toList).2]) ∧ Below w.heap.size w w' := by
  have h := parse_l0 s hs 4 0 0 0 (by omega) (by omega) (by decide)
  have e : partsAt s 0 = splitOn 46 s.data.toList := by unfold partsAt; rw [if_pos (Nat.zero_le _), List.drop_zero]
  rw [e, fin_parse] at h
  obtain ⟨k, hk⟩ := h.rounds
  exact postmarkref05_Parse.calls k s _ _ w hG hk

theorem behind_cons {b : UInt8} {t : List UInt8} (h : (46 : UInt8) ∈ t) : behind 46 (b :: t) = behind 46 t := by
  obtain ⟨a, u, e, hu⟩ : ∃ a u, t = a ++ 46 :: u ∧ (46 : UInt8) ∉ u := by
    clear b
    induction t with
    | nil => cases h
    | cons c t ih =>
      by_cases ht : (46 : UInt8) ∈ t
      · obtain ⟨a, u, e, hu⟩ := ih ht
        exact ⟨c :: a, u, by rw [e]; rfl, hu⟩
      · rcases List.mem_cons.1 h with e | e
        · exact ⟨[], t, by rw [← e]; rfl, ht⟩
        · exact absurd e ht
  rw [e, behind_app hu, ← List.cons_append, behind_app hu]
theorem rlooks_l0 (s : ByteArray) (hs : s.size ≤ 140737488351232) (t : List UInt8) : ∀ (x : ByteArray) (j : Nat), s.data.toList.drop j = t → x.size ≤ 140737488351232 →
    Ev (fun k => postmarkref05_Looks.l0 k s x j) (plainB (if (46 : UInt8) ∈ t then behind 46 t else x.data.toList)) := by
  induction t with
  | nil =>
    intro x j h hx
    have hd := drop_done h
    refine Ev.step (f := fun _ => some (plainB x.data.toList)) (fun k => ?_) (by simpa using Ev.some _)
    simp only [postmarkref05_Looks.l0]
    rw [if_neg (by omega)]
    unfold postmarkref02_Plain.f
    rw [if_pos hx, Option.bind_some]
  | cons b t ih =>
    intro x j h hx
    obtain ⟨h1, h2, h3⟩ := bt_cons h
    have hw := wrap64_succ h2 hs
    by_cases hb : b = 46
    · subst hb
      have hxs : (s.extract (j + 1) s.size).data.toList = t := by rw [Lib.extract_to_end, h3]
      have := ih (s.extract (j + 1) s.size) (j + 1) h3 (by rw [size_list, hxs, ← h3, List.length_drop, ← size_list]; omega)
      rw [hxs] at this
      have e : (if (46 : UInt8) ∈ (46 : UInt8) :: t then behind 46 (46 :: t) else x.data.toList) = if (46 : UInt8) ∈ t then behind 46 t else t := by
        rw [if_pos List.mem_cons_self]
        by_cases ht : (46 : UInt8) ∈ t
        · rw [if_pos ht, behind_cons ht]
        · rw [if_neg ht]; exact behind_app (a := []) ht
      rw [e]
      refine Ev.step (f := fun k => postmarkref05_Looks.l0 k s (s.extract (j + 1) s.size) ((j + 1 : Nat) : Int)) (fun k => ?_) this
      simp only [postmarkref05_Looks.l0]
      rw [if_pos (by omega), if_pos (by omega), h1, if_pos (by rfl), hw, if_pos (by omega), if_pos (by omega)]
      rfl
    · have hb' : ¬ ((b.toNat : Int) = 46) := fun e => hb (UInt8.toNat_inj.1 (by have : (46 : UInt8).toNat = 46 := rfl; omega))
      have := ih x (j + 1) h3 hx
      have e : (if (46 : UInt8) ∈ b :: t then behind 46 (b :: t) else x.data.toList) = if (46 : UInt8) ∈ t then behind 46 t else x.data.toList := by
        by_cases ht : (46 : UInt8) ∈ t
        · rw [if_pos ht, if_pos (List.mem_cons_of_mem _ ht), behind_cons ht]
        · rw [if_neg ht, if_neg (fun h => by rcases List.mem_cons.1 h with e | e; exact hb e.symm; exact ht e)]
      rw [e]
      refine Ev.step (f := fun k => postmarkref05_Looks.l0 k s x ((j + 1 : Nat) : Int)) (fun k => ?_) this
      simp only [postmarkref05_Looks.l0]
      rw [if_pos (by omega), if_pos (by omega), h1, if_neg hb', hw]
/-- The reference's Looks. -/
theorem rLooks_any (s : ByteArray) (hs : s.size ≤ 140737488351232) (w : World) (hG : Good w) :
    Calls Tryd.prog 17 #[.string s] w fun e w' => e = .returned (.bool (looksB s.data.toList)) ∧ Drawn0 w w' := by
  have h := rlooks_l0 s hs s.data.toList s 0 rfl hs
  have e : (if (46 : UInt8) ∈ s.data.toList then behind 46 s.data.toList else s.data.toList) = behind 46 s.data.toList := by
    by_cases ht : (46 : UInt8) ∈ s.data.toList
    · rw [if_pos ht]
    · rw [if_neg ht, behind_none ht]
  rw [e] at h
  obtain ⟨k, hk⟩ := h.rounds
  exact postmarkref05_Looks.calls k s _ w hG hk
/-- The reference's Inner. -/
theorem rInner_any (n : Int) (w : World) (hG : Good w) :
    Calls Tryd.prog 18 #[.int .i64 n] w fun e w' => e = .returned (.bool (decide (2130706432 ≤ n ∧ n ≤ 2147483647))) ∧ Drawn0 w w' := by
  refine postmarkref05_Inner.calls n _ w hG ?_
  unfold postmarkref05_Inner.f
  by_cases h0 : n ≥ 2130706432
  · rw [if_pos h0]; congr 1; apply Bool.eq_iff_iff.2; simp; omega
  · rw [if_neg h0]; congr 1; apply Bool.eq_iff_iff.2; simp; omega

end Go.Proofs.YtcpnfokpgiigcaaDoor
