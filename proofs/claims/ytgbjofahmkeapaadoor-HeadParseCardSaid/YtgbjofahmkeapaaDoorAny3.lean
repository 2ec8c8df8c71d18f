/- strings.ContainsAny at the bytes 0, 10, 13: any text; head.Value. -/
import Derived.Test.YtgbjofahmkeapaaDoorRune
import Derived.Lib.OthersKept
import Derived.Shelf.Strings.SlTrimAscii
namespace Go.Proofs.YtgbjofahmkeapaaDoor
open Go.RowKit Go.Lib

def ends3 : List UInt8 := [0, 10, 13]
def endC (c : UInt8) : Bool := ends3.contains c
def iterPos (w : World) (k : Nat) : Nat := match w.heap[k]? with | some (.stringIter _ p) => p | _ => 0
theorem end_small {c : UInt8} (h : 128 ≤ c.toNat) : endC c = false := by
  have key : ∀ n : Nat, n < 256 → 128 ≤ n → endC (UInt8.ofNat n) = false := by decide +kernel
  have := key c.toNat c.toNat_lt h
  rwa [UInt8.ofNat_toNat] at this
theorem ix_small : ∀ n : Nat, n < 128 → decide (0 ≤ Lib.indexByte (⟨#[0, 10, 13]⟩ : ByteArray).data.toList n.toUInt8) = endC (UInt8.ofNat n) := by decide +kernel
theorem any_skip {l : List UInt8} {i n : Nat} (h : ∀ k, k < n → endC (l.getD (i + k) 0) = false) (hi : i + n ≤ l.length) : (l.take (i + n)).any endC = (l.take i).any endC := by
  induction n with
  | zero => rfl
  | succ n ih =>
    have hlt : i + n < l.length := by omega
    have h1 := h n (by omega)
    rw [List.getD_eq_getElem?_getD, List.getElem?_eq_getElem hlt, Option.getD_some] at h1
    rw [← Nat.add_assoc, List.take_add_one, List.getElem?_eq_getElem hlt, List.any_append, ih (fun k hk => h k (by omega)) (by omega)]
    simp [h1]

set_option maxHeartbeats 4000000 in
set_option maxRecDepth 100000 in
theorem ixa_short (s : ByteArray) (h8 : s.size ≤ 8) (w : World) :
    Calls Tryd.prog 74 #[.string s, .string ⟨#[0, 10, 13]⟩] w fun e w' => ∃ r : Int, e = .returned (.int .i64 r) ∧ decide (0 ≤ r) = s.data.toList.any endC ∧ Below w.heap.size w w' := by
  have hsl := size_list s
  obtain ⟨C, hC⟩ : ∃ C : ByteArray, C = ⟨#[0, 10, 13]⟩ := ⟨_, rfl⟩
  have hemp : C.toList.isEmpty = false := by subst hC; rw [ba_toList]; rfl
  have hn1 : ((C.size : Int) == 1) = false := by subst hC; rfl
  have h8z : decide ((8 : Int) < (s.size : Int)) = false := decide_eq_false (by omega)
  have hU : ∀ w, Calls Tryd.prog 87 #[.int .i64 (s.size : Int)] w fun e w' => e = .returned (.bool false) ∧ w' = w := fun w => by
    have := Tryd.strings_shouldUseASCIISet (s.size : Int) w
    rw [h8z] at this; exact this
  have hA : ∀ (r : Nat) w, r < 128 → Calls Tryd.prog 72 #[.string C, .int .i32 r] w fun e w' => ∃ q : Int, e = .returned (.int .i64 q) ∧ decide (0 ≤ q) = endC (UInt8.ofNat r) ∧ Below w.heap.size w w' := fun r w hr => by
    subst hC
    refine (Tryd.strings_IndexRune_ascii ⟨#[0, 10, 13]⟩ (r : Int) w (by omega) (by omega)).mono ?_
    rintro e w' ⟨rfl, rfl⟩
    rw [Int.toNat_natCast]
    exact ⟨_, rfl, ix_small r hr, Below.refl _ _⟩
  have hH : ∀ (r : Int) w, 128 ≤ r → r ≤ 1114111 → ¬ (55296 ≤ r ∧ r < 57344) → Calls Tryd.prog 72 #[.string C, .int .i32 r] w fun e w' => e = .returned (.int .i64 (-1)) ∧ Below w.heap.size w w' := fun r w h0 h1 h2 => by
    subst hC; exact ixr_high r h0 h1 h2 w
  rw [← hC]
  have HSL := Lib.hid hsl
  clear hC hsl
  go_enter Tryd.func74, Tryd.ntmps74
  go_wp2_with fail
  refine (hU _).mono ?_
  rintro e w1 ⟨rfl, rfl⟩
  go_wp2
  go_loopw [9, 10] (fun _ _ wr => ∃ i : Nat, i ≤ s.size ∧ wr.heap[w1.heap.size]? = some (.stringIter s i) ∧ Hid ((s.data.toList.take i).any endC = false) ∧ Below w1.heap.size w1 wr) (fun _ _ wr => s.size - iterPos wr w1.heap.size)
  case atStart => exact ⟨0, by omega, World.iter_heap w1 s 0, rfl, (Below.refl _ _).alloc (Nat.le_refl _) _⟩
  case round =>
    obtain ⟨i, hi, hit, hno, hbl⟩ := hrel
    have HM := Lib.hid (show iterPos wr w1.heap.size = i by unfold iterPos; rw [hit])
    by_cases hlt : i < s.size
    · have hltl : i < s.data.toList.length := by have := HSL.out; omega
      have hg : s.data.toList.getD i 0 = s.data.toList[i] := by rw [List.getD_eq_getElem?_getD, List.getElem?_eq_getElem hltl]; rfl
      have hget : s[i]'hlt = s.data.toList[i] := rfl
      by_cases hsm : (s.data.toList[i]).toNat < 128
      · have hnx := fun ty => run_next_ascii_at (P := Tryd.prog) wr w1.heap.size s i ty hit hlt (by rw [hget]; exact hsm)
        rw [hget] at hnx
        have hit2 := iterAt_heap wr w1.heap.size s i (i + 1) hit
        have hbl2 := below_iterAt hbl (Nat.le_refl _) s (i + 1)
        have hst : Hid ((s.data.toList.take (i + 1)).any endC = endC (s.data.toList[i])) := by
          show _ = _
          rw [List.take_add_one, List.getElem?_eq_getElem hltl, List.any_append, hno.out]; simp
        have hall : Hid (endC (s.data.toList[i]) = true → s.data.toList.any endC = true) := fun h => List.any_eq_true.2 ⟨_, List.getElem_mem hltl, h⟩
        have hcall := hA (s.data.toList[i]).toNat (wr.iterAt w1.heap.size s (i + 1)) hsm
        rw [UInt8.ofNat_toNat] at hcall
        clear hget hg hit
        generalize s.data.toList[i] = x at *
        cases hx : endC x with
        | true =>
          rw [hx] at hcall
          have hyes := Lib.hid (hall.out hx)
          go_wp2_with (first | (go_at_call 72; refine hcall.mono ?_; rintro e w2 ⟨q, rfl, hq, hb2⟩))
          go_ret
          exact ⟨_, rfl, by rw [hyes.out]; exact decide_eq_true (by omega), below_on hbl2 hbl2.size hb2⟩
        | false =>
          rw [hx] at hcall
          go_wp2_with (first | (go_at_call 72; refine hcall.mono ?_; rintro e w2 ⟨q, rfl, hq, hb2⟩))
          have hit3 := block_below hit2 hb2 (lt_of_block hit2)
          refine ⟨⟨i + 1, by omega, hit3, by show _ = _; rw [hst.out, hx], below_on hbl2 hbl2.size hb2⟩, ?_⟩
          have : iterPos w2 w1.heap.size = i + 1 := by unfold iterPos; rw [hit3]
          rw [this, HM.out]; omega
      · have hd := decode_high s i hlt (by rw [hg]; omega)
        have hnx := fun ty => run_next_any_at (P := Tryd.prog) wr w1.heap.size s i ty hit hlt
        generalize Utf8.decode s i = d at *
        obtain ⟨r, m⟩ := d
        obtain ⟨hd1, hd2, hd3, hd4, hd5, hd6⟩ := hd
        dsimp only at hd1 hd2 hd3 hd4 hd5 hd6 hnx
        have hit2 := iterAt_heap wr w1.heap.size s i (i + m) hit
        have hbl2 := below_iterAt hbl (Nat.le_refl _) s (i + m)
        have hst : Hid ((s.data.toList.take (i + m)).any endC = false) := by
          show _ = _
          rw [any_skip (fun k hk => end_small (hd6 k hk)) (by have := HSL.out; omega)]
          exact hno.out
        have hcall := hH (r : Int) (wr.iterAt w1.heap.size s (i + m)) (by omega) (by omega) (by omega)
        clear hd6 hget hg hit hsm
        go_wp2_with (first | (go_at_call 72; refine hcall.mono ?_; rintro e w2 ⟨rfl, hb2⟩))
        have hit3 := block_below hit2 hb2 (lt_of_block hit2)
        refine ⟨⟨i + m, by omega, hit3, hst, below_on hbl2 hbl2.size hb2⟩, ?_⟩
        have : iterPos w2 w1.heap.size = i + m := by unfold iterPos; rw [hit3]
        rw [this, HM.out]; omega
    · obtain rfl : i = s.size := by omega
      have hnx := fun ty => run_next_end_at (P := Tryd.prog) wr w1.heap.size s s.size ty hit (by omega)
      rw [HSL.out, List.take_length] at hno
      go_wp2
      go_ret
      exact ⟨-1, rfl, by rw [hno.out]; decide, hbl⟩

theorem indexAny_any (chars : List UInt8) : ∀ l : List UInt8, decide (0 ≤ Lib.indexAny l chars) = l.any chars.contains
  | [] => rfl
  | b :: l => by
    have ih := indexAny_any chars l
    have hge := Lib.indexAny_ge chars l
    rw [Lib.indexAny, List.any_cons]
    cases h : chars.contains b with
    | true => simp
    | false =>
      rw [Bool.false_or, ← ih, if_neg (by decide)]
      split
      · rename_i h1
        rw [beq_iff_eq] at h1
        rw [h1]
      · rename_i h1
        rw [beq_iff_eq] at h1
        rw [decide_eq_decide]
        omega
theorem info256 : (Tryd.prog.info? 72).map (fun i => (i.zero, i.size)) = some (some (.agg (Array.replicate 256 (.bool false))), 256) := by kernel_rfl
theorem ixa_any (s : ByteArray) (hs : s.size ≤ 1000000) (w : World) :
    Calls Tryd.prog 74 #[.string s, .string ⟨#[0, 10, 13]⟩] w fun e w' => ∃ r : Int, e = .returned (.int .i64 r) ∧ decide (0 ≤ r) = s.data.toList.any endC ∧ Below w.heap.size w w' := by
  by_cases h8 : s.size ≤ 8
  · exact ixa_short s h8 w
  · refine (Tryd.strings_IndexAny_long (zero_of_info info256).1 s ⟨#[0, 10, 13]⟩ w (by decide) (by omega) (by omega) (by decide) (ascii_of_all (by decide))).mono ?_
    rintro e w' ⟨rfl, rfl⟩
    exact ⟨_, rfl, indexAny_any _ _, ((Below.refl _ _).alloc (Nat.le_refl _) _).alloc (by simp) _⟩
theorem contAny3 (s : ByteArray) (hs : s.size ≤ 1000000) (w : World) :
    Calls Tryd.prog 52 #[.string s, .string ⟨#[0, 10, 13]⟩] w fun e w' => e = .returned (.bool (s.data.toList.any endC)) ∧ Below w.heap.size w w' := by
  have h := ixa_any s hs w
  go_enter Tryd.func52, Tryd.ntmps52
  go_wp2_with fail
  refine h.mono ?_
  rintro e w1 ⟨r, rfl, hr, hb1⟩
  have HR := Lib.hid hr
  clear hr
  go_wp2
  go_ret
  exact ⟨by rw [← HR.out]; rfl, hb1⟩

/-- A text without blanks and tabs at its ends. -/
def blank2 : List UInt8 := [32, 9]
def trim2 (l : List UInt8) : List UInt8 := Lib.trimS l blank2
theorem trim_any (s : ByteArray) (hs : s.size ≤ 1000000) (w : World) :
    Calls Tryd.prog 33 #[.string s, .string ⟨#[32, 9]⟩] w fun e w' => e = .returned (.string ⟨(trim2 s.data.toList).toArray⟩) ∧ Below w.heap.size w w' :=
  Any.strings_Trim_laid Tryd.lays160 info256 s ⟨#[32, 9]⟩ w (by omega) (by decide) (ascii_of_all (by decide))
def valueB (l : List UInt8) : Bool := !l.any endC && (trim2 l == l)
set_option maxHeartbeats 2000000 in
theorem head_Value_any (s : ByteArray) (hs : s.size ≤ 1000000) (w : World) :
    Calls Tryd.prog 28 #[.string s] w fun e w' => e = .returned (.bool (valueB s.data.toList)) ∧ Below w.heap.size w w' := by
  have cA := contAny3 s hs w
  have cT := fun w1 => trim_any s hs w1
  unfold valueB
  cases ha : s.data.toList.any endC with
  | true =>
    rw [ha] at cA
    go_enter Tryd.func28, Tryd.ntmps28
    go_wp2_with fail
    refine cA.mono ?_
    rintro e w1 ⟨rfl, hb1⟩
    go_wp2
    go_ret
    exact ⟨rfl, hb1⟩
  | false =>
    rw [ha] at cA
    have he : ((⟨(trim2 s.data.toList).toArray⟩ : ByteArray).toList == s.toList) = (trim2 s.data.toList == s.data.toList) := by rw [ba_toList, ba_toList, mk_toList]
    go_enter Tryd.func28, Tryd.ntmps28
    go_wp2_with (first | (go_at_call 52; refine cA.mono ?_; rintro e w1 ⟨rfl, hb1⟩) | (go_at_call 33; refine (cT _).mono ?_; rintro e w2 ⟨rfl, hb2⟩))
    go_ret
    exact ⟨by simp [ba_toList], below_on hb1 hb1.size hb2⟩

end Go.Proofs.YtgbjofahmkeapaaDoor
