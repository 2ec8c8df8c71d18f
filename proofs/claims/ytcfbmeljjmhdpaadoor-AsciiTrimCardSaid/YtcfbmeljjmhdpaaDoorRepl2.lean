/- (*strings.byteStringReplacer).Replace at a table of three bytes, each to nothing. -/
import Derived.Test.YtcfbmeljjmhdpaaDoorRepl
import Derived.Test.YtcfbmeljjmhdpaaDoorAscP
import Derived.Test.YtcfbmeljjmhdpaaDoorShelf
import Derived.Test.YtcfbmeljjmhdpaaDoorLower
import Derived.Deep.QuietTactic
import Derived.BigQuiet
import Derived.BigRegion
namespace Go.Proofs.YtcfbmeljjmhdpaaDoor
open Go.RowKit Go.Proofs.YtcfbmeljjmhdpaaDoorW.PrintWords

/-- How many bytes are taken out. -/
def dropN (l : List UInt8) : Nat := (l.filter fun c => !keepC c).length
theorem keep_len (l : List UInt8) : (l.filter keepC).length + dropN l = l.length := by
  unfold dropN
  induction l with
  | nil => rfl
  | cons c l ih => rw [List.filter_cons, List.filter_cons]; cases keepC c <;> simp at ih ⊢ <;> omega
theorem keep_iff (c : UInt8) : keepC c = false ↔ c ∈ ([13, 10, 9] : List UInt8) := by
  have key : ∀ n : Nat, n < 256 → (keepC (UInt8.ofNat n) = false ↔ UInt8.ofNat n ∈ ([13, 10, 9] : List UInt8)) := by decide +kernel
  have := key c.toNat c.toNat_lt
  rwa [UInt8.ofNat_toNat] at this
def cK (l : List UInt8) : Nat → Nat
  | 0 => 0
  | 1 => l.count 13
  | 2 => l.count 13 + l.count 10
  | _ => l.count 13 + l.count 10 + l.count 9
theorem drop_count (l : List UInt8) : dropN l = cK l 3 := by
  unfold dropN
  show _ = l.count 13 + l.count 10 + l.count 9
  induction l with
  | nil => rfl
  | cons c l ih =>
    rw [List.filter_cons]
    by_cases h : keepC c = false
    · rw [h]
      have hm := (keep_iff c).1 h
      have hc : c = 13 ∨ c = 10 ∨ c = 9 := by simpa using hm
      rcases hc with rfl | rfl | rfl <;> simp [List.count_cons] <;> omega
    · have hm := fun e => h ((keep_iff c).2 e)
      have hc : c ≠ 13 ∧ c ≠ 10 ∧ c ≠ 9 := by simpa using hm
      have hk : keepC c = true := by simpa using h
      rw [hk]
      simp [List.count_cons, hc.1, hc.2.1, hc.2.2]
      omega
theorem keep_all {l : List UInt8} (h : dropN l = 0) : l.filter keepC = l := by
  have := keep_len l
  exact List.filter_sublist.eq_of_length (by omega)
theorem dropN_snoc (l : List UInt8) (c : UInt8) : dropN (l ++ [c]) = dropN l + (if keepC c = true then 0 else 1) := by
  unfold dropN; rw [List.filter_append, List.length_append]
  cases h : keepC c <;> simp [h]
theorem keep_snoc (l : List UInt8) (c : UInt8) : (l ++ [c]).filter keepC = l.filter keepC ++ (if keepC c = true then [c] else []) := by
  rw [List.filter_append]
  cases h : keepC c <;> simp [h]
theorem below_drewN {B : Nat} {a w : World} (h : Below B a w) (q : Nat) : Below B a (w.drewN q) := ⟨h.os, h.tape, h.output, h.size, h.block⟩
theorem copy_nothing (w : World) (a g : Addr) (n m cap : Nat) (t : TypeId) : (Builtin.copy_ #[28, 28] t #[.slice (some a) n m, .slice (some g) 0 cap]).run Tryd.prog w = .ok (.int .i64 0) w := by kernel_rfl
theorem slice_from (g n j : Nat) (h : j ≤ n) : ∃ z, ∀ W : World, (Instr.slice 28 (.slice (some ⟨g, 0, none⟩) n n) (some (.int .i64 j)) none none).run Tryd.prog W = .ok (.slice (some ⟨g, z, none⟩) (n - j) (n - j)) W := by
  have hs : (Tryd.prog.info? 5).map (·.size) = some 1 := by kernel_rfl
  obtain ⟨i, hi⟩ : ∃ i, Tryd.prog.info? 5 = some i := by
    cases h : Tryd.prog.info? 5 with
    | none => rw [h] at hs; cases hs
    | some i => exact ⟨i, rfl⟩
  have h1 : i.size = 1 := by rw [hi] at hs; simpa using hs
  have he : Tryd.prog.elem 28 = 5 := by unfold Program.elem; rw [Tryd.underlying28]
  have ht : Tryd.prog.underlying 28 = some (.slice (Tryd.prog.elem 28)) := by rw [he]; exact Tryd.underlying28
  by_cases e : n = j
  · refine ⟨0, fun W => ?_⟩
    rw [run_slice_l _ _ _ _ _ ht .i64 (j : Int) (by omega) (by omega), he, run_sizeOf W hi]
    simp [sliced, e]
  · refine ⟨j, fun W => ?_⟩
    rw [run_slice_l _ _ _ _ _ ht .i64 (j : Int) (by omega) (by omega), he, run_sizeOf W hi]
    simp [sliced, e, h1, Addr.add_lit, show Tryd.prog.cellsOf 5 = 1 by kernel_rfl]
theorem nil_neq (w : World) : (binOp .neq 28 (.slice none 0 0) (.slice none 0 0)).run Tryd.prog w = .ok (.bool false) w := by kernel_rfl
theorem some_neq (w : World) (a : Addr) (cap : Nat) : (binOp .neq 28 (.slice (some a) 0 cap) (.slice none 0 0)).run Tryd.prog w = .ok (.bool true) w := by kernel_rfl

set_option maxHeartbeats 8000000 in
set_option maxRecDepth 100000 in
theorem repl_Replace (base B : Nat) (s : ByteArray) (hs : s.size ≤ 1000000) (w : World) (hT : Tab base B [13, 10, 9] w) :
    Calls Tryd.prog 98 #[.pointer (some ⟨B, 0, none⟩), .string s] w fun e w' => e = .returned (.string ⟨(s.data.toList.filter keepC).toArray⟩) ∧ Below w.heap.size w w' := by
  have hsl := size_list s
  have hk := keep_len s.data.toList
  have hdc := drop_count s.data.toList
  have HDC := Lib.hid hdc
  have hkl : (s.data.toList.filter keepC).length ≤ s.size := by omega
  have HK := Lib.hid hk
  have HSL := Lib.hid hsl
  clear hsl hk hdc
  have hnn := fun w => nil_neq w
  have hsn := fun w a cap => some_neq w a cap
  by_cases h24 : 24 ≤ s.size
  · have hT0 := hT
    obtain ⟨cs, tv, t1, t2, t3, t4, t5, t6⟩ := hT
    obtain ⟨t, cap, rfl, hcap⟩ := own_some (n := 2) t4
    have c256 : w.cell? ⟨B, 256, none⟩ = some (.slice (some ⟨t, 0, none⟩) 3 cap) := by rw [cell_of_row w _ 256 _ _ _ t1]; exact t3
    have s0 := own_cell (k := 0) (L := [[13], [10], [9]]) t4 rfl
    have s1 := own_cell (k := 1) (L := [[13], [10], [9]]) t4 rfl
    have s2 := own_cell (k := 2) (L := [[13], [10], [9]]) t4 rfl
    obtain ⟨g13, k13, e13⟩ : ∃ g cap, w.cell? ⟨B, 13, none⟩ = some (.slice (some ⟨g, 0, none⟩) 0 cap) := by
      obtain ⟨v, hv, hv1, _⟩ := t6 13
      obtain ⟨g, cap, rfl⟩ := hv1 (by decide)
      exact ⟨g, cap, by rw [cell_of_row w _ 13 _ _ _ t1]; exact hv⟩
    obtain ⟨g10, k10, e10⟩ : ∃ g cap, w.cell? ⟨B, 10, none⟩ = some (.slice (some ⟨g, 0, none⟩) 0 cap) := by
      obtain ⟨v, hv, hv1, _⟩ := t6 10
      obtain ⟨g, cap, rfl⟩ := hv1 (by decide)
      exact ⟨g, cap, by rw [cell_of_row w _ 10 _ _ _ t1]; exact hv⟩
    obtain ⟨g9, k9, e9⟩ : ∃ g cap, w.cell? ⟨B, 9, none⟩ = some (.slice (some ⟨g, 0, none⟩) 0 cap) := by
      obtain ⟨v, hv, hv1, _⟩ := t6 9
      obtain ⟨g, cap, rfl⟩ := hv1 (by decide)
      exact ⟨g, cap, by rw [cell_of_row w _ 9 _ _ _ t1]; exact hv⟩
    have htB : t < w.heap.size := (t4.lt t rfl).2
    have hBl := lt_of_block t1
    clear t1 t2 t3 t4 t5 t6
    have HC : Hid (cK s.data.toList 3 = dropN s.data.toList) := HDC.out.symm
    have hq24 : decide (24 ≤ (s.size : Int)) = true := decide_eq_true (by omega)
    have hx13 := fun w => idx_one 13 w
    have hx10 := fun w => idx_one 10 w
    have hx9 := fun w => idx_one 9 w
    go_enter Tryd.func98, Tryd.ntmps98
    go_wp2
    go_loopw [5, 6, 8, 9, 32] (fun n a _ _ i wr => ∃ (k : Nat) (c : Nat), k ≤ 3 ∧ i = .int .i64 k ∧ Hid (c = cK s.data.toList k) ∧ c ≤ s.size ∧ n = .int .i64 ((s.size : Int) - c) ∧ a = .bool (decide (0 < c)) ∧ Below w.heap.size w wr) (fun _ _ _ _ i _ => 3 - (intOf i).toNat)
    case atStart => exact ⟨0, 0, by omega, rfl, rfl, by omega, by simp, rfl, Below.refl _ _⟩
    case round =>
      obtain ⟨k, c, hk3, rfl, hcK, hcs, rfl, rfl, hb⟩ := hrel
      by_cases hlt : k < 3
      · have d0 := (hb.cell (p := ⟨t, 0, none⟩) htB).trans s0
        have d1 := (hb.cell (p := ⟨t, 1, none⟩) htB).trans s1
        have d2 := (hb.cell (p := ⟨t, 2, none⟩) htB).trans s2
        have f13 := (hb.cell (p := ⟨B, 13, none⟩) hBl).trans e13
        have f10 := (hb.cell (p := ⟨B, 10, none⟩) hBl).trans e10
        have f9 := (hb.cell (p := ⟨B, 9, none⟩) hBl).trans e9
        have hdl : dropN s.data.toList ≤ s.size := by have := HK.out; have := HSL.out; omega
        have : k = 0 ∨ k = 1 ∨ k = 2 := by omega
        rcases this with rfl | rfl | rfl
        · have hcn := Tryd.strings_Count_one s 13 wr
          have hsum : Hid (cK s.data.toList (0 + 1) = cK s.data.toList 0 + Lib.countByte s.data.toList 13) := by show _ = _; simp only [cK]; exact (Nat.zero_add _).symm
          have hle : cK s.data.toList (0 + 1) ≤ cK s.data.toList 3 := by simp only [cK]; omega
          have hle2 : cK s.data.toList (0 + 1) ≤ s.size := by have := HC.out; omega
          have hq : c + Lib.countByte s.data.toList 13 ≤ s.size := by have h1 := hsum.out; have h2 := hcK.out; omega
          clear hle hle2
          generalize Lib.countByte s.data.toList 13 = m at *
          by_cases hm : m = 0
          · have hm1 : ((m : Int) != 0) = false := by simp [hm]
            have HM := Lib.hid hm
            clear hm
            go_wp2_with fail
            refine hcn.mono ?_
            rintro e w1 ⟨rfl, rfl⟩
            go_wp2
            exact ⟨⟨0 + 1, c, by omega, rfl, by show _ = _; rw [hsum.out, HM.out, hcK.out]; exact (Nat.add_zero _).symm, hcs, rfl, rfl, hb⟩, by simp [intOf]⟩
          · have hm1 : ((m : Int) != 0) = true := by rw [bne_iff_ne]; omega
            have hm0 : 0 < m := by omega
            have w1e : IntKind.i64.wrap ((0 : Int) - 1) = -1 := by rw [IntKind.wrap_i64]; omega
            have w2e : IntKind.i64.wrap ((m : Int) * -1) = -(m : Int) := by rw [IntKind.wrap_i64]; omega
            have w3e : IntKind.i64.wrap ((s.size : Int) - c + -(m : Int)) = (s.size : Int) - (c + m : Nat) := by rw [IntKind.wrap_i64]; omega
            have hd : decide (0 < c + m) = true := decide_eq_true (by omega)
            have HD := Lib.hid hd
            clear hd hm
            go_wp2_with fail
            refine hcn.mono ?_
            rintro e w1 ⟨rfl, rfl⟩
            go_wp2
            go_quiet (fail)
            go_wp2
            exact ⟨⟨0 + 1, c + m, by omega, rfl, by show _ = _; rw [hsum.out, hcK.out], by omega, by simp, by rw [HD.out], below_drewN hb _⟩, by simp [intOf]⟩
        · have hcn := Tryd.strings_Count_one s 10 wr
          have hsum : Hid (cK s.data.toList (1 + 1) = cK s.data.toList 1 + Lib.countByte s.data.toList 10) := by show _ = _; rfl
          have hle : cK s.data.toList (1 + 1) ≤ cK s.data.toList 3 := by simp only [cK]; omega
          have hle2 : cK s.data.toList (1 + 1) ≤ s.size := by have := HC.out; omega
          have hq : c + Lib.countByte s.data.toList 10 ≤ s.size := by have h1 := hsum.out; have h2 := hcK.out; omega
          clear hle hle2
          generalize Lib.countByte s.data.toList 10 = m at *
          by_cases hm : m = 0
          · have hm1 : ((m : Int) != 0) = false := by simp [hm]
            have HM := Lib.hid hm
            clear hm
            go_wp2_with fail
            refine hcn.mono ?_
            rintro e w1 ⟨rfl, rfl⟩
            go_wp2
            exact ⟨⟨1 + 1, c, by omega, rfl, by show _ = _; rw [hsum.out, HM.out, hcK.out]; exact (Nat.add_zero _).symm, hcs, rfl, rfl, hb⟩, by simp [intOf]⟩
          · have hm1 : ((m : Int) != 0) = true := by rw [bne_iff_ne]; omega
            have hm0 : 0 < m := by omega
            have w1e : IntKind.i64.wrap ((0 : Int) - 1) = -1 := by rw [IntKind.wrap_i64]; omega
            have w2e : IntKind.i64.wrap ((m : Int) * -1) = -(m : Int) := by rw [IntKind.wrap_i64]; omega
            have w3e : IntKind.i64.wrap ((s.size : Int) - c + -(m : Int)) = (s.size : Int) - (c + m : Nat) := by rw [IntKind.wrap_i64]; omega
            have hd : decide (0 < c + m) = true := decide_eq_true (by omega)
            have HD := Lib.hid hd
            clear hd hm
            go_wp2_with fail
            refine hcn.mono ?_
            rintro e w1 ⟨rfl, rfl⟩
            go_wp2
            go_quiet (fail)
            go_wp2
            exact ⟨⟨1 + 1, c + m, by omega, rfl, by show _ = _; rw [hsum.out, hcK.out], by omega, by simp, by rw [HD.out], below_drewN hb _⟩, by simp [intOf]⟩
        · have hcn := Tryd.strings_Count_one s 9 wr
          have hsum : Hid (cK s.data.toList (2 + 1) = cK s.data.toList 2 + Lib.countByte s.data.toList 9) := by show _ = _; rfl
          have hle : cK s.data.toList (2 + 1) ≤ cK s.data.toList 3 := by simp only [cK]; omega
          have hle2 : cK s.data.toList (2 + 1) ≤ s.size := by have := HC.out; omega
          have hq : c + Lib.countByte s.data.toList 9 ≤ s.size := by have h1 := hsum.out; have h2 := hcK.out; omega
          clear hle hle2
          generalize Lib.countByte s.data.toList 9 = m at *
          by_cases hm : m = 0
          · have hm1 : ((m : Int) != 0) = false := by simp [hm]
            have HM := Lib.hid hm
            clear hm
            go_wp2_with fail
            refine hcn.mono ?_
            rintro e w1 ⟨rfl, rfl⟩
            go_wp2
            exact ⟨⟨2 + 1, c, by omega, rfl, by show _ = _; rw [hsum.out, HM.out, hcK.out]; exact (Nat.add_zero _).symm, hcs, rfl, rfl, hb⟩, by simp [intOf]⟩
          · have hm1 : ((m : Int) != 0) = true := by rw [bne_iff_ne]; omega
            have hm0 : 0 < m := by omega
            have w1e : IntKind.i64.wrap ((0 : Int) - 1) = -1 := by rw [IntKind.wrap_i64]; omega
            have w2e : IntKind.i64.wrap ((m : Int) * -1) = -(m : Int) := by rw [IntKind.wrap_i64]; omega
            have w3e : IntKind.i64.wrap ((s.size : Int) - c + -(m : Int)) = (s.size : Int) - (c + m : Nat) := by rw [IntKind.wrap_i64]; omega
            have hd : decide (0 < c + m) = true := decide_eq_true (by omega)
            have HD := Lib.hid hd
            clear hd hm
            go_wp2_with fail
            refine hcn.mono ?_
            rintro e w1 ⟨rfl, rfl⟩
            go_wp2
            go_quiet (fail)
            go_wp2
            exact ⟨⟨2 + 1, c + m, by omega, rfl, by show _ = _; rw [hsum.out, hcK.out], by omega, by simp, by rw [HD.out], below_drewN hb _⟩, by simp [intOf]⟩
      · obtain rfl : k = 3 := by omega
        have hcd : c = dropN s.data.toList := by rw [hcK.out, HC.out]
        have HCD := Lib.hid hcd
        have hn : ((s.data.toList.filter keepC).length : Int) = (s.size : Int) - c := by have := HK.out; have := HSL.out; omega
        have HN := Lib.hid hn
        have hTr := hT0.below hb
        clear hcK hcd hn s0 s1 s2 e13 e10 e9 c256
        by_cases hc0 : c = 0
        · have hq0 : decide (0 < c) = false := decide_eq_false (by omega)
          have hfin : Hid (s.data.toList.filter keepC = s.data.toList) := keep_all (by rw [← HCD.out, hc0])
          rw [hq0]
          clear hc0 HN HCD
          go_wp2
          go_ret
          exact ⟨by rw [hfin.out, of_toList]; rfl, hb⟩
        · have hq0 : decide (0 < c) = true := decide_eq_true (by omega)
          rw [hq0, ← HN.out]
          clear hq0 HN HCD hc0
          obtain ⟨wy, rfl⟩ : ∃ wy, wy = wr := ⟨_, rfl⟩
          obtain ⟨n, hnF⟩ : ∃ n, n = (s.data.toList.filter keepC).length := ⟨_, rfl⟩
          have hmk := run_make_row' (P := Tryd.prog) 28 5 (.int .u8 0) 1 Tryd.underlying28 infoU8 rfl .i64 .i64 n (by omega) (by omega)
          simp only [madeZero] at hmk
          rw [← hnF] at hkl ⊢
          have HNF := Lib.hid hnF
          clear hnF
          go_wp2
          obtain ⟨W0, hW0⟩ : ∃ W0, W0 = wy.alloc (.cells (u8s (List.replicate n 0)).toArray 5) := ⟨_, rfl⟩
          have hr0 : ByteRow W0 wy.heap.size 5 (List.replicate n 0) := by rw [hW0]; exact heap_alloc_new wy _
          have hb0 : Below wy.heap.size wy W0 := by rw [hW0]; exact (Below.refl _ _).alloc (Nat.le_refl _) _
          rw [← hW0]
          clear hW0 hmk
          obtain ⟨g, hg⟩ : ∃ g, wy.heap.size = g := ⟨_, rfl⟩
          rw [hg] at hr0 hb0 ⊢
          have hBg : B < g := by rw [← hg]; exact hTr.lt
          have HG := Lib.hid hg
          clear hg
          go_loopw [13, 14, 15] (fun j i _ wx => ∃ k : Nat, k ≤ s.size ∧ i = .int .i64 k ∧ j = .int .i64 ((s.data.toList.take k).filter keepC).length ∧ ByteRow wx g 5 ((s.data.toList.take k).filter keepC ++ List.replicate (n - ((s.data.toList.take k).filter keepC).length) 0) ∧ Below g wy wx) (fun _ i _ _ => s.size - (intOf i).toNat)
          case atStart => exact ⟨0, by omega, rfl, rfl, hr0, hb0⟩
          case round =>
            obtain ⟨k, hk, rfl, rfl, hr, hbx⟩ := hrel
            by_cases hks : k < s.size
            · obtain ⟨x, hx⟩ : ∃ x, s.data.toList[k]? = some x := ⟨_, List.getElem?_eq_getElem (by have := HSL.out; omega)⟩
              have hgx : s[k]'hks = x := by have := (List.getElem?_eq_some_iff.1 hx).2; rw [← this]; rfl
              have htk : s.data.toList.take (k + 1) = s.data.toList.take k ++ [x] := by rw [List.take_add_one, hx]; rfl
              have hln : ((s.data.toList.take (k + 1)).filter keepC).length ≤ n := by rw [HNF.out]; exact ((List.take_sublist _ _).filter keepC).length_le
              have hTx := hTr.below (HG.out ▸ hbx)
              obtain ⟨cs, tv, t1, _, _, _, _, t6⟩ := hTx
              obtain ⟨v, hv, hv1, hv2⟩ := t6 x
              rw [← cell_of_row wr _ x.toNat _ _ _ t1] at hv
              rw [htk, keep_snoc] at hln
              have HTK := Lib.hid htk
              have x256 : (x.toNat : Int) < 256 := by have := x.toNat_lt; omega
              clear hx htk t6 t1 hr0 hb0
              cases hkx : keepC x with
              | true =>
                have := hv2 (fun h => by rw [(keep_iff x).2 h] at hkx; cases hkx)
                subst this
                rw [hkx, if_pos rfl, List.length_append] at hln
                have HTK2 : Hid ((s.data.toList.take (k + 1)).filter keepC = (s.data.toList.take k).filter keepC ++ [x]) := by show _ = _; rw [HTK.out, keep_snoc, hkx, if_pos rfl]
                generalize (s.data.toList.take k).filter keepC = F at *
                have hln' : F.length < n := by simp at hln; omega
                have hlt : F.length < (F ++ List.replicate (n - F.length) 0).length := by simp; omega
                have hcell := hr.cell hlt
                have hfree := hr.free F.length
                have hset := hr.set F.length x
                have hst : (F ++ List.replicate (n - F.length) 0).set F.length x = (F ++ [x]) ++ List.replicate (n - (F ++ [x]).length) 0 := by
                  rw [List.set_append_right _ _ (Nat.le_refl _), Nat.sub_self, show n - F.length = (n - (F ++ [x]).length) + 1 by simp; omega, List.replicate_succ, List.set_cons_zero]
                  simp
                rw [hst] at hset
                have hbs : ∀ v, Below g wy (wr.setCell ⟨g, F.length, none⟩ v) := fun v => hbx.setCell (p := ⟨g, F.length, none⟩) (Nat.le_refl _) v
                have HS := Lib.hid hset
                have HB := Lib.hid hbs
                clear hset hbs hst hr hkx hv1 hv2
                go_wp2
                exact ⟨⟨k + 1, by omega, by go_num, by rw [HTK2.out]; simp, by rw [HTK2.out]; exact HS.out, HB.out _⟩, by simp [intOf]; omega⟩
              | false =>
                obtain ⟨gx, capx, rfl⟩ := hv1 ((keep_iff x).1 hkx)
                rw [hkx] at hln
                have HTK2 : Hid ((s.data.toList.take (k + 1)).filter keepC = (s.data.toList.take k).filter keepC) := by show _ = _; rw [HTK.out, keep_snoc, hkx]; simp
                generalize (s.data.toList.take k).filter keepC = F at *
                have hln' : F.length ≤ n := by simpa using hln
                obtain ⟨z, hsl⟩ := slice_from g n F.length hln'
                have hcp := fun w t => copy_nothing w ⟨g, z, none⟩ ⟨gx, 0, none⟩ (n - F.length) (n - F.length) capx t
                have hF0 : (0 : Int) ≤ F.length := by omega
                have hFn : (F.length : Int) ≤ n := by omega
                have w1e : IntKind.i64.wrap ((F.length : Int) + 0) = F.length := by rw [IntKind.wrap_i64]; omega
                clear hkx hv1 hv2
                go_wp2
                go_big_region
                go_wp2
                exact ⟨⟨k + 1, by omega, by go_num, by rw [HTK2.out], by rw [HTK2.out]; exact hr, hbx.drew⟩, by simp [intOf]; omega⟩
            · obtain rfl : k = s.size := by omega
              rw [List.take_of_length_le (by have := HSL.out; omega)] at hr
              rw [← HNF.out, Nat.sub_self, List.replicate_zero, List.append_nil] at hr
              have hst := hr.str (P := Tryd.prog) (src := 28) (dst := 9) Tryd.underlying28 Tryd.underlying5 Tryd.underlying9 (n := n) (cap := n) HNF.out.symm
              clear hr hr0
              go_wp2
              go_ret
              exact ⟨rfl, below_on hb hb.size (HG.out ▸ hbx)⟩
  · have hT0 := hT
    obtain ⟨cs, tv, t1, t2, t3, t4, t5, t6⟩ := hT
    obtain ⟨t, cap, rfl, hcap⟩ := own_some (n := 2) t4
    have c256 : w.cell? ⟨B, 256, none⟩ = some (.slice (some ⟨t, 0, none⟩) 3 cap) := by rw [cell_of_row w _ 256 _ _ _ t1]; exact t3
    clear t1 t2 t3 t4 t5 t6
    have hq24 : decide (24 ≤ (s.size : Int)) = false := decide_eq_false (by omega)
    go_enter Tryd.func98, Tryd.ntmps98
    go_wp2
    go_loopw [5, 6, 10, 11] (fun n a i _ wr => ∃ (k : Nat) (c : Nat), k ≤ s.size ∧ i = .int .i64 k ∧ Hid (c = dropN (s.data.toList.take k)) ∧ c ≤ s.size ∧ n = .int .i64 ((s.size : Int) - c) ∧ a = .bool (decide (0 < c)) ∧ Below w.heap.size w wr) (fun _ _ i _ _ => s.size - (intOf i).toNat)
    case atStart => exact ⟨0, 0, by omega, rfl, rfl, by omega, by simp, rfl, Below.refl _ _⟩
    case round =>
      obtain ⟨k, c, hk3, rfl, hcK, hcs, rfl, rfl, hb⟩ := hrel
      by_cases hlt : k < s.size
      · obtain ⟨x, hx⟩ : ∃ x, s.data.toList[k]? = some x := ⟨_, List.getElem?_eq_getElem (by have := HSL.out; omega)⟩
        have hgx : s[k]'hlt = x := by have := (List.getElem?_eq_some_iff.1 hx).2; rw [← this]; rfl
        have htk : s.data.toList.take (k + 1) = s.data.toList.take k ++ [x] := by rw [List.take_add_one, hx]; rfl
        have hle : dropN (s.data.toList.take (k + 1)) ≤ s.size := by
          have h1 := keep_len (s.data.toList.take (k + 1))
          have h2 := HSL.out
          rw [List.length_take] at h1; omega
        have hds : dropN (s.data.toList.take (k + 1)) = c + (if keepC x = true then 0 else 1) := by rw [htk, dropN_snoc, hcK.out]
        have hTx := hT0.below hb
        obtain ⟨cs, tv, t1, _, _, _, _, t6⟩ := hTx
        obtain ⟨v, hv, hv1, hv2⟩ := t6 x
        rw [← cell_of_row wr _ x.toNat _ _ _ t1] at hv
        have x256 : (x.toNat : Int) < 256 := by have := x.toNat_lt; omega
        rw [hds] at hle
        have HDS := Lib.hid hds
        clear hx htk t6 t1 hds
        cases hkx : keepC x with
        | true =>
          have := hv2 (fun h => by rw [(keep_iff x).2 h] at hkx; cases hkx)
          subst this
          have HDS2 : Hid (c = dropN (s.data.toList.take (k + 1))) := by show _ = _; rw [HDS.out, hkx, if_pos rfl]; exact (Nat.add_zero _).symm
          clear hkx hv1 hv2 hle
          go_wp2
          exact ⟨⟨k + 1, c, by omega, by go_num, HDS2, hcs, rfl, rfl, hb⟩, by simp [intOf]; omega⟩
        | false =>
          obtain ⟨gx, capx, rfl⟩ := hv1 ((keep_iff x).1 hkx)
          have HDS2 : Hid (c + 1 = dropN (s.data.toList.take (k + 1))) := by show _ = _; rw [HDS.out, hkx]; simp
          rw [hkx] at hle
          have hle2 : c + 1 ≤ s.size := by simpa using hle
          have hd : decide (0 < c + 1) = true := decide_eq_true (by omega)
          have HD := Lib.hid hd
          clear hkx hv1 hv2 hle hd
          go_wp2
          exact ⟨⟨k + 1, c + 1, by omega, by go_num, HDS2, hle2, by go_num, by rw [HD.out], hb⟩, by simp [intOf]; omega⟩
      · obtain rfl : k = s.size := by omega
        have hcd : c = dropN s.data.toList := by rw [hcK.out, List.take_of_length_le (by have := HSL.out; omega)]
        have HCD := Lib.hid hcd
        have hn : ((s.data.toList.filter keepC).length : Int) = (s.size : Int) - c := by have := HK.out; have := HSL.out; omega
        have HN := Lib.hid hn
        have hTr := hT0.below hb
        clear hcK hcd hn c256
        by_cases hc0 : c = 0
        · have hq0 : decide (0 < c) = false := decide_eq_false (by omega)
          have hfin : Hid (s.data.toList.filter keepC = s.data.toList) := keep_all (by rw [← HCD.out, hc0])
          rw [hq0]
          clear hc0 HN HCD
          go_wp2
          go_ret
          exact ⟨by rw [hfin.out, of_toList]; rfl, hb⟩
        · have hq0 : decide (0 < c) = true := decide_eq_true (by omega)
          rw [hq0, ← HN.out]
          clear hq0 HN HCD hc0
          obtain ⟨wy, rfl⟩ : ∃ wy, wy = wr := ⟨_, rfl⟩
          obtain ⟨n, hnF⟩ : ∃ n, n = (s.data.toList.filter keepC).length := ⟨_, rfl⟩
          have hmk := run_make_row' (P := Tryd.prog) 28 5 (.int .u8 0) 1 Tryd.underlying28 infoU8 rfl .i64 .i64 n (by omega) (by omega)
          simp only [madeZero] at hmk
          rw [← hnF] at hkl ⊢
          have HNF := Lib.hid hnF
          clear hnF
          go_wp2
          obtain ⟨W0, hW0⟩ : ∃ W0, W0 = wy.alloc (.cells (u8s (List.replicate n 0)).toArray 5) := ⟨_, rfl⟩
          have hr0 : ByteRow W0 wy.heap.size 5 (List.replicate n 0) := by rw [hW0]; exact heap_alloc_new wy _
          have hb0 : Below wy.heap.size wy W0 := by rw [hW0]; exact (Below.refl _ _).alloc (Nat.le_refl _) _
          rw [← hW0]
          clear hW0 hmk
          obtain ⟨g, hg⟩ : ∃ g, wy.heap.size = g := ⟨_, rfl⟩
          rw [hg] at hr0 hb0 ⊢
          have hBg : B < g := by rw [← hg]; exact hTr.lt
          have HG := Lib.hid hg
          clear hg
          go_loopw [13, 14, 15] (fun j i _ wx => ∃ k : Nat, k ≤ s.size ∧ i = .int .i64 k ∧ j = .int .i64 ((s.data.toList.take k).filter keepC).length ∧ ByteRow wx g 5 ((s.data.toList.take k).filter keepC ++ List.replicate (n - ((s.data.toList.take k).filter keepC).length) 0) ∧ Below g wy wx) (fun _ i _ _ => s.size - (intOf i).toNat)
          case atStart => exact ⟨0, by omega, rfl, rfl, hr0, hb0⟩
          case round =>
            obtain ⟨k, hk, rfl, rfl, hr, hbx⟩ := hrel
            by_cases hks : k < s.size
            · obtain ⟨x, hx⟩ : ∃ x, s.data.toList[k]? = some x := ⟨_, List.getElem?_eq_getElem (by have := HSL.out; omega)⟩
              have hgx : s[k]'hks = x := by have := (List.getElem?_eq_some_iff.1 hx).2; rw [← this]; rfl
              have htk : s.data.toList.take (k + 1) = s.data.toList.take k ++ [x] := by rw [List.take_add_one, hx]; rfl
              have hln : ((s.data.toList.take (k + 1)).filter keepC).length ≤ n := by rw [HNF.out]; exact ((List.take_sublist _ _).filter keepC).length_le
              have hTx := hTr.below (HG.out ▸ hbx)
              obtain ⟨cs, tv, t1, _, _, _, _, t6⟩ := hTx
              obtain ⟨v, hv, hv1, hv2⟩ := t6 x
              rw [← cell_of_row wr _ x.toNat _ _ _ t1] at hv
              rw [htk, keep_snoc] at hln
              have HTK := Lib.hid htk
              have x256 : (x.toNat : Int) < 256 := by have := x.toNat_lt; omega
              clear hx htk t6 t1 hr0 hb0
              cases hkx : keepC x with
              | true =>
                have := hv2 (fun h => by rw [(keep_iff x).2 h] at hkx; cases hkx)
                subst this
                rw [hkx, if_pos rfl, List.length_append] at hln
                have HTK2 : Hid ((s.data.toList.take (k + 1)).filter keepC = (s.data.toList.take k).filter keepC ++ [x]) := by show _ = _; rw [HTK.out, keep_snoc, hkx, if_pos rfl]
                generalize (s.data.toList.take k).filter keepC = F at *
                have hln' : F.length < n := by simp at hln; omega
                have hlt : F.length < (F ++ List.replicate (n - F.length) 0).length := by simp; omega
                have hcell := hr.cell hlt
                have hfree := hr.free F.length
                have hset := hr.set F.length x
                have hst : (F ++ List.replicate (n - F.length) 0).set F.length x = (F ++ [x]) ++ List.replicate (n - (F ++ [x]).length) 0 := by
                  rw [List.set_append_right _ _ (Nat.le_refl _), Nat.sub_self, show n - F.length = (n - (F ++ [x]).length) + 1 by simp; omega, List.replicate_succ, List.set_cons_zero]
                  simp
                rw [hst] at hset
                have hbs : ∀ v, Below g wy (wr.setCell ⟨g, F.length, none⟩ v) := fun v => hbx.setCell (p := ⟨g, F.length, none⟩) (Nat.le_refl _) v
                have HS := Lib.hid hset
                have HB := Lib.hid hbs
                clear hset hbs hst hr hkx hv1 hv2
                go_wp2
                exact ⟨⟨k + 1, by omega, by go_num, by rw [HTK2.out]; simp, by rw [HTK2.out]; exact HS.out, HB.out _⟩, by simp [intOf]; omega⟩
              | false =>
                obtain ⟨gx, capx, rfl⟩ := hv1 ((keep_iff x).1 hkx)
                rw [hkx] at hln
                have HTK2 : Hid ((s.data.toList.take (k + 1)).filter keepC = (s.data.toList.take k).filter keepC) := by show _ = _; rw [HTK.out, keep_snoc, hkx]; simp
                generalize (s.data.toList.take k).filter keepC = F at *
                have hln' : F.length ≤ n := by simpa using hln
                obtain ⟨z, hsl⟩ := slice_from g n F.length hln'
                have hcp := fun w t => copy_nothing w ⟨g, z, none⟩ ⟨gx, 0, none⟩ (n - F.length) (n - F.length) capx t
                have hF0 : (0 : Int) ≤ F.length := by omega
                have hFn : (F.length : Int) ≤ n := by omega
                have w1e : IntKind.i64.wrap ((F.length : Int) + 0) = F.length := by rw [IntKind.wrap_i64]; omega
                clear hkx hv1 hv2
                go_wp2
                go_big_region
                go_wp2
                exact ⟨⟨k + 1, by omega, by go_num, by rw [HTK2.out], by rw [HTK2.out]; exact hr, hbx.drew⟩, by simp [intOf]; omega⟩
            · obtain rfl : k = s.size := by omega
              rw [List.take_of_length_le (by have := HSL.out; omega)] at hr
              rw [← HNF.out, Nat.sub_self, List.replicate_zero, List.append_nil] at hr
              have hst := hr.str (P := Tryd.prog) (src := 28) (dst := 9) Tryd.underlying28 Tryd.underlying5 Tryd.underlying9 (n := n) (cap := n) HNF.out.symm
              clear hr hr0
              go_wp2
              go_ret
              exact ⟨rfl, below_on hb hb.size (HG.out ▸ hbx)⟩

end Go.Proofs.YtcfbmeljjmhdpaaDoor
