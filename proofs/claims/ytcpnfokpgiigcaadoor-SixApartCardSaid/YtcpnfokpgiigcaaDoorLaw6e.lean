/- The law SixApart, walked over the contracts. -/
import Derived.Test.YtcpnfokpgiigcaaDoorLaw6
import Derived.Test.YtcpnfokpgiigcaaDoorSixC
import Derived.Test.YtcpnfokpgiigcaaDoorCard8
import Derived.Test.YtcpnfokpgiigcaaDoorByteBlk
import Derived.Deep.RegionHeld3
namespace Go.Proofs.YtcpnfokpgiigcaaDoor
open Go.RowKit Go.Proofs.YtcpnfokpgiigcaaDoorW.PrintWords

theorem upC_wrap : ∀ n : Nat, n < 256 → 97 ≤ n → n ≤ 102 → IntKind.u8.wrap ((n : Int) - 32) = ((upC (UInt8.ofNat n)).toNat : Int) := by decide +kernel
theorem upC_small {c : UInt8} (h : ¬ (97 ≤ c.toNat ∧ c.toNat ≤ 102)) : upC c = c := by
  unfold upC; rw [if_neg]; intro h'; exact h ⟨UInt8.le_iff_toNat_le.1 h'.1, UInt8.le_iff_toNat_le.1 h'.2⟩
theorem upC_step {l : List UInt8} {k : Nat} {c : UInt8} (h : l[k]? = some c) : ((l.take k).map upC ++ l.drop k).set k (upC c) = (l.take (k + 1)).map upC ++ l.drop (k + 1) := by
  obtain ⟨h1, h2⟩ := List.getElem?_eq_some_iff.1 h
  rw [List.set_append_right _ _ (by simp; omega), List.drop_eq_getElem_cons h1, h2, List.take_add_one, h]
  have : k - ((l.take k).map upC).length = 0 := by simp; omega
  rw [this]; simp
theorem upC_same {l : List UInt8} {k : Nat} {c : UInt8} (h : l[k]? = some c) (hc : upC c = c) : (l.take k).map upC ++ l.drop k = (l.take (k + 1)).map upC ++ l.drop (k + 1) := by
  obtain ⟨h1, h2⟩ := List.getElem?_eq_some_iff.1 h
  rw [List.drop_eq_getElem_cons h1, h2, List.take_add_one, h]; simp [hc]
theorem upC_at {l : List UInt8} {k : Nat} {c : UInt8} (h : l[k]? = some c) : ((l.take k).map upC ++ l.drop k)[k]? = some c := by
  obtain ⟨h1, h2⟩ := List.getElem?_eq_some_iff.1 h
  rw [List.getElem?_append_right (by simp; omega)]
  have : k - ((l.take k).map upC).length = 0 := by simp; omega
  rw [this, List.getElem?_drop]; simpa using h
theorem oParse6S {w : World} (hG : Good w) (l : List UInt8) (hl : l.length ≤ 1000000) : Calls Tryd.prog 26 #[.string ⟨l.toArray⟩] w fun e w' => e = .returned (.tuple #[.agg (ints (casts (parseSix l).1)).toArray, .bool (parseSix l).2]) ∧ Ok w w' := oParse6 (Ok.refl hG) ⟨l.toArray⟩ hl

set_option maxHeartbeats 4000000 in
set_option maxRecDepth 100000 in
theorem sixApart_same (x0 x1 x2 x3 x4 x5 x6 x7 : Int) (s : ByteArray) (hp : mayB [x0, x1, x2, x3, x4, x5, x6, x7] = true) (hl : s.size ≤ 300) (w : World) (hG : Good w) :
    Calls Tryd.prog 10 #[.agg (ints [x0, x1, x2, x3, x4, x5, x6, x7]).toArray, .agg (ints [x0, x1, x2, x3, x4, x5, x6, x7]).toArray, .string s] w fun e w' => e = .returned (.bool true) ∧ Below w.heap.size w w' := by
  have hk0 : Ok w ((w.alloc (.cells (ints [x0, x1, x2, x3, x4, x5, x6, x7]).toArray 33)).alloc (.cells (ints [x0, x1, x2, x3, x4, x5, x6, x7]).toArray 33)) := ((Ok.refl hG).alloc _).alloc _
  have rP0 := (IntRow.new w 33 [x0, x1, x2, x3, x4, x5, x6, x7]).alloc (.cells (ints [x0, x1, x2, x3, x4, x5, x6, x7]).toArray 33)
  have rQ0 := IntRow.new (w.alloc (.cells (ints [x0, x1, x2, x3, x4, x5, x6, x7]).toArray 33)) 33 [x0, x1, x2, x3, x4, x5, x6, x7]
  rw [World.size_alloc] at rQ0
  have hlen : s.data.toList.length = s.size := by rw [Array.length_toList]; rfl
  have hld : decide ((300 : Int) < s.size) = false := by simp; omega
  have cM := fun {w : World} (hG : Good w) => oMay6 (Ok.refl hG) [x0, x1, x2, x3, x4, x5, x6, x7] rfl
  rw [hp] at cM
  have cN := fun {w : World} (hG : Good w) => oMay6 (Ok.refl hG) [x0, x1, x2, x3, x4, x5, x6, x7] rfl
  rw [hp] at cN
  have cA := fun {w : World} (hG : Good w) => oParse6 (Ok.refl hG) s (by omega)
  have cB := fun {w : World} (hG : Good w) => oParse6S hG (s.data.toList.map upC) (by rw [List.length_map]; omega)
  simp only [upC_parse] at cB
  obtain ⟨a, ha⟩ : ∃ a : List Int, casts (parseSix s.data.toList).1 = a := ⟨_, rfl⟩
  have a8 : a.length = 8 := by rw [← ha, casts_length, parseSix_len]
  obtain ⟨y0, y1, y2, y3, y4, y5, y6, y7, rfl⟩ := list8 a a8
  obtain ⟨is, his⟩ : ∃ is : Bool, (parseSix s.data.toList).2 = is := ⟨_, rfl⟩
  simp only [ha, his] at cA cB
  clear ha his a8 hp
  go_enter Tryd.func10, Tryd.ntmps10
  go_wp2_with fail
  refine (awake6 (Ok.refl hk0.good)).mono ?_
  rintro e w1 ⟨rfl, hm1⟩
  have hk1 := hk0.step hm1.below
  have rP1 := rP0.below hm1.below rP0.lt
  have rQ1 := rQ0.below hm1.below rQ0.lt
  clear rP0 rQ0
  clear hm1
  go_wp2_with (first
      | (refine wpList_load_row_g (by rfl) 33 _ rfl _ rfl 33 (ints [x0, x1, x2, x3, x4, x5, x6, x7]).toArray (0, 0) _ rP1 Tryd.underlying33 rfl (sz8 rfl) ?_)
      | (refine wpList_load_row_g (by rfl) 33 _ rfl _ rfl 33 (ints [x0, x1, x2, x3, x4, x5, x6, x7]).toArray (0, 0) _ rQ1 Tryd.underlying33 rfl (sz8 rfl) ?_))
  refine (cM hk1.good).mono ?_
  rintro e w2 ⟨rfl, hm2⟩
  have hk2 := hk1.step hm2.below
  have rP2 := rP1.below hm2.below rP1.lt
  have rQ2 := rQ1.below hm2.below rQ1.lt
  clear rP1 rQ1
  clear hm2
  go_wp2_with (first
      | (refine wpList_load_row_g (by rfl) 33 _ rfl _ rfl 33 (ints [x0, x1, x2, x3, x4, x5, x6, x7]).toArray (0, 0) _ rP2 Tryd.underlying33 rfl (sz8 rfl) ?_)
      | (refine wpList_load_row_g (by rfl) 33 _ rfl _ rfl 33 (ints [x0, x1, x2, x3, x4, x5, x6, x7]).toArray (0, 0) _ rQ2 Tryd.underlying33 rfl (sz8 rfl) ?_))
  refine (cN hk2.good).mono ?_
  rintro e w3 ⟨rfl, hm3⟩
  have hk3 := hk2.step hm3.below
  have rP3 := rP2.below hm3.below rP2.lt
  have rQ3 := rQ2.below hm3.below rQ2.lt
  clear rP2 rQ2
  clear hm3
  have rQ3lt := rQ3.lt
  obtain ⟨cap, w4, hcv, hB4, hb4⟩ := ByteBlk.made (P := Tryd.prog) w3 9 41 5 s Tryd.underlying9 Tryd.underlying41 Tryd.underlying5
  have hk4 := hk3.step hb4
  have rP4 := rP3.below hb4 rP3.lt
  have rQ4 := rQ3.below hb4 rQ3.lt
  clear rP3 rQ3
  clear hb4
  have hB4lt := hB4.lt
  obtain ⟨g, hg⟩ : ∃ g, w3.heap.size = g := ⟨_, rfl⟩
  rw [hg] at hB4 hcv hB4lt
  have hgw : w.heap.size ≤ g := by rw [← hg]; exact hk3.below.size
  have hgP : w.heap.size ≠ g ∧ w.heap.size + 1 ≠ g := by
    have h1 := rQ3lt; have h2 := hg; omega
  go_wp2
  go_loopw [9] (fun i wr => ∃ k : Nat, k ≤ s.size ∧ i = .int .i64 k ∧ ByteBlk wr g 5 ((s.data.toList.take k).map upC ++ s.data.toList.drop k) ∧ IntRow wr w.heap.size 33 [x0, x1, x2, x3, x4, x5, x6, x7] ∧ IntRow wr (w.heap.size + 1) 33 [x0, x1, x2, x3, x4, x5, x6, x7] ∧ Ok w wr) (fun i _ => s.size - (intOf i).toNat)
  case atStart => exact ⟨0, by omega, rfl, by simpa using hB4, rP4, rQ4, hk4⟩
  case round =>
    obtain ⟨w5, rfl⟩ : ∃ w5, w5 = wr := ⟨_, rfl⟩
    obtain ⟨k, hk, rfl, hB5, rP5, rQ5, hk5⟩ := hrel
    clear hB4 rP4 rQ4 hk4 hcv
    by_cases hks : k < s.size
    · obtain ⟨c, hc⟩ : ∃ c, s.data.toList[k]? = some c := ⟨_, List.getElem?_eq_getElem (by omega)⟩
      have hlk : k < ((s.data.toList.take k).map upC ++ s.data.toList.drop k).length := by simp; omega
      have hcell := hB5.cell (upC_at hc)
      have hfree := hB5.free hlk
      have hset := hB5.set hlk (upC c)
      rw [upC_step hc] at hset
      have hb6 : ∀ v, Below w.heap.size w (w5.setCell ⟨g, k, none⟩ v) := fun v => hk5.below.grown (grown_setCell _ _ _) hk5.below.size (fun k hk => by cases hk; exact hgw)
      have hcc := Lib.hid (upC_same hc)
      have HC := Lib.hid hc
      clear hc cA cB cM cN
      have c256 := c.toNat_lt
      by_cases h1 : 97 ≤ c.toNat
      · by_cases h2 : c.toNat ≤ 102
        · have hw := upC_wrap c.toNat c256 h1 h2
          rw [UInt8.ofNat_toNat] at hw
          go_wp2
          refine ⟨⟨k + 1, by omega, by go_num, hset, rP5.other _ hgP.1 _, rQ5.other _ hgP.2 _, ⟨hb6 _, ?_⟩⟩, by simp [intOf]; omega⟩
          exact hG.below (hb6 _)
        · go_wp2
          refine ⟨⟨k + 1, by omega, by go_num, by rw [← hcc.out (upC_small (by omega))]; exact hB5, rP5, rQ5, hk5⟩, by simp [intOf]; omega⟩
      · go_wp2
        refine ⟨⟨k + 1, by omega, by go_num, by rw [← hcc.out (upC_small (by omega))]; exact hB5, rP5, rQ5, hk5⟩, by simp [intOf]; omega⟩
    · obtain rfl : k = s.size := by omega
      rw [List.take_of_length_le (by omega), List.drop_eq_nil_of_le (by omega), List.append_nil] at hB5
      go_wp2_with fail
      refine (cA hk5.good).mono ?_
      rintro e w6 ⟨rfl, hm6⟩
      have hk6 := hk5.step hm6.below
      have rP6 := rP5.below hm6.below rP5.lt
      have rQ6 := rQ5.below hm6.below rQ5.lt
      clear rP5 rQ5
      have hbb6 := hm6.below
      clear hm6
      have hB6 := hB5.below (w' := w6) (B := w5.heap.size) hbb6 hB5.lt
      clear hB5
      have hp6 := IntRow.new w6 33 zer
      have hb6 := below_setRow ((Below.refl w6.heap.size w6).alloc (Nat.le_refl _) (.cells (ints zer).toArray 33)) (Nat.le_refl _) (ints [y0, y1, y2, y3, y4, y5, y6, y7]).toArray
      have hb6' := hb6
      have hn6 := hp6.put [y0, y1, y2, y3, y4, y5, y6, y7]
      have hk7 := hk6.step hb6
      have rP7 := rP6.below hb6 rP6.lt
      have rQ7 := rQ6.below hb6 rQ6.lt
      clear rP6 rQ6
      have rA7 := hn6
      have hB7 := hB6.below hb6' hB6.lt
      have hconv : (convert 41 9 (.slice (some ⟨g, 0, none⟩) s.size cap)).run Tryd.prog ((w6.alloc (.cells #[.int .i64 0, .int .i64 0, .int .i64 0, .int .i64 0, .int .i64 0, .int .i64 0, .int .i64 0, .int .i64 0] 33)).setRow w6.heap.size (ints [y0, y1, y2, y3, y4, y5, y6, y7]).toArray) = .ok (.string ⟨(s.data.toList.map upC).toArray⟩) ((w6.alloc (.cells #[.int .i64 0, .int .i64 0, .int .i64 0, .int .i64 0, .int .i64 0, .int .i64 0, .int .i64 0, .int .i64 0] 33)).setRow w6.heap.size (ints [y0, y1, y2, y3, y4, y5, y6, y7]).toArray) := hB7.str (P := Tryd.prog) (src := 41) (dst := 9) Tryd.underlying41 Tryd.underlying5 Tryd.underlying9 (n := s.size) (cap := cap) (by rw [List.length_map]; exact hlen)
      go_wp2_with (first
          | (refine wpList_store_row rfl 33 _ _ rfl w6.heap.size (ints [y0, y1, y2, y3, y4, y5, y6, y7]).toArray (by rfl) (by rfl) 33 (ints zer).toArray hp6 (sz8 rfl) (old8 rfl) (ints_one _) ?_))
      refine (cB hk7.good).mono ?_
      rintro e w8 ⟨rfl, hm8⟩
      have hk8 := hk7.step hm8.below
      have rP8 := rP7.below hm8.below rP7.lt
      have rQ8 := rQ7.below hm8.below rQ7.lt
      have rA8 := rA7.below hm8.below rA7.lt
      clear rP7 rQ7 rA7
      clear hm8
      have hp8 := IntRow.new w8 33 zer
      have hb8 := below_setRow ((Below.refl w8.heap.size w8).alloc (Nat.le_refl _) (.cells (ints zer).toArray 33)) (Nat.le_refl _) (ints [y0, y1, y2, y3, y4, y5, y6, y7]).toArray
      have hn8 := hp8.put [y0, y1, y2, y3, y4, y5, y6, y7]
      have hk9 := hk8.step hb8
      have rP9 := rP8.below hb8 rP8.lt
      have rQ9 := rQ8.below hb8 rQ8.lt
      have rA9 := rA8.below hb8 rA8.lt
      clear rP8 rQ8 rA8
      have rB9 := hn8
      have heq : ∀ w : World, (Op.equalIn 10000 33 (.agg #[.int .i64 y0, .int .i64 y1, .int .i64 y2, .int .i64 y3, .int .i64 y4, .int .i64 y5, .int .i64 y6, .int .i64 y7]) (.agg #[.int .i64 y0, .int .i64 y1, .int .i64 y2, .int .i64 y3, .int .i64 y4, .int .i64 y5, .int .i64 y6, .int .i64 y7])).run Tryd.prog w = .ok true w := fun w => (eq8 (p := [y0, y1, y2, y3, y4, y5, y6, y7]) (q := [y0, y1, y2, y3, y4, y5, y6, y7]) rfl rfl w).trans (by rw [beq_self_eq_true])
      have hpq : ∀ w : World, (Op.equalIn 10000 33 (.agg #[.int .i64 x0, .int .i64 x1, .int .i64 x2, .int .i64 x3, .int .i64 x4, .int .i64 x5, .int .i64 x6, .int .i64 x7]) (.agg #[.int .i64 x0, .int .i64 x1, .int .i64 x2, .int .i64 x3, .int .i64 x4, .int .i64 x5, .int .i64 x6, .int .i64 x7])).run Tryd.prog w = .ok true w := fun w => (eq8 (p := [x0, x1, x2, x3, x4, x5, x6, x7]) (q := [x0, x1, x2, x3, x4, x5, x6, x7]) rfl rfl w).trans (by rw [beq_self_eq_true])
      obtain ⟨w9, hw9⟩ : ∃ w9, w9 = ((w8.alloc (.cells #[.int .i64 0, .int .i64 0, .int .i64 0, .int .i64 0, .int .i64 0, .int .i64 0, .int .i64 0, .int .i64 0] 33)).setRow w8.heap.size (ints [y0, y1, y2, y3, y4, y5, y6, y7]).toArray) := ⟨_, rfl⟩
      clear cA cB cM cN hconv hB7
      go_wp2_with (first
          | (refine wpList_store_row rfl 33 _ _ rfl w8.heap.size (ints [y0, y1, y2, y3, y4, y5, y6, y7]).toArray (by rfl) (by rfl) 33 (ints zer).toArray hp8 (sz8 rfl) (old8 rfl) (ints_one _) ?_))
      rw [← hw9]
      have qP9 : IntRow w9 w.heap.size 33 [x0, x1, x2, x3, x4, x5, x6, x7] := by rw [hw9]; exact rP9
      have qQ9 : IntRow w9 (w.heap.size + 1) 33 [x0, x1, x2, x3, x4, x5, x6, x7] := by rw [hw9]; exact rQ9
      have qA9 : IntRow w9 w6.heap.size 33 [y0, y1, y2, y3, y4, y5, y6, y7] := by rw [hw9]; exact rA9
      have qB9 : IntRow w9 w8.heap.size 33 [y0, y1, y2, y3, y4, y5, y6, y7] := by rw [hw9]; exact rB9
      have hk10 : Ok w w9 := by rw [hw9]; exact hk9
      clear rP9 rQ9 rA9 rB9 hk9 hw9 hp8 hn8 hb8
      have hfin : ∀ w', Ok w9 w' → Below w.heap.size w w' := fun w' h => (hk10.step h.below).below
      have hmk : ∀ w', Ok w9 w' → Ok w9 w' ∧ w'.cell? ⟨w.heap.size, 0, none⟩ = some (.int .i64 x0) ∧ w'.cell? ⟨w.heap.size, 1, none⟩ = some (.int .i64 x1) ∧ w'.cell? ⟨w.heap.size, 2, none⟩ = some (.int .i64 x2) ∧ w'.cell? ⟨w.heap.size, 3, none⟩ = some (.int .i64 x3) ∧ w'.cell? ⟨w.heap.size, 4, none⟩ = some (.int .i64 x4) ∧ w'.cell? ⟨w.heap.size, 5, none⟩ = some (.int .i64 x5) ∧ w'.cell? ⟨w.heap.size, 6, none⟩ = some (.int .i64 x6) ∧ w'.cell? ⟨w.heap.size, 7, none⟩ = some (.int .i64 x7) ∧ w'.cell? ⟨(w.heap.size + 1), 0, none⟩ = some (.int .i64 x0) ∧ w'.cell? ⟨(w.heap.size + 1), 1, none⟩ = some (.int .i64 x1) ∧ w'.cell? ⟨(w.heap.size + 1), 2, none⟩ = some (.int .i64 x2) ∧ w'.cell? ⟨(w.heap.size + 1), 3, none⟩ = some (.int .i64 x3) ∧ w'.cell? ⟨(w.heap.size + 1), 4, none⟩ = some (.int .i64 x4) ∧ w'.cell? ⟨(w.heap.size + 1), 5, none⟩ = some (.int .i64 x5) ∧ w'.cell? ⟨(w.heap.size + 1), 6, none⟩ = some (.int .i64 x6) ∧ w'.cell? ⟨(w.heap.size + 1), 7, none⟩ = some (.int .i64 x7) ∧ w'.cell? ⟨w6.heap.size, 0, none⟩ = some (.int .i64 y0) ∧ w'.cell? ⟨w6.heap.size, 1, none⟩ = some (.int .i64 y1) ∧ w'.cell? ⟨w6.heap.size, 2, none⟩ = some (.int .i64 y2) ∧ w'.cell? ⟨w6.heap.size, 3, none⟩ = some (.int .i64 y3) ∧ w'.cell? ⟨w6.heap.size, 4, none⟩ = some (.int .i64 y4) ∧ w'.cell? ⟨w6.heap.size, 5, none⟩ = some (.int .i64 y5) ∧ w'.cell? ⟨w6.heap.size, 6, none⟩ = some (.int .i64 y6) ∧ w'.cell? ⟨w6.heap.size, 7, none⟩ = some (.int .i64 y7) ∧ w'.cell? ⟨w8.heap.size, 0, none⟩ = some (.int .i64 y0) ∧ w'.cell? ⟨w8.heap.size, 1, none⟩ = some (.int .i64 y1) ∧ w'.cell? ⟨w8.heap.size, 2, none⟩ = some (.int .i64 y2) ∧ w'.cell? ⟨w8.heap.size, 3, none⟩ = some (.int .i64 y3) ∧ w'.cell? ⟨w8.heap.size, 4, none⟩ = some (.int .i64 y4) ∧ w'.cell? ⟨w8.heap.size, 5, none⟩ = some (.int .i64 y5) ∧ w'.cell? ⟨w8.heap.size, 6, none⟩ = some (.int .i64 y6) ∧ w'.cell? ⟨w8.heap.size, 7, none⟩ = some (.int .i64 y7) := by
        intro w' h
        obtain ⟨cP0, cP1, cP2, cP3, cP4, cP5, cP6, cP7⟩ := (qP9.below h.below qP9.lt).eight
        obtain ⟨cQ0, cQ1, cQ2, cQ3, cQ4, cQ5, cQ6, cQ7⟩ := (qQ9.below h.below qQ9.lt).eight
        obtain ⟨cA0, cA1, cA2, cA3, cA4, cA5, cA6, cA7⟩ := (qA9.below h.below qA9.lt).eight
        obtain ⟨cB0, cB1, cB2, cB3, cB4, cB5, cB6, cB7⟩ := (qB9.below h.below qB9.lt).eight
        exact ⟨h, cP0, cP1, cP2, cP3, cP4, cP5, cP6, cP7, cQ0, cQ1, cQ2, cQ3, cQ4, cQ5, cQ6, cQ7, cA0, cA1, cA2, cA3, cA4, cA5, cA6, cA7, cB0, cB1, cB2, cB3, cB4, cB5, cB6, cB7⟩
      have hkd := (Ok.refl hk10.good).drew
      go_region_held3 (fun w' => Ok w9 w' ∧ w'.cell? ⟨w.heap.size, 0, none⟩ = some (.int .i64 x0) ∧ w'.cell? ⟨w.heap.size, 1, none⟩ = some (.int .i64 x1) ∧ w'.cell? ⟨w.heap.size, 2, none⟩ = some (.int .i64 x2) ∧ w'.cell? ⟨w.heap.size, 3, none⟩ = some (.int .i64 x3) ∧ w'.cell? ⟨w.heap.size, 4, none⟩ = some (.int .i64 x4) ∧ w'.cell? ⟨w.heap.size, 5, none⟩ = some (.int .i64 x5) ∧ w'.cell? ⟨w.heap.size, 6, none⟩ = some (.int .i64 x6) ∧ w'.cell? ⟨w.heap.size, 7, none⟩ = some (.int .i64 x7) ∧ w'.cell? ⟨(w.heap.size + 1), 0, none⟩ = some (.int .i64 x0) ∧ w'.cell? ⟨(w.heap.size + 1), 1, none⟩ = some (.int .i64 x1) ∧ w'.cell? ⟨(w.heap.size + 1), 2, none⟩ = some (.int .i64 x2) ∧ w'.cell? ⟨(w.heap.size + 1), 3, none⟩ = some (.int .i64 x3) ∧ w'.cell? ⟨(w.heap.size + 1), 4, none⟩ = some (.int .i64 x4) ∧ w'.cell? ⟨(w.heap.size + 1), 5, none⟩ = some (.int .i64 x5) ∧ w'.cell? ⟨(w.heap.size + 1), 6, none⟩ = some (.int .i64 x6) ∧ w'.cell? ⟨(w.heap.size + 1), 7, none⟩ = some (.int .i64 x7) ∧ w'.cell? ⟨w6.heap.size, 0, none⟩ = some (.int .i64 y0) ∧ w'.cell? ⟨w6.heap.size, 1, none⟩ = some (.int .i64 y1) ∧ w'.cell? ⟨w6.heap.size, 2, none⟩ = some (.int .i64 y2) ∧ w'.cell? ⟨w6.heap.size, 3, none⟩ = some (.int .i64 y3) ∧ w'.cell? ⟨w6.heap.size, 4, none⟩ = some (.int .i64 y4) ∧ w'.cell? ⟨w6.heap.size, 5, none⟩ = some (.int .i64 y5) ∧ w'.cell? ⟨w6.heap.size, 6, none⟩ = some (.int .i64 y6) ∧ w'.cell? ⟨w6.heap.size, 7, none⟩ = some (.int .i64 y7) ∧ w'.cell? ⟨w8.heap.size, 0, none⟩ = some (.int .i64 y0) ∧ w'.cell? ⟨w8.heap.size, 1, none⟩ = some (.int .i64 y1) ∧ w'.cell? ⟨w8.heap.size, 2, none⟩ = some (.int .i64 y2) ∧ w'.cell? ⟨w8.heap.size, 3, none⟩ = some (.int .i64 y3) ∧ w'.cell? ⟨w8.heap.size, 4, none⟩ = some (.int .i64 y4) ∧ w'.cell? ⟨w8.heap.size, 5, none⟩ = some (.int .i64 y5) ∧ w'.cell? ⟨w8.heap.size, 6, none⟩ = some (.int .i64 y6) ∧ w'.cell? ⟨w8.heap.size, 7, none⟩ = some (.int .i64 y7)) (exact hmk _ (by assumption)) (first
        | (go_simp; go_at_call_of 32 x0; refine (oShow6 (w0 := w9) ?_ [x0, x1, x2, x3, x4, x5, x6, x7] rfl).mono ?_; (exact And.left (by assumption)); rintro e wm ⟨rfl, hmm⟩))
      all_goals (go_wp2; go_ret; exact ⟨rfl, hfin _ (And.left (by assumption))⟩)
      
set_option maxHeartbeats 4000000 in
set_option maxRecDepth 100000 in
theorem sixApart_diff (x0 x1 x2 x3 x4 x5 x6 x7 z0 z1 z2 z3 z4 z5 z6 z7 : Int) (s : ByteArray) (hp : mayB [x0, x1, x2, x3, x4, x5, x6, x7] = true) (hq : mayB [z0, z1, z2, z3, z4, z5, z6, z7] = true) (hne : ¬ showSix [x0, x1, x2, x3, x4, x5, x6, x7] = showSix [z0, z1, z2, z3, z4, z5, z6, z7]) (hl : s.size ≤ 300) (w : World) (hG : Good w) :
    Calls Tryd.prog 10 #[.agg (ints [x0, x1, x2, x3, x4, x5, x6, x7]).toArray, .agg (ints [z0, z1, z2, z3, z4, z5, z6, z7]).toArray, .string s] w fun e w' => e = .returned (.bool true) ∧ Below w.heap.size w w' := by
  have hk0 : Ok w ((w.alloc (.cells (ints [x0, x1, x2, x3, x4, x5, x6, x7]).toArray 33)).alloc (.cells (ints [z0, z1, z2, z3, z4, z5, z6, z7]).toArray 33)) := ((Ok.refl hG).alloc _).alloc _
  have rP0 := (IntRow.new w 33 [x0, x1, x2, x3, x4, x5, x6, x7]).alloc (.cells (ints [z0, z1, z2, z3, z4, z5, z6, z7]).toArray 33)
  have rQ0 := IntRow.new (w.alloc (.cells (ints [x0, x1, x2, x3, x4, x5, x6, x7]).toArray 33)) 33 [z0, z1, z2, z3, z4, z5, z6, z7]
  rw [World.size_alloc] at rQ0
  have hlen : s.data.toList.length = s.size := by rw [Array.length_toList]; rfl
  have hld : decide ((300 : Int) < s.size) = false := by simp; omega
  have cM := fun {w : World} (hG : Good w) => oMay6 (Ok.refl hG) [x0, x1, x2, x3, x4, x5, x6, x7] rfl
  rw [hp] at cM
  have cN := fun {w : World} (hG : Good w) => oMay6 (Ok.refl hG) [z0, z1, z2, z3, z4, z5, z6, z7] rfl
  rw [hq] at cN
  have cA := fun {w : World} (hG : Good w) => oParse6 (Ok.refl hG) s (by omega)
  have cB := fun {w : World} (hG : Good w) => oParse6S hG (s.data.toList.map upC) (by rw [List.length_map]; omega)
  simp only [upC_parse] at cB
  obtain ⟨a, ha⟩ : ∃ a : List Int, casts (parseSix s.data.toList).1 = a := ⟨_, rfl⟩
  have a8 : a.length = 8 := by rw [← ha, casts_length, parseSix_len]
  obtain ⟨y0, y1, y2, y3, y4, y5, y6, y7, rfl⟩ := list8 a a8
  obtain ⟨is, his⟩ : ∃ is : Bool, (parseSix s.data.toList).2 = is := ⟨_, rfl⟩
  simp only [ha, his] at cA cB
  clear ha his a8 hp hq
  go_enter Tryd.func10, Tryd.ntmps10
  go_wp2_with fail
  refine (awake6 (Ok.refl hk0.good)).mono ?_
  rintro e w1 ⟨rfl, hm1⟩
  have hk1 := hk0.step hm1.below
  have rP1 := rP0.below hm1.below rP0.lt
  have rQ1 := rQ0.below hm1.below rQ0.lt
  clear rP0 rQ0
  clear hm1
  go_wp2_with (first
      | (refine wpList_load_row_g (by rfl) 33 _ rfl _ rfl 33 (ints [x0, x1, x2, x3, x4, x5, x6, x7]).toArray (0, 0) _ rP1 Tryd.underlying33 rfl (sz8 rfl) ?_)
      | (refine wpList_load_row_g (by rfl) 33 _ rfl _ rfl 33 (ints [z0, z1, z2, z3, z4, z5, z6, z7]).toArray (0, 0) _ rQ1 Tryd.underlying33 rfl (sz8 rfl) ?_))
  refine (cM hk1.good).mono ?_
  rintro e w2 ⟨rfl, hm2⟩
  have hk2 := hk1.step hm2.below
  have rP2 := rP1.below hm2.below rP1.lt
  have rQ2 := rQ1.below hm2.below rQ1.lt
  clear rP1 rQ1
  clear hm2
  go_wp2_with (first
      | (refine wpList_load_row_g (by rfl) 33 _ rfl _ rfl 33 (ints [x0, x1, x2, x3, x4, x5, x6, x7]).toArray (0, 0) _ rP2 Tryd.underlying33 rfl (sz8 rfl) ?_)
      | (refine wpList_load_row_g (by rfl) 33 _ rfl _ rfl 33 (ints [z0, z1, z2, z3, z4, z5, z6, z7]).toArray (0, 0) _ rQ2 Tryd.underlying33 rfl (sz8 rfl) ?_))
  refine (cN hk2.good).mono ?_
  rintro e w3 ⟨rfl, hm3⟩
  have hk3 := hk2.step hm3.below
  have rP3 := rP2.below hm3.below rP2.lt
  have rQ3 := rQ2.below hm3.below rQ2.lt
  clear rP2 rQ2
  clear hm3
  have rQ3lt := rQ3.lt
  obtain ⟨cap, w4, hcv, hB4, hb4⟩ := ByteBlk.made (P := Tryd.prog) w3 9 41 5 s Tryd.underlying9 Tryd.underlying41 Tryd.underlying5
  have hk4 := hk3.step hb4
  have rP4 := rP3.below hb4 rP3.lt
  have rQ4 := rQ3.below hb4 rQ3.lt
  clear rP3 rQ3
  clear hb4
  have hB4lt := hB4.lt
  obtain ⟨g, hg⟩ : ∃ g, w3.heap.size = g := ⟨_, rfl⟩
  rw [hg] at hB4 hcv hB4lt
  have hgw : w.heap.size ≤ g := by rw [← hg]; exact hk3.below.size
  have hgP : w.heap.size ≠ g ∧ w.heap.size + 1 ≠ g := by
    have h1 := rQ3lt; have h2 := hg; omega
  go_wp2
  go_loopw [9] (fun i wr => ∃ k : Nat, k ≤ s.size ∧ i = .int .i64 k ∧ ByteBlk wr g 5 ((s.data.toList.take k).map upC ++ s.data.toList.drop k) ∧ IntRow wr w.heap.size 33 [x0, x1, x2, x3, x4, x5, x6, x7] ∧ IntRow wr (w.heap.size + 1) 33 [z0, z1, z2, z3, z4, z5, z6, z7] ∧ Ok w wr) (fun i _ => s.size - (intOf i).toNat)
  case atStart => exact ⟨0, by omega, rfl, by simpa using hB4, rP4, rQ4, hk4⟩
  case round =>
    obtain ⟨w5, rfl⟩ : ∃ w5, w5 = wr := ⟨_, rfl⟩
    obtain ⟨k, hk, rfl, hB5, rP5, rQ5, hk5⟩ := hrel
    clear hB4 rP4 rQ4 hk4 hcv
    by_cases hks : k < s.size
    · obtain ⟨c, hc⟩ : ∃ c, s.data.toList[k]? = some c := ⟨_, List.getElem?_eq_getElem (by omega)⟩
      have hlk : k < ((s.data.toList.take k).map upC ++ s.data.toList.drop k).length := by simp; omega
      have hcell := hB5.cell (upC_at hc)
      have hfree := hB5.free hlk
      have hset := hB5.set hlk (upC c)
      rw [upC_step hc] at hset
      have hb6 : ∀ v, Below w.heap.size w (w5.setCell ⟨g, k, none⟩ v) := fun v => hk5.below.grown (grown_setCell _ _ _) hk5.below.size (fun k hk => by cases hk; exact hgw)
      have hcc := Lib.hid (upC_same hc)
      have HC := Lib.hid hc
      clear hc cA cB cM cN
      have c256 := c.toNat_lt
      by_cases h1 : 97 ≤ c.toNat
      · by_cases h2 : c.toNat ≤ 102
        · have hw := upC_wrap c.toNat c256 h1 h2
          rw [UInt8.ofNat_toNat] at hw
          go_wp2
          refine ⟨⟨k + 1, by omega, by go_num, hset, rP5.other _ hgP.1 _, rQ5.other _ hgP.2 _, ⟨hb6 _, ?_⟩⟩, by simp [intOf]; omega⟩
          exact hG.below (hb6 _)
        · go_wp2
          refine ⟨⟨k + 1, by omega, by go_num, by rw [← hcc.out (upC_small (by omega))]; exact hB5, rP5, rQ5, hk5⟩, by simp [intOf]; omega⟩
      · go_wp2
        refine ⟨⟨k + 1, by omega, by go_num, by rw [← hcc.out (upC_small (by omega))]; exact hB5, rP5, rQ5, hk5⟩, by simp [intOf]; omega⟩
    · obtain rfl : k = s.size := by omega
      rw [List.take_of_length_le (by omega), List.drop_eq_nil_of_le (by omega), List.append_nil] at hB5
      go_wp2_with fail
      refine (cA hk5.good).mono ?_
      rintro e w6 ⟨rfl, hm6⟩
      have hk6 := hk5.step hm6.below
      have rP6 := rP5.below hm6.below rP5.lt
      have rQ6 := rQ5.below hm6.below rQ5.lt
      clear rP5 rQ5
      have hbb6 := hm6.below
      clear hm6
      have hB6 := hB5.below (w' := w6) (B := w5.heap.size) hbb6 hB5.lt
      clear hB5
      have hp6 := IntRow.new w6 33 zer
      have hb6 := below_setRow ((Below.refl w6.heap.size w6).alloc (Nat.le_refl _) (.cells (ints zer).toArray 33)) (Nat.le_refl _) (ints [y0, y1, y2, y3, y4, y5, y6, y7]).toArray
      have hb6' := hb6
      have hn6 := hp6.put [y0, y1, y2, y3, y4, y5, y6, y7]
      have hk7 := hk6.step hb6
      have rP7 := rP6.below hb6 rP6.lt
      have rQ7 := rQ6.below hb6 rQ6.lt
      clear rP6 rQ6
      have rA7 := hn6
      have hB7 := hB6.below hb6' hB6.lt
      have hconv : (convert 41 9 (.slice (some ⟨g, 0, none⟩) s.size cap)).run Tryd.prog ((w6.alloc (.cells #[.int .i64 0, .int .i64 0, .int .i64 0, .int .i64 0, .int .i64 0, .int .i64 0, .int .i64 0, .int .i64 0] 33)).setRow w6.heap.size (ints [y0, y1, y2, y3, y4, y5, y6, y7]).toArray) = .ok (.string ⟨(s.data.toList.map upC).toArray⟩) ((w6.alloc (.cells #[.int .i64 0, .int .i64 0, .int .i64 0, .int .i64 0, .int .i64 0, .int .i64 0, .int .i64 0, .int .i64 0] 33)).setRow w6.heap.size (ints [y0, y1, y2, y3, y4, y5, y6, y7]).toArray) := hB7.str (P := Tryd.prog) (src := 41) (dst := 9) Tryd.underlying41 Tryd.underlying5 Tryd.underlying9 (n := s.size) (cap := cap) (by rw [List.length_map]; exact hlen)
      go_wp2_with (first
          | (refine wpList_store_row rfl 33 _ _ rfl w6.heap.size (ints [y0, y1, y2, y3, y4, y5, y6, y7]).toArray (by rfl) (by rfl) 33 (ints zer).toArray hp6 (sz8 rfl) (old8 rfl) (ints_one _) ?_))
      refine (cB hk7.good).mono ?_
      rintro e w8 ⟨rfl, hm8⟩
      have hk8 := hk7.step hm8.below
      have rP8 := rP7.below hm8.below rP7.lt
      have rQ8 := rQ7.below hm8.below rQ7.lt
      have rA8 := rA7.below hm8.below rA7.lt
      clear rP7 rQ7 rA7
      clear hm8
      have hp8 := IntRow.new w8 33 zer
      have hb8 := below_setRow ((Below.refl w8.heap.size w8).alloc (Nat.le_refl _) (.cells (ints zer).toArray 33)) (Nat.le_refl _) (ints [y0, y1, y2, y3, y4, y5, y6, y7]).toArray
      have hn8 := hp8.put [y0, y1, y2, y3, y4, y5, y6, y7]
      have hk9 := hk8.step hb8
      have rP9 := rP8.below hb8 rP8.lt
      have rQ9 := rQ8.below hb8 rQ8.lt
      have rA9 := rA8.below hb8 rA8.lt
      clear rP8 rQ8 rA8
      have rB9 := hn8
      have hnb1 : (showSix [x0, x1, x2, x3, x4, x5, x6, x7] == showSix [z0, z1, z2, z3, z4, z5, z6, z7]) = false := beq_eq_false_iff_ne.2 hne
      have heq : ∀ w : World, (Op.equalIn 10000 33 (.agg #[.int .i64 y0, .int .i64 y1, .int .i64 y2, .int .i64 y3, .int .i64 y4, .int .i64 y5, .int .i64 y6, .int .i64 y7]) (.agg #[.int .i64 y0, .int .i64 y1, .int .i64 y2, .int .i64 y3, .int .i64 y4, .int .i64 y5, .int .i64 y6, .int .i64 y7])).run Tryd.prog w = .ok true w := fun w => (eq8 (p := [y0, y1, y2, y3, y4, y5, y6, y7]) (q := [y0, y1, y2, y3, y4, y5, y6, y7]) rfl rfl w).trans (by rw [beq_self_eq_true])
      have hpq : ∀ w : World, (Op.equalIn 10000 33 (.agg #[.int .i64 x0, .int .i64 x1, .int .i64 x2, .int .i64 x3, .int .i64 x4, .int .i64 x5, .int .i64 x6, .int .i64 x7]) (.agg #[.int .i64 z0, .int .i64 z1, .int .i64 z2, .int .i64 z3, .int .i64 z4, .int .i64 z5, .int .i64 z6, .int .i64 z7])).run Tryd.prog w = .ok false w := fun w => (eq8 (p := [x0, x1, x2, x3, x4, x5, x6, x7]) (q := [z0, z1, z2, z3, z4, z5, z6, z7]) rfl rfl w).trans (by rw [beq_eq_false_iff_ne.2 (fun e => hne (by rw [e]))])
      obtain ⟨w9, hw9⟩ : ∃ w9, w9 = ((w8.alloc (.cells #[.int .i64 0, .int .i64 0, .int .i64 0, .int .i64 0, .int .i64 0, .int .i64 0, .int .i64 0, .int .i64 0] 33)).setRow w8.heap.size (ints [y0, y1, y2, y3, y4, y5, y6, y7]).toArray) := ⟨_, rfl⟩
      clear cA cB cM cN hconv hB7
      go_wp2_with (first
          | (refine wpList_store_row rfl 33 _ _ rfl w8.heap.size (ints [y0, y1, y2, y3, y4, y5, y6, y7]).toArray (by rfl) (by rfl) 33 (ints zer).toArray hp8 (sz8 rfl) (old8 rfl) (ints_one _) ?_))
      rw [← hw9]
      have qP9 : IntRow w9 w.heap.size 33 [x0, x1, x2, x3, x4, x5, x6, x7] := by rw [hw9]; exact rP9
      have qQ9 : IntRow w9 (w.heap.size + 1) 33 [z0, z1, z2, z3, z4, z5, z6, z7] := by rw [hw9]; exact rQ9
      have qA9 : IntRow w9 w6.heap.size 33 [y0, y1, y2, y3, y4, y5, y6, y7] := by rw [hw9]; exact rA9
      have qB9 : IntRow w9 w8.heap.size 33 [y0, y1, y2, y3, y4, y5, y6, y7] := by rw [hw9]; exact rB9
      have hk10 : Ok w w9 := by rw [hw9]; exact hk9
      clear rP9 rQ9 rA9 rB9 hk9 hw9 hp8 hn8 hb8
      have hfin : ∀ w', Ok w9 w' → Below w.heap.size w w' := fun w' h => (hk10.step h.below).below
      have hmk : ∀ w', Ok w9 w' → Ok w9 w' ∧ w'.cell? ⟨w.heap.size, 0, none⟩ = some (.int .i64 x0) ∧ w'.cell? ⟨w.heap.size, 1, none⟩ = some (.int .i64 x1) ∧ w'.cell? ⟨w.heap.size, 2, none⟩ = some (.int .i64 x2) ∧ w'.cell? ⟨w.heap.size, 3, none⟩ = some (.int .i64 x3) ∧ w'.cell? ⟨w.heap.size, 4, none⟩ = some (.int .i64 x4) ∧ w'.cell? ⟨w.heap.size, 5, none⟩ = some (.int .i64 x5) ∧ w'.cell? ⟨w.heap.size, 6, none⟩ = some (.int .i64 x6) ∧ w'.cell? ⟨w.heap.size, 7, none⟩ = some (.int .i64 x7) ∧ w'.cell? ⟨(w.heap.size + 1), 0, none⟩ = some (.int .i64 z0) ∧ w'.cell? ⟨(w.heap.size + 1), 1, none⟩ = some (.int .i64 z1) ∧ w'.cell? ⟨(w.heap.size + 1), 2, none⟩ = some (.int .i64 z2) ∧ w'.cell? ⟨(w.heap.size + 1), 3, none⟩ = some (.int .i64 z3) ∧ w'.cell? ⟨(w.heap.size + 1), 4, none⟩ = some (.int .i64 z4) ∧ w'.cell? ⟨(w.heap.size + 1), 5, none⟩ = some (.int .i64 z5) ∧ w'.cell? ⟨(w.heap.size + 1), 6, none⟩ = some (.int .i64 z6) ∧ w'.cell? ⟨(w.heap.size + 1), 7, none⟩ = some (.int .i64 z7) ∧ w'.cell? ⟨w6.heap.size, 0, none⟩ = some (.int .i64 y0) ∧ w'.cell? ⟨w6.heap.size, 1, none⟩ = some (.int .i64 y1) ∧ w'.cell? ⟨w6.heap.size, 2, none⟩ = some (.int .i64 y2) ∧ w'.cell? ⟨w6.heap.size, 3, none⟩ = some (.int .i64 y3) ∧ w'.cell? ⟨w6.heap.size, 4, none⟩ = some (.int .i64 y4) ∧ w'.cell? ⟨w6.heap.size, 5, none⟩ = some (.int .i64 y5) ∧ w'.cell? ⟨w6.heap.size, 6, none⟩ = some (.int .i64 y6) ∧ w'.cell? ⟨w6.heap.size, 7, none⟩ = some (.int .i64 y7) ∧ w'.cell? ⟨w8.heap.size, 0, none⟩ = some (.int .i64 y0) ∧ w'.cell? ⟨w8.heap.size, 1, none⟩ = some (.int .i64 y1) ∧ w'.cell? ⟨w8.heap.size, 2, none⟩ = some (.int .i64 y2) ∧ w'.cell? ⟨w8.heap.size, 3, none⟩ = some (.int .i64 y3) ∧ w'.cell? ⟨w8.heap.size, 4, none⟩ = some (.int .i64 y4) ∧ w'.cell? ⟨w8.heap.size, 5, none⟩ = some (.int .i64 y5) ∧ w'.cell? ⟨w8.heap.size, 6, none⟩ = some (.int .i64 y6) ∧ w'.cell? ⟨w8.heap.size, 7, none⟩ = some (.int .i64 y7) := by
        intro w' h
        obtain ⟨cP0, cP1, cP2, cP3, cP4, cP5, cP6, cP7⟩ := (qP9.below h.below qP9.lt).eight
        obtain ⟨cQ0, cQ1, cQ2, cQ3, cQ4, cQ5, cQ6, cQ7⟩ := (qQ9.below h.below qQ9.lt).eight
        obtain ⟨cA0, cA1, cA2, cA3, cA4, cA5, cA6, cA7⟩ := (qA9.below h.below qA9.lt).eight
        obtain ⟨cB0, cB1, cB2, cB3, cB4, cB5, cB6, cB7⟩ := (qB9.below h.below qB9.lt).eight
        exact ⟨h, cP0, cP1, cP2, cP3, cP4, cP5, cP6, cP7, cQ0, cQ1, cQ2, cQ3, cQ4, cQ5, cQ6, cQ7, cA0, cA1, cA2, cA3, cA4, cA5, cA6, cA7, cB0, cB1, cB2, cB3, cB4, cB5, cB6, cB7⟩
      have hkd := (Ok.refl hk10.good).drew
      go_region_held3 (fun w' => Ok w9 w' ∧ w'.cell? ⟨w.heap.size, 0, none⟩ = some (.int .i64 x0) ∧ w'.cell? ⟨w.heap.size, 1, none⟩ = some (.int .i64 x1) ∧ w'.cell? ⟨w.heap.size, 2, none⟩ = some (.int .i64 x2) ∧ w'.cell? ⟨w.heap.size, 3, none⟩ = some (.int .i64 x3) ∧ w'.cell? ⟨w.heap.size, 4, none⟩ = some (.int .i64 x4) ∧ w'.cell? ⟨w.heap.size, 5, none⟩ = some (.int .i64 x5) ∧ w'.cell? ⟨w.heap.size, 6, none⟩ = some (.int .i64 x6) ∧ w'.cell? ⟨w.heap.size, 7, none⟩ = some (.int .i64 x7) ∧ w'.cell? ⟨(w.heap.size + 1), 0, none⟩ = some (.int .i64 z0) ∧ w'.cell? ⟨(w.heap.size + 1), 1, none⟩ = some (.int .i64 z1) ∧ w'.cell? ⟨(w.heap.size + 1), 2, none⟩ = some (.int .i64 z2) ∧ w'.cell? ⟨(w.heap.size + 1), 3, none⟩ = some (.int .i64 z3) ∧ w'.cell? ⟨(w.heap.size + 1), 4, none⟩ = some (.int .i64 z4) ∧ w'.cell? ⟨(w.heap.size + 1), 5, none⟩ = some (.int .i64 z5) ∧ w'.cell? ⟨(w.heap.size + 1), 6, none⟩ = some (.int .i64 z6) ∧ w'.cell? ⟨(w.heap.size + 1), 7, none⟩ = some (.int .i64 z7) ∧ w'.cell? ⟨w6.heap.size, 0, none⟩ = some (.int .i64 y0) ∧ w'.cell? ⟨w6.heap.size, 1, none⟩ = some (.int .i64 y1) ∧ w'.cell? ⟨w6.heap.size, 2, none⟩ = some (.int .i64 y2) ∧ w'.cell? ⟨w6.heap.size, 3, none⟩ = some (.int .i64 y3) ∧ w'.cell? ⟨w6.heap.size, 4, none⟩ = some (.int .i64 y4) ∧ w'.cell? ⟨w6.heap.size, 5, none⟩ = some (.int .i64 y5) ∧ w'.cell? ⟨w6.heap.size, 6, none⟩ = some (.int .i64 y6) ∧ w'.cell? ⟨w6.heap.size, 7, none⟩ = some (.int .i64 y7) ∧ w'.cell? ⟨w8.heap.size, 0, none⟩ = some (.int .i64 y0) ∧ w'.cell? ⟨w8.heap.size, 1, none⟩ = some (.int .i64 y1) ∧ w'.cell? ⟨w8.heap.size, 2, none⟩ = some (.int .i64 y2) ∧ w'.cell? ⟨w8.heap.size, 3, none⟩ = some (.int .i64 y3) ∧ w'.cell? ⟨w8.heap.size, 4, none⟩ = some (.int .i64 y4) ∧ w'.cell? ⟨w8.heap.size, 5, none⟩ = some (.int .i64 y5) ∧ w'.cell? ⟨w8.heap.size, 6, none⟩ = some (.int .i64 y6) ∧ w'.cell? ⟨w8.heap.size, 7, none⟩ = some (.int .i64 y7)) (exact hmk _ (by assumption)) (first
        | (go_simp; go_at_call_of 32 x0; refine (oShow6 (w0 := w9) ?_ [x0, x1, x2, x3, x4, x5, x6, x7] rfl).mono ?_; (exact And.left (by assumption)); rintro e wm ⟨rfl, hmm⟩)
        | (go_simp; go_at_call_of 32 z0; refine (oShow6 (w0 := w9) ?_ [z0, z1, z2, z3, z4, z5, z6, z7] rfl).mono ?_; (exact And.left (by assumption)); rintro e wm ⟨rfl, hmm⟩))
      all_goals (go_wp2; go_ret; exact ⟨rfl, hfin _ (And.left (by assumption))⟩)
      
set_option maxHeartbeats 2000000 in
set_option maxRecDepth 100000 in
theorem law_SixApart (p q : List Int) (s : ByteArray) (h8 : p.length = 8) (_hw : ∀ x ∈ p, (Lit.int .i64 x).wf = true) (k8 : q.length = 8) (_hv : ∀ x ∈ q, (Lit.int .i64 x).wf = true) (_hs : s.size ≤ 140737488351232) (w : World) (hG : Good w) :
    Calls Tryd.prog 10 #[.agg (ints p).toArray, .agg (ints q).toArray, .string s] w fun e w' => e = .returned (.bool true) ∧ Below w.heap.size w w' := by
  by_cases hl : s.size ≤ 300
  · cases hp : mayB p with
    | true =>
      cases hq : mayB q with
      | true =>
        obtain ⟨x0, x1, x2, x3, x4, x5, x6, x7, rfl⟩ := list8 p h8
        obtain ⟨z0, z1, z2, z3, z4, z5, z6, z7, rfl⟩ := list8 q k8
        by_cases e : showSix [x0, x1, x2, x3, x4, x5, x6, x7] = showSix [z0, z1, z2, z3, z4, z5, z6, z7]
        · have := showSix_inj rfl rfl hp hq e
          simp only [List.cons.injEq, and_true] at this
          obtain ⟨rfl, rfl, rfl, rfl, rfl, rfl, rfl, rfl⟩ := this
          exact sixApart_same _ _ _ _ _ _ _ _ s hp hl w hG
        · exact sixApart_diff _ _ _ _ _ _ _ _ _ _ _ _ _ _ _ _ s hp hq e hl w hG
      | false =>
        have hld : decide ((300 : Int) < s.size) = false := by simp; omega
        have hk0 : Ok w ((w.alloc (.cells (ints p).toArray 33)).alloc (.cells (ints q).toArray 33)) := ((Ok.refl hG).alloc _).alloc _
        have rP0 := (IntRow.new w 33 p).alloc (.cells (ints q).toArray 33)
        have rQ0 := IntRow.new (w.alloc (.cells (ints p).toArray 33)) 33 q
        rw [World.size_alloc] at rQ0
        go_enter Tryd.func10, Tryd.ntmps10
        go_wp2_with fail
        refine (awake6 (Ok.refl hk0.good)).mono ?_
        rintro e w1 ⟨rfl, hm1⟩
        have hk1 := hk0.step hm1.below
        have rP1 := rP0.below hm1.below rP0.lt
        have rQ1 := rQ0.below hm1.below rQ0.lt
        clear rP0 rQ0
        clear hm1
        go_wp2_with (first
            | (refine wpList_load_row_g (by rfl) 33 _ rfl _ rfl 33 (ints p).toArray (0, 0) _ rP1 Tryd.underlying33 rfl (sz8 h8) ?_)
            | (refine wpList_load_row_g (by rfl) 33 _ rfl _ rfl 33 (ints q).toArray (0, 0) _ rQ1 Tryd.underlying33 rfl (sz8 k8) ?_))
        refine (oMay6 (Ok.refl hk1.good) p h8).mono ?_
        rintro e w2 ⟨rfl, hm2⟩
        rw [hp]
        have hk2 := hk1.step hm2.below
        have rP2 := rP1.below hm2.below rP1.lt
        have rQ2 := rQ1.below hm2.below rQ1.lt
        clear rP1 rQ1
        clear hm2
        go_wp2_with (first
            | (refine wpList_load_row_g (by rfl) 33 _ rfl _ rfl 33 (ints p).toArray (0, 0) _ rP2 Tryd.underlying33 rfl (sz8 h8) ?_)
            | (refine wpList_load_row_g (by rfl) 33 _ rfl _ rfl 33 (ints q).toArray (0, 0) _ rQ2 Tryd.underlying33 rfl (sz8 k8) ?_))
        refine (oMay6 (Ok.refl hk2.good) q k8).mono ?_
        rintro e w3 ⟨rfl, hm3⟩
        rw [hq]
        have hk3 := hk2.step hm3.below
        have rP3 := rP2.below hm3.below rP2.lt
        have rQ3 := rQ2.below hm3.below rQ2.lt
        clear rP2 rQ2
        clear hm3
        go_wp2
        go_ret
        exact ⟨rfl, hk3.below⟩
    | false =>
      have hld : decide ((300 : Int) < s.size) = false := by simp; omega
      have hk0 : Ok w ((w.alloc (.cells (ints p).toArray 33)).alloc (.cells (ints q).toArray 33)) := ((Ok.refl hG).alloc _).alloc _
      have rP0 := (IntRow.new w 33 p).alloc (.cells (ints q).toArray 33)
      have rQ0 := IntRow.new (w.alloc (.cells (ints p).toArray 33)) 33 q
      rw [World.size_alloc] at rQ0
      go_enter Tryd.func10, Tryd.ntmps10
      go_wp2_with fail
      refine (awake6 (Ok.refl hk0.good)).mono ?_
      rintro e w1 ⟨rfl, hm1⟩
      have hk1 := hk0.step hm1.below
      have rP1 := rP0.below hm1.below rP0.lt
      have rQ1 := rQ0.below hm1.below rQ0.lt
      clear rP0 rQ0
      clear hm1
      go_wp2_with (first
          | (refine wpList_load_row_g (by rfl) 33 _ rfl _ rfl 33 (ints p).toArray (0, 0) _ rP1 Tryd.underlying33 rfl (sz8 h8) ?_)
          | (refine wpList_load_row_g (by rfl) 33 _ rfl _ rfl 33 (ints q).toArray (0, 0) _ rQ1 Tryd.underlying33 rfl (sz8 k8) ?_))
      refine (oMay6 (Ok.refl hk1.good) p h8).mono ?_
      rintro e w2 ⟨rfl, hm2⟩
      rw [hp]
      have hk2 := hk1.step hm2.below
      have rP2 := rP1.below hm2.below rP1.lt
      have rQ2 := rQ1.below hm2.below rQ1.lt
      clear rP1 rQ1
      clear hm2
      go_wp2
      go_ret
      exact ⟨rfl, hk2.below⟩
  · have hk0 : Ok w ((w.alloc (.cells (ints p).toArray 33)).alloc (.cells (ints q).toArray 33)) := ((Ok.refl hG).alloc _).alloc _
    have rP0 := (IntRow.new w 33 p).alloc (.cells (ints q).toArray 33)
    have rQ0 := IntRow.new (w.alloc (.cells (ints p).toArray 33)) 33 q
    rw [World.size_alloc] at rQ0
    go_enter Tryd.func10, Tryd.ntmps10
    go_wp2_with fail
    refine (awake6 (Ok.refl hk0.good)).mono ?_
    rintro e w1 ⟨rfl, hm1⟩
    have hk1 := hk0.step hm1.below
    have rP1 := rP0.below hm1.below rP0.lt
    have rQ1 := rQ0.below hm1.below rQ0.lt
    clear rP0 rQ0
    clear hm1
    go_wp2
    go_ret
    exact ⟨rfl, hk1.below⟩

end Go.Proofs.YtcpnfokpgiigcaaDoor
