/- The contract of deci.Show: its digits. -/
import Derived.Test.YtcpjonglfnakpaaDoorProg
import Derived.Test.YtcpjonglfnakpaaDoorMA
namespace Go.Proofs.YtcpjonglfnakpaaDoor
open Go.RowKit

set_option maxHeartbeats 400000 in
theorem deci_Show1 (a : Addr) (n : Int) (h0 : 0 ≤ n) (h1 : n ≤ 9223372036854775807) (w : World) (hc : w.cell? a = some (.int .i64 n)) (hf : w.frozen? a = false) :
    Calls Tryd.prog 46 #[.pointer (some a)] w fun e w' => e = .returned (.int .u8 (48 + n % 10)) ∧ w' = w.setCell a (.int .i64 (n / 10)) := by
  have hlt : decide (n % 10 < 0) = false := by simp; omega
  go_enter Tryd.func46, Tryd.ntmps46
  go_wp2
  go_ret
  exact ⟨rfl, rfl⟩

/-- The digits of a number, the last one first. -/
def revDigs (n : Nat) : List UInt8 := if h : n < 10 then [UInt8.ofNat (48 + n)] else UInt8.ofNat (48 + n % 10) :: revDigs (n / 10)
theorem revDigs_small (n : Nat) (h : n < 10) : revDigs n = [UInt8.ofNat (48 + n)] := by rw [revDigs, dif_pos h]
theorem revDigs_big (n : Nat) (h : 10 ≤ n) : revDigs n = UInt8.ofNat (48 + n % 10) :: revDigs (n / 10) := by rw [revDigs, dif_neg (by omega)]
theorem revDigs_len (k : Nat) : ∀ n, n < 10 ^ (k + 1) → (revDigs n).length ≤ k + 1 := by
  induction k with
  | zero => intro n h; rw [revDigs_small n (by simpa using h)]; simp
  | succ k ih =>
    intro n h
    by_cases hn : n < 10
    · rw [revDigs_small n hn]; simp
    · rw [revDigs_big n (by omega)]
      have := ih (n / 10) (by rw [Nat.pow_succ] at h; omega)
      simp; omega
theorem revDigs_len63 (n : Nat) (h : n ≤ 9223372036854775807) : (revDigs n).length ≤ 19 := revDigs_len 18 n (by omega)
theorem revDigs_pos (n : Nat) : 1 ≤ (revDigs n).length := by
  rw [revDigs]; split <;> simp
theorem byte_digit (n : Nat) : ((UInt8.ofNat (48 + n % 10)).toNat : Int) = 48 + (n : Int) % 10 := by
  rw [UInt8.toNat_ofNat']; omega
theorem Tryd.info5 : (Tryd.prog.info? 5).map (fun i => (i.zero, i.size, i.bytes)) = some (some (.int .u8 0), 1, 1) := by kernel_rfl
def Rest (m n : Nat) (ds : List UInt8) : Prop := ds ++ revDigs m = revDigs n
theorem rest_step {m n : Nat} {ds : List UInt8} (h : Rest m n ds) (hm : 10 ≤ m) : Rest (m / 10) n (ds ++ [UInt8.ofNat (48 + m % 10)]) := by
  unfold Rest at *
  rw [← h, revDigs_big m hm]; simp
theorem rest_end {m n : Nat} {ds : List UInt8} (h : Rest m n ds) (hm : m < 10) : ds ++ [UInt8.ofNat (48 + m % 10)] = revDigs n := by
  unfold Rest at *
  rw [← h, revDigs_small m hm, Nat.mod_eq_of_lt hm]
def ShowJ (n : Int) (w : World) (a' : Act) (wr : World) : Prop :=
  ∃ (m : Nat) (ds : List UInt8) (v : Value) (u8 u9 u10 u11 u12 u13 u14 u15 u16 u17 : Value), a' = { tmps := #[.int .i64 n, .pointer (some ⟨w.heap.size, 0, none⟩), .string { data := #[] }, v, .func (.func 46) #[] #[.pointer (some ⟨w.heap.size, 0, none⟩)], .bool false, undef, undef, u8, u9, u10, u11, u12, u13, u14, u15, u16, u17, undef, undef, undef, undef, undef, undef, undef, undef, undef, undef, undef, undef, undef, undef, undef, undef, undef, undef, undef, undef, undef, undef, undef, undef, undef, undef, undef, undef, undef, undef], defers := [] } ∧ (m : Int) ≤ 9223372036854775807 ∧ ds.length + 1 ≤ 19 ∧
    wr.heap[w.heap.size]? = some (.cells #[.int .i64 m] 3 (0, 0)) ∧ wr.ownsRow (w.heap.size + 1) 5 1 v ds.length (u8s ds) ∧ Below w.heap.size w wr ∧ Rest m n.toNat ds

/-- The row is turned round from both ends: how far it has come. -/
def Turned (ds cur : List UInt8) (j : Nat) : Prop := cur.length = ds.length ∧ ∀ i, i < ds.length → cur[i]? = if i < j ∨ ds.length < i + j + 1 then ds[ds.length - 1 - i]? else ds[i]?
theorem turned_start (ds : List UInt8) : Turned ds ds 0 := ⟨rfl, fun i hi => by rw [if_neg (by omega)]⟩
theorem turned_step {ds cur : List UInt8} {j k : Nat} (h : Turned ds cur j) (hk : j + k + 1 = ds.length) (hj : j < k) (x y : UInt8) (hx : cur[j]? = some x) (hy : cur[k]? = some y) :
    Turned ds ((cur.set j y).set k x) (j + 1) := by
  obtain ⟨h1, h2⟩ := h
  refine ⟨by simp [h1], fun i hi => ?_⟩
  have ej := h2 j (by omega)
  have ek := h2 k (by omega)
  rw [hx, if_neg (by omega)] at ej
  rw [hy, if_neg (by omega)] at ek
  by_cases e1 : i = k
  · subst e1
    rw [List.getElem?_set_self (by simp; omega), if_pos (by omega), ej]
    congr 1; omega
  · rw [List.getElem?_set_ne (by omega)]
    by_cases e2 : i = j
    · subst e2
      rw [List.getElem?_set_self (by omega), if_pos (by omega), ek]
      congr 1; omega
    · rw [List.getElem?_set_ne (by omega), h2 i hi]
      by_cases e3 : i < j ∨ ds.length < i + j + 1
      · rw [if_pos e3, if_pos (by omega)]
      · rw [if_neg e3, if_neg (by omega)]
theorem turned_end {ds cur : List UInt8} {j k : Nat} (h : Turned ds cur j) (hk : j + k + 1 = ds.length) (hj : ¬ j < k) : cur = ds.reverse := by
  obtain ⟨h1, h2⟩ := h
  refine List.ext_getElem? fun i => ?_
  by_cases hi : i < ds.length
  · rw [h2 i hi, List.getElem?_reverse hi]
    by_cases e : i < j ∨ ds.length < i + j + 1
    · rw [if_pos e]
    · rw [if_neg e]; congr 1; omega
  · rw [List.getElem?_eq_none (by omega), List.getElem?_eq_none (by simp; omega)]

set_option maxHeartbeats 1000000 in
set_option maxRecDepth 100000 in
theorem deci_Show (n : Int) (h0 : 0 ≤ n) (h1 : n ≤ 9223372036854775807) (w : World) :
    Calls Tryd.prog 27 #[.int .i64 n] w fun e w' => e = .returned (.string ⟨(revDigs n.toNat).reverse.toArray⟩) ∧ Below w.heap.size w w' := by
  have hlt : decide (n < 0) = false := by simp; omega
  go_enter Tryd.func27, Tryd.ntmps27
  go_wp2
  refine scope_jumps 0 (ShowJ n w) (fun _ wr => cellNat wr ⟨w.heap.size, 0, none⟩) rfl ?_ ?_
  · rintro a' wr ⟨m, ds, v, u8, u9, u10, u11, u12, u13, u14, u15, u16, u17, rfl, hm, hlen, hB, hown, hbel, hrest⟩
    dsimp only
    have HR := Lib.hid hrest
    clear hrest
    have hc := cell_of_one hB
    have hf := free_of_one hB
    have hsz : w.heap.size + 1 ≤ wr.heap.size := by have := lt_of_block hB; omega
    obtain ⟨i0, hi, hz0, hz1, hz2⟩ := info_parts Tryd.info5
    have hown1 : (wr.setCell ⟨w.heap.size, 0, none⟩ (.int .i64 ((m : Int) / 10))).ownsRow (w.heap.size + 1) 5 1 v ds.length (u8s ds) := ownsRow_setCell_below hown (by simp) _
    have hB1 := one_setCell (u := .int .i64 ((m : Int) / 10)) hB
    have hb1 : Below w.heap.size w (wr.setCell ⟨w.heap.size, 0, none⟩ (.int .i64 ((m : Int) / 10))) := hbel.setCell (by simp) _
    by_cases hz : m < 10
    · have hz' : ((m : Int) / 10 != 0) = false := by simp; omega
      have HE := Lib.hid (rest_end HR.out hz)
      go_wp2_with (first | (go_at_call 46; refine (deci_Show1 _ _ (by omega) hm _ hc hf).mono ?_; rintro e w' ⟨rfl, rfl⟩) | (at_builtin; refine wpList_append_own _ rfl _ _ 32 rfl (w.heap.size + 1) 5 i0 (.int .u8 0) 1 1 Tryd.underlying32 hi hz0 hz1 hz2 rfl (by decide) _ _ _ rfl (hown1.alloc _) ⟨wr.heap.size, 0, none⟩ 1 1 [.int .u8 (48 + (m : Int) % 10)] rfl rfl ?c1 ?c2 ?c3 ?c4 ?c5 ?_))
      case c1 => exact cell_new_at (by simp) _ _
      case c2 => simp [Value.oneCell']
      case c3 => unfold maxLen; omega
      case c4 => omega
      case c5 => simp; omega
      intro v' w1 hown' hgrow _
      have hB2 := block_grown hgrow (block_alloc hB1 _) (fun k hk e => by have := row_base hown1 k hk; omega)
      have hc2 := cell_of_one hB2
      have hf2 := free_of_one hB2
      have hb2 : Below w.heap.size w w1 := (hb1.alloc (by simp; omega) _).grown hgrow (by simp; omega) (fun k hk => by have := row_base hown1 k hk; omega)
      obtain ⟨g, cap, rfl, hg1, hg2⟩ := hown'.form (by omega)
      rw [← byte_digit m, show ([Value.int .u8 ((UInt8.ofNat (48 + m % 10)).toNat : Int)]) = u8s [UInt8.ofNat (48 + m % 10)] from rfl, ← u8s_append, HE.out] at hown'
      obtain ⟨L, HLe⟩ : ∃ L, Hid (revDigs n.toNat = L) := ⟨_, rfl⟩
      have HLl : Hid (L.length = ds.length + 1) := by show _ = _; rw [← HLe.out, ← HE.out]; simp
      rw [HLe.out] at hown'
      go_wp2
      go_loopw [6, 7] (fun i k wr => ∃ (j q : Nat) (cur : List UInt8), i = .int .i64 j ∧ k = .int .i64 q ∧ j + q + 1 ≤ ds.length + 1 ∧ ds.length + 1 ≤ j + q + 1 ∧ wr.ownsRow (w.heap.size + 1) 5 1 (.slice (some ⟨g, 0, none⟩) (ds.length + 1) cap) (ds.length + 1) (u8s cur) ∧ Below w.heap.size w wr ∧ Hid (Turned L cur j)) (fun i _ _ => ds.length + 1 - (intOf i).toNat)
      case atStart => exact ⟨0, ds.length, L, rfl, rfl, by omega, by omega, hown', hb2, turned_start L⟩
      case round =>
        obtain ⟨j, q, cur, rfl, rfl, hjq1, hjq2, ho, hb, HT⟩ := hrel
        have hTl := HT.out.1
        by_cases hjq : j < q
        · obtain ⟨x, hx⟩ : ∃ x, cur[j]? = some x := ⟨cur[j]'(by rw [hTl, HLl.out]; omega), List.getElem?_eq_getElem _⟩
          obtain ⟨y, hy⟩ : ∃ y, cur[q]? = some y := ⟨cur[q]'(by rw [hTl, HLl.out]; omega), List.getElem?_eq_getElem _⟩
          have HT2 := Lib.hid (turned_step HT.out (k := q) (by rw [HLl.out]; omega) hjq x y hx hy)
          have hcx : wr.cell? ⟨g, j, none⟩ = some (.int .u8 x.toNat) := by rw [ho.cellAt j (by omega), u8s, List.getElem?_map, hx]; rfl
          have hcy : wr.cell? ⟨g, q, none⟩ = some (.int .u8 y.toNat) := by rw [ho.cellAt q (by omega), u8s, List.getElem?_map, hy]; rfl
          have hfx := ho.frozenAt j
          have hfy := ho.frozenAt q
          have hne : ¬ j = q := by omega
          have hst := (ho.stored j (.int .u8 y.toNat)).1.stored q (.int .u8 x.toNat)
          have hg3 : w.heap.size ≤ g := by omega
          clear hx hy hTl HT
          go_wp2
          go_region
          go_wp2
          go_roundw
          case rel => exact ⟨j + 1, q - 1, _, by go_num, by go_num, by omega, by omega, by rw [← u8s_set, ← u8s_set]; exact hst.1, ((hb.setCell (p := ⟨g, j, none⟩) hg3 _).setCell (p := ⟨g, q, none⟩) hg3 _).drew, HT2⟩
          case measure => simp [intOf]; omega
        · have hend := turned_end HT.out (k := q) (by rw [HLl.out]; omega) hjq
          rw [hend] at ho
          have hconv := u8s_string (P := Tryd.prog) (dst := 9) Tryd.underlying32 Tryd.underlying5 Tryd.underlying9 ho
          clear hend
          go_wp2
          simp only [Exit.jump]
          go_ret
          exact ⟨by rw [HLe.out]; rfl, hb⟩
    · have hz' : ((m : Int) / 10 != 0) = true := by simp; omega
      have HE := Lib.hid (rest_step HR.out (Nat.not_lt.1 hz))
      have hlen2 := revDigs_len63 n.toNat (by omega)
      have hlen3 := revDigs_pos (m / 10)
      have hlen4 : ds.length + 1 + 1 ≤ 19 := by have := congrArg List.length HE.out; simp at this; omega
      clear hlen2 hlen3
      go_wp2_with (first | (go_at_call 46; refine (deci_Show1 _ _ (by omega) hm _ hc hf).mono ?_; rintro e w' ⟨rfl, rfl⟩) | (at_builtin; refine wpList_append_own _ rfl _ _ 32 rfl (w.heap.size + 1) 5 i0 (.int .u8 0) 1 1 Tryd.underlying32 hi hz0 hz1 hz2 rfl (by decide) _ _ _ rfl (hown1.alloc _) ⟨wr.heap.size, 0, none⟩ 1 1 [.int .u8 (48 + (m : Int) % 10)] rfl rfl ?c1 ?c2 ?c3 ?c4 ?c5 ?_))
      case c1 => exact cell_new_at (by simp) _ _
      case c2 => simp [Value.oneCell']
      case c3 => unfold maxLen; omega
      case c4 => omega
      case c5 => simp; omega
      intro v' w1 hown' hgrow _
      have hB2 := block_grown hgrow (block_alloc hB1 _) (fun k hk e => by have := row_base hown1 k hk; omega)
      have hc2 := cell_of_one hB2
      have hf2 := free_of_one hB2
      have hb2 : Below w.heap.size w w1 := (hb1.alloc (by simp; omega) _).grown hgrow (by simp; omega) (fun k hk => by have := row_base hown1 k hk; omega)
      rw [← byte_digit m, show ([Value.int .u8 ((UInt8.ofNat (48 + m % 10)).toNat : Int)]) = u8s [UInt8.ofNat (48 + m % 10)] from rfl, ← u8s_append] at hown'
      go_wp2
      go_step3
      refine ⟨rfl, ⟨m / 10, ds ++ [UInt8.ofNat (48 + m % 10)], v', _, _, _, _, _, _, _, _, _, _, rfl, ?_, ?_, hB2, ?_, hb2, HE.out⟩, ?_⟩
      · omega
      · simpa using hlen4
      · simpa using hown'
      · rw [cellNat_eq hc, cellNat_eq hc2]; show ((m : Int) / 10).toNat < (m : Int).toNat; omega
  · intro hp
    go_wp2
    go_step3
    rename_i hK
    refine hK _ _ (hp _ _ ⟨n.toNat, [], .slice none 0 0, _, _, _, _, _, _, _, _, _, _, rfl, ?_⟩)
    rw [Int.toNat_of_nonneg h0]
    exact ⟨h1, by simp, heap_alloc_new w _, World.ownsRow_nil _ _ _ _, (Below.refl _ _).alloc (Nat.le_refl _) _, by unfold Rest; rfl⟩

end Go.Proofs.YtcpjonglfnakpaaDoor
