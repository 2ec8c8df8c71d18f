/- strings.NewReplacer of three bytes, each to nothing: its table. -/
import Derived.Test.YtcfbmeljjmhdpaaDoorTexts
import Derived.Test.YtcfbmeljjmhdpaaDoorApp
import Derived.Test.YtcfbmeljjmhdpaaDoorByteBlk
import Derived.Test.YtcfbmeljjmhdpaaDoorEv
import Derived.Laws.Tables
import Derived.Laws.Rows
import Derived.Great.Walk
namespace Go.Proofs.YtcfbmeljjmhdpaaDoor
open Go.RowKit Go.Proofs.YtcfbmeljjmhdpaaDoorW.PrintWords

def nil28 : Value := .slice none 0 0
/-- The table's cells: no byte is replaced; v lists those that are. -/
def tab0 (v : Value) : Array Value := (Array.replicate 257 (.slice none 0 0)).set! 256 v
theorem tab0_size (v : Value) : (tab0 v).size = 257 := by unfold tab0; simp
theorem tab0_low (v : Value) {c : Nat} (h : c < 256) : (tab0 v)[c]? = some (.slice none 0 0) := by
  unfold tab0
  rw [Array.set!_eq_setIfInBounds, Array.getElem?_setIfInBounds_ne (by omega), Array.getElem?_replicate, if_pos (by omega)]
theorem tab0_list (v : Value) : (tab0 v)[256]? = some v := by
  unfold tab0
  rw [Array.set!_eq_setIfInBounds, Array.getElem?_setIfInBounds_self_of_lt (by simp)]
theorem tab0_one (v : Value) (h : v.oneCell' = true) : (tab0 v).all (·.oneCell') = true := by
  rw [Array.all_eq_true]
  intro i hi
  have h1 : (tab0 v)[i]? = some (tab0 v)[i] := Array.getElem?_eq_getElem hi
  rcases Nat.lt_or_ge i 256 with h2 | h2
  · rw [tab0_low v h2] at h1
    rw [← Option.some.inj h1]; rfl
  · have : i = 256 := by rw [tab0_size] at hi; omega
    subst this
    rw [tab0_list] at h1
    rw [← Option.some.inj h1]; exact h
theorem infoTab : (Tryd.prog.info? 79).map (fun i => (i.zero, i.size)) = some (some (.agg (Array.replicate 257 (.slice none 0 0))), 257) := by kernel_rfl
theorem alloc_tab (w : World) : (Instr.alloc 79 true (.tuple #[])).run Tryd.prog w = .ok (.pointer (some ⟨w.heap.size, 0, none⟩)) (w.alloc (.cells (Array.replicate 257 (.slice none 0 0)) 79)) := by
  have h := infoTab
  cases hi : Tryd.prog.info? 79 with
  | none => rw [hi] at h; cases h
  | some i =>
    rw [hi] at h
    simp only [Option.map_some, Option.some.injEq, Prod.mk.injEq] at h
    simp [Instr.alloc, zeroValue, typeInfo, newVar, newRow, Sem.run_bind, hi, h.1, Value.cells, go_sem]
    done

theorem built_tab (ao : Option Addr) (n cap : Nat) : Tryd.prog.built 79 [(1, .slice ao n cap)] = some (tab0 (.slice ao n cap)) := by kernel_rfl
section
variable {ops : Array Oper} {rest : List Oper} {o : Oper} {a : Act} {w : World} {Q : Exit → Act → World → Prop}
theorem wp_build_tab (hg : o.guard = none) (x : Operand) (ho : o.op = .build 79 #[(1, x)]) (ao : Option Addr) (n cap : Nat) (hx : a.eval x = .slice ao n cap)
    (h : wpList Tryd.prog ops Q rest (a.put o.dst (.agg (tab0 (.slice ao n cap)))) w) : wpList Tryd.prog ops Q (o :: rest) a w := by
  have hb := built_tab ao n cap
  refine Go.wpList_build hg 79 #[(1, x)] ho ?_ ?_
  · simp only [List.map_toArray, List.map_cons, List.map_nil, hx, hb]; rfl
  · simp only [List.map_toArray, List.map_cons, List.map_nil, hx, hb, Option.getD_some]; exact h
theorem wp_alloc_tab (hg : o.guard = none) (ho : o.op = .alloc 79)
    (h : wpList Tryd.prog ops Q rest (a.put o.dst (.pointer (some ⟨w.heap.size, 0, none⟩))) (w.alloc (.cells (Array.replicate 257 (.slice none 0 0)) 79))) : wpList Tryd.prog ops Q (o :: rest) a w := by
  refine Go.Great.wpList_runTo hg _ rfl _ _ ?_ h
  have h := alloc_tab w
  unfold execOp
  rw [ho]
  simp only [Sem.run_bind]
  rw [h]
  rfl
end

theorem idx_one (c : UInt8) (w : World) : (Instr.index 9 (.string ⟨#[c]⟩) (.int .i64 0)).run Tryd.prog w = .ok (.int .u8 c.toNat) w := by
  rw [run_index_string _ _ _ _ _ Tryd.underlying9, dif_pos ⟨by omega, by show (0 : Int) < 1; omega⟩]
  rfl
theorem nil_eql (w : World) : (binOp .eql 28 (.slice none 0 0) (.slice none 0 0)).run Tryd.prog w = .ok (.bool true) w := by kernel_rfl
theorem make_three (w : World) : (Instr.makeSlice 43 (.int .i64 0) (.int .i64 3)).run Tryd.prog w = .ok (.slice (some ⟨w.heap.size, 0, none⟩) 0 3) (w.alloc (.cells #[.string ⟨#[]⟩, .string ⟨#[]⟩, .string ⟨#[]⟩] 9)) := by kernel_rfl
theorem str_one {P : Program} {w : World} {g : Nat} {T : TypeId} {fr : Nat × Nat} (c : UInt8) (h : w.heap[g]? = some (.cells #[.int .u8 c.toNat] T fr)) {src dst e : TypeId} (hs : P.underlying src = some (.slice e)) (he : P.underlying e = some (.int .u8)) (hd : P.underlying dst = some .string) :
    (convert src dst (.slice (some ⟨g, 0, none⟩) 1 1)).run P w = .ok (.string ⟨#[c]⟩) w := by
  rw [run_convert_bytes_arg w src e hs he g 0 1 1 [(c.toNat : Int)] rfl (fun i hi => ?_) dst hd]
  · unfold strOfNums
    simp
  · obtain rfl : i = 0 := by omega
    rw [cell_of_row w g 0 _ T _ h]; rfl
/-- A table in block B: the bytes of D are replaced by nothing, the others stay. -/
def Tab (base B : Nat) (D : List UInt8) (w : World) : Prop := ∃ (cs : Array Value) (tv : Value), w.heap[B]? = some (.cells cs 79 (0, 0)) ∧ cs.size = 257 ∧ cs[256]? = some tv ∧
  w.ownsRow base 9 1 tv D.length (strs (D.map fun c => [c])) ∧ tv.ownBlock ≠ some B ∧
  ∀ c : UInt8, ∃ v, cs[c.toNat]? = some v ∧ (c ∈ D → ∃ g cap, v = .slice (some ⟨g, 0, none⟩) 0 cap) ∧ (c ∉ D → v = .slice none 0 0)
theorem Tab.lt {base B : Nat} {D : List UInt8} {w : World} (h : Tab base B D w) : B < w.heap.size := by
  obtain ⟨cs, tv, h, _⟩ := h; exact lt_of_block h
theorem Tab.below {base B : Nat} {D : List UInt8} {w w' : World} (h : Tab base B D w) (hb : Below w.heap.size w w') : Tab base B D w' := by
  obtain ⟨cs, tv, h1, h2, h3, h4, h5⟩ := h
  exact ⟨cs, tv, block_below h1 hb (lt_of_block h1), h2, h3, row_below h4 hb, h5⟩
theorem Tab.step {base B : Nat} {D : List UInt8} {w w2 W3 : World} {cs : Array Value} {tv v' : Value} {o : UInt8} {g cap : Nat} (h1 : w.heap[B]? = some (.cells cs 79 (0, 0))) (h2 : cs.size = 257)
    (h6 : ∀ c : UInt8, ∃ v, cs[c.toNat]? = some v ∧ (c ∈ D → ∃ g cap, v = .slice (some ⟨g, 0, none⟩) 0 cap) ∧ (c ∉ D → v = .slice none 0 0)) (h5 : tv.ownBlock ≠ some B)
    (hg : w.grownBy w2 tv.ownBlock) (hown : w2.ownsRow base 9 1 v' (D.length + 1) (strs (D.map fun c => [c]) ++ [.string ⟨#[o]⟩])) (hne : v'.ownBlock ≠ some B)
    (hb : Below (w2.setCell ⟨B, 256, none⟩ v').heap.size (w2.setCell ⟨B, 256, none⟩ v') W3) : Tab base B (D ++ [o]) (W3.setCell ⟨B, o.toNat, none⟩ (.slice (some ⟨g, 0, none⟩) 0 cap)) := by
  have hB := lt_of_block h1
  have k2 : w2.heap[B]? = some (.cells cs 79 (0, 0)) := (hg.block B hB (fun e => h5 e.symm)).trans h1
  have k3 : (w2.setCell ⟨B, 256, none⟩ v').heap[B]? = some (.cells (cs.setIfInBounds 256 v') 79 (0, 0)) := Go.heap_setCell_same w2 B 256 _ _ _ k2
  have k4 := block_below k3 hb (lt_of_block k3)
  have k5 : (W3.setCell ⟨B, o.toNat, none⟩ (.slice (some ⟨g, 0, none⟩) 0 cap)).heap[B]? = some (.cells ((cs.setIfInBounds 256 v').setIfInBounds o.toNat (.slice (some ⟨g, 0, none⟩) 0 cap)) 79 (0, 0)) := Go.heap_setCell_same W3 B o.toNat _ _ _ k4
  have ho := o.toNat_lt
  have hrow : (w2.setCell ⟨B, 256, none⟩ v').ownsRow base 9 1 v' (D.length + 1) (strs (D.map fun c => [c]) ++ [.string ⟨#[o]⟩]) := hown.kept (grown_setCell _ ⟨B, 256, none⟩ _) (.inr hne)
  have hrow3 := row_below hrow hb
  refine ⟨_, v', k5, ?_, ?_, ?_, hne, ?_⟩
  · simp [h2]
  · rw [Array.getElem?_setIfInBounds_ne (by omega), Array.getElem?_setIfInBounds_self_of_lt (by omega)]
  · rw [List.length_append, List.map_append, strs_append]
    exact hrow3.kept (grown_setCell _ ⟨B, o.toNat, none⟩ _) (.inr hne)
  · intro c
    by_cases hc : c = o
    · subst hc
      refine ⟨_, Array.getElem?_setIfInBounds_self_of_lt (by simp; omega), fun _ => ⟨g, cap, rfl⟩, fun h => absurd (by simp) h⟩
    · obtain ⟨v, hv, hv1, hv2⟩ := h6 c
      have hcn := c.toNat_lt
      refine ⟨v, ?_, fun h => hv1 ?_, fun h => hv2 (fun h' => h (List.mem_append_left _ h'))⟩
      · rw [Array.getElem?_setIfInBounds_ne (fun e => hc (UInt8.toNat_inj.1 e.symm)), Array.getElem?_setIfInBounds_ne (by omega)]; exact hv
      · rcases List.mem_append.1 h with h | h
        · exact h
        · exact absurd (List.mem_singleton.1 h) hc

set_option maxHeartbeats 4000000 in
set_option maxRecDepth 100000 in
theorem repl_build (R g cap0 : Nat) (w : World) (hgl : g < w.heap.size) (hR : w.cell? ⟨R, 4, none⟩ = some (.slice (some ⟨g, 0, none⟩) 6 cap0)) (h0 : w.cell? ⟨g, 0, none⟩ = some (.string ⟨#[9]⟩)) (h1 : w.cell? ⟨g, 1, none⟩ = some (.string ⟨#[]⟩))
    (h2 : w.cell? ⟨g, 2, none⟩ = some (.string ⟨#[10]⟩)) (h3 : w.cell? ⟨g, 3, none⟩ = some (.string ⟨#[]⟩)) (h4 : w.cell? ⟨g, 4, none⟩ = some (.string ⟨#[13]⟩)) (h5 : w.cell? ⟨g, 5, none⟩ = some (.string ⟨#[]⟩)) :
    Calls Tryd.prog 33 #[.pointer (some ⟨R, 0, none⟩)] w fun e w' => ∃ B base, e = .returned (.iface 80 (.pointer (some ⟨B, 0, none⟩))) ∧ Tab base B [13, 10, 9] w' ∧ Below w.heap.size w w' ∧ w.heap.size ≤ B ∧ w.heap.size ≤ base := by
  go_enter Tryd.func33, Tryd.ntmps33
  go_wp2
  go_loop [4, 5] (fun q i => ∃ k : Nat, k ≤ 3 ∧ i = .int .i64 ((2 * k : Nat) : Int) ∧ q = .bool (decide (k = 0))) (fun _ i => 6 - (intOf i).toNat)
  case atStart => exact ⟨0, by omega, rfl, rfl⟩
  case round =>
    obtain ⟨k, hk, rfl, rfl⟩ := hrel
    by_cases hk3 : k < 3
    · have : k = 0 ∨ k = 1 ∨ k = 2 := by omega
      rcases this with rfl | rfl | rfl
      · go_wp2
        go_round
        case rel => exact ⟨1, by omega, by simp, rfl⟩
        case measure => simp [intOf]
      · go_wp2
        go_round
        case rel => exact ⟨2, by omega, by simp, rfl⟩
        case measure => simp [intOf]
      · go_wp2
        go_round
        case rel => exact ⟨3, by omega, by simp, rfl⟩
        case measure => simp [intOf]
    · obtain rfl : k = 3 := by omega
      have hmk := make_three w
      go_wp2_with (first | (refine wp_build_tab rfl _ rfl _ _ _ (by rfl) ?_) | (refine wp_alloc_tab rfl rfl ?_) | (refine Go.wpList_store_row rfl 79 _ _ rfl _ (tab0 _) (by rfl) (by rfl) 79 _ (heap_alloc_new _ _) (by kernel_rfl) (by simp [tab0]) (tab0_one _ rfl) ?_))
      clear hmk
      obtain ⟨W0, hW0⟩ : ∃ W0, W0 = (((w.alloc (.cells #[.string ⟨#[]⟩, .string ⟨#[]⟩, .string ⟨#[]⟩] 9)).alloc (.cells (Array.replicate 257 (.slice none 0 0)) 79)).setRow (w.heap.size + 1) (tab0 (.slice (some ⟨w.heap.size, 0, none⟩) 0 3))) := ⟨_, rfl⟩
      have hblk0 : ((w.alloc (.cells #[.string ⟨#[]⟩, .string ⟨#[]⟩, .string ⟨#[]⟩] 9)).alloc (.cells (Array.replicate 257 (.slice none 0 0)) 79)).heap[w.heap.size + 1]? = some (.cells (Array.replicate 257 (.slice none 0 0)) 79 (0, 0)) := by
        have := heap_alloc_new (w.alloc (.cells #[.string ⟨#[]⟩, .string ⟨#[]⟩, .string ⟨#[]⟩] 9)) (.cells (Array.replicate 257 (.slice none 0 0)) 79)
        rw [World.size_alloc] at this; exact this
      have hblk1 : ((w.alloc (.cells #[.string ⟨#[]⟩, .string ⟨#[]⟩, .string ⟨#[]⟩] 9)).alloc (.cells (Array.replicate 257 (.slice none 0 0)) 79)).heap[w.heap.size]? = some (.cells #[.string ⟨#[]⟩, .string ⟨#[]⟩, .string ⟨#[]⟩] 9 (0, 0)) := block_alloc (heap_alloc_new w _) _
      have hT0 : Tab w.heap.size (w.heap.size + 1) [] W0 := by
        refine ⟨tab0 (.slice (some ⟨w.heap.size, 0, none⟩) 0 3), .slice (some ⟨w.heap.size, 0, none⟩) 0 3, ?_, tab0_size _, tab0_list _, ⟨rfl, .inr ⟨w.heap.size, 3, #[.string ⟨#[]⟩, .string ⟨#[]⟩, .string ⟨#[]⟩], rfl, Nat.le_refl _, ?_, Nat.zero_le _, by decide, by decide, rfl⟩⟩, ?_, fun c => ⟨_, tab0_low _ c.toNat_lt, fun h => (by cases h), fun _ => rfl⟩⟩
        · rw [hW0]; exact setRow_heap _ _ _ _ _ _ hblk0
        · rw [hW0, setRow_other _ _ _ _ (by omega)]; exact hblk1
        · simp [Value.ownBlock]
      have hB0 : Below w.heap.size w W0 := by
        rw [hW0]
        exact ((((Below.refl _ w).alloc (Nat.le_refl _) _).alloc (by simp) _)).trans ⟨rfl, rfl, rfl, by simp, fun k hk => setRow_other _ _ _ _ (by omega)⟩
      rw [← hW0]
      clear hW0 hblk0 hblk1 hR
      have hcb := fun W => run_bytes_of_string (P := Tryd.prog) W 9 28 5 ⟨#[]⟩ Tryd.underlying9 Tryd.underlying28 Tryd.underlying5
      have hnil := fun w => nil_eql w
      have hx13 := fun w => idx_one 13 w
      have hx10 := fun w => idx_one 10 w
      have hx9 := fun w => idx_one 9 w
      go_loopw [12, 13, 14] (fun i _ _ wr => ∃ k : Nat, k ≤ 3 ∧ i = .int .i64 (4 - 2 * (k : Int)) ∧ Tab w.heap.size (w.heap.size + 1) (([13, 10, 9] : List UInt8).take k) wr ∧ Below w.heap.size w wr) (fun i _ _ _ => (intOf i + 2).toNat)
      case atStart => exact ⟨0, by omega, rfl, hT0, hB0⟩
      case round =>
        obtain ⟨k, hk, rfl, hT, hb⟩ := hrel
        clear hT0 hB0
        by_cases hk3 : k < 3
        · have d0 : wr.cell? ⟨g, 0, none⟩ = _ := (hb.cell (p := ⟨g, 0, none⟩) hgl).trans h0
          have d1 : wr.cell? ⟨g, 1, none⟩ = _ := (hb.cell (p := ⟨g, 1, none⟩) hgl).trans h1
          have d2 : wr.cell? ⟨g, 2, none⟩ = _ := (hb.cell (p := ⟨g, 2, none⟩) hgl).trans h2
          have d3 : wr.cell? ⟨g, 3, none⟩ = _ := (hb.cell (p := ⟨g, 3, none⟩) hgl).trans h3
          have d4 : wr.cell? ⟨g, 4, none⟩ = _ := (hb.cell (p := ⟨g, 4, none⟩) hgl).trans h4
          have d5 : wr.cell? ⟨g, 5, none⟩ = _ := (hb.cell (p := ⟨g, 5, none⟩) hgl).trans h5
          have : k = 0 ∨ k = 1 ∨ k = 2 := by omega
          rcases this with rfl | rfl | rfl
          · obtain ⟨cs, tv, t1, t2, t3, t4, t5, t6⟩ := hT
            have c256 : wr.cell? ⟨w.heap.size + 1, 256, none⟩ = some tv := by rw [cell_of_row wr _ 256 _ _ _ t1]; exact t3
            have cO : wr.cell? ⟨w.heap.size + 1, 13, none⟩ = some (.slice none 0 0) := by
              obtain ⟨v, hv, _, hv2⟩ := t6 13
              rw [cell_of_row wr _ 13 _ _ _ t1]
              rw [← hv2 (by decide)]; exact hv
            have T1 := Lib.hid t1
            have T2 := Lib.hid t2
            have T4 := Lib.hid t4
            have T6 := Lib.hid t6
            have hbs := hb.size
            have hBw := lt_of_block t1
            have hconv : (convert 28 9 (.slice (some ⟨wr.heap.size, 0, none⟩) 1 1)).run Tryd.prog (wr.alloc (.cells #[.int .u8 13] 5)) = .ok (.string ⟨#[13]⟩) (wr.alloc (.cells #[.int .u8 13] 5)) :=
              str_one 13 (heap_alloc_new wr (.cells #[.int .u8 13] 5)) Tryd.underlying28 Tryd.underlying5 Tryd.underlying9
            clear t1 t2 t3 t4 t6
            go_wp2_with (at_builtin; refine wpList_append1_n rfl _ _ 43 rfl 9 _ (.string ⟨#[]⟩) 16 Tryd.underlying43 infoStr0 rfl w.heap.size _ (wr.heap.size + 1) (by simp) _ 0 _ (.string ⟨#[13]⟩) (by rfl) (by rfl) (T4.out.alloc _) (by omega) (by simp [Value.oneCell']) (by omega) (by omega) ?_)
            intro v' w2 hown' hgrow hat
            have hne' : v'.ownBlock ≠ some (w.heap.size + 1) := by
              rcases hat with h | h
              · rw [h]; exact t5
              · rw [h]; intro e; have := Option.some.inj e; simp at this; omega
            have hg2 : wr.grownBy w2 tv.ownBlock := ⟨hgrow.os, hgrow.tape, hgrow.output, Nat.le_trans (by simp) hgrow.size, fun k hk hr => by rw [hgrow.block k (by simp; omega) hr]; exact Below.heap_alloc _ _ _ hk⟩
            have k2 := (hg2.block (w.heap.size + 1) hBw (fun e => t5 e.symm)).trans T1.out
            have e256 : w2.cell? ⟨w.heap.size + 1, 256, none⟩ = some tv := by rw [← c256]; simp [World.cell?, k2, T1.out]
            have f256 : w2.frozen? ⟨w.heap.size + 1, 256, none⟩ = false := by simp [World.frozen?, k2]
            obtain ⟨g9, cap9, rfl⟩ : ∃ g cap, v' = .slice (some ⟨g, 0, none⟩) (0 + 1) cap := by
              rcases hown'.2 with ⟨_, h0⟩ | ⟨g, cap, cur, hv, _⟩
              · omega
              · exact ⟨g, cap, hv⟩
            have k3 : (w2.setCell ⟨w.heap.size + 1, 256, none⟩ (.slice (some ⟨g9, 0, none⟩) (0 + 1) cap9)).heap[w.heap.size + 1]? = some (.cells (cs.setIfInBounds 256 (.slice (some ⟨g9, 0, none⟩) (0 + 1) cap9)) 79 (0, 0)) := Go.heap_setCell_same w2 (w.heap.size + 1) 256 _ _ _ k2
            have fO : ∀ X, ((w2.setCell ⟨w.heap.size + 1, 256, none⟩ (.slice (some ⟨g9, 0, none⟩) (0 + 1) cap9)).alloc X).frozen? ⟨w.heap.size + 1, 13, none⟩ = false := fun X => by
              simp [World.frozen?, block_alloc k3 X]
            have eO : ∀ X, ((w2.setCell ⟨w.heap.size + 1, 256, none⟩ (.slice (some ⟨g9, 0, none⟩) (0 + 1) cap9)).alloc X).cell? ⟨w.heap.size + 1, 13, none⟩ = some (.slice none 0 0) := fun X => by
              rw [cell_of_row _ _ 13 _ _ _ (block_alloc k3 X), Array.getElem?_setIfInBounds_ne (by omega), ← cO, cell_of_row wr _ 13 _ _ _ T1.out]
            have hbw2 : Below w.heap.size w w2 := hb.grown hg2 hbs (fun k hk => (T4.out.lt k hk).1)
            have hbe : ∀ X S, Below w.heap.size w (((w2.setCell ⟨w.heap.size + 1, 256, none⟩ (.slice (some ⟨g9, 0, none⟩) (0 + 1) cap9)).alloc X).setCell ⟨w.heap.size + 1, 13, none⟩ S).drew := fun X S =>
              (((hbw2.setCell (p := ⟨w.heap.size + 1, 256, none⟩) (Nat.le_succ _) _).alloc (by have := hbw2.size; simp; omega) _).setCell (p := ⟨w.heap.size + 1, 13, none⟩) (Nat.le_succ _) _).drew
            have hTs : ∀ X g cap, Tab w.heap.size (w.heap.size + 1) (([13, 10, 9] : List UInt8).take (0 + 1)) (((w2.setCell ⟨w.heap.size + 1, 256, none⟩ (.slice (some ⟨g9, 0, none⟩) (0 + 1) cap9)).alloc X).setCell ⟨w.heap.size + 1, 13, none⟩ (.slice (some ⟨g, 0, none⟩) 0 cap)).drew := fun X g cap =>
              (Tab.step (D := ([13, 10, 9] : List UInt8).take 0) (o := 13) T1.out T2.out T6.out t5 hg2 hown' hne' ((Below.refl _ _).alloc (Nat.le_refl _) X)).below ((Below.refl _ _).drew)
            have HB := Lib.hid hbe
            have HT := Lib.hid hTs
            clear k2 k3 hbe hTs
            go_wp2
            exact ⟨⟨0 + 1, by omega, by simp, HT.out _ _ _, HB.out _ _⟩, by simp [intOf]⟩
          · obtain ⟨cs, tv, t1, t2, t3, t4, t5, t6⟩ := hT
            have c256 : wr.cell? ⟨w.heap.size + 1, 256, none⟩ = some tv := by rw [cell_of_row wr _ 256 _ _ _ t1]; exact t3
            have cO : wr.cell? ⟨w.heap.size + 1, 10, none⟩ = some (.slice none 0 0) := by
              obtain ⟨v, hv, _, hv2⟩ := t6 10
              rw [cell_of_row wr _ 10 _ _ _ t1]
              rw [← hv2 (by decide)]; exact hv
            have T1 := Lib.hid t1
            have T2 := Lib.hid t2
            have T4 := Lib.hid t4
            have T6 := Lib.hid t6
            have hbs := hb.size
            have hBw := lt_of_block t1
            have hconv : (convert 28 9 (.slice (some ⟨wr.heap.size, 0, none⟩) 1 1)).run Tryd.prog (wr.alloc (.cells #[.int .u8 10] 5)) = .ok (.string ⟨#[10]⟩) (wr.alloc (.cells #[.int .u8 10] 5)) :=
              str_one 10 (heap_alloc_new wr (.cells #[.int .u8 10] 5)) Tryd.underlying28 Tryd.underlying5 Tryd.underlying9
            clear t1 t2 t3 t4 t6
            go_wp2_with (at_builtin; refine wpList_append1_n rfl _ _ 43 rfl 9 _ (.string ⟨#[]⟩) 16 Tryd.underlying43 infoStr0 rfl w.heap.size _ (wr.heap.size + 1) (by simp) _ 1 _ (.string ⟨#[10]⟩) (by rfl) (by rfl) (T4.out.alloc _) (by omega) (by simp [Value.oneCell']) (by omega) (by omega) ?_)
            intro v' w2 hown' hgrow hat
            have hne' : v'.ownBlock ≠ some (w.heap.size + 1) := by
              rcases hat with h | h
              · rw [h]; exact t5
              · rw [h]; intro e; have := Option.some.inj e; simp at this; omega
            have hg2 : wr.grownBy w2 tv.ownBlock := ⟨hgrow.os, hgrow.tape, hgrow.output, Nat.le_trans (by simp) hgrow.size, fun k hk hr => by rw [hgrow.block k (by simp; omega) hr]; exact Below.heap_alloc _ _ _ hk⟩
            have k2 := (hg2.block (w.heap.size + 1) hBw (fun e => t5 e.symm)).trans T1.out
            have e256 : w2.cell? ⟨w.heap.size + 1, 256, none⟩ = some tv := by rw [← c256]; simp [World.cell?, k2, T1.out]
            have f256 : w2.frozen? ⟨w.heap.size + 1, 256, none⟩ = false := by simp [World.frozen?, k2]
            obtain ⟨g9, cap9, rfl⟩ : ∃ g cap, v' = .slice (some ⟨g, 0, none⟩) (1 + 1) cap := by
              rcases hown'.2 with ⟨_, h0⟩ | ⟨g, cap, cur, hv, _⟩
              · omega
              · exact ⟨g, cap, hv⟩
            have k3 : (w2.setCell ⟨w.heap.size + 1, 256, none⟩ (.slice (some ⟨g9, 0, none⟩) (1 + 1) cap9)).heap[w.heap.size + 1]? = some (.cells (cs.setIfInBounds 256 (.slice (some ⟨g9, 0, none⟩) (1 + 1) cap9)) 79 (0, 0)) := Go.heap_setCell_same w2 (w.heap.size + 1) 256 _ _ _ k2
            have fO : ∀ X, ((w2.setCell ⟨w.heap.size + 1, 256, none⟩ (.slice (some ⟨g9, 0, none⟩) (1 + 1) cap9)).alloc X).frozen? ⟨w.heap.size + 1, 10, none⟩ = false := fun X => by
              simp [World.frozen?, block_alloc k3 X]
            have eO : ∀ X, ((w2.setCell ⟨w.heap.size + 1, 256, none⟩ (.slice (some ⟨g9, 0, none⟩) (1 + 1) cap9)).alloc X).cell? ⟨w.heap.size + 1, 10, none⟩ = some (.slice none 0 0) := fun X => by
              rw [cell_of_row _ _ 10 _ _ _ (block_alloc k3 X), Array.getElem?_setIfInBounds_ne (by omega), ← cO, cell_of_row wr _ 10 _ _ _ T1.out]
            have hbw2 : Below w.heap.size w w2 := hb.grown hg2 hbs (fun k hk => (T4.out.lt k hk).1)
            have hbe : ∀ X S, Below w.heap.size w (((w2.setCell ⟨w.heap.size + 1, 256, none⟩ (.slice (some ⟨g9, 0, none⟩) (1 + 1) cap9)).alloc X).setCell ⟨w.heap.size + 1, 10, none⟩ S).drew := fun X S =>
              (((hbw2.setCell (p := ⟨w.heap.size + 1, 256, none⟩) (Nat.le_succ _) _).alloc (by have := hbw2.size; simp; omega) _).setCell (p := ⟨w.heap.size + 1, 10, none⟩) (Nat.le_succ _) _).drew
            have hTs : ∀ X g cap, Tab w.heap.size (w.heap.size + 1) (([13, 10, 9] : List UInt8).take (1 + 1)) (((w2.setCell ⟨w.heap.size + 1, 256, none⟩ (.slice (some ⟨g9, 0, none⟩) (1 + 1) cap9)).alloc X).setCell ⟨w.heap.size + 1, 10, none⟩ (.slice (some ⟨g, 0, none⟩) 0 cap)).drew := fun X g cap =>
              (Tab.step (D := ([13, 10, 9] : List UInt8).take 1) (o := 10) T1.out T2.out T6.out t5 hg2 hown' hne' ((Below.refl _ _).alloc (Nat.le_refl _) X)).below ((Below.refl _ _).drew)
            have HB := Lib.hid hbe
            have HT := Lib.hid hTs
            clear k2 k3 hbe hTs
            go_wp2
            exact ⟨⟨1 + 1, by omega, by simp, HT.out _ _ _, HB.out _ _⟩, by simp [intOf]⟩
          · obtain ⟨cs, tv, t1, t2, t3, t4, t5, t6⟩ := hT
            have c256 : wr.cell? ⟨w.heap.size + 1, 256, none⟩ = some tv := by rw [cell_of_row wr _ 256 _ _ _ t1]; exact t3
            have cO : wr.cell? ⟨w.heap.size + 1, 9, none⟩ = some (.slice none 0 0) := by
              obtain ⟨v, hv, _, hv2⟩ := t6 9
              rw [cell_of_row wr _ 9 _ _ _ t1]
              rw [← hv2 (by decide)]; exact hv
            have T1 := Lib.hid t1
            have T2 := Lib.hid t2
            have T4 := Lib.hid t4
            have T6 := Lib.hid t6
            have hbs := hb.size
            have hBw := lt_of_block t1
            have hconv : (convert 28 9 (.slice (some ⟨wr.heap.size, 0, none⟩) 1 1)).run Tryd.prog (wr.alloc (.cells #[.int .u8 9] 5)) = .ok (.string ⟨#[9]⟩) (wr.alloc (.cells #[.int .u8 9] 5)) :=
              str_one 9 (heap_alloc_new wr (.cells #[.int .u8 9] 5)) Tryd.underlying28 Tryd.underlying5 Tryd.underlying9
            clear t1 t2 t3 t4 t6
            go_wp2_with (at_builtin; refine wpList_append1_n rfl _ _ 43 rfl 9 _ (.string ⟨#[]⟩) 16 Tryd.underlying43 infoStr0 rfl w.heap.size _ (wr.heap.size + 1) (by simp) _ 2 _ (.string ⟨#[9]⟩) (by rfl) (by rfl) (T4.out.alloc _) (by omega) (by simp [Value.oneCell']) (by omega) (by omega) ?_)
            intro v' w2 hown' hgrow hat
            have hne' : v'.ownBlock ≠ some (w.heap.size + 1) := by
              rcases hat with h | h
              · rw [h]; exact t5
              · rw [h]; intro e; have := Option.some.inj e; simp at this; omega
            have hg2 : wr.grownBy w2 tv.ownBlock := ⟨hgrow.os, hgrow.tape, hgrow.output, Nat.le_trans (by simp) hgrow.size, fun k hk hr => by rw [hgrow.block k (by simp; omega) hr]; exact Below.heap_alloc _ _ _ hk⟩
            have k2 := (hg2.block (w.heap.size + 1) hBw (fun e => t5 e.symm)).trans T1.out
            have e256 : w2.cell? ⟨w.heap.size + 1, 256, none⟩ = some tv := by rw [← c256]; simp [World.cell?, k2, T1.out]
            have f256 : w2.frozen? ⟨w.heap.size + 1, 256, none⟩ = false := by simp [World.frozen?, k2]
            obtain ⟨g9, cap9, rfl⟩ : ∃ g cap, v' = .slice (some ⟨g, 0, none⟩) (2 + 1) cap := by
              rcases hown'.2 with ⟨_, h0⟩ | ⟨g, cap, cur, hv, _⟩
              · omega
              · exact ⟨g, cap, hv⟩
            have k3 : (w2.setCell ⟨w.heap.size + 1, 256, none⟩ (.slice (some ⟨g9, 0, none⟩) (2 + 1) cap9)).heap[w.heap.size + 1]? = some (.cells (cs.setIfInBounds 256 (.slice (some ⟨g9, 0, none⟩) (2 + 1) cap9)) 79 (0, 0)) := Go.heap_setCell_same w2 (w.heap.size + 1) 256 _ _ _ k2
            have fO : ∀ X, ((w2.setCell ⟨w.heap.size + 1, 256, none⟩ (.slice (some ⟨g9, 0, none⟩) (2 + 1) cap9)).alloc X).frozen? ⟨w.heap.size + 1, 9, none⟩ = false := fun X => by
              simp [World.frozen?, block_alloc k3 X]
            have eO : ∀ X, ((w2.setCell ⟨w.heap.size + 1, 256, none⟩ (.slice (some ⟨g9, 0, none⟩) (2 + 1) cap9)).alloc X).cell? ⟨w.heap.size + 1, 9, none⟩ = some (.slice none 0 0) := fun X => by
              rw [cell_of_row _ _ 9 _ _ _ (block_alloc k3 X), Array.getElem?_setIfInBounds_ne (by omega), ← cO, cell_of_row wr _ 9 _ _ _ T1.out]
            have hbw2 : Below w.heap.size w w2 := hb.grown hg2 hbs (fun k hk => (T4.out.lt k hk).1)
            have hbe : ∀ X S, Below w.heap.size w (((w2.setCell ⟨w.heap.size + 1, 256, none⟩ (.slice (some ⟨g9, 0, none⟩) (2 + 1) cap9)).alloc X).setCell ⟨w.heap.size + 1, 9, none⟩ S).drew := fun X S =>
              (((hbw2.setCell (p := ⟨w.heap.size + 1, 256, none⟩) (Nat.le_succ _) _).alloc (by have := hbw2.size; simp; omega) _).setCell (p := ⟨w.heap.size + 1, 9, none⟩) (Nat.le_succ _) _).drew
            have hTs : ∀ X g cap, Tab w.heap.size (w.heap.size + 1) (([13, 10, 9] : List UInt8).take (2 + 1)) (((w2.setCell ⟨w.heap.size + 1, 256, none⟩ (.slice (some ⟨g9, 0, none⟩) (2 + 1) cap9)).alloc X).setCell ⟨w.heap.size + 1, 9, none⟩ (.slice (some ⟨g, 0, none⟩) 0 cap)).drew := fun X g cap =>
              (Tab.step (D := ([13, 10, 9] : List UInt8).take 2) (o := 9) T1.out T2.out T6.out t5 hg2 hown' hne' ((Below.refl _ _).alloc (Nat.le_refl _) X)).below ((Below.refl _ _).drew)
            have HB := Lib.hid hbe
            have HT := Lib.hid hTs
            clear k2 k3 hbe hTs
            go_wp2
            exact ⟨⟨2 + 1, by omega, by simp, HT.out _ _ _, HB.out _ _⟩, by simp [intOf]⟩
        · obtain rfl : k = 3 := by omega
          go_wp2
          go_ret
          exact ⟨w.heap.size + 1, w.heap.size, rfl, hT, hb, by omega, Nat.le_refl _⟩

end Go.Proofs.YtcfbmeljjmhdpaaDoor
