/- strings.Replacer: its table is laid once; Replace. -/
import Derived.Test.YtcfbmeljjmhdpaaDoorRepl2
import Derived.Defers
import Derived.Laws.Pointers
import Derived.Laws.LoneSync
import Derived.RegionTactic
import Derived.RegionCalls
import Derived.ChangeAlike
namespace Go.Proofs.YtcfbmeljjmhdpaaDoor
open Go.RowKit Go.Proofs.YtcfbmeljjmhdpaaDoorW.PrintWords

theorem once_disable (w : World) : (callFunc 49 #[]).run Tryd.prog w = .ok (.value (.tuple #[])) w := run_call_mark0 Tryd.func49 (by kernel_rfl) (by kernel_rfl) (by kernel_rfl) .disable (by kernel_rfl) w
theorem once_enable (w : World) : (callFunc 51 #[]).run Tryd.prog w = .ok (.value (.tuple #[])) w := run_call_mark0 Tryd.func51 (by kernel_rfl) (by kernel_rfl) (by kernel_rfl) .enable (by kernel_rfl) w
theorem once_acquire (a : Addr) (w : World) : (callFunc 52 #[.pointer (some a)]).run Tryd.prog w = .ok (.value (.tuple #[])) w := run_call_marked Tryd.func52 (by kernel_rfl) (by kernel_rfl) (by kernel_rfl) .acquire (by kernel_rfl) a w
theorem once_release (a : Addr) (w : World) : (callFunc 54 #[.pointer (some a)]).run Tryd.prog w = .ok (.value (.tuple #[])) w := run_call_marked Tryd.func54 (by kernel_rfl) (by kernel_rfl) (by kernel_rfl) .releaseMerge (by kernel_rfl) a w

theorem store_deferred (a : Addr) (x : Value) (u : FrameMode) (w : World) (hc : w.cell? a = some x) (hz : w.frozen? a = false) :
    CallsD Tryd.prog 39 #[.pointer (some a), .bool true] u w fun e u' w' => u' = u ∧ (e = .returned (.tuple #[]) ∧ w' = w.drew.setCell a (.int .u32 1)) := by
  have hc' : w.drew.cell? a = some x := by go_simp
  have hz' : w.drew.frozen? a = false := by go_simp
  have hst := run_call_store (P := Tryd.prog) Tryd.func45 (by kernel_rfl) (by kernel_rfl) (by kernel_rfl) (by kernel_rfl) (k := .u32) (y := 1) hc' hz'
  go_enter_d Tryd.func39, Tryd.ntmps39
  go_wp2
  go_region_calls
  all_goals (go_end0; exact ⟨rfl, rfl⟩)

set_option maxRecDepth 100000 in
theorem unlock_deferred (a : Addr) (u : FrameMode) (w : World) (hc : w.cell? a = some (.int .i32 1)) (hz : w.frozen? a = false) :
    CallsD Tryd.prog 38 #[.pointer (some a)] u w fun e u' w' => u' = u ∧ (e = .returned (.tuple #[]) ∧ w' = w.setCell a (.int .i32 0)) := by
  have hd := once_disable
  have he := once_enable
  have hr := once_release
  have hadd := run_call_add (P := Tryd.prog) Tryd.func55 (by kernel_rfl) (by kernel_rfl) (by kernel_rfl) .i32 (by kernel_rfl) (y := -1) (s := 0) hc hz (by simp [go_sem]; rfl)
  have hcv := run_convert_to_unsafe (P := Tryd.prog) (src := 99) (dst := 103) Tryd.underlying99 Tryd.underlying103 (by kernel_rfl) hc
  go_enter_d Tryd.func38, Tryd.ntmps38
  go_wp2
  go_end0
  go_wp2
  go_end0
  exact ⟨rfl, rfl⟩

set_option maxRecDepth 100000 in
theorem lock_free (a : Addr) (w : World) (hc : w.cell? a = some (.int .i32 0)) (hz : w.frozen? a = false) :
    Calls Tryd.prog 37 #[.pointer (some a)] w fun e w' => e = .returned (.tuple #[]) ∧ w' = w.setCell a (.int .i32 1) := by
  have hd := once_disable
  have he := once_enable
  have ha := once_acquire
  have hcas := run_call_cas_hit (P := Tryd.prog) Tryd.func50 (by kernel_rfl) (by kernel_rfl) (by kernel_rfl) .i32 (by kernel_rfl) (y := 1) hc hz
  have hc' : (w.setCell a (.int .i32 1)).cell? a = some (.int .i32 1) := World.cell?_setCell_same w a _ hc
  have hcv := run_convert_to_unsafe (P := Tryd.prog) (src := 99) (dst := 103) Tryd.underlying99 Tryd.underlying103 (by kernel_rfl) hc'
  go_enter Tryd.func37, Tryd.ntmps37
  go_wp2
  first | go_end0 | (simp only [Exit.inBlock, Exit.then]; refine bodyPost_ret (results_none rfl _ _ _) rfl ?_) | refine bodyPost_ret (results_none rfl _ _ _) rfl ?_
  go_wp2
  go_end0
  exact ⟨rfl, rfl⟩

theorem Tab.grown {base B R : Nat} {D : List UInt8} {w w' : World} (h : Tab base B D w) (hg : w.grownBy w' (some R)) (hb : R < base) (hB : R < B) : Tab base B D w' := by
  obtain ⟨cs, tv, h1, h2, h3, h4, h5⟩ := h
  refine ⟨cs, tv, ?_, h2, h3, h4.kept hg ?_, h5⟩
  · rw [hg.block B (lt_of_block h1) (fun e => by have := Option.some.inj e; omega)]; exact h1
  · cases hv : tv.ownBlock with
    | none => exact .inl rfl
    | some k => exact .inr (fun e => by have := (h4.lt k hv).1; have := Option.some.inj e; omega)
/-- A Replacer in block R. -/
def RBlk (R : Nat) (d s q r o : Value) (w : World) : Prop := w.heap[R]? = some (.cells #[d, s, q, r, o] 59 (0, 0))
theorem RBlk.set {R : Nat} {d s q r o : Value} {w : World} (h : RBlk R d s q r o w) (k : Nat) (u : Value) : (w.setCell ⟨R, k, none⟩ u).heap[R]? = some (.cells (#[d, s, q, r, o].setIfInBounds k u) 59 (0, 0)) := Go.heap_setCell_same w R k _ _ _ h
theorem RBlk.cell {R : Nat} {d s q r o : Value} {w : World} (h : RBlk R d s q r o w) (k : Nat) : w.cell? ⟨R, k, none⟩ = #[d, s, q, r, o][k]? := cell_of_row w R k _ _ _ h
theorem RBlk.free {R : Nat} {d s q r o : Value} {w : World} (h : RBlk R d s q r o w) (k : Nat) : w.frozen? ⟨R, k, none⟩ = false := by unfold RBlk at h; simp [World.frozen?, h]

/-- What is left of a Replacer's laying. -/
def Laid (R n : Nat) (d s q : Value) (w w' : World) : Prop := ∃ B base, RBlk R d s q (.iface 80 (.pointer (some ⟨B, 0, none⟩))) (.slice none 0 0) w' ∧ Tab base B [13, 10, 9] w' ∧ n ≤ B ∧ n ≤ base ∧ w.grownBy w' (some R)
/-- The six texts that a Replacer is made of. -/
structure Six (g : Nat) (w : World) : Prop where
  lt : g < w.heap.size
  c0 : w.cell? ⟨g, 0, none⟩ = some (.string ⟨#[9]⟩)
  c1 : w.cell? ⟨g, 1, none⟩ = some (.string ⟨#[]⟩)
  c2 : w.cell? ⟨g, 2, none⟩ = some (.string ⟨#[10]⟩)
  c3 : w.cell? ⟨g, 3, none⟩ = some (.string ⟨#[]⟩)
  c4 : w.cell? ⟨g, 4, none⟩ = some (.string ⟨#[13]⟩)
  c5 : w.cell? ⟨g, 5, none⟩ = some (.string ⟨#[]⟩)
theorem Six.grown {g R : Nat} {w w' : World} (h : Six g w) (hg : w.grownBy w' (some R)) (hne : g ≠ R) : Six g w' := by
  have hb : w'.heap[g]? = w.heap[g]? := hg.block g h.lt (fun e => hne ((Option.some.inj e).trans rfl))
  have hc : ∀ k, w'.cell? ⟨g, k, none⟩ = w.cell? ⟨g, k, none⟩ := fun k => by simp [World.cell?, hb]
  exact ⟨Nat.lt_of_lt_of_le h.lt hg.size, (hc 0).trans h.c0, (hc 1).trans h.c1, (hc 2).trans h.c2, (hc 3).trans h.c3, (hc 4).trans h.c4, (hc 5).trans h.c5⟩

set_option maxHeartbeats 1000000 in
theorem repl_buildOnce (R g cap0 : Nat) (d s q r : Value) (w : World) (hR : RBlk R d s q r (.slice (some ⟨g, 0, none⟩) 6 cap0) w) (h6 : Six g w) :
    Calls Tryd.prog 27 #[.pointer (some ⟨R, 0, none⟩)] w fun e w' => e = .returned (.tuple #[]) ∧ Laid R w.heap.size d s q w w' := by
  have hb := repl_build R g cap0 w h6.lt (hR.cell 4) h6.c0 h6.c1 h6.c2 h6.c3 h6.c4 h6.c5
  have hRl : R < w.heap.size := lt_of_block hR
  go_enter Tryd.func27, Tryd.ntmps27
  go_wp2_with fail
  refine hb.mono ?_
  rintro e w1 ⟨B, base, rfl, hT, hb1, hB, hbase⟩
  have hR1 : RBlk R d s q r (.slice (some ⟨g, 0, none⟩) 6 cap0) w1 := block_below hR hb1 hRl
  have k1 := hR1.set 3 (.iface 80 (.pointer (some ⟨B, 0, none⟩)))
  have hR2 : RBlk R d s q (.iface 80 (.pointer (some ⟨B, 0, none⟩))) (.slice (some ⟨g, 0, none⟩) 6 cap0) (w1.setCell ⟨R, 3, none⟩ (.iface 80 (.pointer (some ⟨B, 0, none⟩)))) := k1
  have k2 := hR2.set 4 (.slice none 0 0)
  have c3 := hR1.cell 3
  have f3 := hR1.free 3
  have c4 := hR2.cell 4
  have f4 := hR2.free 4
  have hg : w.grownBy ((w1.setCell ⟨R, 3, none⟩ (.iface 80 (.pointer (some ⟨B, 0, none⟩)))).setCell ⟨R, 4, none⟩ (.slice none 0 0)) (some R) := by
    refine ⟨hb1.os, hb1.tape, hb1.output, by simp; exact hb1.size, fun k hk hr => ?_⟩
    have hne : k ≠ R := fun e => hr (by rw [e])
    rw [Below.heap_setCell _ _ _ _ hne, Below.heap_setCell _ _ _ _ hne, hb1.block k hk]
  have hT2 : Tab base B [13, 10, 9] ((w1.setCell ⟨R, 3, none⟩ (.iface 80 (.pointer (some ⟨B, 0, none⟩)))).setCell ⟨R, 4, none⟩ (.slice none 0 0)) :=
    (hT.grown (grown_setCell _ ⟨R, 3, none⟩ _) (Nat.lt_of_lt_of_le hRl hbase) (Nat.lt_of_lt_of_le hRl hB)).grown (grown_setCell _ ⟨R, 4, none⟩ _) (Nat.lt_of_lt_of_le hRl hbase) (Nat.lt_of_lt_of_le hRl hB)
  have H : Hid (Laid R w.heap.size d s q w ((w1.setCell ⟨R, 3, none⟩ (.iface 80 (.pointer (some ⟨B, 0, none⟩)))).setCell ⟨R, 4, none⟩ (.slice none 0 0))) := ⟨B, base, k2, hT2, hB, hbase, hg⟩
  clear hT2 hg k1 k2 hb
  simp at c3 c4
  go_wp2
  go_end0
  exact ⟨rfl, H.out⟩

theorem Tab.cellset {base B R k : Nat} {D : List UInt8} {u : Value} {w : World} (h : Tab base B D w) (hb : R < base) (hB : R < B) : Tab base B D (w.setCell ⟨R, k, none⟩ u) := h.grown (grown_setCell _ ⟨R, k, none⟩ _) hb hB
theorem Tab.drew {base B : Nat} {D : List UInt8} {w : World} (h : Tab base B D w) : Tab base B D w.drew := h.below ((Below.refl _ _).drew)

set_option maxRecDepth 100000 in
set_option maxHeartbeats 4000000 in
theorem once_doSlow (R g cap0 : Nat) (q r : Value) (w : World) (hR : RBlk R (.int .u32 0) (.int .i32 0) q r (.slice (some ⟨g, 0, none⟩) 6 cap0) w) (h6 : Six g w) (hne : g ≠ R) :
    Calls Tryd.prog 32 #[.pointer (some ⟨R, 0, none⟩), .func (.func 27) #[.pointer (some ⟨R, 0, none⟩)] #[]] w fun e w' => e = .returned (.tuple #[]) ∧ Laid R w.heap.size (.int .u32 1) (.int .i32 0) q w w' := by
  have hRl : R < w.heap.size := lt_of_block hR
  have c1 : w.cell? ⟨R, 1, none⟩ = some (.int .i32 0) := hR.cell 1
  have f1 := hR.free 1
  have hR1 : RBlk R (.int .u32 0) (.int .i32 1) q r (.slice (some ⟨g, 0, none⟩) 6 cap0) (w.setCell ⟨R, 1, none⟩ (.int .i32 1)) := hR.set 1 _
  have c01 : (w.setCell ⟨R, 1, none⟩ (.int .i32 1)).cell? ⟨R, 0, none⟩ = some (.int .u32 0) := hR1.cell 0
  have hl := run_call_load (P := Tryd.prog) Tryd.func36 (by kernel_rfl) (by kernel_rfl) (by kernel_rfl) .u32 (by kernel_rfl) (w := w.setCell ⟨R, 1, none⟩ (.int .i32 1)) (a := ⟨R, 0, none⟩) (x := 0) c01
  have hnot : ∀ (x : Bool) (w : World), (Op.unary .not (.bool x)).run Tryd.prog w = .ok (.bool (!x)) w := fun _ _ => rfl
  have h61 : Six g (w.setCell ⟨R, 1, none⟩ (.int .i32 1)) := h6.grown (grown_setCell _ ⟨R, 1, none⟩ _) hne
  have hbo := repl_buildOnce R g cap0 (.int .u32 0) (.int .i32 1) q r _ hR1 h61
  have hg1 : w.grownBy (w.setCell ⟨R, 1, none⟩ (.int .i32 1)) (some R) := grown_setCell _ ⟨R, 1, none⟩ _
  go_enter_defers Tryd.func32, Tryd.ntmps32
  go_wp2_with (first | (go_at_call 37; refine (lock_free ⟨R, 1, none⟩ _ c1 f1).mono ?_; rintro e w' ⟨rfl, rfl⟩) | (go_at_call 31; go_in) | (go_at_call 27; refine hbo.mono ?_; rintro e w2 ⟨rfl, B, base, hR2, hT2, hB, hbase, hg2⟩))
  have x0 : w2.cell? ⟨R, 0, none⟩ = some (.int .u32 0) := hR2.cell 0
  have f0 := hR2.free 0
  have hR3 : RBlk R (.int .u32 1) (.int .i32 1) q (.iface 80 (.pointer (some ⟨B, 0, none⟩))) (.slice none 0 0) (w2.drew.setCell ⟨R, 0, none⟩ (.int .u32 1)) := RBlk.set (w := w2.drew) hR2 0 _
  have hR4 : RBlk R (.int .u32 1) (.int .i32 0) q (.iface 80 (.pointer (some ⟨B, 0, none⟩))) (.slice none 0 0) ((w2.drew.setCell ⟨R, 0, none⟩ (.int .u32 1)).setCell ⟨R, 1, none⟩ (.int .i32 0)) := hR3.set 1 _
  have x1 : (w2.drew.setCell ⟨R, 0, none⟩ (.int .u32 1)).cell? ⟨R, 1, none⟩ = some (.int .i32 1) := hR3.cell 1
  have y1 := hR3.free 1
  simp at hB hbase
  have hT4 := (hT2.drew.cellset (k := 0) (u := .int .u32 1) (Nat.lt_of_lt_of_le hRl hbase) (Nat.lt_of_lt_of_le hRl hB)).cellset (k := 1) (u := .int .i32 0) (Nat.lt_of_lt_of_le hRl hbase) (Nat.lt_of_lt_of_le hRl hB)
  have hg4 : w.grownBy ((w2.drew.setCell ⟨R, 0, none⟩ (.int .u32 1)).setCell ⟨R, 1, none⟩ (.int .i32 0)) (some R) := by
    refine ⟨hg2.os, hg2.tape, hg2.output, by simp; exact Nat.le_trans (by simp) hg2.size, fun k hk hr => ?_⟩
    have hne : k ≠ R := fun e => hr (by rw [e])
    rw [Below.heap_setCell _ _ _ _ hne, Below.heap_setCell _ _ _ _ hne]
    show w2.heap[k]? = _
    rw [hg2.block k (by simp; exact hk) hr, Below.heap_setCell _ _ _ _ hne]
  have HL : Hid (Laid R w.heap.size (.int .u32 1) (.int .i32 0) q w ((w2.drew.setCell ⟨R, 0, none⟩ (.int .u32 1)).setCell ⟨R, 1, none⟩ (.int .i32 0))) := ⟨B, base, hR4, hT4, hB, hbase, hg4⟩
  clear hT4 hg4 hT2 hR4 hR2 hg2
  refine leaves_cons (f := 39) (args := #[.pointer (some ⟨R, 0, none⟩), .bool true]) (by simp) (by simp [go_sem]) ?_
  refine (store_deferred ⟨R, 0, none⟩ (.int .u32 0) .returning _ x0 f0).mono ?_
  rintro e u' w'' ⟨rfl, rfl, rfl⟩
  refine leaves_cons (f := 38) (args := #[.pointer (some ⟨R, 1, none⟩)]) (by simp [settle]) (by simp [go_sem]) ?_
  refine (unlock_deferred ⟨R, 1, none⟩ _ _ x1 y1).mono ?_
  rintro e u' w'' ⟨rfl, rfl, rfl⟩
  simp [Leaves, settle, results, Tryd.results32]
  exact HL.out

end Go.Proofs.YtcfbmeljjmhdpaaDoor
