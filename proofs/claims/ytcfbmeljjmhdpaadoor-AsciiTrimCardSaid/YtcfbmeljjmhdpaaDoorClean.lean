/- ascii.Clean. -/
import Derived.Test.YtcfbmeljjmhdpaaDoorOnce
import Derived.Test.YtcfbmeljjmhdpaaDoorTrim
namespace Go.Proofs.YtcfbmeljjmhdpaaDoor
open Go.RowKit Go.Proofs.YtcfbmeljjmhdpaaDoorW.PrintWords

set_option maxRecDepth 100000 in
set_option maxHeartbeats 2000000 in
theorem once_Do (R g cap0 : Nat) (q r : Value) (w : World) (hR : RBlk R (.int .u32 0) (.int .i32 0) q r (.slice (some ⟨g, 0, none⟩) 6 cap0) w) (h6 : Six g w) (hne : g ≠ R) :
    Calls Tryd.prog 26 #[.pointer (some ⟨R, 0, none⟩), .func (.func 27) #[.pointer (some ⟨R, 0, none⟩)] #[]] w fun e w' => e = .returned (.tuple #[]) ∧ Laid R w.heap.size (.int .u32 1) (.int .i32 0) q w w' := by
  have c0 : w.cell? ⟨R, 0, none⟩ = some (.int .u32 0) := hR.cell 0
  have hl := run_call_load (P := Tryd.prog) Tryd.func36 (by kernel_rfl) (by kernel_rfl) (by kernel_rfl) .u32 (by kernel_rfl) c0
  have hnot : ∀ (x : Bool) (w : World), (Op.unary .not (.bool x)).run Tryd.prog w = .ok (.bool (!x)) w := fun _ _ => rfl
  have hs := once_doSlow R g cap0 q r w hR h6 hne
  go_enter Tryd.func26, Tryd.ntmps26
  go_wp2_with (first | (go_at_call 32; refine hs.mono ?_; rintro e w' ⟨rfl, hL⟩) | (go_at_call 31; go_in))
  go_end0
  exact ⟨rfl, hL⟩

theorem meth_Replace (n : Nat) (a : Option Addr) (w : World) : (method (n + 1) 80 (.pointer a) "Replace").run Tryd.prog w = .ok (98, .pointer a) w := by kernel_rfl
set_option maxRecDepth 100000 in
set_option maxHeartbeats 2000000 in
theorem replacer_Replace (R g cap0 : Nat) (q r : Value) (s : ByteArray) (hs : s.size ≤ 1000000) (w : World) (hR : RBlk R (.int .u32 0) (.int .i32 0) q r (.slice (some ⟨g, 0, none⟩) 6 cap0) w) (h6 : Six g w) (hne : g ≠ R) :
    Calls Tryd.prog 22 #[.pointer (some ⟨R, 0, none⟩), .string s] w fun e w' => e = .returned (.string ⟨(s.data.toList.filter keepC).toArray⟩) ∧ w.grownBy w' (some R) := by
  have hd := once_Do R g cap0 q r w hR h6 hne
  have hmf : ∀ (fn : Fn) (first cap : Array Value) (w : World), (Instr.makeFunc fn first cap).run Tryd.prog w = .ok (.func fn first cap) w := fun _ _ _ _ => rfl
  go_enter Tryd.func22, Tryd.ntmps22
  go_wp2_with fail
  refine hd.mono ?_
  rintro e w1 ⟨rfl, B, base, hR1, hT1, hB, hbase, hg1⟩
  have c3 : w1.cell? ⟨R, 3, none⟩ = some (.iface 80 (.pointer (some ⟨B, 0, none⟩))) := hR1.cell 3
  have hrr := repl_Replace base B s hs w1 hT1
  have hm := fun n w => meth_Replace n (some ⟨B, 0, none⟩) w
  go_wp2_with fail
  refine hrr.mono ?_
  rintro e w2 ⟨rfl, hb2⟩
  go_wp2
  go_ret
  exact ⟨rfl, ⟨hb2.os.trans hg1.os, hb2.tape.trans hg1.tape, hb2.output.trans hg1.output, Nat.le_trans hg1.size hb2.size, fun k hk hr => (hb2.block k (Nat.lt_of_lt_of_le hk hg1.size)).trans (hg1.block k hk hr)⟩⟩

theorem Six.below {g : Nat} {w w' : World} (h : Six g w) (hb : Below w.heap.size w w') : Six g w' := by
  have hc : ∀ k, w'.cell? ⟨g, k, none⟩ = w.cell? ⟨g, k, none⟩ := fun k => hb.cell (p := ⟨g, k, none⟩) h.lt
  exact ⟨Nat.lt_of_lt_of_le h.lt hb.size, (hc 0).trans h.c0, (hc 1).trans h.c1, (hc 2).trans h.c2, (hc 3).trans h.c3, (hc 4).trans h.c4, (hc 5).trans h.c5⟩
def sixL : List (List UInt8) := [[9], [], [10], [], [13], []]
set_option maxRecDepth 100000 in
set_option maxHeartbeats 2000000 in
theorem new_Replacer (g0 : Nat) (w : World) (h6 : StrRow w g0 9 sixL) :
    Calls Tryd.prog 21 #[.slice (some ⟨g0, 0, none⟩) 6 6] w fun e w' => ∃ R g cap0, e = .returned (.pointer (some ⟨R, 0, none⟩)) ∧ RBlk R (.int .u32 0) (.int .i32 0) (.int .u32 0) .nilIface (.slice (some ⟨g, 0, none⟩) 6 cap0) w' ∧ Six g w' ∧ g ≠ R ∧ w.heap.size ≤ R ∧ Below w.heap.size w w' := by
  have hT : Texts w.heap.size w (.slice (some ⟨g0, 0, none⟩) 6 6) sixL := texts_row h6 h6.lt
  go_enter Tryd.func21, Tryd.ntmps21
  go_wp2_with (at_builtin; refine append_texts rfl _ _ rfl _ w.heap.size w.heap.size _ _ [] sixL (by rfl) (by rfl) (World.ownsRow_nil _ _ _ _) hT (by decide) (Nat.le_refl _) ?_)
  intro v' w1 hown hgrow
  obtain ⟨g, cap0, rfl, hcap⟩ := own_some (n := 5) hown
  have hgl := hown.lt g rfl
  have hb1 : Below w.heap.size w w1 := ⟨hgrow.os, hgrow.tape, hgrow.output, hgrow.size, fun k hk => hgrow.block k hk (by simp [Value.ownBlock])⟩
  have d0 := own_cell (k := 0) (L := sixL) hown rfl
  have d1 := own_cell (k := 1) (L := sixL) hown rfl
  have d2 := own_cell (k := 2) (L := sixL) hown rfl
  have d3 := own_cell (k := 3) (L := sixL) hown rfl
  have d4 := own_cell (k := 4) (L := sixL) hown rfl
  have d5 := own_cell (k := 5) (L := sixL) hown rfl
  have h6' : Six g w1 := ⟨hgl.2, d0, d1, d2, d3, d4, d5⟩
  clear d0 d1 d2 d3 d4 d5 hT
  have hge : w.heap.size ≤ w1.heap.size := hb1.size
  have H6 := Lib.hid h6'
  have HB := Lib.hid hb1
  clear h6' hb1 h6
  go_wp2
  go_ret
  exact ⟨w1.heap.size, g, cap0, rfl, heap_alloc_new w1 _, H6.out.below ((Below.refl _ _).alloc (Nat.le_refl _) _), Nat.ne_of_lt hgl.2, hge, HB.out.alloc hge _⟩

set_option maxRecDepth 100000 in
set_option maxHeartbeats 2000000 in
theorem ascii_Clean_any (s : ByteArray) (hs : s.size ≤ 1000000) (w : World) (hG : Good w) :
    Calls Tryd.prog 11 #[.string s] w fun e w' => e = .returned (.string ⟨(cleanL s.data.toList).toArray⟩) ∧ Below w.heap.size w w' := by
  have hb0 : Below w.heap.size w (w.alloc (.cells (strs sixL).toArray 9)) := (Below.refl _ _).alloc (Nat.le_refl _) _
  have hnew := new_Replacer w.heap.size (w.alloc (.cells (strs sixL).toArray 9)) (heap_alloc_new w _)
  have htl := trim_len s.data.toList
  rw [← size_list] at htl
  have ht := fun w1 (hG : Good w1) => ascii_Trim_any s (by omega) w1 hG
  unfold cleanL
  generalize trimSp s.data.toList = T at *
  go_enter Tryd.func11, Tryd.ntmps11
  go_wp2_with fail
  refine hnew.mono ?_
  rintro e w1 ⟨R, g, cap0, rfl, hR, h6, hne, hRw, hb1⟩
  have hb01 := hb0.trans (hb1.mono (by simp))
  have hG1 := hG.below hb01
  go_wp2_with fail
  refine (ht w1 hG1).mono ?_
  rintro e w2 ⟨rfl, hb2⟩
  have hR2 : RBlk R (.int .u32 0) (.int .i32 0) (.int .u32 0) .nilIface (.slice (some ⟨g, 0, none⟩) 6 cap0) w2 := block_below hR hb2 (lt_of_block hR)
  have hr := replacer_Replace R g cap0 (.int .u32 0) .nilIface ⟨T.toArray⟩ (by rw [size_list, mk_toList]; omega) w2 hR2 (h6.below hb2) hne
  rw [mk_toList] at hr
  have hb02 := below_on hb01 hb01.size hb2
  simp at hRw
  have hRw2 : w.heap.size ≤ R := by omega
  clear hnew hR hR2 h6
  go_wp2_with fail
  refine hr.mono ?_
  rintro e w3 ⟨rfl, hg3⟩
  go_wp2
  go_ret
  exact ⟨rfl, hb02.grown hg3 hb02.size (fun k hk => by cases hk; exact hRw2)⟩

end Go.Proofs.YtcfbmeljjmhdpaaDoor
