/- host.Parse. Hosts: plain laws of what a text tells. Hosts: plain laws of one's own names. Hosts: capital letters, and bytes that are in no host: plain laws. Hosts: bytes that are in no host. -/
import Derived.Test.YtcpjonglfnakpaaDoorMG
import Derived.Test.YtcpjonglfnakpaaDoorLower
import Derived.Test.YtcpjonglfnakpaaDoorMA
namespace Go.Proofs.YtcpjonglfnakpaaDoor
open Go.RowKit Go.Proofs.YtcpjonglfnakpaaDoorW.PrintWords

def zeroT : HostT := ⟨0, ⟨#[]⟩, 0, 0, 0, 0, 0, 0, 0, 0, 0⟩
def sixT (p : List Int) : HostT := match p with
  | [x0, x1, x2, x3, x4, x5, x6, x7] => (Som.six x0 x1 x2 x3 x4 x5 x6 x7).host
  | _ => zeroT
def cutIn (l : List UInt8) : List UInt8 := Lib.trimSuffix (Lib.trimPrefix l [91]) [93]
def isIn (l : List UInt8) : Bool := Lib.hasSuffix (Lib.trimPrefix l [91]) [93]
def parseH (l : List UInt8) : HostT × Bool :=
  if Lib.hasPrefix l [91] = true then (if isIn l = true ∧ (parseSix (cutIn l)).2 = true then (sixT (casts (parseSix (cutIn l)).1), true) else (zeroT, false))
  else if looksB l = true then (if (parseFour l).2 = true then ((Som.num (parseFour l).1).host, true) else (zeroT, false))
  else if okHost (lowL l) = true then ((Som.dom ⟨(lowL l).toArray⟩).host, true) else (zeroT, false)
def zcells : Array Value := #[.int .i64 0, .string ⟨#[]⟩, .int .i64 0, .int .i64 0, .int .i64 0, .int .i64 0, .int .i64 0, .int .i64 0, .int .i64 0, .int .i64 0, .int .i64 0]
/-- A host in its block and a Boolean in a slot are handed back. -/
theorem host_ret2 {fn : Func} {p u : Tmp} (h : fn.results = #[.cell p 24, .tmp u]) (tmps : Array Value) {w : World} {g : Nat} {k l n x0 x1 x2 x3 x4 x5 x6 x7 : Value} {fr : Nat × Nat}
    (hp : tmps.getD p undef = .pointer (some ⟨g, 0, none⟩)) (hg : w.heap[g]? = some (.cells #[k, l, n, x0, x1, x2, x3, x4, x5, x6, x7] 24 fr)) {x : Value} (hx : tmps.getD u undef = x) :
    (results fn tmps).run Tryd.prog w = .ok (.tuple #[.agg #[k, l, n, x0, x1, x2, x3, x4, x5, x6, x7], x]) w := by
  rw [results_cell_tmp h, hp, hx]
  simp [asAddr, run_loadVar_row w g _ 24 _ fr _ hg Tryd.underlying24 rfl (sz11 ..)]
theorem tp_len (l : List UInt8) : (Lib.trimPrefix l [91]).length ≤ l.length := by unfold Lib.trimPrefix; split <;> simp
theorem ts_len (l : List UInt8) : (Lib.trimSuffix l [93]).length ≤ l.length := by unfold Lib.trimSuffix; split <;> simp
theorem host_set {w : World} {g : Nat} {T : TypeId} {c0 c1 c2 c3 c4 c5 c6 c7 c8 c9 c10 : Value} (h : w.heap[g]? = some (.cells #[c0, c1, c2, c3, c4, c5, c6, c7, c8, c9, c10] T (0, 0))) (v0 v1 v2 v3 v4 v5 v6 v7 v8 v9 v10 : Value) :
    (((((((((((w.setCell ⟨g, 0, none⟩ v0).setCell ⟨g, 1, none⟩ v1).setCell ⟨g, 2, none⟩ v2).setCell ⟨g, 3, none⟩ v3).setCell ⟨g, 4, none⟩ v4).setCell ⟨g, 5, none⟩ v5).setCell ⟨g, 6, none⟩ v6).setCell ⟨g, 7, none⟩ v7).setCell ⟨g, 8, none⟩ v8).setCell ⟨g, 9, none⟩ v9).setCell ⟨g, 10, none⟩ v10).heap[g]? = some (.cells #[v0, v1, v2, v3, v4, v5, v6, v7, v8, v9, v10] T (0, 0)) := by
  have h0 : (w.setCell ⟨g, 0, none⟩ v0).heap[g]? = some (.cells #[v0, c1, c2, c3, c4, c5, c6, c7, c8, c9, c10] T (0, 0)) := (Go.heap_setCell_same _ g 0 _ T v0 h).trans (by simp)
  have h1 : ((w.setCell ⟨g, 0, none⟩ v0).setCell ⟨g, 1, none⟩ v1).heap[g]? = some (.cells #[v0, v1, c2, c3, c4, c5, c6, c7, c8, c9, c10] T (0, 0)) := (Go.heap_setCell_same _ g 1 _ T v1 h0).trans (by simp)
  have h2 : (((w.setCell ⟨g, 0, none⟩ v0).setCell ⟨g, 1, none⟩ v1).setCell ⟨g, 2, none⟩ v2).heap[g]? = some (.cells #[v0, v1, v2, c3, c4, c5, c6, c7, c8, c9, c10] T (0, 0)) := (Go.heap_setCell_same _ g 2 _ T v2 h1).trans (by simp)
  have h3 : ((((w.setCell ⟨g, 0, none⟩ v0).setCell ⟨g, 1, none⟩ v1).setCell ⟨g, 2, none⟩ v2).setCell ⟨g, 3, none⟩ v3).heap[g]? = some (.cells #[v0, v1, v2, v3, c4, c5, c6, c7, c8, c9, c10] T (0, 0)) := (Go.heap_setCell_same _ g 3 _ T v3 h2).trans (by simp)
  have h4 : (((((w.setCell ⟨g, 0, none⟩ v0).setCell ⟨g, 1, none⟩ v1).setCell ⟨g, 2, none⟩ v2).setCell ⟨g, 3, none⟩ v3).setCell ⟨g, 4, none⟩ v4).heap[g]? = some (.cells #[v0, v1, v2, v3, v4, c5, c6, c7, c8, c9, c10] T (0, 0)) := (Go.heap_setCell_same _ g 4 _ T v4 h3).trans (by simp)
  have h5 : ((((((w.setCell ⟨g, 0, none⟩ v0).setCell ⟨g, 1, none⟩ v1).setCell ⟨g, 2, none⟩ v2).setCell ⟨g, 3, none⟩ v3).setCell ⟨g, 4, none⟩ v4).setCell ⟨g, 5, none⟩ v5).heap[g]? = some (.cells #[v0, v1, v2, v3, v4, v5, c6, c7, c8, c9, c10] T (0, 0)) := (Go.heap_setCell_same _ g 5 _ T v5 h4).trans (by simp)
  have h6 : (((((((w.setCell ⟨g, 0, none⟩ v0).setCell ⟨g, 1, none⟩ v1).setCell ⟨g, 2, none⟩ v2).setCell ⟨g, 3, none⟩ v3).setCell ⟨g, 4, none⟩ v4).setCell ⟨g, 5, none⟩ v5).setCell ⟨g, 6, none⟩ v6).heap[g]? = some (.cells #[v0, v1, v2, v3, v4, v5, v6, c7, c8, c9, c10] T (0, 0)) := (Go.heap_setCell_same _ g 6 _ T v6 h5).trans (by simp)
  have h7 : ((((((((w.setCell ⟨g, 0, none⟩ v0).setCell ⟨g, 1, none⟩ v1).setCell ⟨g, 2, none⟩ v2).setCell ⟨g, 3, none⟩ v3).setCell ⟨g, 4, none⟩ v4).setCell ⟨g, 5, none⟩ v5).setCell ⟨g, 6, none⟩ v6).setCell ⟨g, 7, none⟩ v7).heap[g]? = some (.cells #[v0, v1, v2, v3, v4, v5, v6, v7, c8, c9, c10] T (0, 0)) := (Go.heap_setCell_same _ g 7 _ T v7 h6).trans (by simp)
  have h8 : (((((((((w.setCell ⟨g, 0, none⟩ v0).setCell ⟨g, 1, none⟩ v1).setCell ⟨g, 2, none⟩ v2).setCell ⟨g, 3, none⟩ v3).setCell ⟨g, 4, none⟩ v4).setCell ⟨g, 5, none⟩ v5).setCell ⟨g, 6, none⟩ v6).setCell ⟨g, 7, none⟩ v7).setCell ⟨g, 8, none⟩ v8).heap[g]? = some (.cells #[v0, v1, v2, v3, v4, v5, v6, v7, v8, c9, c10] T (0, 0)) := (Go.heap_setCell_same _ g 8 _ T v8 h7).trans (by simp)
  have h9 : ((((((((((w.setCell ⟨g, 0, none⟩ v0).setCell ⟨g, 1, none⟩ v1).setCell ⟨g, 2, none⟩ v2).setCell ⟨g, 3, none⟩ v3).setCell ⟨g, 4, none⟩ v4).setCell ⟨g, 5, none⟩ v5).setCell ⟨g, 6, none⟩ v6).setCell ⟨g, 7, none⟩ v7).setCell ⟨g, 8, none⟩ v8).setCell ⟨g, 9, none⟩ v9).heap[g]? = some (.cells #[v0, v1, v2, v3, v4, v5, v6, v7, v8, v9, c10] T (0, 0)) := (Go.heap_setCell_same _ g 9 _ T v9 h8).trans (by simp)
  have h10 : (((((((((((w.setCell ⟨g, 0, none⟩ v0).setCell ⟨g, 1, none⟩ v1).setCell ⟨g, 2, none⟩ v2).setCell ⟨g, 3, none⟩ v3).setCell ⟨g, 4, none⟩ v4).setCell ⟨g, 5, none⟩ v5).setCell ⟨g, 6, none⟩ v6).setCell ⟨g, 7, none⟩ v7).setCell ⟨g, 8, none⟩ v8).setCell ⟨g, 9, none⟩ v9).setCell ⟨g, 10, none⟩ v10).heap[g]? = some (.cells #[v0, v1, v2, v3, v4, v5, v6, v7, v8, v9, v10] T (0, 0)) := (Go.heap_setCell_same _ g 10 _ T v10 h9).trans (by simp)
  exact h10
theorem host_set_below {B : Nat} {w0 w : World} (h : Below B w0 w) {g : Nat} (hg : B ≤ g) (v0 v1 v2 v3 v4 v5 v6 v7 v8 v9 v10 : Value) : Below B w0 (((((((((((w.setCell ⟨g, 0, none⟩ v0).setCell ⟨g, 1, none⟩ v1).setCell ⟨g, 2, none⟩ v2).setCell ⟨g, 3, none⟩ v3).setCell ⟨g, 4, none⟩ v4).setCell ⟨g, 5, none⟩ v5).setCell ⟨g, 6, none⟩ v6).setCell ⟨g, 7, none⟩ v7).setCell ⟨g, 8, none⟩ v8).setCell ⟨g, 9, none⟩ v9).setCell ⟨g, 10, none⟩ v10) :=
  (((((((((((h.setCell hg _).setCell hg _).setCell hg _).setCell hg _).setCell hg _).setCell hg _).setCell hg _).setCell hg _).setCell hg _).setCell hg _).setCell hg _)
theorem host_free {w : World} {g : Nat} {T : TypeId} {cs : Array Value} (h : w.heap[g]? = some (.cells cs T (0, 0))) (i : Nat) : w.frozen? ⟨g, i, none⟩ = false := by simp [World.frozen?, h]
theorem host_cells {w : World} {g : Nat} {T : TypeId} {fr : Nat × Nat} {c0 c1 c2 c3 c4 c5 c6 c7 c8 c9 c10 : Value} (h : w.heap[g]? = some (.cells #[c0, c1, c2, c3, c4, c5, c6, c7, c8, c9, c10] T fr)) : w.cell? ⟨g, 0, none⟩ = some c0 ∧ w.cell? ⟨g, 1, none⟩ = some c1 ∧ w.cell? ⟨g, 2, none⟩ = some c2 ∧ w.cell? ⟨g, 3, none⟩ = some c3 ∧ w.cell? ⟨g, 4, none⟩ = some c4 ∧ w.cell? ⟨g, 5, none⟩ = some c5 ∧ w.cell? ⟨g, 6, none⟩ = some c6 ∧ w.cell? ⟨g, 7, none⟩ = some c7 ∧ w.cell? ⟨g, 8, none⟩ = some c8 ∧ w.cell? ⟨g, 9, none⟩ = some c9 ∧ w.cell? ⟨g, 10, none⟩ = some c10 := by
  refine ⟨?_, ?_, ?_, ?_, ?_, ?_, ?_, ?_, ?_, ?_, ?_⟩ <;> (rw [cell_of_row w g _ _ T fr h]; rfl)
theorem host_zero_val : zeroT.val = .agg #[.int .i64 0, .string ⟨#[]⟩, .int .i64 0, .int .i64 0, .int .i64 0, .int .i64 0, .int .i64 0, .int .i64 0, .int .i64 0, .int .i64 0, .int .i64 0] := rfl

set_option maxHeartbeats 8000000 in
set_option maxRecDepth 100000 in
theorem parse_in_yes (s : ByteArray) (hs : s.size ≤ 1000000) (hp : Lib.hasPrefix s.data.toList [91] = true) (hi : isIn s.data.toList = true) (hc : (parseSix (cutIn s.data.toList)).2 = true) (w : World) (hG : Good w) :
    Calls Tryd.prog 10 #[.string s] w fun e w' => e = .returned (.tuple #[(parseH s.data.toList).1.val, .bool (parseH s.data.toList).2]) ∧ Below w.heap.size w w' := by
  have cP := fun w1 => Tryd.strings_CutPrefix s ⟨#[91]⟩ w1
  have hr0 := heap_alloc_new w (.cells zcells 24)
  have hb0 : Below w.heap.size w (w.alloc (.cells zcells 24)) := (Below.refl _ _).alloc (Nat.le_refl _) _
  have hlt : w.heap.size < (w.alloc (.cells zcells 24)).heap.size := by simp
  have hpar : parseH s.data.toList = (sixT (casts (parseSix (cutIn s.data.toList)).1), true) := by
    unfold parseH
    rw [if_pos hp, if_pos ⟨hi, hc⟩]
  rw [hpar]
  clear hpar
  have cS := fun w1 => Tryd.strings_CutSuffix ⟨(Lib.trimPrefix s.data.toList [91]).toArray⟩ ⟨#[93]⟩ w1 (by rw [size_list, mk_toList]; have := tp_len s.data.toList; rw [← size_list] at this; omega)
  have hP : Hid (Lib.hasPrefix s.data.toList (⟨#[91]⟩ : ByteArray).data.toList = true) := hp
  have hJ : (⟨(cutIn s.data.toList).toArray⟩ : ByteArray).size ≤ 1000000 := by
    rw [size_list, mk_toList]
    have h1 := tp_len s.data.toList
    have h2 := ts_len (Lib.trimPrefix s.data.toList [91])
    rw [← size_list] at h1
    unfold cutIn; omega
  have cQ := fun w1 (hG : Good w1) => six_Parse_any ⟨(cutIn s.data.toList).toArray⟩ hJ w1 hG
  rw [mk_toList] at cQ
  have ha8 : (casts (parseSix (cutIn s.data.toList)).1).length = 8 := by rw [casts_length, parseSix_len]
  have hcp : Lib.hasPrefix s.data.toList (⟨#[91]⟩ : ByteArray).data.toList = true := hp
  simp only [hp] at cP
  have hsi : Lib.hasSuffix (Lib.trimPrefix s.data.toList [91]) [93] = true := hi
  simp only [hsi] at cS
  clear hsi hcp hP
  have hcut : cutIn s.data.toList = Lib.trimSuffix (Lib.trimPrefix s.data.toList [91]) [93] := rfl
  simp only [← hcut] at cS
  clear hcut
  generalize casts (parseSix (cutIn s.data.toList)).1 = a at *
  obtain ⟨y0, y1, y2, y3, y4, y5, y6, y7, rfl⟩ := list8 a ha8
  rw [hc] at cQ
  clear ha8 hp hi hc
  generalize (⟨(cutIn s.data.toList).toArray⟩ : ByteArray) = J at *
  generalize (⟨(Lib.trimPrefix s.data.toList [91]).toArray⟩ : ByteArray) = I at *
  have cQ' : ∀ w1, Good w1 → Calls Tryd.prog 12 #[.string J] w1 fun e w' => e = .returned (.tuple #[.agg #[.int .i64 y0, .int .i64 y1, .int .i64 y2, .int .i64 y3, .int .i64 y4, .int .i64 y5, .int .i64 y6, .int .i64 y7], .bool true]) ∧ Below w1.heap.size w1 w' := cQ
  have cH := fun w1 => host_six y0 y1 y2 y3 y4 y5 y6 y7 w1
  clear cQ hJ
  unfold zcells hV at *
  go_enter Tryd.func10, Tryd.ntmps10
  go_wp2_with fail
  refine (cP _).mono ?_
  rintro e w1 ⟨rfl, rfl⟩
  go_wp2_with fail
  refine (cS _).mono ?_
  rintro e w2 ⟨rfl, rfl⟩
  go_wp2_with fail
  refine (cQ' _ (hG.below hb0)).mono ?_
  rintro e w3 ⟨rfl, hb3⟩
  have hr3 := block_below hr0 hb3 hlt
  have hb4 := below_on hb0 hb0.size hb3
  have hr5 := block_alloc hr3 (.cells #[.int .i64 y0, .int .i64 y1, .int .i64 y2, .int .i64 y3, .int .i64 y4, .int .i64 y5, .int .i64 y6, .int .i64 y7] 22)
  have hb5 := hb4.alloc hb4.size (.cells #[.int .i64 y0, .int .i64 y1, .int .i64 y2, .int .i64 y3, .int .i64 y4, .int .i64 y5, .int .i64 y6, .int .i64 y7] 22)
  go_wp2_with fail
  refine (cH _).mono ?_
  rintro e w4 ⟨rfl, hb6⟩
  have hr6 := block_below hr5 hb6 (lt_of_block hr5)
  have hb7 := below_on hb5 hb5.size hb6
  obtain ⟨z0, z1, z2, z3, z4, z5, z6, z7, z8, z9, z10⟩ := host_cells hr6
  have f0 := host_free hr6 0
  have f1 := host_free hr6 1
  have f2 := host_free hr6 2
  have f3 := host_free hr6 3
  have f4 := host_free hr6 4
  have f5 := host_free hr6 5
  have f6 := host_free hr6 6
  have f7 := host_free hr6 7
  have f8 := host_free hr6 8
  have f9 := host_free hr6 9
  have f10 := host_free hr6 10
  go_wp2
  refine bodyPost_ret (host_ret2 rfl _ rfl (host_set hr6 _ _ _ _ _ _ _ _ _ _ _) rfl) rfl ⟨rfl, host_set_below hb7 (Nat.le_refl _) _ _ _ _ _ _ _ _ _ _ _⟩

set_option maxHeartbeats 8000000 in
set_option maxRecDepth 100000 in
theorem parse_in_no (s : ByteArray) (hs : s.size ≤ 1000000) (hp : Lib.hasPrefix s.data.toList [91] = true) (hi : isIn s.data.toList = true) (hc : (parseSix (cutIn s.data.toList)).2 = false) (w : World) (hG : Good w) :
    Calls Tryd.prog 10 #[.string s] w fun e w' => e = .returned (.tuple #[(parseH s.data.toList).1.val, .bool (parseH s.data.toList).2]) ∧ Below w.heap.size w w' := by
  have cP := fun w1 => Tryd.strings_CutPrefix s ⟨#[91]⟩ w1
  have hr0 := heap_alloc_new w (.cells zcells 24)
  have hb0 : Below w.heap.size w (w.alloc (.cells zcells 24)) := (Below.refl _ _).alloc (Nat.le_refl _) _
  have hlt : w.heap.size < (w.alloc (.cells zcells 24)).heap.size := by simp
  have hpar : parseH s.data.toList = (zeroT, false) := by
    unfold parseH
    rw [if_pos hp, if_neg (fun h => by rw [hc] at h; exact Bool.noConfusion h.2)]
  rw [hpar]
  clear hpar
  have cS := fun w1 => Tryd.strings_CutSuffix ⟨(Lib.trimPrefix s.data.toList [91]).toArray⟩ ⟨#[93]⟩ w1 (by rw [size_list, mk_toList]; have := tp_len s.data.toList; rw [← size_list] at this; omega)
  have hP : Hid (Lib.hasPrefix s.data.toList (⟨#[91]⟩ : ByteArray).data.toList = true) := hp
  have hJ : (⟨(cutIn s.data.toList).toArray⟩ : ByteArray).size ≤ 1000000 := by
    rw [size_list, mk_toList]
    have h1 := tp_len s.data.toList
    have h2 := ts_len (Lib.trimPrefix s.data.toList [91])
    rw [← size_list] at h1
    unfold cutIn; omega
  have cQ := fun w1 (hG : Good w1) => six_Parse_any ⟨(cutIn s.data.toList).toArray⟩ hJ w1 hG
  rw [mk_toList] at cQ
  have ha8 : (casts (parseSix (cutIn s.data.toList)).1).length = 8 := by rw [casts_length, parseSix_len]
  have hcp : Lib.hasPrefix s.data.toList (⟨#[91]⟩ : ByteArray).data.toList = true := hp
  simp only [hp] at cP
  have hsi : Lib.hasSuffix (Lib.trimPrefix s.data.toList [91]) [93] = true := hi
  simp only [hsi] at cS
  clear hsi hcp hP
  have hcut : cutIn s.data.toList = Lib.trimSuffix (Lib.trimPrefix s.data.toList [91]) [93] := rfl
  simp only [← hcut] at cS
  clear hcut
  generalize casts (parseSix (cutIn s.data.toList)).1 = a at *
  obtain ⟨y0, y1, y2, y3, y4, y5, y6, y7, rfl⟩ := list8 a ha8
  rw [hc] at cQ
  clear ha8 hp hi hc
  generalize (⟨(cutIn s.data.toList).toArray⟩ : ByteArray) = J at *
  generalize (⟨(Lib.trimPrefix s.data.toList [91]).toArray⟩ : ByteArray) = I at *
  have cQ' : ∀ w1, Good w1 → Calls Tryd.prog 12 #[.string J] w1 fun e w' => e = .returned (.tuple #[.agg #[.int .i64 y0, .int .i64 y1, .int .i64 y2, .int .i64 y3, .int .i64 y4, .int .i64 y5, .int .i64 y6, .int .i64 y7], .bool false]) ∧ Below w1.heap.size w1 w' := cQ
  skip
  clear cQ hJ
  unfold zcells at *
  go_enter Tryd.func10, Tryd.ntmps10
  go_wp2_with fail
  refine (cP _).mono ?_
  rintro e w1 ⟨rfl, rfl⟩
  go_wp2_with fail
  refine (cS _).mono ?_
  rintro e w2 ⟨rfl, rfl⟩
  go_wp2_with fail
  refine (cQ' _ (hG.below hb0)).mono ?_
  rintro e w3 ⟨rfl, hb3⟩
  have hr3 := block_below hr0 hb3 hlt
  have hb4 := below_on hb0 hb0.size hb3
  have hr5 := block_alloc hr3 (.cells #[.int .i64 y0, .int .i64 y1, .int .i64 y2, .int .i64 y3, .int .i64 y4, .int .i64 y5, .int .i64 y6, .int .i64 y7] 22)
  have hb5 := hb4.alloc hb4.size (.cells #[.int .i64 y0, .int .i64 y1, .int .i64 y2, .int .i64 y3, .int .i64 y4, .int .i64 y5, .int .i64 y6, .int .i64 y7] 22)
  obtain ⟨z0, z1, z2, z3, z4, z5, z6, z7, z8, z9, z10⟩ := host_cells hr5
  have f0 := host_free hr5 0
  have f1 := host_free hr5 1
  have f2 := host_free hr5 2
  have f3 := host_free hr5 3
  have f4 := host_free hr5 4
  have f5 := host_free hr5 5
  have f6 := host_free hr5 6
  have f7 := host_free hr5 7
  have f8 := host_free hr5 8
  have f9 := host_free hr5 9
  have f10 := host_free hr5 10
  go_wp2
  refine bodyPost_ret (host_ret2 rfl _ rfl (host_set hr5 _ _ _ _ _ _ _ _ _ _ _) rfl) rfl ⟨rfl, host_set_below hb5 (Nat.le_refl _) _ _ _ _ _ _ _ _ _ _ _⟩

set_option maxHeartbeats 8000000 in
set_option maxRecDepth 100000 in
theorem parse_in_end (s : ByteArray) (hs : s.size ≤ 1000000) (hp : Lib.hasPrefix s.data.toList [91] = true) (hi : isIn s.data.toList = false) (w : World) (hG : Good w) :
    Calls Tryd.prog 10 #[.string s] w fun e w' => e = .returned (.tuple #[(parseH s.data.toList).1.val, .bool (parseH s.data.toList).2]) ∧ Below w.heap.size w w' := by
  have cP := fun w1 => Tryd.strings_CutPrefix s ⟨#[91]⟩ w1
  have hr0 := heap_alloc_new w (.cells zcells 24)
  have hb0 : Below w.heap.size w (w.alloc (.cells zcells 24)) := (Below.refl _ _).alloc (Nat.le_refl _) _
  have hlt : w.heap.size < (w.alloc (.cells zcells 24)).heap.size := by simp
  have hpar : parseH s.data.toList = (zeroT, false) := by
    unfold parseH
    rw [if_pos hp, if_neg (fun h => by rw [hi] at h; exact Bool.noConfusion h.1)]
  rw [hpar]
  clear hpar
  have cS := fun w1 => Tryd.strings_CutSuffix ⟨(Lib.trimPrefix s.data.toList [91]).toArray⟩ ⟨#[93]⟩ w1 (by rw [size_list, mk_toList]; have := tp_len s.data.toList; rw [← size_list] at this; omega)
  have hP : Hid (Lib.hasPrefix s.data.toList (⟨#[91]⟩ : ByteArray).data.toList = true) := hp
  have hJ : (⟨(cutIn s.data.toList).toArray⟩ : ByteArray).size ≤ 1000000 := by
    rw [size_list, mk_toList]
    have h1 := tp_len s.data.toList
    have h2 := ts_len (Lib.trimPrefix s.data.toList [91])
    rw [← size_list] at h1
    unfold cutIn; omega
  have cQ := fun w1 (hG : Good w1) => six_Parse_any ⟨(cutIn s.data.toList).toArray⟩ hJ w1 hG
  rw [mk_toList] at cQ
  have ha8 : (casts (parseSix (cutIn s.data.toList)).1).length = 8 := by rw [casts_length, parseSix_len]
  have hcp : Lib.hasPrefix s.data.toList (⟨#[91]⟩ : ByteArray).data.toList = true := hp
  simp only [hp] at cP
  have hsi : Lib.hasSuffix (Lib.trimPrefix s.data.toList [91]) [93] = false := hi
  simp only [hsi] at cS
  clear hsi hcp hP
  have hcut : cutIn s.data.toList = Lib.trimSuffix (Lib.trimPrefix s.data.toList [91]) [93] := rfl
  simp only [← hcut] at cS
  clear hcut
  generalize casts (parseSix (cutIn s.data.toList)).1 = a at *
  obtain ⟨y0, y1, y2, y3, y4, y5, y6, y7, rfl⟩ := list8 a ha8
  have hcan : ∃ can, (parseSix (cutIn s.data.toList)).2 = can := ⟨_, rfl⟩
  clear ha8 hp hi
  obtain ⟨can, hcan⟩ := hcan
  rw [hcan] at cQ
  clear hcan
  generalize (⟨(cutIn s.data.toList).toArray⟩ : ByteArray) = J at *
  generalize (⟨(Lib.trimPrefix s.data.toList [91]).toArray⟩ : ByteArray) = I at *
  have cQ' : ∀ w1, Good w1 → Calls Tryd.prog 12 #[.string J] w1 fun e w' => e = .returned (.tuple #[.agg #[.int .i64 y0, .int .i64 y1, .int .i64 y2, .int .i64 y3, .int .i64 y4, .int .i64 y5, .int .i64 y6, .int .i64 y7], .bool can]) ∧ Below w1.heap.size w1 w' := cQ
  skip
  clear cQ hJ
  unfold zcells at *
  go_enter Tryd.func10, Tryd.ntmps10
  go_wp2_with fail
  refine (cP _).mono ?_
  rintro e w1 ⟨rfl, rfl⟩
  go_wp2_with fail
  refine (cS _).mono ?_
  rintro e w2 ⟨rfl, rfl⟩
  go_wp2_with fail
  refine (cQ' _ (hG.below hb0)).mono ?_
  rintro e w3 ⟨rfl, hb3⟩
  have hr3 := block_below hr0 hb3 hlt
  have hb4 := below_on hb0 hb0.size hb3
  have hr5 := block_alloc hr3 (.cells #[.int .i64 y0, .int .i64 y1, .int .i64 y2, .int .i64 y3, .int .i64 y4, .int .i64 y5, .int .i64 y6, .int .i64 y7] 22)
  have hb5 := hb4.alloc hb4.size (.cells #[.int .i64 y0, .int .i64 y1, .int .i64 y2, .int .i64 y3, .int .i64 y4, .int .i64 y5, .int .i64 y6, .int .i64 y7] 22)
  obtain ⟨z0, z1, z2, z3, z4, z5, z6, z7, z8, z9, z10⟩ := host_cells hr5
  have f0 := host_free hr5 0
  have f1 := host_free hr5 1
  have f2 := host_free hr5 2
  have f3 := host_free hr5 3
  have f4 := host_free hr5 4
  have f5 := host_free hr5 5
  have f6 := host_free hr5 6
  have f7 := host_free hr5 7
  have f8 := host_free hr5 8
  have f9 := host_free hr5 9
  have f10 := host_free hr5 10
  go_wp2
  refine bodyPost_ret (host_ret2 rfl _ rfl (host_set hr5 _ _ _ _ _ _ _ _ _ _ _) rfl) rfl ⟨rfl, host_set_below hb5 (Nat.le_refl _) _ _ _ _ _ _ _ _ _ _ _⟩

set_option maxHeartbeats 8000000 in
set_option maxRecDepth 100000 in
theorem parse_num_yes (s : ByteArray) (hs : s.size ≤ 1000000) (hp : Lib.hasPrefix s.data.toList [91] = false) (hk : looksB s.data.toList = true) (hc : (parseFour s.data.toList).2 = true) (w : World) (hG : Good w) :
    Calls Tryd.prog 10 #[.string s] w fun e w' => e = .returned (.tuple #[(parseH s.data.toList).1.val, .bool (parseH s.data.toList).2]) ∧ Below w.heap.size w w' := by
  have cP := fun w1 => Tryd.strings_CutPrefix s ⟨#[91]⟩ w1
  have hr0 := heap_alloc_new w (.cells zcells 24)
  have hb0 : Below w.heap.size w (w.alloc (.cells zcells 24)) := (Below.refl _ _).alloc (Nat.le_refl _) _
  have hlt : w.heap.size < (w.alloc (.cells zcells 24)).heap.size := by simp
  have hpar : parseH s.data.toList = ((Som.num (parseFour s.data.toList).1).host, true) := by
    unfold parseH
    rw [if_neg (by rw [hp]; decide), if_pos hk, if_pos hc]
  rw [hpar]
  clear hpar
  simp only [hp] at cP
  have cL := fun w1 (hG : Good w1) => four_Looks_any s (by omega) w1 hG
  rw [hk] at cL
  have cQ := fun w1 (hG : Good w1) => four_Parse_any s (by omega) w1 hG
  rw [hc] at cQ
  generalize (parseFour s.data.toList).1 = m at *
  clear hp hk hc
  have cH := fun w1 => host_num m w1
  generalize (⟨(Lib.trimPrefix s.data.toList [91]).toArray⟩ : ByteArray) = I at *
  unfold zcells hV at *
  go_enter Tryd.func10, Tryd.ntmps10
  go_wp2_with fail
  refine (cP _).mono ?_
  rintro e w1 ⟨rfl, rfl⟩
  go_wp2_with fail
  refine (cL _ (hG.below hb0)).mono ?_
  rintro e w2 ⟨rfl, hd2⟩
  have hr2 := block_below hr0 hd2.below hlt
  have hb2 := below_on hb0 hb0.size hd2.below
  go_wp2_with fail
  refine (cQ _ (hG.below hb2)).mono ?_
  rintro e w3 ⟨rfl, hb3⟩
  have hr3 := block_below hr2 hb3 (lt_of_block hr2)
  have hb4 := below_on hb2 hb2.size hb3
  go_wp2_with fail
  refine (cH _).mono ?_
  rintro e w4 ⟨rfl, hb6⟩
  have hr6 := block_below hr3 hb6 (lt_of_block hr3)
  have hb7 := below_on hb4 hb4.size hb6
  obtain ⟨z0, z1, z2, z3, z4, z5, z6, z7, z8, z9, z10⟩ := host_cells hr6
  have f0 := host_free hr6 0
  have f1 := host_free hr6 1
  have f2 := host_free hr6 2
  have f3 := host_free hr6 3
  have f4 := host_free hr6 4
  have f5 := host_free hr6 5
  have f6 := host_free hr6 6
  have f7 := host_free hr6 7
  have f8 := host_free hr6 8
  have f9 := host_free hr6 9
  have f10 := host_free hr6 10
  go_wp2
  refine bodyPost_ret (host_ret2 rfl _ rfl (host_set hr6 _ _ _ _ _ _ _ _ _ _ _) rfl) rfl ⟨rfl, host_set_below hb7 (Nat.le_refl _) _ _ _ _ _ _ _ _ _ _ _⟩

set_option maxHeartbeats 8000000 in
set_option maxRecDepth 100000 in
theorem parse_num_no (s : ByteArray) (hs : s.size ≤ 1000000) (hp : Lib.hasPrefix s.data.toList [91] = false) (hk : looksB s.data.toList = true) (hc : (parseFour s.data.toList).2 = false) (w : World) (hG : Good w) :
    Calls Tryd.prog 10 #[.string s] w fun e w' => e = .returned (.tuple #[(parseH s.data.toList).1.val, .bool (parseH s.data.toList).2]) ∧ Below w.heap.size w w' := by
  have cP := fun w1 => Tryd.strings_CutPrefix s ⟨#[91]⟩ w1
  have hr0 := heap_alloc_new w (.cells zcells 24)
  have hb0 : Below w.heap.size w (w.alloc (.cells zcells 24)) := (Below.refl _ _).alloc (Nat.le_refl _) _
  have hlt : w.heap.size < (w.alloc (.cells zcells 24)).heap.size := by simp
  have hpar : parseH s.data.toList = (zeroT, false) := by
    unfold parseH
    rw [if_neg (by rw [hp]; decide), if_pos hk, if_neg (by rw [hc]; decide)]
  rw [hpar]
  clear hpar
  simp only [hp] at cP
  have cL := fun w1 (hG : Good w1) => four_Looks_any s (by omega) w1 hG
  rw [hk] at cL
  have cQ := fun w1 (hG : Good w1) => four_Parse_any s (by omega) w1 hG
  rw [hc] at cQ
  generalize (parseFour s.data.toList).1 = m at *
  clear hp hk hc
  skip
  generalize (⟨(Lib.trimPrefix s.data.toList [91]).toArray⟩ : ByteArray) = I at *
  unfold zcells at *
  go_enter Tryd.func10, Tryd.ntmps10
  go_wp2_with fail
  refine (cP _).mono ?_
  rintro e w1 ⟨rfl, rfl⟩
  go_wp2_with fail
  refine (cL _ (hG.below hb0)).mono ?_
  rintro e w2 ⟨rfl, hd2⟩
  have hr2 := block_below hr0 hd2.below hlt
  have hb2 := below_on hb0 hb0.size hd2.below
  go_wp2_with fail
  refine (cQ _ (hG.below hb2)).mono ?_
  rintro e w3 ⟨rfl, hb3⟩
  have hr3 := block_below hr2 hb3 (lt_of_block hr2)
  have hb4 := below_on hb2 hb2.size hb3
  obtain ⟨z0, z1, z2, z3, z4, z5, z6, z7, z8, z9, z10⟩ := host_cells hr3
  have f0 := host_free hr3 0
  have f1 := host_free hr3 1
  have f2 := host_free hr3 2
  have f3 := host_free hr3 3
  have f4 := host_free hr3 4
  have f5 := host_free hr3 5
  have f6 := host_free hr3 6
  have f7 := host_free hr3 7
  have f8 := host_free hr3 8
  have f9 := host_free hr3 9
  have f10 := host_free hr3 10
  go_wp2
  refine bodyPost_ret (host_ret2 rfl _ rfl (host_set hr3 _ _ _ _ _ _ _ _ _ _ _) rfl) rfl ⟨rfl, host_set_below hb4 (Nat.le_refl _) _ _ _ _ _ _ _ _ _ _ _⟩

set_option maxHeartbeats 8000000 in
set_option maxRecDepth 100000 in
theorem parse_dom_yes (s : ByteArray) (hs : s.size ≤ 1000000) (hp : Lib.hasPrefix s.data.toList [91] = false) (hk : looksB s.data.toList = false) (hc : okHost (lowL s.data.toList) = true) (w : World) (hG : Good w) :
    Calls Tryd.prog 10 #[.string s] w fun e w' => e = .returned (.tuple #[(parseH s.data.toList).1.val, .bool (parseH s.data.toList).2]) ∧ Below w.heap.size w w' := by
  have cP := fun w1 => Tryd.strings_CutPrefix s ⟨#[91]⟩ w1
  have hr0 := heap_alloc_new w (.cells zcells 24)
  have hb0 : Below w.heap.size w (w.alloc (.cells zcells 24)) := (Below.refl _ _).alloc (Nat.le_refl _) _
  have hlt : w.heap.size < (w.alloc (.cells zcells 24)).heap.size := by simp
  have hpar : parseH s.data.toList = ((Som.dom ⟨(lowL s.data.toList).toArray⟩).host, true) := by
    unfold parseH
    rw [if_neg (by rw [hp]; decide), if_neg (by rw [hk]; decide), if_pos hc]
  rw [hpar]
  clear hpar
  simp only [hp] at cP
  have cL := fun w1 (hG : Good w1) => four_Looks_any s (by omega) w1 hG
  rw [hk] at cL
  have cW := fun w1 => ascii_Lower_any s (by omega) w1
  have cQ := fun w1 (hG : Good w1) => host_fits ⟨(lowL s.data.toList).toArray⟩ (by rw [size_list, mk_toList]; unfold lowL; rw [List.length_map, ← size_list]; exact hs) w1 hG
  rw [mk_toList, hc] at cQ
  generalize (⟨(lowL s.data.toList).toArray⟩ : ByteArray) = D at *
  clear hp hk hc
  have cH := fun w1 => host_dom D w1
  generalize (⟨(Lib.trimPrefix s.data.toList [91]).toArray⟩ : ByteArray) = I at *
  unfold zcells hV at *
  go_enter Tryd.func10, Tryd.ntmps10
  go_wp2_with fail
  refine (cP _).mono ?_
  rintro e w1 ⟨rfl, rfl⟩
  go_wp2_with fail
  refine (cL _ (hG.below hb0)).mono ?_
  rintro e w2 ⟨rfl, hd2⟩
  have hr2 := block_below hr0 hd2.below hlt
  have hb2 := below_on hb0 hb0.size hd2.below
  go_wp2_with fail
  refine (cW _).mono ?_
  rintro e w3 ⟨rfl, hb3⟩
  have hr3 := block_below hr2 hb3 (lt_of_block hr2)
  have hb4 := below_on hb2 hb2.size hb3
  go_wp2_with fail
  refine (cQ _ (hG.below hb4)).mono ?_
  rintro e w4 ⟨rfl, hb5⟩
  have hr5 := block_below hr3 hb5 (lt_of_block hr3)
  have hb6 := below_on hb4 hb4.size hb5
  go_wp2_with fail
  refine (cH _).mono ?_
  rintro e w5 ⟨rfl, hb7⟩
  have hr7 := block_below hr5 hb7 (lt_of_block hr5)
  have hb8 := below_on hb6 hb6.size hb7
  obtain ⟨z0, z1, z2, z3, z4, z5, z6, z7, z8, z9, z10⟩ := host_cells hr7
  have f0 := host_free hr7 0
  have f1 := host_free hr7 1
  have f2 := host_free hr7 2
  have f3 := host_free hr7 3
  have f4 := host_free hr7 4
  have f5 := host_free hr7 5
  have f6 := host_free hr7 6
  have f7 := host_free hr7 7
  have f8 := host_free hr7 8
  have f9 := host_free hr7 9
  have f10 := host_free hr7 10
  go_wp2
  refine bodyPost_ret (host_ret2 rfl _ rfl (host_set hr7 _ _ _ _ _ _ _ _ _ _ _) rfl) rfl ⟨rfl, host_set_below hb8 (Nat.le_refl _) _ _ _ _ _ _ _ _ _ _ _⟩

set_option maxHeartbeats 8000000 in
set_option maxRecDepth 100000 in
theorem parse_dom_no (s : ByteArray) (hs : s.size ≤ 1000000) (hp : Lib.hasPrefix s.data.toList [91] = false) (hk : looksB s.data.toList = false) (hc : okHost (lowL s.data.toList) = false) (w : World) (hG : Good w) :
    Calls Tryd.prog 10 #[.string s] w fun e w' => e = .returned (.tuple #[(parseH s.data.toList).1.val, .bool (parseH s.data.toList).2]) ∧ Below w.heap.size w w' := by
  have cP := fun w1 => Tryd.strings_CutPrefix s ⟨#[91]⟩ w1
  have hr0 := heap_alloc_new w (.cells zcells 24)
  have hb0 : Below w.heap.size w (w.alloc (.cells zcells 24)) := (Below.refl _ _).alloc (Nat.le_refl _) _
  have hlt : w.heap.size < (w.alloc (.cells zcells 24)).heap.size := by simp
  have hpar : parseH s.data.toList = (zeroT, false) := by
    unfold parseH
    rw [if_neg (by rw [hp]; decide), if_neg (by rw [hk]; decide), if_neg (by rw [hc]; decide)]
  rw [hpar]
  clear hpar
  simp only [hp] at cP
  have cL := fun w1 (hG : Good w1) => four_Looks_any s (by omega) w1 hG
  rw [hk] at cL
  have cW := fun w1 => ascii_Lower_any s (by omega) w1
  have cQ := fun w1 (hG : Good w1) => host_fits ⟨(lowL s.data.toList).toArray⟩ (by rw [size_list, mk_toList]; unfold lowL; rw [List.length_map, ← size_list]; exact hs) w1 hG
  rw [mk_toList, hc] at cQ
  generalize (⟨(lowL s.data.toList).toArray⟩ : ByteArray) = D at *
  clear hp hk hc
  skip
  generalize (⟨(Lib.trimPrefix s.data.toList [91]).toArray⟩ : ByteArray) = I at *
  unfold zcells at *
  go_enter Tryd.func10, Tryd.ntmps10
  go_wp2_with fail
  refine (cP _).mono ?_
  rintro e w1 ⟨rfl, rfl⟩
  go_wp2_with fail
  refine (cL _ (hG.below hb0)).mono ?_
  rintro e w2 ⟨rfl, hd2⟩
  have hr2 := block_below hr0 hd2.below hlt
  have hb2 := below_on hb0 hb0.size hd2.below
  go_wp2_with fail
  refine (cW _).mono ?_
  rintro e w3 ⟨rfl, hb3⟩
  have hr3 := block_below hr2 hb3 (lt_of_block hr2)
  have hb4 := below_on hb2 hb2.size hb3
  go_wp2_with fail
  refine (cQ _ (hG.below hb4)).mono ?_
  rintro e w4 ⟨rfl, hb5⟩
  have hr5 := block_below hr3 hb5 (lt_of_block hr3)
  have hb6 := below_on hb4 hb4.size hb5
  obtain ⟨z0, z1, z2, z3, z4, z5, z6, z7, z8, z9, z10⟩ := host_cells hr5
  have f0 := host_free hr5 0
  have f1 := host_free hr5 1
  have f2 := host_free hr5 2
  have f3 := host_free hr5 3
  have f4 := host_free hr5 4
  have f5 := host_free hr5 5
  have f6 := host_free hr5 6
  have f7 := host_free hr5 7
  have f8 := host_free hr5 8
  have f9 := host_free hr5 9
  have f10 := host_free hr5 10
  go_wp2
  refine bodyPost_ret (host_ret2 rfl _ rfl (host_set hr5 _ _ _ _ _ _ _ _ _ _ _) rfl) rfl ⟨rfl, host_set_below hb6 (Nat.le_refl _) _ _ _ _ _ _ _ _ _ _ _⟩

theorem host_Parse_any (s : ByteArray) (hs : s.size ≤ 1000000) (w : World) (hG : Good w) :
    Calls Tryd.prog 10 #[.string s] w fun e w' => e = .returned (.tuple #[(parseH s.data.toList).1.val, .bool (parseH s.data.toList).2]) ∧ Below w.heap.size w w' := by
  cases hp : Lib.hasPrefix s.data.toList [91] with
  | true =>
    cases hi : isIn s.data.toList with
    | true =>
      cases hc : (parseSix (cutIn s.data.toList)).2 with
      | true => exact parse_in_yes s hs hp hi hc w hG
      | false => exact parse_in_no s hs hp hi hc w hG
    | false => exact parse_in_end s hs hp hi w hG
  | false =>
    cases hk : looksB s.data.toList with
    | true =>
      cases hc : (parseFour s.data.toList).2 with
      | true => exact parse_num_yes s hs hp hk hc w hG
      | false => exact parse_num_no s hs hp hk hc w hG
    | false =>
      cases hc : okHost (lowL s.data.toList) with
      | true => exact parse_dom_yes s hs hp hk hc w hG
      | false => exact parse_dom_no s hs hp hk hc w hG

end Go.Proofs.YtcpjonglfnakpaaDoor

namespace Go.Proofs.YtcpjonglfnakpaaDoor
open Go.RowKit

theorem pre_iff (l : List UInt8) : Lib.hasPrefix l [91] = true ↔ ∃ t, l = 91 :: t := by
  unfold Lib.hasPrefix
  rw [List.isPrefixOf_iff_prefix]
  constructor
  · rintro ⟨t, rfl⟩; exact ⟨t, rfl⟩
  · rintro ⟨t, rfl⟩; exact ⟨t, rfl⟩
theorem pre_tail (t : List UInt8) : Lib.trimPrefix (91 :: t) [91] = t := by
  unfold Lib.trimPrefix
  rw [if_pos ((pre_iff _).2 ⟨t, rfl⟩)]; rfl
theorem suf_iff (l : List UInt8) : Lib.hasSuffix l [93] = true ↔ ∃ t, l = t ++ [93] := by
  unfold Lib.hasSuffix
  rw [List.isSuffixOf_iff_suffix]
  constructor
  · rintro ⟨t, rfl⟩; exact ⟨t, rfl⟩
  · rintro ⟨t, rfl⟩; exact ⟨t, rfl⟩
theorem suf_tail (t : List UInt8) : Lib.trimSuffix (t ++ [93]) [93] = t := by
  unfold Lib.trimSuffix
  rw [if_pos ((suf_iff _).2 ⟨t, rfl⟩)]; simp
theorem parse_in (l : List UInt8) : parseH (91 :: l ++ [93]) = if (parseSix l).2 = true then (sixT (casts (parseSix l).1), true) else (zeroT, false) := by
  have e1 : Lib.hasPrefix (91 :: l ++ [93]) [91] = true := (pre_iff _).2 ⟨l ++ [93], rfl⟩
  have e2 : isIn (91 :: l ++ [93]) = true := by unfold isIn; rw [List.cons_append, pre_tail]; exact (suf_iff _).2 ⟨l, rfl⟩
  have e3 : cutIn (91 :: l ++ [93]) = l := by unfold cutIn; rw [List.cons_append, pre_tail, suf_tail]
  unfold parseH
  rw [if_pos e1, e2, e3]
  by_cases h : (parseSix l).2 = true
  · rw [if_pos ⟨rfl, h⟩, if_pos h]
  · rw [if_neg (fun h' => h h'.2), if_neg h]
theorem sixT_k {q : List Int} (h : q.length = 8) : (sixT q).k = 3 ∧ (sixT q).l = ⟨#[]⟩ ∧ (sixT q).n = 0 ∧ (sixT q).p = q := by
  obtain ⟨a, b, c, d, e, f, g, i, rfl⟩ := list8 q h
  exact ⟨rfl, rfl, rfl, rfl⟩
theorem parse_pre {l : List UInt8} (h : ∃ t, l = 91 :: t) : parseH l = (zeroT, false) ∨ ∃ q : List Int, q.length = 8 ∧ parseH l = (sixT q, true) := by
  unfold parseH
  rw [if_pos ((pre_iff _).2 h)]
  split
  · exact .inr ⟨_, by rw [casts_length, parseSix_len], rfl⟩
  · exact .inl rfl
theorem parse_num {l : List UInt8} (h : ¬ ∃ t, l = 91 :: t) (hk : looksB l = true) : parseH l = if (parseFour l).2 = true then ((Som.num (parseFour l).1).host, true) else (zeroT, false) := by
  unfold parseH
  rw [if_neg (fun e => h ((pre_iff _).1 e)), if_pos hk]
theorem parse_dom {l : List UInt8} (h : ¬ ∃ t, l = 91 :: t) (hk : looksB l = false) : parseH l = if okHost (lowL l) = true then ((Som.dom ⟨(lowL l).toArray⟩).host, true) else (zeroT, false) := by
  unfold parseH
  rw [if_neg (fun e => h ((pre_iff _).1 e)), if_neg (by rw [hk]; decide)]
theorem okHost_nil : okHost (lowL []) = false := by decide +kernel
theorem looks_nil : looksB [] = false := by decide +kernel

end Go.Proofs.YtcpjonglfnakpaaDoor

namespace Go.Proofs.YtcpjonglfnakpaaDoor
open Go.RowKit

/-- Two dots beside one another. -/
def dd2 : List UInt8 → Bool
  | a :: b :: t => (a == 46 && b == 46) || dd2 (b :: t)
  | _ => false
theorem contains_cons (b : UInt8) (l sub : List UInt8) : Lib.contains (b :: l) sub = (sub.isPrefixOf (b :: l) || Lib.contains l sub) := by
  unfold Lib.contains
  rw [Lib.index]
  cases h : sub.isPrefixOf (b :: l) with
  | true => rw [if_pos rfl]; rfl
  | false =>
    rw [if_neg (by decide), Bool.false_or]
    have := Lib.index_ge l sub
    by_cases h1 : Lib.index l sub = -1
    · rw [h1]; rfl
    · have h2 : (Lib.index l sub == -1) = false := beq_eq_false_iff_ne.2 h1
      simp only [h2, Bool.false_eq_true, if_false]
      rw [decide_eq_true (show 0 ≤ Lib.index l sub by omega)]
      exact decide_eq_true (by omega)
theorem contains_dd : ∀ l : List UInt8, Lib.contains l [46, 46] = dd2 l
  | [] => rfl
  | [a] => by rw [contains_cons]; simp [dd2, List.isPrefixOf, Lib.contains, Lib.index]
  | a :: b :: t => by
    rw [contains_cons, contains_dd (b :: t), dd2]
    congr 1
    simp only [List.isPrefixOf, Bool.and_true]
    rw [Bool.beq_comm (a := (46 : UInt8)) (b := a), Bool.beq_comm (a := (46 : UInt8)) (b := b)]
theorem dd2_join (v : List UInt8) : ∀ u : List UInt8, dd2 (u ++ 46 :: v) = (dd2 (u ++ [46]) || dd2 (46 :: v))
  | [] => by simp [dd2]
  | [a] => by simp [dd2]
  | a :: b :: u => by
    have := dd2_join v (b :: u)
    simp only [List.cons_append] at this ⊢
    rw [dd2, dd2, this, Bool.or_assoc]
theorem ddL_join (x t : List UInt8) : ddL (x ++ 46 :: t) = (ddL x || dd2 (46 :: t ++ [46])) := by
  unfold ddL
  rw [contains_dd, contains_dd]
  have := dd2_join (t ++ [46]) (46 :: x)
  simpa using this
theorem okHost_join {x t : List UInt8} (h : okHost x = true) (hx : x.length ≤ 80) (ht : t.length ≤ 11) (h46 : (46 : UInt8) ∉ t) (hp : plainB t = false) (hd : dd2 (46 :: t ++ [46]) = false) (ho : t.all okC = true) : okHost (x ++ 46 :: t) = true := by
  unfold okHost at h ⊢
  simp only [Bool.and_eq_true, Bool.not_eq_true', decide_eq_true_eq] at h ⊢
  obtain ⟨⟨⟨⟨h1, h2⟩, h3⟩, h4⟩, h5⟩ := h
  refine ⟨⟨⟨⟨?_, ?_⟩, ?_⟩, ?_⟩, ?_⟩
  · cases x <;> rfl
  · rw [List.length_append, List.length_cons]; omega
  · unfold looksB; rw [behind_app h46]; exact hp
  · rw [ddL_join, h4, hd]; rfl
  · rw [List.all_append, h5, List.all_cons, ho]; rfl
theorem lowL_app (a b : List UInt8) : lowL (a ++ b) = lowL a ++ lowL b := by unfold lowL; rw [List.map_append]
theorem parse_join {l t : List UInt8} (hp : ¬ ∃ r, l = 91 :: r) (hok : okHost (lowL l) = true) (hl : l.length ≤ 80) (ht : t.length ≤ 11) (h46 : (46 : UInt8) ∉ t) (hlow : lowL t = t) (hpl : plainB t = false) (hd : dd2 (46 :: t ++ [46]) = false) (ho : t.all okC = true) :
    parseH (l ++ 46 :: t) = ((Som.dom ⟨(lowL l ++ 46 :: t).toArray⟩).host, true) ∧ okHost (lowL l ++ 46 :: t) = true := by
  have e1 : lowL (l ++ 46 :: t) = lowL l ++ 46 :: t := by
    rw [lowL_app]
    show lowL l ++ (lowC 46 :: lowL t) = _
    rw [hlow]; rfl
  have h2 := okHost_join hok (by unfold lowL; rw [List.length_map]; exact hl) ht h46 hpl hd ho
  refine ⟨?_, h2⟩
  have hne : l ≠ [] := fun e => by rw [e, okHost_nil] at hok; exact Bool.noConfusion hok
  have hp2 : ¬ ∃ r, l ++ 46 :: t = 91 :: r := by
    rintro ⟨r, hr⟩
    cases l with
    | nil => exact hne rfl
    | cons c l' => injection hr with h1 _; exact hp ⟨l', by rw [h1]⟩
  have hk : looksB (l ++ 46 :: t) = false := by unfold looksB; rw [behind_app h46]; exact hpl
  rw [parse_dom hp2 hk, e1, if_pos h2]
theorem ofH_dom {D : ByteArray} (h : okHost D.data.toList = true) : ofH (Som.dom D).host = some (.dom D) := by
  unfold ofH Som.host
  dsimp only
  rw [if_pos rfl, if_pos ⟨h, rfl, rfl⟩]
theorem suf_home (x : List UInt8) : Lib.hasSuffix (x ++ 46 :: homeL) (46 :: homeL) = true := by
  unfold Lib.hasSuffix
  rw [List.isSuffixOf_iff_suffix]
  exact List.suffix_append _ _
theorem suf_homex (x : List UInt8) : (x ++ 46 :: (homeL ++ [120]) == homeL || Lib.hasSuffix (x ++ 46 :: (homeL ++ [120])) (46 :: homeL)) = false := by
  rw [Bool.or_eq_false_iff]
  have e : x ++ 46 :: (homeL ++ [120]) = (x ++ 46 :: homeL) ++ [120] := by simp
  constructor
  · rw [beq_eq_false_iff_ne, e]
    intro h
    have := congrArg List.getLast? h
    rw [List.getLast?_concat] at this
    exact absurd this (by decide)
  · rw [Bool.eq_false_iff]
    unfold Lib.hasSuffix
    intro h
    rw [List.isSuffixOf_iff_suffix, e] at h
    obtain ⟨r, hr⟩ := h
    have := congrArg List.getLast? hr
    rw [List.getLast?_concat, show r ++ 46 :: homeL = (r ++ [46, 108, 111, 99, 97, 108, 104, 111, 115]) ++ [116] from by simp [homeL], List.getLast?_concat] at this
    exact absurd this (by decide)
theorem parse_kinds (l : List UInt8) : parseH l = (zeroT, false) ∨ (∃ h : HostT, (h.k = 2 ∨ h.k = 3) ∧ parseH l = (h, true)) ∨ ((¬ ∃ r, l = 91 :: r) ∧ looksB l = false ∧ okHost (lowL l) = true ∧ parseH l = ((Som.dom ⟨(lowL l).toArray⟩).host, true)) := by
  by_cases hp : ∃ r, l = 91 :: r
  · rcases parse_pre hp with h | ⟨q, hq, h⟩
    · exact .inl h
    · exact .inr (.inl ⟨_, .inr (sixT_k hq).1, h⟩)
  · cases hk : looksB l with
    | true =>
      have h := parse_num hp hk
      split at h
      · exact .inr (.inl ⟨_, .inl rfl, h⟩)
      · exact .inl h
    | false =>
      have h := parse_dom hp hk
      split at h
      · rename_i hok
        exact .inr (.inr ⟨hp, rfl, hok, h⟩)
      · exact .inl h
theorem local_yes {l : List UInt8} (hl : l.length ≤ 80) (hp : ¬ ∃ r, l = 91 :: r) (hok : okHost (lowL l) = true) :
    ∃ D D2 : ByteArray, parseH (l ++ 46 :: homeL) = ((Som.dom D).host, true) ∧ localH (Som.dom D).host = true ∧ parseH (l ++ 46 :: (homeL ++ [120])) = ((Som.dom D2).host, true) ∧ localH (Som.dom D2).host = false ∧ D.size ≤ 1000 ∧ D2.size ≤ 1000 := by
  obtain ⟨a1, a2⟩ := parse_join (t := homeL) hp hok hl (by decide) (by decide) (by decide +kernel) (by decide +kernel) (by decide +kernel) (by decide +kernel)
  obtain ⟨b1, b2⟩ := parse_join (t := homeL ++ [120]) hp hok hl (by decide) (by decide) (by decide +kernel) (by decide +kernel) (by decide +kernel) (by decide +kernel)
  have hll : (lowL l).length = l.length := by unfold lowL; rw [List.length_map]
  refine ⟨_, _, a1, ?_, b1, ?_, ?_, ?_⟩
  · unfold localH; rw [ofH_dom (by rw [mk_toList]; exact a2)]
    show (_ || _) = true
    rw [mk_toList, suf_home, Bool.or_true]
  · unfold localH; rw [ofH_dom (by rw [mk_toList]; exact b2)]
    show (_ || _) = false
    rw [mk_toList]; exact suf_homex _
  · rw [size_list, mk_toList, List.length_append, hll, List.length_cons]; have : homeL.length = 9 := rfl; omega
  · rw [size_list, mk_toList, List.length_append, hll, List.length_cons, List.length_append]; have : homeL.length = 9 := rfl; have : ([120] : List UInt8).length = 1 := rfl; omega

end Go.Proofs.YtcpjonglfnakpaaDoor

namespace Go.Proofs.YtcpjonglfnakpaaDoor
open Go.RowKit

/-- A map that keeps what hexD and the colon are keeps what the pieces are. -/
structure Keeps (f : UInt8 → UInt8) : Prop where
  hex : ∀ c, hexD (f c) = hexD c
  colon : ∀ c, f c = 58 ↔ c = 58
theorem km_split {f : UInt8 → UInt8} {c : UInt8} (hc : f c = c) (hi : ∀ b, f b = c → b = c) (l : List UInt8) : splitOn c (l.map f) = (splitOn c l).map (List.map f) := by
  induction l with
  | nil => rfl
  | cons b l ih =>
    obtain ⟨p, ps, e⟩ := splitOn_ne c l
    rw [List.map_cons]
    by_cases hb : b = c
    · rw [hb, hc, splitOn_hit, splitOn_hit, ih]; rfl
    · rw [splitOn_miss hb e, splitOn_miss (fun h => hb (hi b h)) (p := p.map f) (ps := ps.map (List.map f)) (by rw [ih, e]; rfl)]; rfl
section
variable {f : UInt8 → UInt8} (K : Keeps f)
include K
theorem km_isHex (c : UInt8) : isHex (f c) = isHex c := by unfold isHex; rw [K.hex]
theorem km_val (l : List UInt8) : ∀ n, valH n (l.map f) = valH n l := by
  induction l with
  | nil => intro n; rfl
  | cons c l ih => intro n; rw [List.map_cons, valH_cons, valH_cons, K.hex, ih]
theorem km_piece (l : List UInt8) : pieceB (l.map f) = pieceB l := by
  unfold pieceB
  rw [List.isEmpty_map, List.length_map, List.all_map]
  congr 2
  funext c; exact km_isHex K c
theorem km_pieces (l : List UInt8) : piecesO (l.map f) = piecesO l := by
  unfold piecesO
  by_cases h : l = []
  · subst h; rfl
  · rw [if_neg h, if_neg (by simpa using h), km_split ((K.colon 58).2 rfl) (fun b h => (K.colon b).1 h), List.all_map, List.map_map]
    have e1 : (splitOn 58 l).all (pieceB ∘ List.map f) = (splitOn 58 l).all pieceB := by congr 1; funext x; exact km_piece K x
    have e2 : (splitOn 58 l).map (valH 0 ∘ List.map f) = (splitOn 58 l).map (valH 0) := by congr 1; funext x; exact km_val K x 0
    rw [e1, e2]
theorem km_gap : ∀ l : List UInt8, gapL (l.map f) = (gapL l).map fun x => (x.1.map f, x.2.map f)
  | [] => rfl
  | [_] => rfl
  | b :: c :: l => by
    have ih := km_gap (c :: l)
    by_cases h : b = 58 ∧ c = 58
    · obtain ⟨rfl, rfl⟩ := h
      rw [gapL_hit, List.map_cons, List.map_cons, (K.colon 58).2 rfl]; exact gapL_hit _
    · rw [gapL_miss h, List.map_cons, List.map_cons, gapL_miss (fun e => h ⟨(K.colon b).1 e.1, (K.colon c).1 e.2⟩)]
      rw [List.map_cons] at ih
      rw [ih]
      cases gapL (c :: l) <;> rfl
theorem km_parse (l : List UInt8) : parseSix (l.map f) = parseSix l := by
  unfold parseSix
  rw [km_gap K, km_pieces K]
  cases gapL l with
  | none => rfl
  | some x => simp only [Option.map_some, km_pieces K]
end

def upA (c : UInt8) : UInt8 := if 97 ≤ c.toNat ∧ c.toNat ≤ 122 then UInt8.ofNat (c.toNat - 32) else c
structure UpFacts (c : UInt8) : Prop where
  hex : hexD (upA c) = hexD c
  colon : upA c = 58 ↔ c = 58
  low : lowC (upA c) = lowC c
  dig : isDig (upA c) = isDig c
  same : isDig c = true → upA c = c
  dot : upA c = 46 ↔ c = 46
  pre : upA c = 91 ↔ c = 91
  suf : upA c = 93 ↔ c = 93
theorem up_facts (c : UInt8) : UpFacts c := by
  have key : ∀ n : Nat, n < 256 → hexD (upA (UInt8.ofNat n)) = hexD (UInt8.ofNat n) ∧ (upA (UInt8.ofNat n) = 58 ↔ UInt8.ofNat n = 58) ∧ lowC (upA (UInt8.ofNat n)) = lowC (UInt8.ofNat n) ∧ isDig (upA (UInt8.ofNat n)) = isDig (UInt8.ofNat n) ∧ (isDig (UInt8.ofNat n) = true → upA (UInt8.ofNat n) = UInt8.ofNat n) ∧ (upA (UInt8.ofNat n) = 46 ↔ UInt8.ofNat n = 46) ∧ (upA (UInt8.ofNat n) = 91 ↔ UInt8.ofNat n = 91) ∧ (upA (UInt8.ofNat n) = 93 ↔ UInt8.ofNat n = 93) := by decide +kernel
  have := key c.toNat c.toNat_lt
  rw [UInt8.ofNat_toNat] at this
  obtain ⟨h1, h2, h3, h4, h5, h6, h7, h8⟩ := this
  exact ⟨h1, h2, h3, h4, h5, h6, h7, h8⟩
theorem up_keeps : Keeps upA := ⟨fun c => (up_facts c).hex, fun c => (up_facts c).colon⟩
theorem up_plain (l : List UInt8) : plainB (l.map upA) = plainB l := by
  unfold plainB
  rw [List.isEmpty_map, List.all_map]
  congr 2
  funext c; exact (up_facts c).dig
theorem up_dig {l : List UInt8} (h : plainB l = true) : l.map upA = l := by
  unfold plainB at h
  rw [Bool.and_eq_true] at h
  conv => rhs; rw [← List.map_id l]
  exact List.map_congr_left fun c hc => (up_facts c).same (List.all_eq_true.1 h.2 c hc)
theorem up_read (l : List UInt8) (m : Int) : readD (l.map upA) m = readD l m := by
  cases h : plainB l with
  | true => rw [up_dig h]
  | false => unfold readD; rw [up_plain, h, if_neg (fun e => Bool.noConfusion e.1), if_neg (fun e => Bool.noConfusion e.1)]
theorem up_partK (l : List UInt8) : partK (l.map upA) = partK l := by unfold partK; rw [up_read]
theorem up_partB (l : List UInt8) : partB (l.map upA) = partB l := by
  cases h : plainB l with
  | true => rw [up_dig h]
  | false =>
    have e : (readD l 255).2 = false := by unfold readD; rw [h, if_neg (fun e => Bool.noConfusion e.1)]
    unfold partB
    rw [up_read, e]; rfl
theorem up_fold : ∀ (ps : List (List UInt8)) (n : Nat), foldParts n (ps.map (List.map upA)) = foldParts n ps
  | [], _ => rfl
  | p :: ps, n => by rw [List.map_cons, foldParts, foldParts, up_partB, up_partK, up_fold ps]
theorem up_four (l : List UInt8) : parseFour (l.map upA) = parseFour l := by
  unfold parseFour
  rw [km_split ((up_facts 46).dot.2 rfl) (fun b h => (up_facts b).dot.1 h), List.length_map, up_fold]
theorem up_behind (l : List UInt8) : behind 46 (l.map upA) = (behind 46 l).map upA := by
  unfold behind
  rw [← List.map_reverse, List.takeWhile_map, ← List.map_reverse]
  congr 3
  funext c
  show (upA c != 46) = (c != 46)
  rw [Bool.eq_iff_iff, bne_iff_ne, bne_iff_ne]
  exact not_congr (up_facts c).dot
theorem up_looks (l : List UInt8) : looksB (l.map upA) = looksB l := by unfold looksB; rw [up_behind, up_plain]
theorem up_low (l : List UInt8) : lowL (l.map upA) = lowL l := by
  unfold lowL
  rw [List.map_map]
  exact List.map_congr_left fun c _ => (up_facts c).low
theorem up_host (l : List UInt8) : parseH (l.map upA) = parseH l := by
  by_cases hp : ∃ t, l = 91 :: t
  · obtain ⟨t, rfl⟩ := hp
    have e91 : upA 91 = 91 := (up_facts 91).pre.2 rfl
    by_cases hs : ∃ r, t = r ++ [93]
    · obtain ⟨r, rfl⟩ := hs
      have e93 : upA 93 = 93 := (up_facts 93).suf.2 rfl
      have e : (91 :: (r ++ [93])).map upA = 91 :: r.map upA ++ [93] := by simp [e91, e93]
      rw [e, parse_in, km_parse up_keeps]
      exact (parse_in r).symm
    · have hs2 : ¬ ∃ r, t.map upA = r ++ [93] := by
        rintro ⟨r, hr⟩
        obtain ⟨a, b, hab, ha, hb⟩ := List.map_eq_append_iff.1 hr
        obtain ⟨c, b', hb2, hc, hn⟩ := List.map_eq_cons_iff.1 hb
        rw [List.map_eq_nil_iff] at hn
        exact hs ⟨a, by rw [hab, hb2, hn, (up_facts c).suf.1 hc]⟩
      have key : ∀ t : List UInt8, (¬ ∃ r, t = r ++ [93]) → parseH (91 :: t) = (zeroT, false) := fun t h => by
        unfold parseH isIn
        rw [if_pos ((pre_iff _).2 ⟨t, rfl⟩), pre_tail, if_neg (fun e => h ((suf_iff _).1 e.1))]
      rw [key t hs, List.map_cons, e91, key _ hs2]
  · have hp2 : ¬ ∃ t, l.map upA = 91 :: t := by
      rintro ⟨t, ht⟩
      obtain ⟨c, b, hb, hc, _⟩ := List.map_eq_cons_iff.1 ht
      exact hp ⟨b, by rw [hb, (up_facts c).pre.1 hc]⟩
    cases hk : looksB l with
    | true => rw [parse_num hp2 (by rw [up_looks]; exact hk), parse_num hp hk, up_four]
    | false => rw [parse_dom hp2 (by rw [up_looks]; exact hk), parse_dom hp hk, up_low]

end Go.Proofs.YtcpjonglfnakpaaDoor

namespace Go.Proofs.YtcpjonglfnakpaaDoor
open Go.RowKit

def badC (c : UInt8) : Bool := decide (c.toNat ≤ 32 ∨ 127 ≤ c.toNat ∨ c = 47 ∨ c = 37 ∨ c = 64 ∨ c = 63 ∨ c = 35 ∨ c = 92)
structure BadFacts (c : UInt8) : Prop where
  hex : isHex c = false
  colon : c ≠ 58
  dig : isDig c = false
  dot : c ≠ 46
  pre : c ≠ 91
  suf : c ≠ 93
  ok : okC (lowC c) = false
theorem bad_facts {c : UInt8} (h : badC c = true) : BadFacts c := by
  have key : ∀ n : Nat, n < 256 → badC (UInt8.ofNat n) = true → isHex (UInt8.ofNat n) = false ∧ UInt8.ofNat n ≠ 58 ∧ isDig (UInt8.ofNat n) = false ∧ UInt8.ofNat n ≠ 46 ∧ UInt8.ofNat n ≠ 91 ∧ UInt8.ofNat n ≠ 93 ∧ okC (lowC (UInt8.ofNat n)) = false := by decide +kernel
  have := key c.toNat c.toNat_lt
  rw [UInt8.ofNat_toNat] at this
  obtain ⟨h1, h2, h3, h4, h5, h6, h7⟩ := this h
  exact ⟨h1, h2, h3, h4, h5, h6, h7⟩
theorem split_mem {s c : UInt8} : ∀ {l : List UInt8}, c ∈ l → c = s ∨ ∃ p ∈ splitOn s l, c ∈ p
  | b :: l, h => by
    obtain ⟨p, ps, e⟩ := splitOn_ne s l
    by_cases hb : b = s
    · rcases List.mem_cons.1 h with rfl | h
      · exact .inl hb
      · rcases split_mem h with h | ⟨p', hp, hc⟩
        · exact .inl h
        · exact .inr ⟨p', by rw [hb, splitOn_hit]; exact List.mem_cons_of_mem _ hp, hc⟩
    · rw [splitOn_miss hb e]
      rcases List.mem_cons.1 h with rfl | h
      · exact .inr ⟨_, List.mem_cons_self, List.mem_cons_self⟩
      · rcases split_mem (s := s) h with h | ⟨p', hp, hc⟩
        · exact .inl h
        · rw [e] at hp
          rcases List.mem_cons.1 hp with rfl | hp
          · exact .inr ⟨_, List.mem_cons_self, List.mem_cons_of_mem _ hc⟩
          · exact .inr ⟨p', List.mem_cons_of_mem _ hp, hc⟩
theorem pieces_mem {l : List UInt8} {a : List Nat} (h : piecesO l = some a) {c : UInt8} (hc : c ∈ l) : c = 58 ∨ isHex c = true := by
  unfold piecesO at h
  split at h
  · rename_i e; rw [e] at hc; cases hc
  · split at h
    · rename_i hall
      rcases split_mem (s := 58) hc with h1 | ⟨p, hp, hcp⟩
      · exact .inl h1
      · exact .inr (List.all_eq_true.1 (pieceB_out (List.all_eq_true.1 hall p hp)).2.2 c hcp)
    · cases h
theorem six_mem {l : List UInt8} (h : (parseSix l).2 = true) {c : UInt8} (hc : c ∈ l) : c = 58 ∨ isHex c = true := by
  unfold parseSix at h
  cases hg : gapL l with
  | none =>
    rw [hg] at h
    cases hp : piecesO l with
    | none => simp only [hp] at h; exact Bool.noConfusion h
    | some a => exact pieces_mem hp hc
  | some x =>
    obtain ⟨x, y⟩ := x
    rw [hg] at h
    have hl := gapL_out hg
    cases hp : piecesO x with
    | none => simp only [hp] at h; exact Bool.noConfusion h
    | some a =>
      cases hq : piecesO y with
      | none => simp only [hp, hq] at h; exact Bool.noConfusion h
      | some b =>
        rw [hl] at hc
        rcases List.mem_append.1 hc with hc | hc
        · exact pieces_mem hp hc
        · rcases List.mem_cons.1 hc with rfl | hc
          · exact .inl rfl
          · rcases List.mem_cons.1 hc with rfl | hc
            · exact .inl rfl
            · exact pieces_mem hq hc
theorem four_mem {n : Nat} {c : UInt8} (hc : c ∈ showFour n) : c = 46 ∨ isDig c = true := by
  rcases split_mem (s := 46) hc with h | ⟨p, hp, hcp⟩
  · exact .inl h
  · rw [split_show] at hp
    refine .inr ?_
    simp only [fourParts, List.mem_cons, List.not_mem_nil, or_false] at hp
    rcases hp with rfl | rfl | rfl | rfl <;> exact List.all_eq_true.1 (digs_dig _) c hcp
theorem bad_no {l : List UInt8} {c : UInt8} (hc : c ∈ l) (hb : badC c = true) : parseH l = (zeroT, false) := by
  have B := bad_facts hb
  by_cases hp : ∃ t, l = 91 :: t
  · obtain ⟨t, rfl⟩ := hp
    have ht : c ∈ t := by
      rcases List.mem_cons.1 hc with h | h
      · exact absurd h B.pre
      · exact h
    unfold parseH isIn cutIn
    rw [if_pos ((pre_iff _).2 ⟨t, rfl⟩), pre_tail, if_neg]
    rintro ⟨h1, h2⟩
    obtain ⟨r, rfl⟩ := (suf_iff _).1 h1
    rw [suf_tail] at h2
    have hr : c ∈ r := by
      rcases List.mem_append.1 ht with h | h
      · exact h
      · exact absurd (List.mem_singleton.1 h) B.suf
    rcases six_mem h2 hr with h | h
    · exact B.colon h
    · rw [B.hex] at h; exact Bool.noConfusion h
  · cases hk : looksB l with
    | true =>
      rw [parse_num hp hk, if_neg]
      intro h
      rcases parse_cases l with e | ⟨n, _, _, e⟩
      · rw [e] at h; exact Bool.noConfusion h
      · rw [e] at hc
        rcases four_mem hc with h | h
        · exact B.dot h
        · rw [B.dig] at h; exact Bool.noConfusion h
    | false =>
      rw [parse_dom hp hk, if_neg]
      intro h
      unfold okHost at h
      rw [Bool.and_eq_true] at h
      have := List.all_eq_true.1 h.2 (lowC c) (by unfold lowL; exact List.mem_map_of_mem hc)
      rw [B.ok] at this
      exact Bool.noConfusion this

end Go.Proofs.YtcpjonglfnakpaaDoor
