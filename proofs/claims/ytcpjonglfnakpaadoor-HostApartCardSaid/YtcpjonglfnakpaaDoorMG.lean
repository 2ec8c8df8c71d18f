/- host: what a host is, and the host that it is. host.of: what a host is, if it may be. host.May, host.Show, host.Local, over what a host is. host.Local. -/
import Derived.Test.YtcpjonglfnakpaaDoorMD
import Derived.Test.YtcpjonglfnakpaaDoorCard8
import Derived.Stop.IfaceNil
import Derived.Stop.Asserts
import Derived.WideLaws
import Derived.Test.YtcpjonglfnakpaaDoorWEqStruct
import Derived.Test.YtcpjonglfnakpaaDoorMF
import Derived.Deep.RegionHeld3
import Derived.BigRegion
import Derived.Test.YtcpjonglfnakpaaDoorMA
namespace Go.Proofs.YtcpjonglfnakpaaDoor
open Go.RowKit Go.Proofs.YtcpjonglfnakpaaDoorW.PrintWords

def hV (k : Int) (l : ByteArray) (n x0 x1 x2 x3 x4 x5 x6 x7 : Int) : Value := .agg #[.int .i64 k, .string l, .int .i64 n, .int .i64 x0, .int .i64 x1, .int .i64 x2, .int .i64 x3, .int .i64 x4, .int .i64 x5, .int .i64 x6, .int .i64 x7]

theorem as_dd (v : Value) (w : World) : (Instr.typeAssert (.iface 48 v) 40 48 true).run Tryd.prog w = .ok (.tuple #[v, .bool true]) w := by kernel_rfl
theorem as_nd (v : Value) (w : World) : (Instr.typeAssert (.iface 47 v) 40 48 true).run Tryd.prog w = .ok (.tuple #[.string ⟨#[]⟩, .bool false]) w := by kernel_rfl
theorem as_nn (v : Value) (w : World) : (Instr.typeAssert (.iface 47 v) 40 47 true).run Tryd.prog w = .ok (.tuple #[v, .bool true]) w := by kernel_rfl
theorem as_pd (v : Value) (w : World) : (Instr.typeAssert (.iface 46 v) 40 48 true).run Tryd.prog w = .ok (.tuple #[.string ⟨#[]⟩, .bool false]) w := by kernel_rfl
theorem as_pn (v : Value) (w : World) : (Instr.typeAssert (.iface 46 v) 40 47 true).run Tryd.prog w = .ok (.tuple #[.int .i64 0, .bool false]) w := by kernel_rfl
theorem as_pp (v : Value) (w : World) : (Instr.typeAssert (.iface 46 v) 40 46 true).run Tryd.prog w = .ok (.tuple #[v, .bool true]) w := by kernel_rfl

theorem sz11 (k l n x0 x1 x2 x3 x4 x5 x6 x7 : Value) : (Tryd.prog.info? 24).map (·.size) = some (#[k, l, n, x0, x1, x2, x3, x4, x5, x6, x7] : Array Value).size := by kernel_rfl
/-- A host in its block is handed back. -/
theorem host_ret {fn : Func} {p : Tmp} (h : fn.results = #[.cell p 24]) (tmps : Array Value) {w : World} {g : Nat} {k l n x0 x1 x2 x3 x4 x5 x6 x7 : Value} {fr : Nat × Nat}
    (hp : tmps.getD p undef = .pointer (some ⟨g, 0, none⟩)) (hg : w.heap[g]? = some (.cells #[k, l, n, x0, x1, x2, x3, x4, x5, x6, x7] 24 fr)) :
    (results fn tmps).run Tryd.prog w = .ok (.agg #[k, l, n, x0, x1, x2, x3, x4, x5, x6, x7]) w :=
  results_cell_row h tmps w g _ _ fr _ hp hg Tryd.underlying24 rfl (sz11 ..)

set_option maxRecDepth 100000 in
theorem host_dom (l : ByteArray) (w : World) : Calls Tryd.prog 19 #[.iface 48 (.string l)] w fun e w' => e = .returned (hV 1 l 0 0 0 0 0 0 0 0 0) ∧ Below w.heap.size w w' := by
  unfold hV
  have q := fun v w => as_dd v w
  go_enter Tryd.func19, Tryd.ntmps19
  go_wp2
  refine bodyPost_ret (host_ret rfl _ rfl (heap_alloc_new _ _)) rfl ⟨rfl, (Below.refl _ _).alloc (Nat.le_refl _) _⟩
set_option maxRecDepth 100000 in
theorem host_num (n : Int) (w : World) : Calls Tryd.prog 19 #[.iface 47 (.int .i64 n)] w fun e w' => e = .returned (hV 2 ⟨#[]⟩ n 0 0 0 0 0 0 0 0) ∧ Below w.heap.size w w' := by
  unfold hV
  have q := fun v w => as_nd v w
  have q2 := fun v w => as_nn v w
  go_enter Tryd.func19, Tryd.ntmps19
  go_wp2
  refine bodyPost_ret (host_ret rfl _ rfl (heap_alloc_new _ _)) rfl ⟨rfl, (Below.refl _ _).alloc (Nat.le_refl _) _⟩
set_option maxRecDepth 100000 in
theorem host_six (x0 x1 x2 x3 x4 x5 x6 x7 : Int) (w : World) : Calls Tryd.prog 19 #[.iface 46 (.agg #[.int .i64 x0, .int .i64 x1, .int .i64 x2, .int .i64 x3, .int .i64 x4, .int .i64 x5, .int .i64 x6, .int .i64 x7])] w fun e w' => e = .returned (hV 3 ⟨#[]⟩ 0 x0 x1 x2 x3 x4 x5 x6 x7) ∧ Below w.heap.size w w' := by
  unfold hV
  have q := fun v w => as_pd v w
  have q2 := fun v w => as_pn v w
  have q3 := fun v w => as_pp v w
  go_enter Tryd.func19, Tryd.ntmps19
  go_wp2
  refine bodyPost_ret (host_ret rfl _ rfl (block_alloc (heap_alloc_new _ _) _)) rfl ⟨rfl, ((Below.refl _ _).alloc (Nat.le_refl _) _).alloc (by simp) _⟩

/-- A host: its kind, name, number, pieces. -/
structure HostT where
  k : Int
  l : ByteArray
  n : Int
  x0 : Int
  x1 : Int
  x2 : Int
  x3 : Int
  x4 : Int
  x5 : Int
  x6 : Int
  x7 : Int
  deriving DecidableEq
abbrev HostT.p (h : HostT) : List Int := [h.x0, h.x1, h.x2, h.x3, h.x4, h.x5, h.x6, h.x7]
theorem run_equalIn_intsD (d : Nat) {P : Program} {w : World} {T e : TypeId} {n : Nat} {k' : IntKind} (hT : P.underlying T = some (.array n e)) (hi : (P.info? e).isSome = true) (hu : P.underlying e = some (.int k')) (hc : P.cellsOf e = 1) (he : P.plainKey e = true)
    {p q : List Int} (hp : p.length = n) (hq : q.length = n) : (Op.equalIn (d + 2) T (.agg (ints p).toArray) (.agg (ints q).toArray)).run P w = .ok (p == q) w := by
  obtain ⟨i, hi⟩ := Option.isSome_iff_exists.1 hi
  rw [run_equalIn_array w (d + 1) (ints p).toArray (ints q).toArray hT hi, run_eqItems_ints hu hc he d (List.range n) fun j hj => by rw [List.mem_range] at hj; omega]
  refine congrArg (fun b => Result.ok b w) ?_
  rw [Bool.eq_iff_iff, List.all_eq_true, beq_iff_eq]
  constructor
  · intro h
    apply List.ext_getElem?
    intro j
    rcases Nat.lt_or_ge j n with hj | hj
    · have := h j (List.mem_range.2 hj)
      rw [List.getElem?_eq_getElem (by omega), List.getElem?_eq_getElem (by omega)] at this ⊢
      simpa using this
    · rw [List.getElem?_eq_none (by omega), List.getElem?_eq_none (by omega)]
  · rintro rfl j _
    simp

theorem eqHost (k l n x0 x1 x2 x3 x4 x5 x6 x7 k' l' n' y0 y1 y2 y3 y4 y5 y6 y7) (w : World) :
    (Op.equalIn 10000 24 (hV k l n x0 x1 x2 x3 x4 x5 x6 x7) (hV k' l' n' y0 y1 y2 y3 y4 y5 y6 y7)).run Tryd.prog w = .ok (k == k' && (l.toList == l'.toList && (n == n' && ([x0, x1, x2, x3, x4, x5, x6, x7] == [y0, y1, y2, y3, y4, y5, y6, y7])))) w := by
  refine eqA_of Tryd.underlying24 (by kernel_rfl) ?_
  refine eqf_cons rfl (a := .int .i64 k) (b := .int .i64 k') (by kernel_rfl) (by kernel_rfl) (run_equalIn_int _ _ _ _ _ _ _ Tryd.underlying3) ?_
  refine eqf_cons rfl (a := .string l) (b := .string l') (by kernel_rfl) (by kernel_rfl) (run_equalIn_string _ _ _ _ _ Tryd.underlying9) ?_
  refine eqf_cons rfl (a := .int .i64 n) (b := .int .i64 n') (by kernel_rfl) (by kernel_rfl) (run_equalIn_int _ _ _ _ _ _ _ Tryd.underlying3) ?_
  refine eqf_last rfl (a := .agg (ints [x0, x1, x2, x3, x4, x5, x6, x7]).toArray) (b := .agg (ints [y0, y1, y2, y3, y4, y5, y6, y7]).toArray) (by kernel_rfl) (by kernel_rfl) ?_
  exact run_equalIn_intsD 9997 Tryd.underlying22 (by kernel_rfl) Tryd.underlying3 (by kernel_rfl) (by kernel_rfl) rfl rfl

end Go.Proofs.YtcpjonglfnakpaaDoor

namespace Go.Proofs.YtcpjonglfnakpaaDoor
open Go.RowKit Go.Proofs.YtcpjonglfnakpaaDoorW.PrintWords

def Eleven (w : World) (b : Nat) (k : Int) (l : ByteArray) (n x0 x1 x2 x3 x4 x5 x6 x7 : Int) : Prop :=
  w.cell? ⟨b, 0, none⟩ = some (.int .i64 k) ∧ w.cell? ⟨b, 1, none⟩ = some (.string l) ∧ w.cell? ⟨b, 2, none⟩ = some (.int .i64 n) ∧ w.cell? ⟨b, 3, none⟩ = some (.int .i64 x0) ∧ w.cell? ⟨b, 4, none⟩ = some (.int .i64 x1) ∧ w.cell? ⟨b, 5, none⟩ = some (.int .i64 x2) ∧ w.cell? ⟨b, 6, none⟩ = some (.int .i64 x3) ∧ w.cell? ⟨b, 7, none⟩ = some (.int .i64 x4) ∧ w.cell? ⟨b, 8, none⟩ = some (.int .i64 x5) ∧ w.cell? ⟨b, 9, none⟩ = some (.int .i64 x6) ∧ w.cell? ⟨b, 10, none⟩ = some (.int .i64 x7)
def hCells (k : Int) (l : ByteArray) (n x0 x1 x2 x3 x4 x5 x6 x7 : Int) : Array Value := #[.int .i64 k, .string l, .int .i64 n, .int .i64 x0, .int .i64 x1, .int .i64 x2, .int .i64 x3, .int .i64 x4, .int .i64 x5, .int .i64 x6, .int .i64 x7]
theorem eleven_of {w : World} {b : Nat} {k : Int} {l : ByteArray} {n x0 x1 x2 x3 x4 x5 x6 x7 : Int} {T : TypeId} {fr : Nat × Nat} (h : w.heap[b]? = some (.cells (hCells k l n x0 x1 x2 x3 x4 x5 x6 x7) T fr)) : Eleven w b k l n x0 x1 x2 x3 x4 x5 x6 x7 := by
  refine ⟨?_, ?_, ?_, ?_, ?_, ?_, ?_, ?_, ?_, ?_, ?_⟩ <;> (rw [cell_of_row w b _ _ T fr h]; rfl)
theorem host_blk {w : World} {k : Int} {l : ByteArray} {n x0 x1 x2 x3 x4 x5 x6 x7 : Int} {T : TypeId} {w1 : World} (hb : Below (w.alloc (.cells (hCells k l n x0 x1 x2 x3 x4 x5 x6 x7) T)).heap.size (w.alloc (.cells (hCells k l n x0 x1 x2 x3 x4 x5 x6 x7) T)) w1) :
    w1.heap[w.heap.size]? = some (.cells (hCells k l n x0 x1 x2 x3 x4 x5 x6 x7) T (0, 0)) := block_below (heap_alloc_new w (.cells (hCells k l n x0 x1 x2 x3 x4 x5 x6 x7) T)) hb (by simp)

set_option maxHeartbeats 4000000 in
set_option maxRecDepth 100000 in
theorem of_dom (l : ByteArray) (hl : l.size ≤ 1000000) (n x0 x1 x2 x3 x4 x5 x6 x7 : Int) (hok : okHost l.data.toList = true) (w : World) (hG : Good w) :
    Calls Tryd.prog 16 #[hV 1 l n x0 x1 x2 x3 x4 x5 x6 x7] w fun e w' => e = .returned (if n = 0 ∧ [x0, x1, x2, x3, x4, x5, x6, x7] = [0, 0, 0, 0, 0, 0, 0, 0] then .iface 48 (.string l) else .nilIface) ∧ Below w.heap.size w w' := by
  have cF := fun (w1 : World) (hG : Good w1) => host_fits l hl w1 hG
  rw [hok] at cF
  have cH := fun w1 => host_dom l w1
  have hE := fun w1 => eqHost 1 l 0 0 0 0 0 0 0 0 0 1 l n x0 x1 x2 x3 x4 x5 x6 x7 w1
  have hcond : ((1 : Int) == 1 && (l.toList == l.toList && ((0 : Int) == n && [0, 0, 0, 0, 0, 0, 0, 0] == [x0, x1, x2, x3, x4, x5, x6, x7]))) = decide (n = 0 ∧ [x0, x1, x2, x3, x4, x5, x6, x7] = [0, 0, 0, 0, 0, 0, 0, 0]) := by
    rw [Bool.eq_iff_iff, decide_eq_true_iff]
    simp only [Bool.and_eq_true, beq_iff_eq, ba_toList]
    constructor
    · rintro ⟨_, _, h1, h2⟩; exact ⟨h1.symm, h2.symm⟩
    · rintro ⟨h1, h2⟩; exact ⟨trivial, trivial, h1.symm, h2.symm⟩
  simp only [hcond] at hE
  clear hcond
  rw [show (if n = 0 ∧ [x0, x1, x2, x3, x4, x5, x6, x7] = [0, 0, 0, 0, 0, 0, 0, 0] then (.iface 48 (.string l) : Value) else .nilIface) = (if decide (n = 0 ∧ [x0, x1, x2, x3, x4, x5, x6, x7] = [0, 0, 0, 0, 0, 0, 0, 0]) = true then .iface 48 (.string l) else .nilIface) from by simp only [decide_eq_true_iff]]
  generalize decide (n = 0 ∧ [x0, x1, x2, x3, x4, x5, x6, x7] = [0, 0, 0, 0, 0, 0, 0, 0]) = D at *
  unfold hV at *
  have hb0 : Below w.heap.size w (w.alloc (.cells (hCells 1 l n x0 x1 x2 x3 x4 x5 x6 x7) 24)) := (Below.refl _ _).alloc (Nat.le_refl _) _
  have HB := fun w1 (h : Below (w.alloc (.cells (hCells 1 l n x0 x1 x2 x3 x4 x5 x6 x7) 24)).heap.size (w.alloc (.cells (hCells 1 l n x0 x1 x2 x3 x4 x5 x6 x7) 24)) w1) => eleven_of (host_blk h)
  unfold hCells at *
  clear hok
  go_enter Tryd.func16, Tryd.ntmps16
  go_wp2_with fail
  refine (cF _ (hG.below hb0)).mono ?_
  rintro e w1 ⟨rfl, hb1⟩
  have hk1 := HB _ hb1
  have hb2 : Below w.heap.size w w1 := below_on hb0 hb0.size hb1
  obtain ⟨c0, c1, c2, c3, c4, c5, c6, c7, c8, c9, c10⟩ := hk1
  have hG1 := hG.below hb2
  have hmk : ∀ w', Ok w1 w' → (fun w' => Ok w1 w' ∧ w'.cell? ⟨w.heap.size, 0, none⟩ = some (.int .i64 1) ∧ w'.cell? ⟨w.heap.size, 1, none⟩ = some (.string l) ∧ w'.cell? ⟨w.heap.size, 2, none⟩ = some (.int .i64 n) ∧ w'.cell? ⟨w.heap.size, 3, none⟩ = some (.int .i64 x0) ∧ w'.cell? ⟨w.heap.size, 4, none⟩ = some (.int .i64 x1) ∧ w'.cell? ⟨w.heap.size, 5, none⟩ = some (.int .i64 x2) ∧ w'.cell? ⟨w.heap.size, 6, none⟩ = some (.int .i64 x3) ∧ w'.cell? ⟨w.heap.size, 7, none⟩ = some (.int .i64 x4) ∧ w'.cell? ⟨w.heap.size, 8, none⟩ = some (.int .i64 x5) ∧ w'.cell? ⟨w.heap.size, 9, none⟩ = some (.int .i64 x6) ∧ w'.cell? ⟨w.heap.size, 10, none⟩ = some (.int .i64 x7)) w' := fun w' h => ⟨h, HB w' (below_on hb1 hb1.size h.below)⟩
  have hkd := (Ok.refl hG1).drew
  have cH' : ∀ w', Ok w1 w' → _ := fun w' h => ok_below h fun _ => cH w'
  have hfin : ∀ w', Ok w1 w' → Below w.heap.size w w' := fun w' h => below_on hb2 hb2.size h.below
  clear cF HB hb0 hb1
  cases D with
  | true =>
    go_wp2_with fail
    go_region_held3 (fun w' => Ok w1 w' ∧ w'.cell? ⟨w.heap.size, 0, none⟩ = some (.int .i64 1) ∧ w'.cell? ⟨w.heap.size, 1, none⟩ = some (.string l) ∧ w'.cell? ⟨w.heap.size, 2, none⟩ = some (.int .i64 n) ∧ w'.cell? ⟨w.heap.size, 3, none⟩ = some (.int .i64 x0) ∧ w'.cell? ⟨w.heap.size, 4, none⟩ = some (.int .i64 x1) ∧ w'.cell? ⟨w.heap.size, 5, none⟩ = some (.int .i64 x2) ∧ w'.cell? ⟨w.heap.size, 6, none⟩ = some (.int .i64 x3) ∧ w'.cell? ⟨w.heap.size, 7, none⟩ = some (.int .i64 x4) ∧ w'.cell? ⟨w.heap.size, 8, none⟩ = some (.int .i64 x5) ∧ w'.cell? ⟨w.heap.size, 9, none⟩ = some (.int .i64 x6) ∧ w'.cell? ⟨w.heap.size, 10, none⟩ = some (.int .i64 x7)) (exact hmk _ (by assumption)) (first | (go_simp; go_at_call 19; refine (cH' _ ?_).mono ?_; (exact And.left (by assumption)); rintro e wm ⟨rfl, hmm⟩))
    all_goals (go_wp2; go_ret; exact ⟨rfl, hfin _ (And.left (by assumption))⟩)
  | false =>
    go_wp2_with fail
    go_region_held3 (fun w' => Ok w1 w' ∧ w'.cell? ⟨w.heap.size, 0, none⟩ = some (.int .i64 1) ∧ w'.cell? ⟨w.heap.size, 1, none⟩ = some (.string l) ∧ w'.cell? ⟨w.heap.size, 2, none⟩ = some (.int .i64 n) ∧ w'.cell? ⟨w.heap.size, 3, none⟩ = some (.int .i64 x0) ∧ w'.cell? ⟨w.heap.size, 4, none⟩ = some (.int .i64 x1) ∧ w'.cell? ⟨w.heap.size, 5, none⟩ = some (.int .i64 x2) ∧ w'.cell? ⟨w.heap.size, 6, none⟩ = some (.int .i64 x3) ∧ w'.cell? ⟨w.heap.size, 7, none⟩ = some (.int .i64 x4) ∧ w'.cell? ⟨w.heap.size, 8, none⟩ = some (.int .i64 x5) ∧ w'.cell? ⟨w.heap.size, 9, none⟩ = some (.int .i64 x6) ∧ w'.cell? ⟨w.heap.size, 10, none⟩ = some (.int .i64 x7)) (exact hmk _ (by assumption)) (first | (go_simp; go_at_call 19; refine (cH' _ ?_).mono ?_; (exact And.left (by assumption)); rintro e wm ⟨rfl, hmm⟩))
    all_goals (go_wp2; go_ret; exact ⟨rfl, hfin _ (And.left (by assumption))⟩)

set_option maxHeartbeats 4000000 in
set_option maxRecDepth 100000 in
theorem of_num (l : ByteArray) (hl : l.size ≤ 1000000) (n x0 x1 x2 x3 x4 x5 x6 x7 : Int) (hok : showF n ≠ []) (w : World) (hG : Good w) :
    Calls Tryd.prog 16 #[hV 2 l n x0 x1 x2 x3 x4 x5 x6 x7] w fun e w' => e = .returned (if l = ⟨#[]⟩ ∧ [x0, x1, x2, x3, x4, x5, x6, x7] = [0, 0, 0, 0, 0, 0, 0, 0] then .iface 47 (.int .i64 n) else .nilIface) ∧ Below w.heap.size w w' := by
  have hne : (⟨(showF n).toArray⟩ : ByteArray).toList.isEmpty = false := by rw [ba_toList, mk_toList]; cases h : showF n with | nil => exact absurd h hok | cons a t => rfl
  have cF := fun (w1 : World) (hG : Good w1) => four_Show.calls n _ w1 hG rfl
  have cH := fun w1 => host_num n w1
  have hE := fun w1 => eqHost 2 ⟨#[]⟩ n 0 0 0 0 0 0 0 0 2 l n x0 x1 x2 x3 x4 x5 x6 x7 w1
  generalize (⟨(showF n).toArray⟩ : ByteArray) = T at *
  have hcond : ((2 : Int) == 2 && ((⟨#[]⟩ : ByteArray).toList == l.toList && (n == n && [(0 : Int), 0, 0, 0, 0, 0, 0, 0] == [x0, x1, x2, x3, x4, x5, x6, x7]))) = decide (l = ⟨#[]⟩ ∧ [x0, x1, x2, x3, x4, x5, x6, x7] = [0, 0, 0, 0, 0, 0, 0, 0]) := by
    rw [Bool.eq_iff_iff, decide_eq_true_iff]
    simp only [Bool.and_eq_true, beq_iff_eq, ba_toList]
    constructor
    · rintro ⟨_, h1, _, h2⟩; exact ⟨(toList_inj h1).symm, h2.symm⟩
    · rintro ⟨h1, h2⟩; exact ⟨trivial, by rw [h1], trivial, h2.symm⟩
  simp only [hcond] at hE
  clear hcond
  rw [show (if l = ⟨#[]⟩ ∧ [x0, x1, x2, x3, x4, x5, x6, x7] = [0, 0, 0, 0, 0, 0, 0, 0] then (.iface 47 (.int .i64 n) : Value) else .nilIface) = (if decide (l = ⟨#[]⟩ ∧ [x0, x1, x2, x3, x4, x5, x6, x7] = [0, 0, 0, 0, 0, 0, 0, 0]) = true then .iface 47 (.int .i64 n) else .nilIface) from by simp only [decide_eq_true_iff]]
  generalize decide (l = ⟨#[]⟩ ∧ [x0, x1, x2, x3, x4, x5, x6, x7] = [0, 0, 0, 0, 0, 0, 0, 0]) = D at *
  unfold hV at *
  have hb0 : Below w.heap.size w (w.alloc (.cells (hCells 2 l n x0 x1 x2 x3 x4 x5 x6 x7) 24)) := (Below.refl _ _).alloc (Nat.le_refl _) _
  have HB := fun w1 (h : Below (w.alloc (.cells (hCells 2 l n x0 x1 x2 x3 x4 x5 x6 x7) 24)).heap.size (w.alloc (.cells (hCells 2 l n x0 x1 x2 x3 x4 x5 x6 x7) 24)) w1) => eleven_of (host_blk h)
  unfold hCells at *
  clear hok
  go_enter Tryd.func16, Tryd.ntmps16
  go_wp2_with fail
  refine (cF _ (hG.below hb0)).mono ?_
  rintro e w1 ⟨rfl, hb1⟩
  have hk1 := HB _ hb1
  have hb2 : Below w.heap.size w w1 := below_on hb0 hb0.size hb1
  obtain ⟨c0, c1, c2, c3, c4, c5, c6, c7, c8, c9, c10⟩ := hk1
  have hG1 := hG.below hb2
  have hmk : ∀ w', Ok w1 w' → (fun w' => Ok w1 w' ∧ w'.cell? ⟨w.heap.size, 0, none⟩ = some (.int .i64 2) ∧ w'.cell? ⟨w.heap.size, 1, none⟩ = some (.string l) ∧ w'.cell? ⟨w.heap.size, 2, none⟩ = some (.int .i64 n) ∧ w'.cell? ⟨w.heap.size, 3, none⟩ = some (.int .i64 x0) ∧ w'.cell? ⟨w.heap.size, 4, none⟩ = some (.int .i64 x1) ∧ w'.cell? ⟨w.heap.size, 5, none⟩ = some (.int .i64 x2) ∧ w'.cell? ⟨w.heap.size, 6, none⟩ = some (.int .i64 x3) ∧ w'.cell? ⟨w.heap.size, 7, none⟩ = some (.int .i64 x4) ∧ w'.cell? ⟨w.heap.size, 8, none⟩ = some (.int .i64 x5) ∧ w'.cell? ⟨w.heap.size, 9, none⟩ = some (.int .i64 x6) ∧ w'.cell? ⟨w.heap.size, 10, none⟩ = some (.int .i64 x7)) w' := fun w' h => ⟨h, HB w' (below_on hb1 hb1.size h.below)⟩
  have hkd := (Ok.refl hG1).drew
  have cH' : ∀ w', Ok w1 w' → _ := fun w' h => ok_below h fun _ => cH w'
  have hfin : ∀ w', Ok w1 w' → Below w.heap.size w w' := fun w' h => below_on hb2 hb2.size h.below
  clear cF HB hb0 hb1
  cases D with
  | true =>
    go_wp2_with fail
    go_region_held3 (fun w' => Ok w1 w' ∧ w'.cell? ⟨w.heap.size, 0, none⟩ = some (.int .i64 2) ∧ w'.cell? ⟨w.heap.size, 1, none⟩ = some (.string l) ∧ w'.cell? ⟨w.heap.size, 2, none⟩ = some (.int .i64 n) ∧ w'.cell? ⟨w.heap.size, 3, none⟩ = some (.int .i64 x0) ∧ w'.cell? ⟨w.heap.size, 4, none⟩ = some (.int .i64 x1) ∧ w'.cell? ⟨w.heap.size, 5, none⟩ = some (.int .i64 x2) ∧ w'.cell? ⟨w.heap.size, 6, none⟩ = some (.int .i64 x3) ∧ w'.cell? ⟨w.heap.size, 7, none⟩ = some (.int .i64 x4) ∧ w'.cell? ⟨w.heap.size, 8, none⟩ = some (.int .i64 x5) ∧ w'.cell? ⟨w.heap.size, 9, none⟩ = some (.int .i64 x6) ∧ w'.cell? ⟨w.heap.size, 10, none⟩ = some (.int .i64 x7)) (exact hmk _ (by assumption)) (first | (go_simp; go_at_call 19; refine (cH' _ ?_).mono ?_; (exact And.left (by assumption)); rintro e wm ⟨rfl, hmm⟩))
    all_goals (go_wp2; go_ret; exact ⟨rfl, hfin _ (And.left (by assumption))⟩)
  | false =>
    go_wp2_with fail
    go_region_held3 (fun w' => Ok w1 w' ∧ w'.cell? ⟨w.heap.size, 0, none⟩ = some (.int .i64 2) ∧ w'.cell? ⟨w.heap.size, 1, none⟩ = some (.string l) ∧ w'.cell? ⟨w.heap.size, 2, none⟩ = some (.int .i64 n) ∧ w'.cell? ⟨w.heap.size, 3, none⟩ = some (.int .i64 x0) ∧ w'.cell? ⟨w.heap.size, 4, none⟩ = some (.int .i64 x1) ∧ w'.cell? ⟨w.heap.size, 5, none⟩ = some (.int .i64 x2) ∧ w'.cell? ⟨w.heap.size, 6, none⟩ = some (.int .i64 x3) ∧ w'.cell? ⟨w.heap.size, 7, none⟩ = some (.int .i64 x4) ∧ w'.cell? ⟨w.heap.size, 8, none⟩ = some (.int .i64 x5) ∧ w'.cell? ⟨w.heap.size, 9, none⟩ = some (.int .i64 x6) ∧ w'.cell? ⟨w.heap.size, 10, none⟩ = some (.int .i64 x7)) (exact hmk _ (by assumption)) (first | (go_simp; go_at_call 19; refine (cH' _ ?_).mono ?_; (exact And.left (by assumption)); rintro e wm ⟨rfl, hmm⟩))
    all_goals (go_wp2; go_ret; exact ⟨rfl, hfin _ (And.left (by assumption))⟩)

set_option maxHeartbeats 4000000 in
set_option maxRecDepth 100000 in
theorem of_six (l : ByteArray) (hl : l.size ≤ 1000000) (n x0 x1 x2 x3 x4 x5 x6 x7 : Int) (hok : mayB [x0, x1, x2, x3, x4, x5, x6, x7] = true) (w : World) (hG : Good w) :
    Calls Tryd.prog 16 #[hV 3 l n x0 x1 x2 x3 x4 x5 x6 x7] w fun e w' => e = .returned (if l = ⟨#[]⟩ ∧ n = 0 then .iface 46 (.agg #[.int .i64 x0, .int .i64 x1, .int .i64 x2, .int .i64 x3, .int .i64 x4, .int .i64 x5, .int .i64 x6, .int .i64 x7]) else .nilIface) ∧ Below w.heap.size w w' := by
  have cF := fun (w1 : World) (_ : Good w1) => six_May_any [x0, x1, x2, x3, x4, x5, x6, x7] rfl w1
  rw [hok] at cF
  have cH := fun w1 => host_six x0 x1 x2 x3 x4 x5 x6 x7 w1
  have hE := fun w1 => eqHost 3 ⟨#[]⟩ 0 x0 x1 x2 x3 x4 x5 x6 x7 3 l n x0 x1 x2 x3 x4 x5 x6 x7 w1
  have hcond : ((3 : Int) == 3 && ((⟨#[]⟩ : ByteArray).toList == l.toList && ((0 : Int) == n && [x0, x1, x2, x3, x4, x5, x6, x7] == [x0, x1, x2, x3, x4, x5, x6, x7]))) = decide (l = ⟨#[]⟩ ∧ n = 0) := by
    rw [Bool.eq_iff_iff, decide_eq_true_iff]
    simp only [Bool.and_eq_true, beq_iff_eq, ba_toList]
    constructor
    · rintro ⟨_, h1, h2, _⟩; exact ⟨(toList_inj h1).symm, h2.symm⟩
    · rintro ⟨h1, h2⟩; exact ⟨trivial, by rw [h1], h2.symm, trivial⟩
  simp only [hcond] at hE
  clear hcond
  rw [show (if l = ⟨#[]⟩ ∧ n = 0 then (.iface 46 (.agg #[.int .i64 x0, .int .i64 x1, .int .i64 x2, .int .i64 x3, .int .i64 x4, .int .i64 x5, .int .i64 x6, .int .i64 x7]) : Value) else .nilIface) = (if decide (l = ⟨#[]⟩ ∧ n = 0) = true then .iface 46 (.agg #[.int .i64 x0, .int .i64 x1, .int .i64 x2, .int .i64 x3, .int .i64 x4, .int .i64 x5, .int .i64 x6, .int .i64 x7]) else .nilIface) from by simp only [decide_eq_true_iff]]
  generalize decide (l = ⟨#[]⟩ ∧ n = 0) = D at *
  unfold hV at *
  have hb0 : Below w.heap.size w (w.alloc (.cells (hCells 3 l n x0 x1 x2 x3 x4 x5 x6 x7) 24)) := (Below.refl _ _).alloc (Nat.le_refl _) _
  have HB := fun w1 (h : Below (w.alloc (.cells (hCells 3 l n x0 x1 x2 x3 x4 x5 x6 x7) 24)).heap.size (w.alloc (.cells (hCells 3 l n x0 x1 x2 x3 x4 x5 x6 x7) 24)) w1) => eleven_of (host_blk h)
  unfold hCells at *
  clear hok
  go_enter Tryd.func16, Tryd.ntmps16
  go_wp2_with fail
  refine (cF _ (hG.below hb0)).mono ?_
  rintro e w1 ⟨rfl, hb1⟩
  have hk1 := HB _ hb1
  have hb2 : Below w.heap.size w w1 := below_on hb0 hb0.size hb1
  obtain ⟨c0, c1, c2, c3, c4, c5, c6, c7, c8, c9, c10⟩ := hk1
  have hG1 := hG.below hb2
  have hmk : ∀ w', Ok w1 w' → (fun w' => Ok w1 w' ∧ w'.cell? ⟨w.heap.size, 0, none⟩ = some (.int .i64 3) ∧ w'.cell? ⟨w.heap.size, 1, none⟩ = some (.string l) ∧ w'.cell? ⟨w.heap.size, 2, none⟩ = some (.int .i64 n) ∧ w'.cell? ⟨w.heap.size, 3, none⟩ = some (.int .i64 x0) ∧ w'.cell? ⟨w.heap.size, 4, none⟩ = some (.int .i64 x1) ∧ w'.cell? ⟨w.heap.size, 5, none⟩ = some (.int .i64 x2) ∧ w'.cell? ⟨w.heap.size, 6, none⟩ = some (.int .i64 x3) ∧ w'.cell? ⟨w.heap.size, 7, none⟩ = some (.int .i64 x4) ∧ w'.cell? ⟨w.heap.size, 8, none⟩ = some (.int .i64 x5) ∧ w'.cell? ⟨w.heap.size, 9, none⟩ = some (.int .i64 x6) ∧ w'.cell? ⟨w.heap.size, 10, none⟩ = some (.int .i64 x7)) w' := fun w' h => ⟨h, HB w' (below_on hb1 hb1.size h.below)⟩
  have hkd := (Ok.refl hG1).drew
  have cH' : ∀ w', Ok w1 w' → _ := fun w' h => ok_below h fun _ => cH w'
  have hfin : ∀ w', Ok w1 w' → Below w.heap.size w w' := fun w' h => below_on hb2 hb2.size h.below
  clear cF HB hb0 hb1
  cases D with
  | true =>
    go_wp2_with fail
    go_region_held3 (fun w' => Ok w1 w' ∧ w'.cell? ⟨w.heap.size, 0, none⟩ = some (.int .i64 3) ∧ w'.cell? ⟨w.heap.size, 1, none⟩ = some (.string l) ∧ w'.cell? ⟨w.heap.size, 2, none⟩ = some (.int .i64 n) ∧ w'.cell? ⟨w.heap.size, 3, none⟩ = some (.int .i64 x0) ∧ w'.cell? ⟨w.heap.size, 4, none⟩ = some (.int .i64 x1) ∧ w'.cell? ⟨w.heap.size, 5, none⟩ = some (.int .i64 x2) ∧ w'.cell? ⟨w.heap.size, 6, none⟩ = some (.int .i64 x3) ∧ w'.cell? ⟨w.heap.size, 7, none⟩ = some (.int .i64 x4) ∧ w'.cell? ⟨w.heap.size, 8, none⟩ = some (.int .i64 x5) ∧ w'.cell? ⟨w.heap.size, 9, none⟩ = some (.int .i64 x6) ∧ w'.cell? ⟨w.heap.size, 10, none⟩ = some (.int .i64 x7)) (exact hmk _ (by assumption)) (first | (go_simp; go_at_call 19; refine (cH' _ ?_).mono ?_; (exact And.left (by assumption)); rintro e wm ⟨rfl, hmm⟩))
    all_goals (go_wp2; go_ret; exact ⟨rfl, hfin _ (And.left (by assumption))⟩)
  | false =>
    go_wp2_with fail
    go_region_held3 (fun w' => Ok w1 w' ∧ w'.cell? ⟨w.heap.size, 0, none⟩ = some (.int .i64 3) ∧ w'.cell? ⟨w.heap.size, 1, none⟩ = some (.string l) ∧ w'.cell? ⟨w.heap.size, 2, none⟩ = some (.int .i64 n) ∧ w'.cell? ⟨w.heap.size, 3, none⟩ = some (.int .i64 x0) ∧ w'.cell? ⟨w.heap.size, 4, none⟩ = some (.int .i64 x1) ∧ w'.cell? ⟨w.heap.size, 5, none⟩ = some (.int .i64 x2) ∧ w'.cell? ⟨w.heap.size, 6, none⟩ = some (.int .i64 x3) ∧ w'.cell? ⟨w.heap.size, 7, none⟩ = some (.int .i64 x4) ∧ w'.cell? ⟨w.heap.size, 8, none⟩ = some (.int .i64 x5) ∧ w'.cell? ⟨w.heap.size, 9, none⟩ = some (.int .i64 x6) ∧ w'.cell? ⟨w.heap.size, 10, none⟩ = some (.int .i64 x7)) (exact hmk _ (by assumption)) (first | (go_simp; go_at_call 19; refine (cH' _ ?_).mono ?_; (exact And.left (by assumption)); rintro e wm ⟨rfl, hmm⟩))
    all_goals (go_wp2; go_ret; exact ⟨rfl, hfin _ (And.left (by assumption))⟩)

set_option maxHeartbeats 4000000 in
set_option maxRecDepth 100000 in
theorem of_no_dom (l : ByteArray) (hl : l.size ≤ 1000000) (n x0 x1 x2 x3 x4 x5 x6 x7 : Int) (hok : okHost l.data.toList = false) (w : World) (hG : Good w) :
    Calls Tryd.prog 16 #[hV 1 l n x0 x1 x2 x3 x4 x5 x6 x7] w fun e w' => e = .returned .nilIface ∧ Below w.heap.size w w' := by
  have cF := fun (w1 : World) (hG : Good w1) => host_fits l hl w1 hG
  rw [hok] at cF
  have hb0 : Below w.heap.size w (w.alloc (.cells (hCells 1 l n x0 x1 x2 x3 x4 x5 x6 x7) 24)) := (Below.refl _ _).alloc (Nat.le_refl _) _
  have HB := fun w1 (h : Below (w.alloc (.cells (hCells 1 l n x0 x1 x2 x3 x4 x5 x6 x7) 24)).heap.size (w.alloc (.cells (hCells 1 l n x0 x1 x2 x3 x4 x5 x6 x7) 24)) w1) => eleven_of (host_blk h)
  unfold hV hCells at *
  clear hok
  go_enter Tryd.func16, Tryd.ntmps16
  go_wp2_with fail
  refine (cF _ (hG.below hb0)).mono ?_
  rintro e w1 ⟨rfl, hb1⟩
  have hb2 : Below w.heap.size w w1 := below_on hb0 hb0.size hb1
  obtain ⟨c0, c1, c2, c3, c4, c5, c6, c7, c8, c9, c10⟩ := HB _ hb1
  go_wp2
  go_big_region
  go_wp2
  go_ret
  exact ⟨rfl, below_on hb2 hb2.size ((Below.refl _ _).drew)⟩

set_option maxHeartbeats 4000000 in
set_option maxRecDepth 100000 in
theorem of_no_num (l : ByteArray) (hl : l.size ≤ 1000000) (n x0 x1 x2 x3 x4 x5 x6 x7 : Int) (hok : showF n = []) (w : World) (hG : Good w) :
    Calls Tryd.prog 16 #[hV 2 l n x0 x1 x2 x3 x4 x5 x6 x7] w fun e w' => e = .returned .nilIface ∧ Below w.heap.size w w' := by
  have hne : (⟨(showF n).toArray⟩ : ByteArray).toList.isEmpty = true := by rw [ba_toList, mk_toList, hok]; rfl
  have cF := fun (w1 : World) (hG : Good w1) => four_Show.calls n _ w1 hG rfl
  generalize (⟨(showF n).toArray⟩ : ByteArray) = T at *
  have hb0 : Below w.heap.size w (w.alloc (.cells (hCells 2 l n x0 x1 x2 x3 x4 x5 x6 x7) 24)) := (Below.refl _ _).alloc (Nat.le_refl _) _
  have HB := fun w1 (h : Below (w.alloc (.cells (hCells 2 l n x0 x1 x2 x3 x4 x5 x6 x7) 24)).heap.size (w.alloc (.cells (hCells 2 l n x0 x1 x2 x3 x4 x5 x6 x7) 24)) w1) => eleven_of (host_blk h)
  unfold hV hCells at *
  clear hok
  go_enter Tryd.func16, Tryd.ntmps16
  go_wp2_with fail
  refine (cF _ (hG.below hb0)).mono ?_
  rintro e w1 ⟨rfl, hb1⟩
  have hb2 : Below w.heap.size w w1 := below_on hb0 hb0.size hb1
  obtain ⟨c0, c1, c2, c3, c4, c5, c6, c7, c8, c9, c10⟩ := HB _ hb1
  go_wp2
  go_big_region
  go_wp2
  go_ret
  exact ⟨rfl, below_on hb2 hb2.size ((Below.refl _ _).drew)⟩

set_option maxHeartbeats 4000000 in
set_option maxRecDepth 100000 in
theorem of_no_six (l : ByteArray) (hl : l.size ≤ 1000000) (n x0 x1 x2 x3 x4 x5 x6 x7 : Int) (hok : mayB [x0, x1, x2, x3, x4, x5, x6, x7] = false) (w : World) (hG : Good w) :
    Calls Tryd.prog 16 #[hV 3 l n x0 x1 x2 x3 x4 x5 x6 x7] w fun e w' => e = .returned .nilIface ∧ Below w.heap.size w w' := by
  have cF := fun (w1 : World) (_ : Good w1) => six_May_any [x0, x1, x2, x3, x4, x5, x6, x7] rfl w1
  rw [hok] at cF
  have hb0 : Below w.heap.size w (w.alloc (.cells (hCells 3 l n x0 x1 x2 x3 x4 x5 x6 x7) 24)) := (Below.refl _ _).alloc (Nat.le_refl _) _
  have HB := fun w1 (h : Below (w.alloc (.cells (hCells 3 l n x0 x1 x2 x3 x4 x5 x6 x7) 24)).heap.size (w.alloc (.cells (hCells 3 l n x0 x1 x2 x3 x4 x5 x6 x7) 24)) w1) => eleven_of (host_blk h)
  unfold hV hCells at *
  clear hok
  go_enter Tryd.func16, Tryd.ntmps16
  go_wp2_with fail
  refine (cF _ (hG.below hb0)).mono ?_
  rintro e w1 ⟨rfl, hb1⟩
  have hb2 : Below w.heap.size w w1 := below_on hb0 hb0.size hb1
  obtain ⟨c0, c1, c2, c3, c4, c5, c6, c7, c8, c9, c10⟩ := HB _ hb1
  go_wp2
  go_big_region
  go_wp2
  go_ret
  exact ⟨rfl, below_on hb2 hb2.size ((Below.refl _ _).drew)⟩

set_option maxHeartbeats 4000000 in
set_option maxRecDepth 100000 in
theorem of_no_oth (l : ByteArray) (hl : l.size ≤ 1000000) (n x0 x1 x2 x3 x4 x5 x6 x7 : Int) (k : Int) (hk1 : k ≠ 1) (hk2 : k ≠ 2) (hk3 : k ≠ 3) (w : World) (hG : Good w) :
    Calls Tryd.prog 16 #[hV k l n x0 x1 x2 x3 x4 x5 x6 x7] w fun e w' => e = .returned .nilIface ∧ Below w.heap.size w w' := by
  have q1 : (k == 1) = false := beq_eq_false_iff_ne.2 hk1
  have q2 : (k == 2) = false := beq_eq_false_iff_ne.2 hk2
  have q3 : (k == 3) = false := beq_eq_false_iff_ne.2 hk3
  clear hk1 hk2 hk3
  have hb0 : Below w.heap.size w (w.alloc (.cells (hCells k l n x0 x1 x2 x3 x4 x5 x6 x7) 24)) := (Below.refl _ _).alloc (Nat.le_refl _) _
  unfold hV hCells at *
  go_enter Tryd.func16, Tryd.ntmps16
  go_wp2
  go_big_region
  go_wp2
  go_ret
  exact ⟨rfl, below_on hb0 hb0.size ((Below.refl _ _).drew)⟩

end Go.Proofs.YtcpjonglfnakpaaDoor

namespace Go.Proofs.YtcpjonglfnakpaaDoor
open Go.RowKit Go.Proofs.YtcpjonglfnakpaaDoorW.PrintWords

/-- What a host is: a domain, a number, or pieces. -/
inductive Som where
  | dom (l : ByteArray)
  | num (n : Int)
  | six (x0 x1 x2 x3 x4 x5 x6 x7 : Int)
def Som.val : Som → Value
  | .dom l => .iface 48 (.string l)
  | .num n => .iface 47 (.int .i64 n)
  | .six x0 x1 x2 x3 x4 x5 x6 x7 => .iface 46 (.agg #[.int .i64 x0, .int .i64 x1, .int .i64 x2, .int .i64 x3, .int .i64 x4, .int .i64 x5, .int .i64 x6, .int .i64 x7])
def someV : Option Som → Value
  | none => .nilIface
  | some s => s.val
def Som.host : Som → HostT
  | .dom l => ⟨1, l, 0, 0, 0, 0, 0, 0, 0, 0, 0⟩
  | .num n => ⟨2, ⟨#[]⟩, n, 0, 0, 0, 0, 0, 0, 0, 0⟩
  | .six x0 x1 x2 x3 x4 x5 x6 x7 => ⟨3, ⟨#[]⟩, 0, x0, x1, x2, x3, x4, x5, x6, x7⟩
def HostT.val (h : HostT) : Value := hV h.k h.l h.n h.x0 h.x1 h.x2 h.x3 h.x4 h.x5 h.x6 h.x7
def ofH (h : HostT) : Option Som :=
  if h.k = 1 then (if okHost h.l.data.toList = true ∧ h.n = 0 ∧ h.p = [0, 0, 0, 0, 0, 0, 0, 0] then some (.dom h.l) else none)
  else if h.k = 2 then (if showF h.n ≠ [] ∧ h.l = ⟨#[]⟩ ∧ h.p = [0, 0, 0, 0, 0, 0, 0, 0] then some (.num h.n) else none)
  else if h.k = 3 then (if mayB h.p = true ∧ h.l = ⟨#[]⟩ ∧ h.n = 0 then some (.six h.x0 h.x1 h.x2 h.x3 h.x4 h.x5 h.x6 h.x7) else none)
  else none
theorem of_any (h : HostT) (hl : h.l.size ≤ 1000000) (w : World) (hG : Good w) : Calls Tryd.prog 16 #[h.val] w fun e w' => e = .returned (someV (ofH h)) ∧ Below w.heap.size w w' := by
  obtain ⟨k, l, n, x0, x1, x2, x3, x4, x5, x6, x7⟩ := h
  unfold HostT.val ofH HostT.p
  dsimp only at hl ⊢
  by_cases h1 : k = 1
  · subst h1
    rw [if_pos rfl]
    cases hok : okHost l.data.toList with
    | true =>
      refine (of_dom l hl n x0 x1 x2 x3 x4 x5 x6 x7 hok w hG).mono ?_
      rintro e w' ⟨rfl, hb⟩
      refine ⟨?_, hb⟩
      by_cases hc : n = 0 ∧ [x0, x1, x2, x3, x4, x5, x6, x7] = [0, 0, 0, 0, 0, 0, 0, 0]
      · rw [if_pos hc, if_pos ⟨rfl, hc⟩]; rfl
      · rw [if_neg hc, if_neg (fun h => hc h.2)]; rfl
    | false =>
      rw [if_neg (fun h => Bool.noConfusion h.1)]
      exact of_no_dom l hl n x0 x1 x2 x3 x4 x5 x6 x7 hok w hG
  · rw [if_neg h1]
    by_cases h2 : k = 2
    · subst h2
      rw [if_pos rfl]
      by_cases hok : showF n = []
      · rw [if_neg (fun h => h.1 hok)]
        exact of_no_num l hl n x0 x1 x2 x3 x4 x5 x6 x7 hok w hG
      · refine (of_num l hl n x0 x1 x2 x3 x4 x5 x6 x7 hok w hG).mono ?_
        rintro e w' ⟨rfl, hb⟩
        refine ⟨?_, hb⟩
        by_cases hc : l = ⟨#[]⟩ ∧ [x0, x1, x2, x3, x4, x5, x6, x7] = [0, 0, 0, 0, 0, 0, 0, 0]
        · rw [if_pos hc, if_pos ⟨hok, hc⟩]; rfl
        · rw [if_neg hc, if_neg (fun h => hc h.2)]; rfl
    · rw [if_neg h2]
      by_cases h3 : k = 3
      · subst h3
        rw [if_pos rfl]
        cases hok : mayB [x0, x1, x2, x3, x4, x5, x6, x7] with
        | true =>
          refine (of_six l hl n x0 x1 x2 x3 x4 x5 x6 x7 hok w hG).mono ?_
          rintro e w' ⟨rfl, hb⟩
          refine ⟨?_, hb⟩
          by_cases hc : l = ⟨#[]⟩ ∧ n = 0
          · rw [if_pos hc, if_pos ⟨rfl, hc⟩]; rfl
          · rw [if_neg hc, if_neg (fun h => hc h.2)]; rfl
        | false =>
          rw [if_neg (fun h => Bool.noConfusion h.1)]
          exact of_no_six l hl n x0 x1 x2 x3 x4 x5 x6 x7 hok w hG
      · rw [if_neg h3]
        exact of_no_oth l hl n x0 x1 x2 x3 x4 x5 x6 x7 k h1 h2 h3 w hG

set_option maxRecDepth 100000 in
theorem host_May_any (h : HostT) (hl : h.l.size ≤ 1000000) (w : World) (hG : Good w) : Calls Tryd.prog 11 #[h.val] w fun e w' => e = .returned (.bool (ofH h).isSome) ∧ Below w.heap.size w w' := by
  have cO := fun w1 (hG : Good w1) => of_any h hl w1 hG
  obtain ⟨k, l, n, x0, x1, x2, x3, x4, x5, x6, x7⟩ := h
  generalize ofH _ = o at *
  unfold HostT.val hV at *
  dsimp only at *
  have hb0 : Below w.heap.size w (w.alloc (.cells #[.int .i64 k, .string l, .int .i64 n, .int .i64 x0, .int .i64 x1, .int .i64 x2, .int .i64 x3, .int .i64 x4, .int .i64 x5, .int .i64 x6, .int .i64 x7] 24)) := (Below.refl _ _).alloc (Nat.le_refl _) _
  go_enter Tryd.func11, Tryd.ntmps11
  go_wp2_with fail
  refine (cO _ (hG.below hb0)).mono ?_
  rintro e w1 ⟨rfl, hb1⟩
  have hb2 := below_on hb0 hb0.size hb1
  rcases o with _ | (_ | _ | _)
  all_goals
    dsimp only [someV, Som.val, Option.isSome]
    go_wp2
    go_ret
    exact ⟨rfl, hb2⟩

theorem meth_dom (n : Nat) (v : Value) (w : World) : (method (n + 1) 48 v "postmark/host.show").run Tryd.prog w = .ok (96, v) w := by kernel_rfl
theorem meth_num (n : Nat) (v : Value) (w : World) : (method (n + 1) 47 v "postmark/host.show").run Tryd.prog w = .ok (95, v) w := by kernel_rfl
theorem meth_six (n : Nat) (v : Value) (w : World) : (method (n + 1) 46 v "postmark/host.show").run Tryd.prog w = .ok (90, v) w := by kernel_rfl
theorem show_dom (l : ByteArray) (w : World) : Calls Tryd.prog 96 #[.string l] w fun e w' => e = .returned (.string l) ∧ Below w.heap.size w w' := by
  go_enter Tryd.func96, Tryd.ntmps96
  go_wp2
  go_ret
  exact ⟨rfl, Below.refl _ _⟩
theorem show_num (n : Int) (w : World) (hG : Good w) : Calls Tryd.prog 95 #[.int .i64 n] w fun e w' => e = .returned (.string ⟨(showF n).toArray⟩) ∧ Below w.heap.size w w' := by
  have cF := four_Show.calls n _ w hG rfl
  go_enter Tryd.func95, Tryd.ntmps95
  go_wp2_with fail
  refine cF.mono ?_
  rintro e w1 ⟨rfl, hb⟩
  go_wp2
  go_ret
  exact ⟨rfl, hb⟩
theorem showSix_le {p : List Int} (h8 : p.length = 8) : (showSix p).length ≤ 39 := by
  cases h : mayB p with
  | true => exact show_39 h8 h
  | false => rw [showSix_no h]; exact Nat.zero_le _
set_option maxRecDepth 100000 in
theorem show_six (x0 x1 x2 x3 x4 x5 x6 x7 : Int) (w : World) : Calls Tryd.prog 90 #[.agg #[.int .i64 x0, .int .i64 x1, .int .i64 x2, .int .i64 x3, .int .i64 x4, .int .i64 x5, .int .i64 x6, .int .i64 x7]] w fun e w' => e = .returned (.string ⟨(91 :: showSix [x0, x1, x2, x3, x4, x5, x6, x7] ++ [93]).toArray⟩) ∧ Below w.heap.size w w' := by
  have cF := fun w1 => (show Calls Tryd.prog 91 #[.agg #[.int .i64 x0, .int .i64 x1, .int .i64 x2, .int .i64 x3, .int .i64 x4, .int .i64 x5, .int .i64 x6, .int .i64 x7]] w1 _ from six_Show_any [x0, x1, x2, x3, x4, x5, x6, x7] rfl w1)
  have he : (⟨(91 :: showSix [x0, x1, x2, x3, x4, x5, x6, x7] ++ [93]).toArray⟩ : ByteArray) = (⟨#[91]⟩ : ByteArray) ++ ⟨(showSix [x0, x1, x2, x3, x4, x5, x6, x7]).toArray⟩ ++ ⟨#[93]⟩ := toList_inj (by simp [ByteArray.data_append])
  rw [he]
  have hTs : (⟨(showSix [x0, x1, x2, x3, x4, x5, x6, x7]).toArray⟩ : ByteArray).size ≤ 39 := by rw [size_list, mk_toList]; exact showSix_le rfl
  generalize (⟨(showSix [x0, x1, x2, x3, x4, x5, x6, x7]).toArray⟩ : ByteArray) = T at *
  have hb0 : Below w.heap.size w (w.alloc (.cells #[.int .i64 x0, .int .i64 x1, .int .i64 x2, .int .i64 x3, .int .i64 x4, .int .i64 x5, .int .i64 x6, .int .i64 x7] 46)) := (Below.refl _ _).alloc (Nat.le_refl _) _
  clear he
  go_enter Tryd.func90, Tryd.ntmps90
  go_wp2_with fail
  refine (cF _).mono ?_
  rintro e w1 ⟨rfl, hb⟩
  go_wp2
  go_ret
  exact ⟨rfl, below_on hb0 hb0.size hb⟩

/-- A host's text. -/
def Som.text : Som → List UInt8
  | .dom l => l.data.toList
  | .num n => showF n
  | .six x0 x1 x2 x3 x4 x5 x6 x7 => 91 :: showSix [x0, x1, x2, x3, x4, x5, x6, x7] ++ [93]
def showH (h : HostT) : List UInt8 := match ofH h with
  | none => []
  | some s => s.text

set_option maxHeartbeats 4000000 in
set_option maxRecDepth 100000 in
theorem host_Show_any (h : HostT) (hl : h.l.size ≤ 1000000) (w : World) (hG : Good w) : Calls Tryd.prog 9 #[h.val] w fun e w' => e = .returned (.string ⟨(showH h).toArray⟩) ∧ Below w.heap.size w w' := by
  have cO := fun w1 (hG : Good w1) => of_any h hl w1 hG
  unfold showH
  obtain ⟨k, l, n, x0, x1, x2, x3, x4, x5, x6, x7⟩ := h
  generalize ofH _ = o at *
  unfold HostT.val hV at *
  dsimp only at *
  have hb0 : Below w.heap.size w (w.alloc (.cells #[.int .i64 k, .string l, .int .i64 n, .int .i64 x0, .int .i64 x1, .int .i64 x2, .int .i64 x3, .int .i64 x4, .int .i64 x5, .int .i64 x6, .int .i64 x7] 24)) := (Below.refl _ _).alloc (Nat.le_refl _) _
  rcases o with _ | (d | m | ⟨y0, y1, y2, y3, y4, y5, y6, y7⟩)
  · dsimp only [someV] at *
    go_enter Tryd.func9, Tryd.ntmps9
    go_wp2_with fail
    refine (cO _ (hG.below hb0)).mono ?_
    rintro e w1 ⟨rfl, hb1⟩
    have hb2 := below_on hb0 hb0.size hb1
    go_wp2
    go_ret
    exact ⟨rfl, hb2⟩
  · have cS := fun w1 => show_dom d w1
    have q := fun n v w => meth_dom n v w
    have e1 : (⟨(Som.dom d).text.toArray⟩ : ByteArray) = d := by unfold Som.text; simp
    dsimp only [someV, Som.val] at *
    rw [e1]
    clear e1
    go_enter Tryd.func9, Tryd.ntmps9
    go_wp2_with fail
    refine (cO _ (hG.below hb0)).mono ?_
    rintro e w1 ⟨rfl, hb1⟩
    have hb2 := below_on hb0 hb0.size hb1
    go_wp2_with fail
    refine (cS _).mono ?_
    rintro e w2 ⟨rfl, hb3⟩
    go_wp2
    go_ret
    exact ⟨rfl, below_on hb2 hb2.size hb3⟩
  · have cS := fun w1 (hG : Good w1) => show_num m w1 hG
    have q := fun n v w => meth_num n v w
    dsimp only [someV, Som.val, Som.text] at *
    generalize (⟨(showF m).toArray⟩ : ByteArray) = T at *
    go_enter Tryd.func9, Tryd.ntmps9
    go_wp2_with fail
    refine (cO _ (hG.below hb0)).mono ?_
    rintro e w1 ⟨rfl, hb1⟩
    have hb2 := below_on hb0 hb0.size hb1
    go_wp2_with fail
    refine (cS _ (hG.below hb2)).mono ?_
    rintro e w2 ⟨rfl, hb3⟩
    go_wp2
    go_ret
    exact ⟨rfl, below_on hb2 hb2.size hb3⟩
  · have cS := fun w1 => show_six y0 y1 y2 y3 y4 y5 y6 y7 w1
    have q := fun n v w => meth_six n v w
    dsimp only [someV, Som.val, Som.text] at *
    generalize (⟨(91 :: showSix [y0, y1, y2, y3, y4, y5, y6, y7] ++ [93]).toArray⟩ : ByteArray) = T at *
    go_enter Tryd.func9, Tryd.ntmps9
    go_wp2_with fail
    refine (cO _ (hG.below hb0)).mono ?_
    rintro e w1 ⟨rfl, hb1⟩
    have hb2 := below_on hb0 hb0.size hb1
    go_wp2_with fail
    refine (cS _).mono ?_
    rintro e w2 ⟨rfl, hb3⟩
    go_wp2
    go_ret
    exact ⟨rfl, below_on hb2 hb2.size hb3⟩

end Go.Proofs.YtcpjonglfnakpaaDoor

namespace Go.Proofs.YtcpjonglfnakpaaDoor
open Go.RowKit Go.Proofs.YtcpjonglfnakpaaDoorW.PrintWords

def homeL : List UInt8 := [108, 111, 99, 97, 108, 104, 111, 115, 116]
def Som.local : Som → Bool
  | .dom l => l.data.toList == homeL || Lib.hasSuffix l.data.toList (46 :: homeL)
  | .num n => decide (2130706432 ≤ n ∧ n ≤ 2147483647)
  | .six x0 x1 x2 x3 x4 x5 x6 x7 => [x0, x1, x2, x3, x4, x5, x6, x7] == [0, 0, 0, 0, 0, 0, 0, 1]
def localH (h : HostT) : Bool := match ofH h with
  | none => false
  | some s => s.local
theorem as_0d (w : World) : (Instr.typeAssert .nilIface 40 48 true).run Tryd.prog w = .ok (.tuple #[.string ⟨#[]⟩, .bool false]) w := by kernel_rfl
theorem as_0n (w : World) : (Instr.typeAssert .nilIface 40 47 true).run Tryd.prog w = .ok (.tuple #[.int .i64 0, .bool false]) w := by kernel_rfl
theorem as_0p (w : World) : (Instr.typeAssert .nilIface 40 46 true).run Tryd.prog w = .ok (.tuple #[.agg #[.int .i64 0, .int .i64 0, .int .i64 0, .int .i64 0, .int .i64 0, .int .i64 0, .int .i64 0, .int .i64 0], .bool false]) w := by kernel_rfl
theorem eqPieces (x0 x1 x2 x3 x4 x5 x6 x7 y0 y1 y2 y3 y4 y5 y6 y7 : Int) (w : World) : (Op.equalIn 10000 46 (.agg #[.int .i64 x0, .int .i64 x1, .int .i64 x2, .int .i64 x3, .int .i64 x4, .int .i64 x5, .int .i64 x6, .int .i64 x7]) (.agg #[.int .i64 y0, .int .i64 y1, .int .i64 y2, .int .i64 y3, .int .i64 y4, .int .i64 y5, .int .i64 y6, .int .i64 y7])).run Tryd.prog w = .ok ([x0, x1, x2, x3, x4, x5, x6, x7] == [y0, y1, y2, y3, y4, y5, y6, y7]) w :=
  run_equalIn_ints (p := [x0, x1, x2, x3, x4, x5, x6, x7]) (q := [y0, y1, y2, y3, y4, y5, y6, y7]) Tryd.underlying46 (by kernel_rfl) Tryd.underlying3 (by kernel_rfl) (by kernel_rfl) rfl rfl

set_option maxHeartbeats 4000000 in
set_option maxRecDepth 100000 in
theorem host_Local_any (h : HostT) (hl : h.l.size ≤ 1000000) (w : World) (hG : Good w) : Calls Tryd.prog 15 #[h.val] w fun e w' => e = .returned (.bool (localH h)) ∧ Below w.heap.size w w' := by
  have cO := fun w1 (hG : Good w1) => of_any h hl w1 hG
  unfold localH
  have hsz : ∀ d, ofH h = some (.dom d) → d.size ≤ 1000000 := fun d hd => by
    unfold ofH at hd
    split at hd
    · split at hd
      · injection hd with hd; injection hd with hd; rw [← hd]; exact hl
      · cases hd
    · split at hd
      · split at hd
        · cases hd
        · cases hd
      · split at hd
        · split at hd
          · cases hd
          · cases hd
        · cases hd
  obtain ⟨k, l, n, x0, x1, x2, x3, x4, x5, x6, x7⟩ := h
  generalize ofH _ = o at *
  unfold HostT.val hV at *
  dsimp only at *
  have hb0 : Below w.heap.size w (w.alloc (.cells #[.int .i64 k, .string l, .int .i64 n, .int .i64 x0, .int .i64 x1, .int .i64 x2, .int .i64 x3, .int .i64 x4, .int .i64 x5, .int .i64 x6, .int .i64 x7] 24)) := (Below.refl _ _).alloc (Nat.le_refl _) _
  rcases o with _ | (d | m | ⟨y0, y1, y2, y3, y4, y5, y6, y7⟩)
  · dsimp only [someV] at *
    clear hsz
    have p1 := fun w => as_0d w
    have p2 := fun w => as_0n w
    have p3 := fun w => as_0p w
    go_enter Tryd.func15, Tryd.ntmps15
    go_wp2_with fail
    refine (cO _ (hG.below hb0)).mono ?_
    rintro e w1 ⟨rfl, hb1⟩
    have hb2 := below_on hb0 hb0.size hb1
    go_wp2
    go_ret
    exact ⟨rfl, hb2⟩
  · have hd := hsz d rfl
    clear hsz
    have p1 := fun v w => as_dd v w
    have cS := fun w1 => Tryd.strings_HasSuffix d ⟨#[46, 108, 111, 99, 97, 108, 104, 111, 115, 116]⟩ w1 (by omega)
    dsimp only [someV, Som.val, Som.local] at *
    have hh : [46, 108, 111, 99, 97, 108, 104, 111, 115, 116] = 46 :: homeL := rfl
    rw [hh] at cS
    clear hh
    have he : d.toList = d.data.toList := ba_toList d
    cases hq : d.data.toList == homeL with
    | true =>
      have hq2 : (d.toList == [108, 111, 99, 97, 108, 104, 111, 115, 116]) = true := by rw [he]; exact hq
      clear hq he
      go_enter Tryd.func15, Tryd.ntmps15
      go_wp2_with fail
      refine (cO _ (hG.below hb0)).mono ?_
      rintro e w1 ⟨rfl, hb1⟩
      have hb2 := below_on hb0 hb0.size hb1
      go_wp2
      go_ret
      exact ⟨rfl, hb2⟩
    | false =>
      have hq2 : (d.toList == [108, 111, 99, 97, 108, 104, 111, 115, 116]) = false := by rw [he]; exact hq
      clear hq he
      generalize Lib.hasSuffix d.data.toList (46 :: homeL) = S at *
      go_enter Tryd.func15, Tryd.ntmps15
      go_wp2_with fail
      refine (cO _ (hG.below hb0)).mono ?_
      rintro e w1 ⟨rfl, hb1⟩
      have hb2 := below_on hb0 hb0.size hb1
      go_wp2_with fail
      refine (cS _).mono ?_
      rintro e w2 ⟨rfl, rfl⟩
      go_wp2
      go_ret
      exact ⟨rfl, hb2⟩
  · have p1 := fun v w => as_nd v w
    have p2 := fun v w => as_nn v w
    have cI := fun w1 (hG : Good w1) => four_Inner_any m w1 hG
    clear hsz
    dsimp only [someV, Som.val, Som.local] at *
    generalize decide (2130706432 ≤ m ∧ m ≤ 2147483647) = I at *
    go_enter Tryd.func15, Tryd.ntmps15
    go_wp2_with fail
    refine (cO _ (hG.below hb0)).mono ?_
    rintro e w1 ⟨rfl, hb1⟩
    have hb2 := below_on hb0 hb0.size hb1
    go_wp2_with fail
    refine (cI _ (hG.below hb2)).mono ?_
    rintro e w2 ⟨rfl, hd3⟩
    go_wp2
    go_ret
    exact ⟨rfl, below_on hb2 hb2.size hd3.below⟩
  · have p1 := fun v w => as_pd v w
    have p2 := fun v w => as_pn v w
    have p3 := fun v w => as_pp v w
    have hE := fun w => eqPieces y0 y1 y2 y3 y4 y5 y6 y7 0 0 0 0 0 0 0 1 w
    clear hsz
    dsimp only [someV, Som.val, Som.local] at *
    generalize ([y0, y1, y2, y3, y4, y5, y6, y7] == [0, 0, 0, 0, 0, 0, 0, 1]) = I at *
    go_enter Tryd.func15, Tryd.ntmps15
    go_wp2_with fail
    refine (cO _ (hG.below hb0)).mono ?_
    rintro e w1 ⟨rfl, hb1⟩
    have hb2 := below_on hb0 hb0.size hb1
    go_wp2
    go_ret
    exact ⟨rfl, below_on hb2 hb2.size ((Below.refl _ _).alloc (Nat.le_refl _) _)⟩

end Go.Proofs.YtcpjonglfnakpaaDoor
