/- ascii.Lower: a range over a function; ascii.Same. -/
import Derived.RangeFuncNested
import Derived.RangeFuncBound
import Derived.RangeFuncCalls
import Derived.RangeFuncLeaves
import Derived.RangeFuncFrom
import Derived.Shelf.Abstract
import Derived.Shelf.RegionOpen
import Derived.WalkKit
import Derived.OwnWalkIn
import Derived.TacticsInMore
import Derived.LoopNIn
import Derived.LoopIn
import Derived.Stop.RegionWithIn
import Derived.Test.YtnppnogmpoigkaaDoorProg
import Derived.Test.YtnppnogmpoigkaaDoorLowP
import Derived.Test.YtnppnogmpoigkaaDoorEv
import Derived.Test.YtnppnogmpoigkaaDoorByteBlk
namespace Go.Proofs.YtnppnogmpoigkaaDoor
open Go.RowKit Go.Shelf
attribute [local go_sem] Oper.semAt_some

theorem ascii_in_of (c a b : Nat) (w : World) : Calls Tryd.prog 34 #[.int .u8 c, .int .u8 a, .int .u8 b] w fun e w' => e = .returned (.bool (decide (a ≤ c ∧ c ≤ b))) ∧ w' = w := by
  by_cases h1 : a ≤ c
  · by_cases h2 : c ≤ b
    · rw [decide_eq_true (show a ≤ c ∧ c ≤ b from ⟨h1, h2⟩)]
      go_enter Tryd.func34, Tryd.ntmps34
      go_wp2
      go_ret
      exact ⟨rfl, rfl⟩
    · rw [decide_eq_false (show ¬ (a ≤ c ∧ c ≤ b) from fun h => h2 h.2)]
      go_enter Tryd.func34, Tryd.ntmps34
      go_wp2
      go_ret
      exact ⟨rfl, rfl⟩
  · rw [decide_eq_false (show ¬ (a ≤ c ∧ c ≤ b) from fun h => h1 h.1)]
    go_enter Tryd.func34, Tryd.ntmps34
    go_wp2
    go_ret
    exact ⟨rfl, rfl⟩
theorem ascii_Lower1 (c : UInt8) (w : World) : Calls Tryd.prog 33 #[.int .u8 c.toNat] w fun e w' => e = .returned (.int .u8 (lowC c).toNat) ∧ w' = w := by
  have h := ascii_in_of c.toNat 65 90 w
  by_cases hc : 65 ≤ c.toNat ∧ c.toNat ≤ 90
  · have hw := lowC_wrap c.toNat c.toNat_lt hc.1 hc.2
    rw [UInt8.ofNat_toNat] at hw
    rw [decide_eq_true hc] at h
    go_enter Tryd.func33, Tryd.ntmps33
    go_wp2_with fail
    refine h.mono ?_
    rintro e w1 ⟨rfl, rfl⟩
    go_wp2
    go_ret
    exact ⟨rfl, rfl⟩
  · rw [decide_eq_false hc] at h
    rw [lowC_small hc]
    go_enter Tryd.func33, Tryd.ntmps33
    go_wp2_with fail
    refine h.mono ?_
    rintro e w1 ⟨rfl, rfl⟩
    go_wp2
    go_ret
    exact ⟨rfl, rfl⟩

/-- What has come when k rounds are over. -/
def upto {α : Type} (f : Nat → α) (k : Nat) : List α := (List.range k).map f
theorem upto_succ {α : Type} (f : Nat → α) (k : Nat) : upto f (k + 1) = upto f k ++ [f k] := by simp [upto, List.range_succ]
theorem upto_length {α : Type} (f : Nat → α) (k : Nat) : (upto f k).length = k := by simp [upto]
/-- The byte at a place, as a small letter. -/
def lowAt (s : ByteArray) (k : Nat) : Nat × UInt8 := (k, lowC (s.data.toList[k]?.getD 0))
abbrev encs (s : ByteArray) (x : Nat × UInt8) : Array Value := #[.int .i64 ((x.1 % s.size : Nat) : Int), .int .u8 x.2.toNat]

/-- What a round keeps: the two boxes of the iterator. -/
def Boxes (Bs Bw : Nat) (A B : World) : Prop := B.heap[Bs]? = A.heap[Bs]? ∧ B.heap[Bw]? = A.heap[Bw]?
theorem Boxes.refl {Bs Bw : Nat} (A : World) : Boxes Bs Bw A A := ⟨rfl, rfl⟩
theorem Boxes.trans {Bs Bw : Nat} {A B C : World} (h : Boxes Bs Bw A B) (k : Boxes Bs Bw B C) : Boxes Bs Bw A C := ⟨k.1.trans h.1, k.2.trans h.2⟩
theorem cell_heap {w w' : World} {b : Nat} (h : w'.heap[b]? = w.heap[b]?) : w'.cell? ⟨b, 0, none⟩ = w.cell? ⟨b, 0, none⟩ := by simp [World.cell?, h]

set_option maxRecDepth 100000 in
set_option maxHeartbeats 4000000 in
theorem each1_in (n : Nat) (hn : 1 ≤ n) (l Bs Bw : Nat) (s : ByteArray) (hs : s.size ≤ 140737488351232) (J Jx : List (Nat × UInt8) → World → Prop)
    (hdJ : ∀ pre W, J pre W → J pre W.drew)
    (hY : ∀ pre x W, J pre W → pre.length < s.size → YieldAt Fence.wide (n - 1) Tryd.prog l (encs s x) W fun e W' =>
      (e = .returned (.bool true) ∧ J (pre ++ [x]) W' ∧ Boxes Bs Bw W W') ∨ (e = .returned (.bool false) ∧ Jx (pre ++ [x]) W'))
    (W : World) (hBs : W.cell? ⟨Bs, 0, none⟩ = some (.string s)) (hBw : W.cell? ⟨Bw, 0, none⟩ = some (.func (.func 33) #[] #[])) (h0 : J [] W) :
    CallsIn Fence.wide n Tryd.prog 54 #[.func (.yield l) #[] #[], .pointer (some ⟨Bs, 0, none⟩), .pointer (some ⟨Bw, 0, none⟩)] W fun e W' => (∃ v, e = .returned v) ∧
      ((∃ ys, ys = upto (lowAt s) s.size ∧ J ys W') ∨ (∃ pre, (∃ k, k ≤ s.size ∧ pre = upto (lowAt s) k) ∧ Jx pre W')) := by
  refine callsIn_of_wp Tryd.func54 rfl trivial ?_ rfl
  simp only [Tryd.ntmps54, List.size_toArray, List.length_cons, List.length_nil, Nat.reduceAdd, Nat.reduceSub, Array.replicate_succ, Array.replicate_zero, List.push_toArray, List.append_toArray, List.nil_append, List.cons_append]
  gi_wp2
  gi_loopw [7] (fun i wr => ∃ k : Nat, k ≤ s.size ∧ i = .int .i64 k ∧ J (upto (lowAt s) k) wr ∧ Boxes Bs Bw W wr) (fun i _ => s.size - (intOf i).toNat)
  case atStart => exact ⟨0, Nat.zero_le _, rfl, h0, Boxes.refl _⟩
  case round =>
    obtain ⟨k, hk, rfl, hJs, hnx⟩ := hrel
    have hc1 : wr.cell? ⟨Bs, 0, none⟩ = some (.string s) := (cell_heap hnx.1).trans hBs
    have hc2 : wr.cell? ⟨Bw, 0, none⟩ = some (.func (.func 33) #[] #[]) := (cell_heap hnx.2).trans hBw
    by_cases hlt : k < s.size
    · have hY1 := (hY _ (lowAt s k) wr.drew (hdJ _ _ hJs) (by rw [upto_length]; exact hlt)).mono (R' := fun e W' => ∃ b, e = .returned (.bool b) ∧ ((b = true ∧ J (upto (lowAt s) k ++ [lowAt s k]) W' ∧ Boxes Bs Bw wr.drew W') ∨ (b = false ∧ Jx (upto (lowAt s) k ++ [lowAt s k]) W'))) (fun e W' h => by
        rcases h with ⟨rfl, h1, h2⟩ | ⟨rfl, h1⟩
        · exact ⟨true, rfl, .inl ⟨rfl, h1, h2⟩⟩
        · exact ⟨false, rfl, .inr ⟨rfl, h1⟩⟩)
      have hget : (s.data.toList[k]?.getD 0) = s[k] := by
        rw [List.getElem?_eq_getElem (by rw [← size_list]; exact hlt)]; rfl
      have hcl : ∀ w, CallsIn Fence.wide (n - 1) Tryd.prog 33 #[.int .u8 s[k].toNat] w fun e w' => e = .returned (.int .u8 (lowC s[k]).toNat) ∧ w' = w := fun w => callsIn_wide.2 (ascii_Lower1 s[k] w)
      obtain ⟨fn, tmps, assign, body, hy, hR⟩ := hY1
      dsimp only [encs, lowAt] at hy
      rw [hget, Nat.mod_eq_of_lt hlt] at hy
      gi_wp2
      gi_region_with (first
        | (refine ⟨trivial, ?_⟩; gi_at_call 33; refine (hcl _).mono ?_; rintro e w1 ⟨rfl, rfl⟩)
        | (refine hR.mono ?_; rintro e W3 ⟨b, rfl, hb⟩))
      all_goals rcases hb with ⟨rfl, hJ3, hk3⟩ | ⟨rfl, hJx3⟩
      all_goals gi_wp2
      all_goals first
        | (refine bodyPost_ret (results_none rfl _ _ _) rfl ?_; exact ⟨⟨_, rfl⟩, .inr ⟨_, ⟨k + 1, by omega, (upto_succ _ _).symm⟩, hJx3⟩⟩)
        | (go_roundw; (case rel => exact ⟨k + 1, by omega, by simp, by rw [upto_succ]; exact hJ3, Boxes.trans hnx hk3⟩); (case measure => simp [intOf]; omega))
    · obtain rfl : k = s.size := by omega
      gi_wp2
      go_end0
      exact ⟨⟨_, rfl⟩, .inl ⟨_, rfl, hJs⟩⟩

theorem ascii_each_in (n : Nat) (s : ByteArray) (v : Value) (hv : v = .func (.func 33) #[] #[]) (w : World) :
    CallsIn Fence.wide n Tryd.prog 35 #[.string s, v] w fun e w' => e = .returned (.func (.func 54) #[] #[.pointer (some ⟨w.heap.size, 0, none⟩), .pointer (some ⟨w.heap.size + 1, 0, none⟩)]) ∧
      w' = (w.alloc (.cells #[.string s] 9)).alloc (.cells #[v] 51) := by
  subst hv
  refine callsIn_of_wp Tryd.func35 rfl trivial ?_ rfl
  simp only [Tryd.ntmps35, List.size_toArray, List.length_cons, List.length_nil, Nat.reduceAdd, Nat.reduceSub, Array.replicate_succ, Array.replicate_zero, List.push_toArray, List.append_toArray, List.nil_append, List.cons_append]
  gi_wp2
  go_ret
  exact ⟨rfl, rfl⟩

theorem each_stops (n : Nat) (hn : 1 ≤ n) (Bs Bw : Nat) (s : ByteArray) (hs : s.size ≤ 140737488351232) (w : World) (hBs : Bs < w.heap.size) (hBw : Bw < w.heap.size)
    (h1 : w.cell? ⟨Bs, 0, none⟩ = some (.string s)) (h2 : w.cell? ⟨Bw, 0, none⟩ = some (.func (.func 33) #[] #[])) :
    SeqStopsK Fence.wide n Tryd.prog 54 #[.pointer (some ⟨Bs, 0, none⟩), .pointer (some ⟨Bw, 0, none⟩)] (encs s) (Boxes Bs Bw) (fun ys => ys = upto (lowAt s) s.size) (fun pre => ∃ k, k ≤ s.size ∧ pre = upto (lowAt s) k) s.size w := fun l J Jx W hW hJ _ hY h0 => by
  refine each1_in n hn l Bs Bw s hs J Jx (fun pre W' hj => hJ _ _ _ none hj (grown_drew (World.grownBy.refl _ _)) (fun r e => by cases e)) hY W ((hW.cell (p := ⟨Bs, 0, none⟩) hBs).trans h1) ((hW.cell (p := ⟨Bw, 0, none⟩) hBw).trans h2) h0

/-- Bytes laid at their places. -/
def layAll (n : Nat) (pre : List (Nat × UInt8)) (l : List UInt8) : List UInt8 := pre.foldl (fun l x => l.set (x.1 % n) x.2) l
theorem layAll_snoc (n : Nat) (pre : List (Nat × UInt8)) (x : Nat × UInt8) (l : List UInt8) : layAll n (pre ++ [x]) l = (layAll n pre l).set (x.1 % n) x.2 := by simp [layAll]
theorem layAll_length (n : Nat) (pre : List (Nat × UInt8)) : ∀ l, (layAll n pre l).length = l.length := by
  induction pre with
  | nil => intro l; rfl
  | cons x pre ih => intro l; show (layAll n pre _).length = _; rw [ih, List.length_set]
theorem layAll_upto (s : ByteArray) : ∀ k, k ≤ s.size → layAll s.size (upto (lowAt s) k) (List.replicate s.size 0) = (lowL s.data.toList).take k ++ List.replicate (s.size - k) 0 := by
  intro k
  induction k with
  | zero => intro _; simp [upto, layAll]
  | succ k ih =>
    intro hk
    have hlen : (lowL s.data.toList).length = s.size := by rw [lowL, List.length_map, ← size_list]
    rw [upto_succ, layAll_snoc, ih (by omega)]
    show List.set _ (k % s.size) _ = _
    rw [Nat.mod_eq_of_lt (show k < s.size by omega), List.set_append_right _ _ (by rw [List.length_take]; omega)]
    have e1 : k - ((lowL s.data.toList).take k).length = 0 := by rw [List.length_take]; omega
    have e2 : s.size - k = (s.size - (k + 1)) + 1 := by omega
    have e3 : (lowL s.data.toList)[k]? = some (lowC (s.data.toList[k]?.getD 0)) := by
      have hk2 : k < s.data.toList.length := by rw [← size_list]; omega
      simp [lowL, List.getElem?_eq_getElem hk2]
    rw [e1, e2, List.replicate_succ, List.set_cons_zero, List.take_add_one, e3]
    simp [lowAt]
theorem layAll_done (s : ByteArray) : layAll s.size (upto (lowAt s) s.size) (List.replicate s.size 0) = lowL s.data.toList := by
  rw [layAll_upto s s.size (Nat.le_refl _), List.take_of_length_le (by rw [lowL, List.length_map, ← size_list]; exact Nat.le_refl _)]; simp

/-- A block of bytes. -/
def ByteRow (w : World) (b : Nat) (T : TypeId) (l : List UInt8) : Prop := w.heap[b]? = some (.cells (u8s l).toArray T (0, 0))
theorem ByteRow.cell {w : World} {b : Nat} {T : TypeId} {l : List UInt8} (h : ByteRow w b T l) {k : Nat} (hk : k < l.length) : w.cell? ⟨b, k, none⟩ = some (.int .u8 l[k].toNat) := by
  rw [cell_of_row w b k _ T _ h]; simpa using u8s_get l k hk
theorem ByteRow.free {w : World} {b : Nat} {T : TypeId} {l : List UInt8} (h : ByteRow w b T l) (k : Nat) : w.frozen? ⟨b, k, none⟩ = false := by
  unfold ByteRow at h; simp [World.frozen?, h]
theorem ByteRow.set {w : World} {b : Nat} {T : TypeId} {l : List UInt8} (h : ByteRow w b T l) (k : Nat) (c : UInt8) : ByteRow (w.setCell ⟨b, k, none⟩ (.int .u8 c.toNat)) b T (l.set k c) := by
  unfold ByteRow
  rw [Go.heap_setCell_same w b k _ T _ h, ← u8s_set]; simp
theorem ByteRow.str {w : World} {b : Nat} {T : TypeId} {l : List UInt8} (h : ByteRow w b T l) {P : Program} {src dst e : TypeId} (hs : P.underlying src = some (.slice e)) (he : P.underlying e = some (.int .u8)) (hd : P.underlying dst = some .string) {n cap : Nat} (hn : l.length = n) :
    (convert src dst (.slice (some ⟨b, 0, none⟩) n cap)).run P w = .ok (.string ⟨l.toArray⟩) w := by
  rw [run_convert_bytes_arg w src e hs he b 0 n cap (l.map fun c => (c.toNat : Int)) (by simpa using hn) (fun i hi => ?_) dst hd]
  · unfold strOfNums
    rw [List.map_map, List.map_congr_left (g := id) (fun c _ => by simp), List.map_id]
  · rw [Nat.zero_add, h.cell (k := i) (by omega)]
    simp [List.getD_eq_getElem?_getD, List.getElem?_eq_getElem (show i < l.length by omega)]
theorem own_heap {w w' : World} {row : Option Nat} {b : Nat} {cs : Array Value} {T : TypeId} {fr : Nat × Nat} (h : w.heap[b]? = some (.cells cs T fr)) (hg : w.grownBy w' row) (hr : ∀ r, row = some r → ∃ o : Obj, w.heap[r]? = some o ∧ o.isCells = false) : w'.heap[b]? = some (.cells cs T fr) := by
  rw [hg.block b (lt_of_block h) (fun e => by
    obtain ⟨o, ho, hc⟩ := hr b e.symm
    rw [h] at ho; obtain rfl := Option.some.inj ho; cases hc)]
  exact h
theorem madeZero (n : Nat) : madeCells #[Value.int .u8 0] n = (u8s (List.replicate n 0)).toArray := by
  unfold madeCells
  rw [show (fun i : Nat => (#[Value.int .u8 0] : Array Value)[i % (#[Value.int .u8 0] : Array Value).size]!) = fun _ => Value.int .u8 0 from funext fun i => by simp [Nat.mod_one]]
  apply Array.ext'
  simp only [Array.toList_map, Array.toList_range, u8s, List.map_replicate, List.map_const']
  simp


theorem infoU8 : (Tryd.prog.info? 5).map (fun i => (i.zero, i.size, i.bytes)) = some (some (.int .u8 0), 1, 1) := by kernel_rfl
set_option maxRecDepth 100000 in
set_option maxHeartbeats 4000000 in
theorem ascii_Lower_any (s : ByteArray) (hs : s.size ≤ 140737488351232) (w : World) :
    Calls Tryd.prog 22 #[.string s] w fun e w' => e = .returned (.string ⟨(lowL s.data.toList).toArray⟩) ∧ Below w.heap.size w w' := by
  refine (callsIn_wide (n := 6)).1 ?_
  have hmk := run_make_row' (P := Tryd.prog) 49 5 (.int .u8 0) 1 Tryd.underlying49 infoU8 rfl .i64 .i64 s.size (by omega) (by omega)
  simp only [madeZero] at hmk
  refine callsIn_of_wp_marks Tryd.func22 rfl trivial ?_ rfl
  simp only [Tryd.ntmps22, List.size_toArray, List.length_cons, List.length_nil, Nat.reduceAdd, Nat.reduceSub, Array.replicate_succ, Array.replicate_zero, List.push_toArray, List.append_toArray, List.nil_append, List.cons_append]
  gi_wp2_with (first | (refine ⟨trivial, ?_⟩; gi_at_call 35; refine (ascii_each_in _ s _ rfl _).mono ?_; rintro e w' ⟨rfl, rfl⟩) | (gi_at_call 35; refine (ascii_each_in _ s _ rfl _).mono ?_; rintro e w' ⟨rfl, rfl⟩))
  obtain ⟨W0, hW0⟩ : ∃ W0, W0 = ((((w.alloc (.cells (u8s (List.replicate s.size 0)).toArray 5)).alloc (.cells #[.slice (some ⟨w.heap.size, 0, none⟩) s.size s.size] 49)).alloc (.cells #[.string s] 9)).alloc (.cells #[.func (.func 33) #[] #[]] 51)) := ⟨_, rfl⟩
  have hsz : W0.heap.size = w.heap.size + 1 + 1 + 1 + 1 := by rw [hW0]; simp
  have hB0 : Below w.heap.size w W0 := by rw [hW0]; exact ((((Below.refl _ w).alloc (Nat.le_refl _) _).alloc (by simp) _).alloc (by simp; omega) _).alloc (by simp; omega) _
  have hrow : ByteRow W0 w.heap.size 5 (List.replicate s.size 0) := by
    rw [hW0]; exact block_alloc (block_alloc (block_alloc (heap_alloc_new w _) _) _) _
  have hbox : W0.heap[w.heap.size + 1]? = some (.cells #[.slice (some ⟨w.heap.size, 0, none⟩) s.size s.size] 49 (0, 0)) := by
    have := heap_alloc_new (w.alloc (.cells (u8s (List.replicate s.size 0)).toArray 5)) (.cells #[.slice (some ⟨w.heap.size, 0, none⟩) s.size s.size] 49)
    rw [World.size_alloc] at this
    rw [hW0]; exact block_alloc (block_alloc this _) _
  have hc1 : W0.cell? ⟨w.heap.size + 1 + 1, 0, none⟩ = some (.string s) := by
    have := heap_alloc_new ((w.alloc (.cells (u8s (List.replicate s.size 0)).toArray 5)).alloc (.cells #[.slice (some ⟨w.heap.size, 0, none⟩) s.size s.size] 49)) (.cells #[.string s] 9)
    simp only [World.size_alloc] at this
    have := block_alloc this (.cells #[.func (.func 33) #[] #[]] 51)
    rw [← hW0] at this
    rw [cell_of_row W0 _ 0 _ _ _ this]; rfl
  have hc2 : W0.cell? ⟨w.heap.size + 1 + 1 + 1, 0, none⟩ = some (.func (.func 33) #[] #[]) := by
    have := heap_alloc_new (((w.alloc (.cells (u8s (List.replicate s.size 0)).toArray 5)).alloc (.cells #[.slice (some ⟨w.heap.size, 0, none⟩) s.size s.size] 49)).alloc (.cells #[.string s] 9)) (.cells #[.func (.func 33) #[] #[]] 51)
    simp only [World.size_alloc] at this
    rw [← hW0] at this
    rw [cell_of_row W0 _ 0 _ _ _ this]; rfl
  rw [← hW0]
  clear hmk hW0
  refine wpIn_rangeFunc_ownF rfl (by decide) (gf := 54) (lb := #[.pointer (some ⟨w.heap.size + 1 + 1, 0, none⟩), .pointer (some ⟨w.heap.size + 1 + 1 + 1, 0, none⟩)]) rfl trivial (enters_of Tryd.func54 (by kernel_rfl) rfl)
    (each_stops _ (by decide) (w.heap.size + 1 + 1) (w.heap.size + 1 + 1 + 1) s hs W0 (by omega) (by omega) hc1 hc2) Boxes.trans (fun W l o o' hl h ho _ => ⟨World.putObj_heap_other (by omega), World.putObj_heap_other (by omega)⟩) (Below.refl _ _) (fun _ => rfl)
    (fun pre W => (ByteRow W w.heap.size 5 (layAll s.size pre (List.replicate s.size 0)) ∧ W.heap[w.heap.size + 1]? = some (.cells #[.slice (some ⟨w.heap.size, 0, none⟩) s.size s.size] 49 (0, 0))) ∧ Below w.heap.size w W)
    (fun _ _ _ => False)
    (OwnFrom.and (fun s W W' row hs hg hr => ⟨own_heap hs.1 hg (fun r e => (hr r e).2), own_heap hs.2 hg (fun r e => (hr r e).2)⟩) (ownFrom_below (Nat.le_refl _) (by omega)))
    (fun _ _ _ _ _ hs _ _ => hs)
    ⟨⟨hrow, hbox⟩, hB0⟩
    (fun x => { tmps := #[.string s, undef, .string ⟨#[]⟩, .pointer (some ⟨w.heap.size + 1, 0, none⟩), .func (.func 33) #[] #[], .int .i64 ((x.1 % s.size : Nat) : Int), .int .u8 x.2.toNat, .string s, .int .i64 s.size, .slice (some ⟨w.heap.size, 0, none⟩) s.size s.size, .string s, .func (.func 33) #[] #[], .func (.func 54) #[] #[.pointer (some ⟨w.heap.size + 1 + 1, 0, none⟩), .pointer (some ⟨w.heap.size + 1 + 1 + 1, 0, none⟩)], .int .i64 ((x.1 % s.size : Nat) : Int), .int .u8 x.2.toNat, undef, undef, undef, undef, undef, undef], defers := [] }) ?assign ?body ?done ?stop
  case assign =>
    intro l x W K hK
    gi_wp2
    exact hK
  case body =>
    rintro l pre x W ⟨⟨hr, hb⟩, hB⟩ hlen
    have hm : x.1 % s.size < s.size := Nat.mod_lt _ (by omega)
    have hL : (layAll s.size pre (List.replicate s.size 0)).length = s.size := by rw [layAll_length, List.length_replicate]
    have hcb : W.cell? ⟨w.heap.size + 1, 0, none⟩ = some (.slice (some ⟨w.heap.size, 0, none⟩) s.size s.size) := by rw [cell_of_row W _ 0 _ _ _ hb]; rfl
    have hfx := hr.free (x.1 % s.size)
    have hset := hr.set (x.1 % s.size) x.2
    rw [← layAll_snoc] at hset
    obtain ⟨c0, hcx⟩ : ∃ c0, W.cell? ⟨w.heap.size, x.1 % s.size, none⟩ = some c0 := ⟨_, hr.cell (k := x.1 % s.size) (by omega)⟩
    clear hr hL
    have hgb : ∀ v, (W.setCell ⟨w.heap.size, x.1 % s.size, none⟩ v).heap[w.heap.size + 1]? = some (.cells #[.slice (some ⟨w.heap.size, 0, none⟩) s.size s.size] 49 (0, 0)) := fun v => block_setCell hb _ (by simp) v
    generalize x.1 % s.size = k at *
    gi_wp2
    exact ⟨KeepsOthers.setCell _ _ _, ⟨Below.heap_setCell _ _ _ _ (by show _ ≠ w.heap.size; omega), Below.heap_setCell _ _ _ _ (by show _ ≠ w.heap.size; omega)⟩, ⟨hset, hgb _⟩, hB.setCell (p := ⟨w.heap.size, k, none⟩) (Nat.le_refl _) _⟩
  case done =>
    rintro D ys W hD rfl ⟨⟨hr, hb⟩, hB⟩ hK
    rw [layAll_done] at hr
    have hcb : W.cell? ⟨w.heap.size + 1, 0, none⟩ = some (.slice (some ⟨w.heap.size, 0, none⟩) s.size s.size) := by rw [cell_of_row W _ 0 _ _ _ hb]; rfl
    have hlen : (lowL s.data.toList).length = s.size := by rw [lowL, List.length_map, ← size_list]
    have hconv := hr.str (P := Tryd.prog) (src := 49) (dst := 9) Tryd.underlying49 Tryd.underlying5 Tryd.underlying9 (n := s.size) (cap := s.size) hlen
    gi_wp2
    refine ⟨by simp, .inl ⟨_, _, rfl, run_takeDeferred hK, ?_⟩⟩
    exact ⟨_, results_tmp rfl _ _ _, rfl, hB.trans (belowK_b (w := w) (Nat.le_refl _) W D _ _ (by omega) hK rfl rfl)⟩
  case stop =>
    rintro D c pre W _ _ h _
    exact h.elim

set_option maxHeartbeats 1000000 in
theorem ascii_Same_any (s t : ByteArray) (hs : s.size ≤ 140737488351232) (ht : t.size ≤ 140737488351232) (w : World) :
    Calls Tryd.prog 23 #[.string s, .string t] w fun e w' => e = .returned (.bool (lowL s.data.toList == lowL t.data.toList)) ∧ Below w.heap.size w w' := by
  go_enter Tryd.func23, Tryd.ntmps23
  go_wp2_with fail
  refine (ascii_Lower_any s hs w).mono ?_
  rintro e w1 ⟨rfl, hb1⟩
  go_wp2_with fail
  refine (ascii_Lower_any t ht w1).mono ?_
  rintro e w2 ⟨rfl, hb2⟩
  go_wp2
  go_ret
  exact ⟨rfl, below_on hb1 hb1.size hb2⟩

end Go.Proofs.YtnppnogmpoigkaaDoor
