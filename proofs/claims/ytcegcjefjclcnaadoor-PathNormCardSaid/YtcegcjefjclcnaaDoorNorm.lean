/- path.Norm. -/
import Derived.Test.YtcegcjefjclcnaaDoorSeg
import Derived.Test.YtcegcjefjclcnaaDoorDots
import Derived.Laws.EntriesVeiled
namespace Go.Proofs.YtcegcjefjclcnaaDoor
open Go.RowKit Go.Shelf Go.Proofs.YtcegcjefjclcnaaDoorW.PrintWords

theorem infoStr0 : (Tryd.prog.info? 9).map (fun i => (i.zero, i.size, i.bytes)) = some (some (.string ⟨#[]⟩), 1, 16) := by kernel_rfl
/-- A list of texts of one's own, in a box at b. -/
structure Out (B b : Nat) (v : Value) (L : List (List UInt8)) (w : World) : Prop where
  box : w.heap[b]? = some (.cells #[v] 22 (0, 0))
  own : w.ownsRow B 9 1 v L.length (strs L)
  ne : v.ownBlock ≠ some b
theorem Out.lt {B b : Nat} {v : Value} {L : List (List UInt8)} {w : World} (h : Out B b v L w) : b < w.heap.size := lt_of_block h.box

set_option maxHeartbeats 2000000 in
set_option maxRecDepth 100000 in
theorem Norm1_out {B b : Nat} {v : Value} {L : List (List UInt8)} (x : List UInt8) {w : World} (h : Out B b v L w) (hl : L.length ≤ 1000000) (hB : B ≤ w.heap.size) :
    Calls Tryd.prog 27 #[.string ⟨x.toArray⟩, .pointer (some ⟨b, 0, none⟩)] w fun e w' => e = .returned (.tuple #[]) ∧ ∃ v', Out B b v' (L ++ [x]) w' ∧ But b v w w' := by
  have hn1 := h.ne
  have ho1 := h.own
  have hb1 := h.box
  have hlt := h.lt
  have c0 : w.cell? ⟨b, 0, none⟩ = some v := by rw [cell_of_row w b 0 _ _ _ hb1]; rfl
  clear h
  go_enter Tryd.func27, Tryd.ntmps27
  go_wp2_with (at_builtin; refine wpList_append1_at rfl _ _ 22 rfl 9 _ (.string ⟨#[]⟩) 16 Tryd.underlying22 infoStr0 rfl B w _ L.length _ (.string ⟨x.toArray⟩) (by rfl) (by rfl) ho1 hB (by simp [Value.oneCell']) (by omega) (by omega) ?_)
  intro v' w2 hown' hgrow hat
  have hb2 : w2.heap[b]? = some (.cells #[v] 22 (0, 0)) := by
    rw [hgrow.block b (by omega) (fun e => hn1 e.symm)]
    exact hb1
  have d1 : w2.cell? ⟨b, 0, none⟩ = some v := by rw [cell_of_row w2 b 0 _ _ _ hb2]; rfl
  have f1 : w2.frozen? ⟨b, 0, none⟩ = false := by simp [World.frozen?, hb2]
  obtain ⟨g, cap, rfl⟩ : ∃ g cap, v' = .slice (some ⟨g, 0, none⟩) (L.length + 1) cap := by
    rcases hown'.2 with ⟨_, h0⟩ | ⟨g, cap, cur, hv, _⟩
    · omega
    · exact ⟨g, cap, hv⟩
  have hne2 : b ≠ g := by
    intro e
    subst e
    rcases hat with h | h
    · exact hn1 h.symm
    · have := Option.some.inj h; simp at this; omega
  go_wp2
  go_end0
  refine ⟨rfl, .slice (some ⟨g, 0, none⟩) (L.length + 1) cap, ⟨?_, ?_, ?_⟩, ?_⟩
  · rw [Go.heap_setCell_same w2 b 0 _ _ _ hb2]; rfl
  · have := hown'.kept (grown_setCell _ ⟨b, 0, none⟩ (.slice (some ⟨g, 0, none⟩) (L.length + 1) cap)) (.inr (fun e => hne2 (Option.some.inj e).symm))
    rw [strs_append, List.length_append]
    exact this
  · exact fun e => hne2 (Option.some.inj e).symm
  · exact ⟨hgrow.os, hgrow.tape, hgrow.output, by simp; exact hgrow.size, fun k hk h1 h2 => by
      rw [Below.heap_setCell _ _ _ _ h1, hgrow.block k hk (fun e => h2 e.symm)]⟩

/-- What a segment does to those ahead of it. -/
def nstep (out : List (List UInt8)) (x : List UInt8 × Bool) : List (List UInt8) :=
  if dotsN (x.1.take 1000000) = 0 then out ++ [x.1.take 1000000]
  else if x.2 = true then (if dotsN (x.1.take 1000000) = 2 then out.dropLast else out) ++ [[]] else if dotsN (x.1.take 1000000) = 2 then out.dropLast else out
def normL (l : List (List UInt8)) : List (List UInt8) := (upto (segAt l) l.length).foldl nstep []
theorem nstep_len (out : List (List UInt8)) (x : List UInt8 × Bool) : (nstep out x).length ≤ out.length + 1 := by
  unfold nstep
  split
  · simp
  · split <;> split <;> simp <;> omega
theorem fold_len : ∀ (pre : List (List UInt8 × Bool)) (out : List (List UInt8)), (pre.foldl nstep out).length ≤ out.length + pre.length
  | [], out => Nat.le_refl _
  | x :: pre, out => by
    have h1 := nstep_len out x
    have h2 := fold_len pre (nstep out x)
    show (pre.foldl nstep (nstep out x)).length ≤ _
    rw [List.length_cons]; omega
theorem fold_snoc (pre : List (List UInt8 × Bool)) (x : List UInt8 × Bool) (out : List (List UInt8)) : (pre ++ [x]).foldl nstep out = nstep (pre.foldl nstep out) x := by rw [List.foldl_append]; rfl

theorem keeps_below {w w' : World} (h : Below w.heap.size w w') : KeepsOthers w w' := ⟨h.size, fun k o hk _ => (h.block k (lt_of_block hk)).trans hk⟩
theorem own_cells {w : World} {B : Nat} {v : Value} {n : Nat} {xs : List Value} {e : TypeId} {k : Nat} (h : w.ownsRow B e 1 v n xs) (hk : v.ownBlock = some k) : ∃ cur, w.heap[k]? = some (.cells cur e (0, 0)) := by
  rcases h.2 with ⟨rfl, _⟩ | ⟨g, cap, cur, rfl, _, hc, _⟩
  · cases hk
  · obtain rfl := Option.some.inj hk
    exact ⟨cur, hc⟩
theorem keeps_but {w w' : World} {B b : Nat} {v : Value} {L : List (List UInt8)} (h : But b v w w') (ho : Out B b v L w) : KeepsOthers w w' := ⟨h.size, fun k o hk hc => by
  rw [h.block k (lt_of_block hk) (fun e => by subst e; rw [ho.box] at hk; obtain rfl := Option.some.inj hk; cases hc) (fun e => by
    obtain ⟨cur, h2⟩ := own_cells ho.own e
    rw [h2] at hk; obtain rfl := Option.some.inj hk; cases hc)]
  exact hk⟩
theorem Out.below {B b : Nat} {v : Value} {L : List (List UInt8)} {w w' : World} (h : Out B b v L w) (hb : Below w.heap.size w w') : Out B b v L w' := ⟨block_below h.box hb h.lt, row_below h.own hb, h.ne⟩
theorem seg_but {w w' : World} {B b Bs n₀ : Nat} {v : Value} {L : List (List UInt8)} (h : But b v w w') (ho : Out B b v L w) (h1 : n₀ ≤ b) (h2 : n₀ ≤ B) (h3 : Bs ≠ b) (h4 : Bs < B) (h5 : Bs < w.heap.size) (h6 : n₀ ≤ w.heap.size) : SegK Bs n₀ w w' :=
  ⟨h.block Bs h5 h3 (fun e => by have := (ho.own.lt _ e).1; omega), ⟨h.os, h.tape, h.output, h.size, fun i hi => h.block i (by omega) (by omega) (fun e => by have := (ho.own.lt _ e).1; omega)⟩⟩
theorem but_block {w w' : World} {B b k : Nat} {v : Value} {L : List (List UInt8)} {o : Obj} (h : But b v w w') (ho : Out B b v L w) (hk : w.heap[k]? = some o) (h1 : k ≠ b) (h2 : k < B) : w'.heap[k]? = some o :=
  (h.block k (lt_of_block hk) h1 (fun e => by have := (ho.own.lt _ e).1; omega)).trans hk
theorem seg_below {w w' : World} {Bs n₀ : Nat} (h : Below w.heap.size w w') (h5 : Bs < w.heap.size) (h6 : n₀ ≤ w.heap.size) : SegK Bs n₀ w w' := ⟨h.block Bs h5, h.mono h6⟩
/-- The last text is dropped. -/
theorem Out.dropped {B b g n cap : Nat} {L : List (List UInt8)} {w : World} (h : Out B b (.slice (some ⟨g, 0, none⟩) (n + 1) cap) L w) (hL : L.length = n + 1) :
    Out B b (.slice (some ⟨g, 0, none⟩) n cap) L.dropLast (w.setCell ⟨b, 0, none⟩ (.slice (some ⟨g, 0, none⟩) n cap)) ∧ But b (.slice (some ⟨g, 0, none⟩) (n + 1) cap) w (w.setCell ⟨b, 0, none⟩ (.slice (some ⟨g, 0, none⟩) n cap)) := by
  have hd : L.dropLast.length = n := by rw [List.length_dropLast, hL]; rfl
  refine ⟨⟨?_, ?_, h.ne⟩, But.setCell _ _ _ _ _⟩
  · rw [Go.heap_setCell_same w b 0 _ _ _ h.box]; rfl
  · have ho := h.own
    have h1 : w.ownsRow B 9 1 (.slice (some ⟨g, 0, none⟩) n cap) L.dropLast.length (strs L.dropLast) := by
      refine ⟨by rw [strs_length]; omega, ?_⟩
      rcases ho.2 with ⟨h0, _⟩ | ⟨g', cap', cur, hv, hb, hc, hn, hm, hs, ht⟩
      · cases h0
      · injection hv with hv1 hv2 hv3
        injection hv1 with hv1
        injection hv1 with hv1 _ _
        subst hv1 hv3
        refine .inr ⟨g, cap, cur, by rw [hd], hb, hc, by omega, hm, hs, ?_⟩
        have e : (cur.toList.take (L.length * 1)).take (L.dropLast.length * 1) = (strs L).take (L.dropLast.length * 1) := by rw [ht]
        rw [List.take_take, Nat.min_eq_left (by omega)] at e
        rw [e]
        unfold strs
        rw [← List.map_take, List.dropLast_eq_take, Nat.mul_one, List.length_take, hL]
        congr 2; omega
    exact h1.kept (grown_setCell _ ⟨b, 0, none⟩ _) (.inr h.ne)

end Go.Proofs.YtcegcjefjclcnaaDoor
