/- path.Norm, walked: a range over an iterator. -/
import Derived.Test.YtcegcjefjclcnaaDoorNorm
namespace Go.Proofs.YtcegcjefjclcnaaDoor
open Go.RowKit Go.Shelf Go.Proofs.YtcegcjefjclcnaaDoorW.PrintWords
attribute [local go_sem] Oper.semAt_some

theorem nstep_zero {out : List (List UInt8)} {x : List UInt8 × Bool} (h : dotsN (x.1.take 1000000) = 0) : nstep out x = out ++ [x.1.take 1000000] := by unfold nstep; rw [if_pos h]
theorem nstep_two {out : List (List UInt8)} {x : List UInt8 × Bool} (h : dotsN (x.1.take 1000000) = 2) : nstep out x = if x.2 = true then out.dropLast ++ [[]] else out.dropLast := by unfold nstep; rw [if_neg (by omega), if_pos h]
theorem nstep_one {out : List (List UInt8)} {x : List UInt8 × Bool} (h : dotsN (x.1.take 1000000) ≠ 0) (h2 : dotsN (x.1.take 1000000) ≠ 2) : nstep out x = if x.2 = true then out ++ [[]] else out := by unfold nstep; rw [if_neg h, if_neg h2]

set_option maxRecDepth 100000 in
set_option maxHeartbeats 8000000 in
theorem path_Norm_any (sv : Value) (l : List (List UInt8)) (hl : l.length ≤ 1000000) (hall : ∀ x ∈ l, x.length ≤ 1000000) (w : World) (hT : Texts w.heap.size w sv l) (hsv : sv.oneCell' = true) :
    Calls Tryd.prog 15 #[sv] w fun e w' => ∃ v, e = .returned v ∧ w'.ownsRow w.heap.size 9 1 v (normL l).length (strs (normL l)) ∧ Below w.heap.size w w' := by
  refine (callsIn_wide (n := 6)).1 ?_
  refine callsIn_of_wp_marks Tryd.func15 rfl trivial ?_ rfl
  simp only [Tryd.ntmps15, List.size_toArray, List.length_cons, List.length_nil, Nat.reduceAdd, Nat.reduceSub, Array.replicate_succ, Array.replicate_zero, List.push_toArray, List.append_toArray, List.nil_append, List.cons_append]
  gi_wp2_with (first | (refine ⟨trivial, ?_⟩; gi_at_call 20; refine (path_segments_in _ sv hsv _).mono ?_; rintro e w' ⟨rfl, rfl⟩) | (gi_at_call 20; refine (path_segments_in _ sv hsv _).mono ?_; rintro e w' ⟨rfl, rfl⟩))
  obtain ⟨W0, hW0⟩ : ∃ W0, W0 = (((w.alloc (.cells #[.slice none 0 0] 22)).alloc (.cells #[.func (.func 27) #[] #[.pointer (some ⟨w.heap.size, 0, none⟩)]] 52)).alloc (.cells #[sv] 22)) := ⟨_, rfl⟩
  have hsz : W0.heap.size = w.heap.size + 1 + 1 + 1 := by rw [hW0]; simp
  have hB0 : Below w.heap.size w W0 := by rw [hW0]; exact (((Below.refl _ w).alloc (Nat.le_refl _) _).alloc (by simp) _).alloc (by simp; omega) _
  have hbox : W0.heap[w.heap.size]? = some (.cells #[.slice none 0 0] 22 (0, 0)) := by rw [hW0]; exact block_alloc (block_alloc (heap_alloc_new w _) _) _
  have hb52 : W0.heap[w.heap.size + 1]? = some (.cells #[.func (.func 27) #[] #[.pointer (some ⟨w.heap.size, 0, none⟩)]] 52 (0, 0)) := by
    have := heap_alloc_new (w.alloc (.cells #[.slice none 0 0] 22)) (.cells #[.func (.func 27) #[] #[.pointer (some ⟨w.heap.size, 0, none⟩)]] 52)
    rw [World.size_alloc] at this
    rw [hW0]; exact block_alloc this _
  have hcs : W0.cell? ⟨w.heap.size + 1 + 1, 0, none⟩ = some sv := by
    have := heap_alloc_new ((w.alloc (.cells #[.slice none 0 0] 22)).alloc (.cells #[.func (.func 27) #[] #[.pointer (some ⟨w.heap.size, 0, none⟩)]] 52)) (.cells #[sv] 22)
    simp only [World.size_alloc] at this
    rw [← hW0] at this
    rw [cell_of_row W0 _ 0 _ _ _ this]; rfl
  have hO0 : Out (w.heap.size + 1 + 1 + 1) w.heap.size (.slice none 0 0) [] W0 := ⟨hbox, World.ownsRow_nil _ _ _ _, by simp [Value.ownBlock]⟩
  rw [← hW0]
  clear hW0 hbox
  refine wpIn_rangeFunc_ownF rfl (by decide) (gf := 35) (lb := #[.pointer (some ⟨w.heap.size + 1 + 1, 0, none⟩)]) rfl trivial (enters_of Tryd.func35 (by kernel_rfl) rfl)
    (seg_stops _ (by decide) (w.heap.size + 1 + 1) w.heap.size sv l hl hall W0 (by omega) (by omega) hcs (hT.below hB0)) SegK.trans (fun W l o o' hl h ho hk => ⟨World.putObj_heap_other (by omega), belowK_b (w := W0) (by omega) W l o o' hl h ho hk⟩) (Below.refl _ _) (fun _ => rfl)
    (fun pre W => ((∃ v, Out (w.heap.size + 1 + 1 + 1) w.heap.size v (pre.foldl nstep []) W) ∧ W.heap[w.heap.size + 1]? = some (.cells #[.func (.func 27) #[] #[.pointer (some ⟨w.heap.size, 0, none⟩)]] 52 (0, 0)) ∧ W0.heap.size ≤ W.heap.size) ∧ Below w.heap.size w W)
    (fun _ _ _ => False)
    (OwnFrom.and (fun s W W' row hs hg hr => by
      obtain ⟨⟨v, hO⟩, h5, h6⟩ := hs
      exact ⟨⟨v, own_heap hO.box hg (fun r e => (hr r e).2), hO.own.kept hg (by
        cases hv : v.ownBlock with
        | none => exact .inl rfl
        | some k => exact .inr (fun e => by
            obtain ⟨cur, h1⟩ := own_cells hO.own hv
            obtain ⟨_, o, h2, h3⟩ := hr k e.symm
            rw [h1] at h2; obtain rfl := Option.some.inj h2; cases h3)), hO.ne⟩, own_heap h5 hg (fun r e => (hr r e).2), Nat.le_trans h6 hg.size⟩) (ownFrom_below (Nat.le_refl _) (by omega)))
    (fun _ _ _ _ _ hs _ _ => hs)
    ⟨⟨⟨_, hO0⟩, hb52, Nat.le_refl _⟩, hB0⟩
    (fun x => { tmps := #[sv, undef, .slice none 0 0, .pointer (some ⟨w.heap.size, 0, none⟩), .pointer (some ⟨w.heap.size + 1, 0, none⟩), .string ⟨(x.1.take 1000000).toArray⟩, .bool x.2, undef, .func (.func 27) #[] #[.pointer (some ⟨w.heap.size, 0, none⟩)], sv, .func (.func 35) #[] #[.pointer (some ⟨w.heap.size + 1 + 1, 0, none⟩)], .string ⟨(x.1.take 1000000).toArray⟩, .bool x.2, undef, undef, undef, undef, undef, undef, undef, undef, undef, undef, undef, undef, undef, undef, undef, undef, undef, undef, undef, undef, undef, undef, undef], defers := [] }) ?assign ?body ?done ?stop
  case assign =>
    intro lp x W K hK
    gi_wp2
    exact hK
  case body =>
    rintro lp pre x W ⟨⟨⟨v, hO⟩, h52, hWs⟩, hB⟩ hlen
    have hlO := fold_len pre []
    have hd := path_Dots_any ⟨(x.1.take 1000000).toArray⟩ (by show (x.1.take 1000000).length ≤ _; rw [List.length_take]; omega) W
    rw [mk_toList] at hd
    have hstep := fold_snoc pre x []
    obtain ⟨O2, hO2⟩ : ∃ O2, Hid ((pre ++ [x]).foldl nstep [] = O2) := ⟨_, rfl⟩
    rw [hO2.out] at hstep
    have hz := fun h => nstep_zero (out := pre.foldl nstep []) (x := x) h
    have h2 := fun h => nstep_two (out := pre.foldl nstep []) (x := x) h
    have ho := fun h h' => nstep_one (out := pre.foldl nstep []) (x := x) h h'
    generalize pre.foldl nstep [] = O at *
    generalize dotsN (x.1.take 1000000) = d at *
    generalize x.1.take 1000000 = y at *
    have hlO2 : O.length ≤ 1000000 := by simp at hlO; omega
    clear hlO
    by_cases hd0 : d = 0
    · subst hd0
      have heq : (pre ++ [x]).foldl nstep [] = O ++ [y] := by rw [hO2.out, hstep, hz rfl]; first | done | rfl
      have HEQ := Lib.hid heq
      clear heq hstep hz h2 ho
      gi_wp2_with (first | (refine ⟨trivial, ?_⟩; gi_at_call 16; refine (CallsIn.inRound lp (callsIn_wide.2 hd)).mono ?_; rintro e W1 ⟨rfl, hb1⟩; have hO1 := hO.below hb1; have h521 := block_below h52 hb1 (lt_of_block h52); have c52 : W1.cell? ⟨w.heap.size + 1, 0, none⟩ = some (.func (.func 27) #[] #[.pointer (some ⟨w.heap.size, 0, none⟩)]) := (by rw [cell_of_row W1 _ 0 _ _ _ h521]; rfl); have c0 : W1.cell? ⟨w.heap.size, 0, none⟩ = some (v) := (by rw [cell_of_row W1 _ 0 _ _ _ hO1.box]; rfl); have f0 : W1.frozen? ⟨w.heap.size, 0, none⟩ = false := (by simp [World.frozen?, hO1.box]); have hs1 := Lib.hid (Nat.le_trans hWs hb1.size)) | (refine ⟨trivial, ?_⟩; gi_at_call 27; refine (CallsIn.inRound lp (callsIn_wide.2 (Norm1_out y hO1 hlO2 (by have := hs1.out; first | omega | (simp; omega))))).mono ?_; rintro e W2 ⟨rfl, v2, hO3, hbut⟩))
      have hs1 := hs1.out
      exact ⟨(keeps_below hb1).trans (keeps_but hbut hO1), (seg_below hb1 (by omega) (by omega)).trans (seg_but (Bs := w.heap.size + 1 + 1) (n₀ := w.heap.size) hbut hO1 (Nat.le_refl _) (by omega) (by omega) (by omega) (by first | omega | (simp; omega)) (by first | omega | (simp; omega))), ⟨⟨_, by rw [HEQ.out]; exact hO3⟩, but_block hbut hO1 h521 (by omega) (by omega), (by have := hbut.size; first | omega | (simp at this; omega))⟩, (below_on hB hB.size hb1).trans (seg_but (Bs := w.heap.size + 1 + 1) (n₀ := w.heap.size) hbut hO1 (Nat.le_refl _) (by omega) (by omega) (by omega) (by first | omega | (simp; omega)) (by first | omega | (simp; omega))).2⟩
    by_cases hd2 : d = 2
    · subst hd2
      rcases hO.own.2 with ⟨rfl, hl0⟩ | ⟨g, cap, cur, rfl, hgB, _⟩
      · obtain rfl : O = [] := List.eq_nil_of_length_eq_zero hl0
        cases hx : x.2 with
        | true =>
          have heq : (pre ++ [x]).foldl nstep [] = [] ++ [[]] := by rw [hO2.out, hstep, h2 rfl, if_pos hx]; first | done | rfl
          have HEQ := Lib.hid heq
          clear heq hstep hz h2 ho
          gi_wp2_with (first | (refine ⟨trivial, ?_⟩; gi_at_call 16; refine (CallsIn.inRound lp (callsIn_wide.2 hd)).mono ?_; rintro e W1 ⟨rfl, hb1⟩; have hO1 := hO.below hb1; have h521 := block_below h52 hb1 (lt_of_block h52); have c52 : W1.cell? ⟨w.heap.size + 1, 0, none⟩ = some (.func (.func 27) #[] #[.pointer (some ⟨w.heap.size, 0, none⟩)]) := (by rw [cell_of_row W1 _ 0 _ _ _ h521]; rfl); have c0 : W1.cell? ⟨w.heap.size, 0, none⟩ = some (.slice none 0 0) := (by rw [cell_of_row W1 _ 0 _ _ _ hO1.box]; rfl); have f0 : W1.frozen? ⟨w.heap.size, 0, none⟩ = false := (by simp [World.frozen?, hO1.box]); have hs1 := Lib.hid (Nat.le_trans hWs hb1.size)) | (refine ⟨trivial, ?_⟩; gi_at_call 27; refine (CallsIn.inRound lp (callsIn_wide.2 (Norm1_out [] hO1 hlO2 (by have := hs1.out; first | omega | (simp; omega))))).mono ?_; rintro e W2 ⟨rfl, v2, hO3, hbut⟩))
          have hs1 := hs1.out
          exact ⟨(keeps_below hb1).trans (keeps_but hbut hO1), (seg_below hb1 (by omega) (by omega)).trans (seg_but (Bs := w.heap.size + 1 + 1) (n₀ := w.heap.size) hbut hO1 (Nat.le_refl _) (by omega) (by omega) (by omega) (by first | omega | (simp; omega)) (by first | omega | (simp; omega))), ⟨⟨_, by rw [HEQ.out]; exact hO3⟩, but_block hbut hO1 h521 (by omega) (by omega), (by have := hbut.size; first | omega | (simp at this; omega))⟩, (below_on hB hB.size hb1).trans (seg_but (Bs := w.heap.size + 1 + 1) (n₀ := w.heap.size) hbut hO1 (Nat.le_refl _) (by omega) (by omega) (by omega) (by first | omega | (simp; omega)) (by first | omega | (simp; omega))).2⟩
        | false =>
          have heq : (pre ++ [x]).foldl nstep [] = [] := by rw [hO2.out, hstep, h2 rfl, if_neg (by rw [hx]; exact Bool.false_ne_true)]; first | done | rfl
          have HEQ := Lib.hid heq
          clear heq hstep hz h2 ho
          gi_wp2_with (first | (refine ⟨trivial, ?_⟩; gi_at_call 16; refine (CallsIn.inRound lp (callsIn_wide.2 hd)).mono ?_; rintro e W1 ⟨rfl, hb1⟩; have hO1 := hO.below hb1; have h521 := block_below h52 hb1 (lt_of_block h52); have c52 : W1.cell? ⟨w.heap.size + 1, 0, none⟩ = some (.func (.func 27) #[] #[.pointer (some ⟨w.heap.size, 0, none⟩)]) := (by rw [cell_of_row W1 _ 0 _ _ _ h521]; rfl); have c0 : W1.cell? ⟨w.heap.size, 0, none⟩ = some (.slice none 0 0) := (by rw [cell_of_row W1 _ 0 _ _ _ hO1.box]; rfl); have f0 : W1.frozen? ⟨w.heap.size, 0, none⟩ = false := (by simp [World.frozen?, hO1.box]); have hs1 := Lib.hid (Nat.le_trans hWs hb1.size)))
          have hs1 := hs1.out
          exact ⟨keeps_below hb1, seg_below hb1 (by omega) (by omega), ⟨⟨_, by rw [HEQ.out]; exact hO1⟩, h521, (by omega)⟩, below_on hB hB.size hb1⟩
      · by_cases hL0 : O.length = 0
        · obtain rfl : O = [] := List.eq_nil_of_length_eq_zero hL0
          cases hx : x.2 with
          | true =>
            have heq : (pre ++ [x]).foldl nstep [] = [] ++ [[]] := by rw [hO2.out, hstep, h2 rfl, if_pos hx]; first | done | rfl
            have HEQ := Lib.hid heq
            clear heq hstep hz h2 ho
            gi_wp2_with (first | (refine ⟨trivial, ?_⟩; gi_at_call 16; refine (CallsIn.inRound lp (callsIn_wide.2 hd)).mono ?_; rintro e W1 ⟨rfl, hb1⟩; have hO1 := hO.below hb1; have h521 := block_below h52 hb1 (lt_of_block h52); have c52 : W1.cell? ⟨w.heap.size + 1, 0, none⟩ = some (.func (.func 27) #[] #[.pointer (some ⟨w.heap.size, 0, none⟩)]) := (by rw [cell_of_row W1 _ 0 _ _ _ h521]; rfl); have c0 : W1.cell? ⟨w.heap.size, 0, none⟩ = some (.slice (some ⟨g, 0, none⟩) 0 cap) := (by rw [cell_of_row W1 _ 0 _ _ _ hO1.box]; rfl); have f0 : W1.frozen? ⟨w.heap.size, 0, none⟩ = false := (by simp [World.frozen?, hO1.box]); have hs1 := Lib.hid (Nat.le_trans hWs hb1.size)) | (refine ⟨trivial, ?_⟩; gi_at_call 27; refine (CallsIn.inRound lp (callsIn_wide.2 (Norm1_out [] hO1 hlO2 (by have := hs1.out; first | omega | (simp; omega))))).mono ?_; rintro e W2 ⟨rfl, v2, hO3, hbut⟩))
            have hs1 := hs1.out
            exact ⟨(keeps_below hb1).trans (keeps_but hbut hO1), (seg_below hb1 (by omega) (by omega)).trans (seg_but (Bs := w.heap.size + 1 + 1) (n₀ := w.heap.size) hbut hO1 (Nat.le_refl _) (by omega) (by omega) (by omega) (by first | omega | (simp; omega)) (by first | omega | (simp; omega))), ⟨⟨_, by rw [HEQ.out]; exact hO3⟩, but_block hbut hO1 h521 (by omega) (by omega), (by have := hbut.size; first | omega | (simp at this; omega))⟩, (below_on hB hB.size hb1).trans (seg_but (Bs := w.heap.size + 1 + 1) (n₀ := w.heap.size) hbut hO1 (Nat.le_refl _) (by omega) (by omega) (by omega) (by first | omega | (simp; omega)) (by first | omega | (simp; omega))).2⟩
          | false =>
            have heq : (pre ++ [x]).foldl nstep [] = [] := by rw [hO2.out, hstep, h2 rfl, if_neg (by rw [hx]; exact Bool.false_ne_true)]; first | done | rfl
            have HEQ := Lib.hid heq
            clear heq hstep hz h2 ho
            gi_wp2_with (first | (refine ⟨trivial, ?_⟩; gi_at_call 16; refine (CallsIn.inRound lp (callsIn_wide.2 hd)).mono ?_; rintro e W1 ⟨rfl, hb1⟩; have hO1 := hO.below hb1; have h521 := block_below h52 hb1 (lt_of_block h52); have c52 : W1.cell? ⟨w.heap.size + 1, 0, none⟩ = some (.func (.func 27) #[] #[.pointer (some ⟨w.heap.size, 0, none⟩)]) := (by rw [cell_of_row W1 _ 0 _ _ _ h521]; rfl); have c0 : W1.cell? ⟨w.heap.size, 0, none⟩ = some (.slice (some ⟨g, 0, none⟩) 0 cap) := (by rw [cell_of_row W1 _ 0 _ _ _ hO1.box]; rfl); have f0 : W1.frozen? ⟨w.heap.size, 0, none⟩ = false := (by simp [World.frozen?, hO1.box]); have hs1 := Lib.hid (Nat.le_trans hWs hb1.size)))
            have hs1 := hs1.out
            exact ⟨keeps_below hb1, seg_below hb1 (by omega) (by omega), ⟨⟨_, by rw [HEQ.out]; exact hO1⟩, h521, (by omega)⟩, below_on hB hB.size hb1⟩
        · obtain ⟨n, hL⟩ : ∃ n, O.length = n + 1 := ⟨O.length - 1, by omega⟩
          rw [hL] at hO
          cases hx : x.2 with
          | true =>
            have heq : (pre ++ [x]).foldl nstep [] = O.dropLast ++ [[]] := by rw [hO2.out, hstep, h2 rfl, if_pos hx]; first | done | rfl
            have HEQ := Lib.hid heq
            clear heq hstep hz h2 ho
            gi_wp2_with (first | (refine ⟨trivial, ?_⟩; gi_at_call 16; refine (CallsIn.inRound lp (callsIn_wide.2 hd)).mono ?_; rintro e W1 ⟨rfl, hb1⟩; have hO1 := hO.below hb1; have h521 := block_below h52 hb1 (lt_of_block h52); have c52 : W1.cell? ⟨w.heap.size + 1, 0, none⟩ = some (.func (.func 27) #[] #[.pointer (some ⟨w.heap.size, 0, none⟩)]) := (by rw [cell_of_row W1 _ 0 _ _ _ h521]; rfl); have c0 : W1.cell? ⟨w.heap.size, 0, none⟩ = some (.slice (some ⟨g, 0, none⟩) (n + 1) cap) := (by rw [cell_of_row W1 _ 0 _ _ _ hO1.box]; rfl); have f0 : W1.frozen? ⟨w.heap.size, 0, none⟩ = false := (by simp [World.frozen?, hO1.box]); have hs1 := Lib.hid (Nat.le_trans hWs hb1.size); have hdr := hO1.dropped hL; have c52d : (W1.setCell ⟨w.heap.size, 0, none⟩ (.slice (some ⟨g, 0, none⟩) n cap)).cell? ⟨w.heap.size + 1, 0, none⟩ = some (.func (.func 27) #[] #[.pointer (some ⟨w.heap.size, 0, none⟩)]) := (by rw [cell_of_row _ _ 0 _ _ _ (block_setCell h521 _ (by simp) _)]; rfl)) | (refine ⟨trivial, ?_⟩; gi_at_call 27; refine (CallsIn.inRound lp (callsIn_wide.2 (Norm1_out [] hdr.1 (by rw [List.length_dropLast]; omega) (by have := hs1.out; first | omega | (simp; omega))))).mono ?_; rintro e W2 ⟨rfl, v2, hO3, hbut⟩))
            have hs1 := hs1.out
            exact ⟨((keeps_below hb1).trans (KeepsOthers.setCell _ _ _)).trans (keeps_but hbut hdr.1), ((seg_below hb1 (by omega) (by omega)).trans (seg_but hdr.2 hO1 (Nat.le_refl _) (by omega) (by omega) (by omega) (by omega) (by omega))).trans (seg_but (Bs := w.heap.size + 1 + 1) (n₀ := w.heap.size) hbut hdr.1 (Nat.le_refl _) (by omega) (by omega) (by omega) (by first | omega | (simp; omega)) (by first | omega | (simp; omega))), ⟨⟨_, by rw [HEQ.out]; exact hO3⟩, but_block hbut hdr.1 (block_setCell h521 _ (by simp) _) (by omega) (by omega), (by have := hbut.size; first | omega | (simp at this; omega))⟩, ((below_on hB hB.size hb1).setCell (p := ⟨w.heap.size, 0, none⟩) (Nat.le_refl _) _).trans (seg_but (Bs := w.heap.size + 1 + 1) (n₀ := w.heap.size) hbut hdr.1 (Nat.le_refl _) (by omega) (by omega) (by omega) (by first | omega | (simp; omega)) (by first | omega | (simp; omega))).2⟩
          | false =>
            have heq : (pre ++ [x]).foldl nstep [] = O.dropLast := by rw [hO2.out, hstep, h2 rfl, if_neg (by rw [hx]; exact Bool.false_ne_true)]; first | done | rfl
            have HEQ := Lib.hid heq
            clear heq hstep hz h2 ho
            gi_wp2_with (first | (refine ⟨trivial, ?_⟩; gi_at_call 16; refine (CallsIn.inRound lp (callsIn_wide.2 hd)).mono ?_; rintro e W1 ⟨rfl, hb1⟩; have hO1 := hO.below hb1; have h521 := block_below h52 hb1 (lt_of_block h52); have c52 : W1.cell? ⟨w.heap.size + 1, 0, none⟩ = some (.func (.func 27) #[] #[.pointer (some ⟨w.heap.size, 0, none⟩)]) := (by rw [cell_of_row W1 _ 0 _ _ _ h521]; rfl); have c0 : W1.cell? ⟨w.heap.size, 0, none⟩ = some (.slice (some ⟨g, 0, none⟩) (n + 1) cap) := (by rw [cell_of_row W1 _ 0 _ _ _ hO1.box]; rfl); have f0 : W1.frozen? ⟨w.heap.size, 0, none⟩ = false := (by simp [World.frozen?, hO1.box]); have hs1 := Lib.hid (Nat.le_trans hWs hb1.size); have hdr := hO1.dropped hL; have c52d : (W1.setCell ⟨w.heap.size, 0, none⟩ (.slice (some ⟨g, 0, none⟩) n cap)).cell? ⟨w.heap.size + 1, 0, none⟩ = some (.func (.func 27) #[] #[.pointer (some ⟨w.heap.size, 0, none⟩)]) := (by rw [cell_of_row _ _ 0 _ _ _ (block_setCell h521 _ (by simp) _)]; rfl)))
            have hs1 := hs1.out
            exact ⟨(keeps_below hb1).trans (KeepsOthers.setCell _ _ _), (seg_below hb1 (by omega) (by omega)).trans (seg_but hdr.2 hO1 (Nat.le_refl _) (by omega) (by omega) (by omega) (by omega) (by omega)), ⟨⟨_, by rw [HEQ.out]; exact hdr.1⟩, (block_setCell h521 _ (by simp) _), (by simp; omega)⟩, (below_on hB hB.size hb1).setCell (p := ⟨w.heap.size, 0, none⟩) (Nat.le_refl _) _⟩
    cases hx : x.2 with
    | true =>
      have heq : (pre ++ [x]).foldl nstep [] = O ++ [[]] := by rw [hO2.out, hstep, ho hd0 hd2, if_pos hx]; first | done | rfl
      have HEQ := Lib.hid heq
      clear heq hstep hz h2 ho
      gi_wp2_with (first | (refine ⟨trivial, ?_⟩; gi_at_call 16; refine (CallsIn.inRound lp (callsIn_wide.2 hd)).mono ?_; rintro e W1 ⟨rfl, hb1⟩; have hO1 := hO.below hb1; have h521 := block_below h52 hb1 (lt_of_block h52); have c52 : W1.cell? ⟨w.heap.size + 1, 0, none⟩ = some (.func (.func 27) #[] #[.pointer (some ⟨w.heap.size, 0, none⟩)]) := (by rw [cell_of_row W1 _ 0 _ _ _ h521]; rfl); have c0 : W1.cell? ⟨w.heap.size, 0, none⟩ = some (v) := (by rw [cell_of_row W1 _ 0 _ _ _ hO1.box]; rfl); have f0 : W1.frozen? ⟨w.heap.size, 0, none⟩ = false := (by simp [World.frozen?, hO1.box]); have hs1 := Lib.hid (Nat.le_trans hWs hb1.size)) | (refine ⟨trivial, ?_⟩; gi_at_call 27; refine (CallsIn.inRound lp (callsIn_wide.2 (Norm1_out [] hO1 hlO2 (by have := hs1.out; first | omega | (simp; omega))))).mono ?_; rintro e W2 ⟨rfl, v2, hO3, hbut⟩))
      have hs1 := hs1.out
      exact ⟨(keeps_below hb1).trans (keeps_but hbut hO1), (seg_below hb1 (by omega) (by omega)).trans (seg_but (Bs := w.heap.size + 1 + 1) (n₀ := w.heap.size) hbut hO1 (Nat.le_refl _) (by omega) (by omega) (by omega) (by first | omega | (simp; omega)) (by first | omega | (simp; omega))), ⟨⟨_, by rw [HEQ.out]; exact hO3⟩, but_block hbut hO1 h521 (by omega) (by omega), (by have := hbut.size; first | omega | (simp at this; omega))⟩, (below_on hB hB.size hb1).trans (seg_but (Bs := w.heap.size + 1 + 1) (n₀ := w.heap.size) hbut hO1 (Nat.le_refl _) (by omega) (by omega) (by omega) (by first | omega | (simp; omega)) (by first | omega | (simp; omega))).2⟩
    | false =>
      have heq : (pre ++ [x]).foldl nstep [] = O := by rw [hO2.out, hstep, ho hd0 hd2, if_neg (by rw [hx]; exact Bool.false_ne_true)]; first | done | rfl
      have HEQ := Lib.hid heq
      clear heq hstep hz h2 ho
      gi_wp2_with (first | (refine ⟨trivial, ?_⟩; gi_at_call 16; refine (CallsIn.inRound lp (callsIn_wide.2 hd)).mono ?_; rintro e W1 ⟨rfl, hb1⟩; have hO1 := hO.below hb1; have h521 := block_below h52 hb1 (lt_of_block h52); have c52 : W1.cell? ⟨w.heap.size + 1, 0, none⟩ = some (.func (.func 27) #[] #[.pointer (some ⟨w.heap.size, 0, none⟩)]) := (by rw [cell_of_row W1 _ 0 _ _ _ h521]; rfl); have c0 : W1.cell? ⟨w.heap.size, 0, none⟩ = some (v) := (by rw [cell_of_row W1 _ 0 _ _ _ hO1.box]; rfl); have f0 : W1.frozen? ⟨w.heap.size, 0, none⟩ = false := (by simp [World.frozen?, hO1.box]); have hs1 := Lib.hid (Nat.le_trans hWs hb1.size)))
      have hs1 := hs1.out
      exact ⟨keeps_below hb1, seg_below hb1 (by omega) (by omega), ⟨⟨_, by rw [HEQ.out]; exact hO1⟩, h521, (by omega)⟩, below_on hB hB.size hb1⟩
  case done =>
    rintro D ys W hD rfl ⟨⟨⟨v, hO⟩, h52, _⟩, hB⟩ hK
    have hc0 : W.cell? ⟨w.heap.size, 0, none⟩ = some v := by rw [cell_of_row W _ 0 _ _ _ hO.box]; rfl
    gi_wp2
    refine ⟨by simp, .inl ⟨_, _, rfl, run_takeDeferred hK, ?_⟩⟩
    have ho2 := hO.own.kept (grownBy_putObj' W D (.deferred none)) (by
      cases hv : v.ownBlock with
      | none => exact .inl rfl
      | some k => exact .inr (fun e => by
          obtain ⟨cur, h1⟩ := own_cells hO.own hv
          obtain rfl := Option.some.inj e
          rw [h1] at hK; cases Option.some.inj hK))
    refine ⟨_, results_tmp rfl _ _ _, v, rfl, ⟨ho2.1, ?_⟩, hB.trans (belowK_b (w := w) (Nat.le_refl _) W D _ _ (by omega) hK rfl rfl)⟩
    rcases ho2.2 with h | ⟨g, cap, cur, h1, h2, h3⟩
    · exact .inl h
    · exact .inr ⟨g, cap, cur, h1, by omega, h3⟩
  case stop =>
    rintro D c pre W _ _ h _
    exact h.elim

end Go.Proofs.YtcegcjefjclcnaaDoor
