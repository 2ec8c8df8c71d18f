/- The reference's Parse of layer 6. -/
import Derived.Test.YtcpnfokpgiigcaaDoorSixZ
namespace Go.Proofs.YtcpnfokpgiigcaaDoor
open Go.RowKit Go.Proofs.YtcpnfokpgiigcaaDoorW.PrintWords Go.Lib

/-- A list with the first j of others laid into it from place o on. -/
def laidIn (L xs : List Int) (o j : Nat) : List Int := L.take o ++ xs.take j ++ L.drop (o + j)
theorem laidIn_zero (L xs : List Int) (o : Nat) : laidIn L xs o 0 = L := by unfold laidIn; simp
theorem laidIn_len {L xs : List Int} {o j : Nat} (h : o + j ≤ L.length) (hj : j ≤ xs.length) : (laidIn L xs o j).length = L.length := by unfold laidIn; simp; omega
theorem laidIn_set {L xs : List Int} {o j : Nat} {x : Int} (hx : xs[j]? = some x) (h : o + j < L.length) : (laidIn L xs o j).set (o + j) x = laidIn L xs o (j + 1) := by
  have hj : j < xs.length := (List.getElem?_eq_some_iff.1 hx).1
  unfold laidIn
  rw [List.set_append_right _ _ (by simp; omega), show o + j - (L.take o ++ xs.take j).length = 0 by simp; omega, List.drop_eq_getElem_cons h, List.set_cons_zero, List.take_add_one, hx]
  simp [Nat.add_assoc]

def one8 : Option (List Nat) → List Nat × Bool
  | some a => if a.length = 8 then (a, true) else (no8, false)
  | none => (no8, false)
def two8 : Option (List Nat) → Option (List Nat) → List Nat × Bool
  | some a, some b => if a.length + b.length ≤ 7 then (a ++ List.replicate (8 - a.length - b.length) 0 ++ b, true) else (no8, false)
  | _, _ => (no8, false)
theorem parse_nogap {l : List UInt8} (h : gapL l = none) : parseSix l = one8 (piecesO l) := by
  unfold parseSix; rw [h]; cases piecesO l <;> rfl
theorem parse_gapped {l x y : List UInt8} (h : gapL l = some (x, y)) : parseSix l = two8 (piecesO x) (piecesO y) := by
  unfold parseSix; rw [h]
  simp only []
  cases piecesO x <;> cases piecesO y <;> rfl
set_option maxHeartbeats 4000000 in
set_option maxRecDepth 100000 in
theorem ref06_Parse (s : ByteArray) (hs : s.size ≤ 1000000) (w : World) :
    Calls Tryd.prog 27 #[.string s] w fun e w' => e = .returned (.tuple #[.agg (ints (casts (parseSix s.data.toList).1)).toArray, .bool (parseSix s.data.toList).2]) ∧ Below w.heap.size w w' := by
  obtain ⟨W0, hW0⟩ : ∃ W0, W0 = (w.alloc (.cells (ints zer).toArray 33)).alloc (.cells (ints zer).toArray 33) := ⟨_, rfl⟩
  have hr1 : IntRow W0 w.heap.size 33 zer := by rw [hW0]; exact (IntRow.new w _ zer).alloc _
  have hr2 : IntRow W0 (w.heap.size + 1) 33 zer := by rw [hW0]; have := IntRow.new (w.alloc (.cells (ints zer).toArray 33)) 33 zer; rwa [World.size_alloc] at this
  have hb0 : Below w.heap.size w W0 := by rw [hW0]; exact ((Below.refl _ _).alloc (Nat.le_refl _) _).alloc (by simp) _
  have hsz8 : (Tryd.prog.info? 33).map (·.size) = some (ints zer).toArray.size := by kernel_rfl
  go_enter Tryd.func27, Tryd.ntmps27
  go_wp2_with fail
  rw [show (w.alloc (.cells #[.int .i64 0, .int .i64 0, .int .i64 0, .int .i64 0, .int .i64 0, .int .i64 0, .int .i64 0, .int .i64 0] 33)).alloc (.cells #[.int .i64 0, .int .i64 0, .int .i64 0, .int .i64 0, .int .i64 0, .int .i64 0, .int .i64 0, .int .i64 0] 33) = W0 from hW0.symm]
  clear hW0
  refine (ref06_gap s (by omega) W0).mono ?_
  rintro e W1 ⟨rfl, rfl⟩
  cases hg : gapL s.data.toList with
  | none =>
    have hgi : gapI s.data.toList = -1 := by unfold gapI; rw [hg]
    rw [hgi]
    have hpc := ref06_pieces s hs W1
    obtain ⟨oa, hoa⟩ : ∃ oa, Hid (piecesO s.data.toList = oa) := ⟨_, rfl⟩
    rw [hoa.out] at hpc
    have hpb : Hid (parseSix s.data.toList = one8 oa) := by show _ = _; rw [parse_nogap hg, hoa.out]
    clear hgi hg
    go_wp2_with fail
    refine hpc.mono ?_
    rintro e W2 ⟨v1, rfl, hv1, hb12⟩
    have hb2 := below_on hb0 hb0.size hb12
    have hlt2 : w.heap.size + 1 < W1.heap.size := hr2.lt
    have hr1 := hr1.below hb12 hr1.lt
    have hr2 := hr2.below hb12 hr2.lt
    have hv1 : W2.ownsRow W1.heap.size 3 1 v1 (oa.getD []).length (ints (casts (oa.getD []))) := by rw [← casts_length]; exact hv1
    obtain ⟨na, hna⟩ : ∃ na, na = (oa.getD []).length := ⟨_, rfl⟩
    rw [← hna] at hv1
    obtain ⟨a1, c1, rfl⟩ := own_slice hv1
    have HA := Lib.hid hna
    clear hna hpc
    cases oa with
    | none =>
      have hp : Hid (parseSix s.data.toList = (no8, false)) := by show _ = _; rw [hpb.out]; rfl
      go_wp2_with (first
        | (refine wpList_load_row rfl 33 _ rfl _ rfl 33 (ints zer).toArray (0, 0) _ hr2 Tryd.underlying33 rfl hsz8 ?_)
        | (refine wpList_store_row rfl 33 _ _ rfl w.heap.size (ints zer).toArray (by rfl) (by rfl) 33 (ints zer).toArray hr1 hsz8 rfl (ints_one _) ?_))
      refine bodyPost_ret (result_arr rfl Tryd.underlying33 hsz8 rfl (hr1.put zer) rfl) rfl ⟨?_, below_setRow hb2 (Nat.le_refl _) _⟩
      rw [hp.out, casts_no8]
      rfl
    | some a =>
      have ha : na = a.length := HA.out
      by_cases hok : a.length = 8
      · have hp : Hid (parseSix s.data.toList = (a, true)) := by show _ = _; rw [hpb.out]; exact if_pos hok
        rw [hok] at ha
        subst ha
        have HOK := Lib.hid hok
        clear hok
        obtain ⟨g1, cc, he, hg1, hg2⟩ := hv1.form (by decide)
        injection he with he1 he2 he3
        subst he1 he3
        go_wp2
        go_loopw [8] (fun i wr => ∃ j : Nat, j ≤ 8 ∧ i = .int .i64 j ∧ IntRow wr (w.heap.size + 1) 33 (laidIn zer (casts a) 0 j) ∧ IntRow wr w.heap.size 33 zer ∧ wr.ownsRow W1.heap.size 3 1 (.slice (some ⟨g1, 0, none⟩) 8 c1) 8 (ints (casts a)) ∧ Below w.heap.size w wr) (fun i _ => 8 - (RowKit.intOf i).toNat)
        case atStart => exact ⟨0, by omega, rfl, by rw [laidIn_zero]; exact hr2, hr1, hv1, hb2⟩
        case round =>
          obtain ⟨j, hj, rfl, hrp, hrr, hrv, hbw⟩ := hrel
          by_cases hj8 : j < 8
          · obtain ⟨x, hx⟩ : ∃ x, (casts a)[j]? = some x := ⟨_, List.getElem?_eq_getElem (by rw [casts_length, HOK.out]; exact hj8)⟩
            have hcx : wr.cell? ⟨g1, j, none⟩ = some (.int .i64 x) := by rw [hrv.cellAt j (by omega)]; exact ints_get hx
            obtain ⟨y, hy⟩ : ∃ y, (laidIn zer (casts a) 0 j)[j]? = some y := ⟨_, List.getElem?_eq_getElem (by rw [laidIn_len (by rw [zer_length]; omega) (by rw [casts_length, HOK.out]; omega), zer_length]; omega)⟩
            have hcy := hrp.cell hy
            have hfy := hrp.free j
            have hset := hrp.set j x
            have hse := laidIn_set (L := zer) (o := 0) hx (by rw [zer_length]; omega)
            rw [Nat.zero_add] at hse
            rw [hse] at hset
            clear hx hy hse
            go_wp2
            refine ⟨⟨j + 1, by omega, by go_num, hset, hrr.other _ (by simp) _, row_of_heap hrv fun k hk => Below.heap_setCell _ _ _ _ (by show k ≠ w.heap.size + 1; omega), ?_⟩, by simp [RowKit.intOf]; omega⟩
            exact hbw.grown (grown_setCell _ _ _) hbw.size (fun k hk => by cases hk; simp)
          · obtain rfl : j = 8 := by omega
            have hL : Hid (laidIn zer (casts a) 0 8 = casts a) := by
              show _ = _
              unfold laidIn
              rw [List.take_of_length_le (l := casts a) (by rw [casts_length, HOK.out]; exact Nat.le_refl _)]; simp [zer]
            rw [hL.out] at hrp
            have hszL : (Tryd.prog.info? 33).map (·.size) = some (ints (casts a)).toArray.size := by rw [List.size_toArray, ints_length, casts_length, HOK.out]; kernel_rfl
            go_wp2_with (first
              | (refine wpList_load_row rfl 33 _ rfl _ rfl 33 _ (0, 0) _ hrp Tryd.underlying33 rfl hszL ?_)
              | (refine wpList_store_row rfl 33 _ _ rfl w.heap.size (ints (casts a)).toArray (by rfl) (by rfl) 33 (ints zer).toArray hrr hszL (by rw [List.size_toArray, ints_length, List.size_toArray, ints_length, casts_length, HOK.out]; rfl) (ints_one _) ?_))
            refine bodyPost_ret (result_arr rfl Tryd.underlying33 hszL rfl (hrr.put (casts a)) rfl) rfl ⟨?_, below_setRow hbw (Nat.le_refl _) _⟩
            rw [hp.out]
            rfl
      · have hp : Hid (parseSix s.data.toList = (no8, false)) := by show _ = _; rw [hpb.out]; exact if_neg hok
        have hx8 : ((na : Int) != 8) = true := by simp; omega
        clear ha hok
        go_wp2_with (first
          | (refine wpList_load_row rfl 33 _ rfl _ rfl 33 (ints zer).toArray (0, 0) _ hr2 Tryd.underlying33 rfl hsz8 ?_)
          | (refine wpList_store_row rfl 33 _ _ rfl w.heap.size (ints zer).toArray (by rfl) (by rfl) 33 (ints zer).toArray hr1 hsz8 rfl (ints_one _) ?_))
        refine bodyPost_ret (result_arr rfl Tryd.underlying33 hsz8 rfl (hr1.put zer) rfl) rfl ⟨?_, below_setRow hb2 (Nat.le_refl _) _⟩
        rw [hp.out, casts_no8]
        rfl
  | some z =>
    obtain ⟨x, y⟩ := z
    have hgi : gapI s.data.toList = (x.length : Int) := by unfold gapI; rw [hg]
    rw [hgi]
    have hout := gapL_out hg
    have hbd := gapL_bound hg
    have hsz : s.size = x.length + 2 + y.length := by rw [size_list, hout]; simp; omega
    have ex : s.extract 0 x.length = ⟨x.toArray⟩ := toList_inj (by rw [mk_toList, ← hbd.1]; simp [ByteArray.data_extract])
    have ey : s.extract (x.length + 2) s.size = ⟨y.toArray⟩ := toList_inj (by rw [mk_toList, Lib.extract_to_end, hbd.2])
    have ey2 : s.extract (x.length + 2) (x.length + 2 + y.length) = ⟨y.toArray⟩ := by rw [← hsz]; exact ey
    have hpx := ref06_pieces ⟨x.toArray⟩ (by rw [size_list, mk_toList]; omega) W1
    rw [mk_toList] at hpx
    obtain ⟨oa, hoa⟩ : ∃ oa, Hid (piecesO x = oa) := ⟨_, rfl⟩
    obtain ⟨ob, hob⟩ : ∃ ob, Hid (piecesO y = ob) := ⟨_, rfl⟩
    rw [hoa.out] at hpx
    have hpb : Hid (parseSix s.data.toList = two8 oa ob) := by show _ = _; rw [parse_gapped hg, hoa.out, hob.out]
    clear hgi hg hout hbd
    go_wp2_with fail
    refine hpx.mono ?_
    rintro e W2 ⟨v1, rfl, hv1, hb12⟩
    have hlt2 : w.heap.size + 1 < W1.heap.size := hr2.lt
    have hb2 := below_on hb0 hb0.size hb12
    have hr1 := hr1.below hb12 hr1.lt
    have hr2 := hr2.below hb12 hr2.lt
    have hpy := ref06_pieces ⟨y.toArray⟩ (by rw [size_list, mk_toList]; omega) W2
    rw [mk_toList, hob.out] at hpy
    go_wp2_with fail
    refine hpy.mono ?_
    rintro e W3 ⟨v2, rfl, hv2, hb23⟩
    have hb3 := below_on hb2 hb2.size hb23
    have hr1 := hr1.below hb23 hr1.lt
    have hr2 := hr2.below hb23 hr2.lt
    have hs12 := hb12.size
    have hv1 : IntOwn W3 W1.heap.size v1 (casts (oa.getD [])) := row_below hv1 hb23
    have hv1 : W3.ownsRow W1.heap.size 3 1 v1 (oa.getD []).length (ints (casts (oa.getD []))) := by rw [← casts_length]; exact hv1
    have hv2 : W3.ownsRow W1.heap.size 3 1 v2 (ob.getD []).length (ints (casts (ob.getD []))) := by rw [← casts_length]; exact row_lower hv2 hs12
    have hla := pieces_count hoa.out
    have hlb := pieces_count hob.out
    obtain ⟨na, hna⟩ : ∃ na, na = (oa.getD []).length := ⟨_, rfl⟩
    obtain ⟨nb, hnb⟩ : ∃ nb, nb = (ob.getD []).length := ⟨_, rfl⟩
    rw [← hna] at hv1 hla
    rw [← hnb] at hv2 hlb
    obtain ⟨a1, c1, rfl⟩ := own_slice hv1
    obtain ⟨a2, c2, rfl⟩ := own_slice hv2
    have HA := Lib.hid hna
    have HB := Lib.hid hnb
    clear hna hnb hpx hpy hb12 hb23
    cases oa with
    | none =>
      have hp : Hid (parseSix s.data.toList = (no8, false)) := by show _ = _; rw [hpb.out]; rfl
      go_wp2_with (first
        | (refine wpList_load_row rfl 33 _ rfl _ rfl 33 (ints zer).toArray (0, 0) _ hr2 Tryd.underlying33 rfl hsz8 ?_)
        | (refine wpList_store_row rfl 33 _ _ rfl w.heap.size (ints zer).toArray (by rfl) (by rfl) 33 (ints zer).toArray hr1 hsz8 rfl (ints_one _) ?_))
      refine bodyPost_ret (result_arr rfl Tryd.underlying33 hsz8 rfl (hr1.put zer) rfl) rfl ⟨?_, below_setRow hb3 (Nat.le_refl _) _⟩
      rw [hp.out, casts_no8]
      rfl
    | some a =>
      cases ob with
      | none =>
        have hp : Hid (parseSix s.data.toList = (no8, false)) := by show _ = _; rw [hpb.out]; rfl
        go_wp2_with (first
          | (refine wpList_load_row rfl 33 _ rfl _ rfl 33 (ints zer).toArray (0, 0) _ hr2 Tryd.underlying33 rfl hsz8 ?_)
          | (refine wpList_store_row rfl 33 _ _ rfl w.heap.size (ints zer).toArray (by rfl) (by rfl) 33 (ints zer).toArray hr1 hsz8 rfl (ints_one _) ?_))
        refine bodyPost_ret (result_arr rfl Tryd.underlying33 hsz8 rfl (hr1.put zer) rfl) rfl ⟨?_, below_setRow hb3 (Nat.le_refl _) _⟩
        rw [hp.out, casts_no8]
        rfl
      | some b =>
        have ha : na = a.length := HA.out
        have hb : nb = b.length := HB.out
        by_cases hok : a.length + b.length ≤ 7
        · have hp : Hid (parseSix s.data.toList = (a ++ List.replicate (8 - a.length - b.length) 0 ++ b, true)) := by show _ = _; rw [hpb.out]; exact if_pos hok
          have hab : na + nb ≤ 7 := by omega
          have hca : (casts a).length = na := by rw [casts_length, ha]
          have hcb : (casts b).length = nb := by rw [casts_length, hb]
          have hboth := laid_both (casts a) (casts b) (by omega)
          rw [hca, hcb] at hboth
          have HBO := Lib.hid hboth
          have HCA := Lib.hid hca
          have HCB := Lib.hid hcb
          have hlist : Hid (casts a ++ List.replicate (8 - na - nb) 0 ++ casts b = casts (a ++ List.replicate (8 - a.length - b.length) 0 ++ b)) := by show _ = _; rw [casts_append, casts_append, casts_zero, ha, hb]
          clear ha hb hok hboth hca hcb
          go_wp2
          go_loopw [13] (fun i wr => ∃ j : Nat, j ≤ na ∧ i = .int .i64 j ∧ IntRow wr (w.heap.size + 1) 33 (laidIn zer (casts a) 0 j) ∧ IntRow wr w.heap.size 33 zer ∧ wr.ownsRow W1.heap.size 3 1 (.slice a1 na c1) na (ints (casts a)) ∧ wr.ownsRow W1.heap.size 3 1 (.slice a2 nb c2) nb (ints (casts b)) ∧ Below w.heap.size w wr) (fun i _ => na - (RowKit.intOf i).toNat)
          case atStart => exact ⟨0, by omega, rfl, by rw [laidIn_zero]; exact hr2, hr1, hv1, hv2, hb3⟩
          case round =>
            obtain ⟨j, hj, rfl, hrp, hrr, hrv, hrv2, hbw⟩ := hrel
            by_cases hjn : j < na
            · obtain ⟨x1, hx⟩ : ∃ x1, (casts a)[j]? = some x1 := ⟨_, List.getElem?_eq_getElem (by rw [HCA.out]; exact hjn)⟩
              obtain ⟨g1, cc, he, hg1, hg2⟩ := hrv.form (by omega)
              injection he with he1 he2 he3
              subst he1 he3
              have hcx : wr.cell? ⟨g1, j, none⟩ = some (.int .i64 x1) := by rw [hrv.cellAt j (by omega)]; exact ints_get hx
              obtain ⟨y1, hy⟩ : ∃ y1, (laidIn zer (casts a) 0 j)[j]? = some y1 := ⟨_, List.getElem?_eq_getElem (by rw [laidIn_len (by rw [zer_length]; omega) (by rw [HCA.out]; omega), zer_length]; omega)⟩
              have hcy := hrp.cell hy
              have hfy := hrp.free j
              have hset := hrp.set j x1
              have hse := laidIn_set (L := zer) (o := 0) hx (by rw [zer_length]; omega)
              rw [Nat.zero_add] at hse
              rw [hse] at hset
              clear hx hy hse
              go_wp2
              refine ⟨⟨j + 1, by omega, by go_num, hset, hrr.other _ (by simp) _, row_of_heap hrv fun k hk => Below.heap_setCell _ _ _ _ (by show k ≠ w.heap.size + 1; omega), row_of_heap hrv2 fun k hk => Below.heap_setCell _ _ _ _ (by show k ≠ w.heap.size + 1; omega), ?_⟩, by simp [RowKit.intOf]; omega⟩
              exact hbw.grown (grown_setCell _ _ _) hbw.size (fun k hk => by cases hk; simp)
            · obtain rfl : j = na := by omega
              obtain ⟨L1, hL1⟩ : ∃ L1, Hid (laidIn zer (casts a) 0 j = L1) := ⟨_, rfl⟩
              have hL18 : Hid (L1.length = 8) := by show _ = _; rw [← hL1.out, laidIn_len (by rw [zer_length]; omega) (by rw [HCA.out]; exact Nat.le_refl _), zer_length]
              rw [hL1.out] at hrp
              have hjj : ¬ ((j : Int) < (j : Int)) := by omega
              go_wp2
              go_loopw [14] (fun i wx => ∃ q : Nat, q ≤ nb ∧ i = .int .i64 q ∧ IntRow wx (w.heap.size + 1) 33 (laidIn L1 (casts b) (8 - nb) q) ∧ IntRow wx w.heap.size 33 zer ∧ wx.ownsRow W1.heap.size 3 1 (.slice a2 nb c2) nb (ints (casts b)) ∧ Below w.heap.size w wx) (fun i _ => nb - (RowKit.intOf i).toNat)
              case atStart => exact ⟨0, by omega, rfl, by rw [laidIn_zero]; exact hrp, hrr, hrv2, hbw⟩
              case round =>
                obtain ⟨q, hq, rfl, hqp, hqr, hqv, hbx⟩ := hrel
                by_cases hqn : q < nb
                · obtain ⟨x2, hx⟩ : ∃ x2, (casts b)[q]? = some x2 := ⟨_, List.getElem?_eq_getElem (by rw [HCB.out]; exact hqn)⟩
                  obtain ⟨g2, cc, he, hg1, hg2⟩ := hqv.form (by omega)
                  injection he with he1 he2 he3
                  subst he1 he3
                  have hcx : wr.cell? ⟨g2, q, none⟩ = some (.int .i64 x2) := by rw [hqv.cellAt q (by omega)]; exact ints_get hx
                  obtain ⟨y2, hy⟩ : ∃ y2, (laidIn L1 (casts b) (8 - nb) q)[8 - nb + q]? = some y2 := ⟨_, List.getElem?_eq_getElem (by rw [laidIn_len (by rw [hL18.out]; omega) (by rw [HCB.out]; omega), hL18.out]; omega)⟩
                  have hcy := hqp.cell hy
                  have hfy := hqp.free (8 - nb + q)
                  have hset := hqp.set (8 - nb + q) x2
                  rw [laidIn_set hx (by rw [hL18.out]; omega)] at hset
                  have hidx : ((8 : Int) - nb + q).toNat = 8 - nb + q := by omega
                  clear hx hy
                  go_wp2
                  refine ⟨⟨q + 1, by omega, by go_num, hset, hqr.other _ (by simp) _, row_of_heap hqv fun k hk => Below.heap_setCell _ _ _ _ (by show k ≠ w.heap.size + 1; omega), ?_⟩, by simp [RowKit.intOf]; omega⟩
                  exact hbx.grown (grown_setCell _ _ _) hbx.size (fun k hk => by cases hk; simp)
                · obtain rfl : q = nb := by omega
                  have hfin : laidIn L1 (casts b) (8 - q) q = casts (a ++ List.replicate (8 - a.length - b.length) 0 ++ b) := by
                    rw [← hlist.out, ← hL1.out]
                    have e1 : laidIn zer (casts a) 0 j = zer.take 0 ++ casts a ++ zer.drop (0 + j) := by unfold laidIn; rw [List.take_of_length_le (l := casts a) (by rw [HCA.out]; exact Nat.le_refl _)]
                    rw [e1]
                    by_cases hq0 : q = 0
                    · have := HBO.out 0 (Or.inl ⟨hq0, rfl⟩)
                      subst hq0
                      have hbn : casts b = [] := List.eq_nil_of_length_eq_zero HCB.out
                      rw [hbn] at this ⊢
                      rw [laidIn_zero]
                      simpa using this
                    · have := HBO.out (8 - q) (Or.inr ⟨hq0, rfl⟩)
                      rw [← this]
                      unfold laidIn
                      rw [List.take_of_length_le (l := casts b) (by rw [HCB.out]; exact Nat.le_refl _)]
                  rw [hfin] at hqp
                  obtain ⟨R, hR0⟩ : ∃ R, casts (a ++ List.replicate (8 - a.length - b.length) 0 ++ b) = R := ⟨_, rfl⟩
                  have hR := Lib.hid hR0
                  clear hR0
                  rw [hR.out] at hqp
                  have hR8 : R.length = 8 := by rw [← hR.out, casts_length]; have := HA.out; have := HB.out; simp at *; omega
                  have hszR : (Tryd.prog.info? 33).map (·.size) = some (ints R).toArray.size := by rw [List.size_toArray, ints_length, hR8]; kernel_rfl
                  have hqq : ¬ ((q : Int) < (q : Int)) := by omega
                  clear hfin
                  go_wp2_with (first
                    | (refine wpList_load_row rfl 33 _ rfl _ rfl 33 _ (0, 0) _ hqp Tryd.underlying33 rfl hszR ?_)
                    | (refine wpList_store_row rfl 33 _ _ rfl w.heap.size (ints R).toArray (by rfl) (by rfl) 33 (ints zer).toArray hqr hszR (by rw [List.size_toArray, ints_length, List.size_toArray, ints_length, hR8]; rfl) (ints_one _) ?_))
                  refine bodyPost_ret (result_arr rfl Tryd.underlying33 hszR rfl (hqr.put R) rfl) rfl ⟨?_, below_setRow hbx (Nat.le_refl _) _⟩
                  rw [hp.out, hR.out]
                  rfl
        · have hp : Hid (parseSix s.data.toList = (no8, false)) := by show _ = _; rw [hpb.out]; exact if_neg hok
          have hx7 : (7 : Int) < (na : Int) + nb := by omega
          clear ha hb hok
          go_wp2_with (first
            | (refine wpList_load_row rfl 33 _ rfl _ rfl 33 (ints zer).toArray (0, 0) _ hr2 Tryd.underlying33 rfl hsz8 ?_)
            | (refine wpList_store_row rfl 33 _ _ rfl w.heap.size (ints zer).toArray (by rfl) (by rfl) 33 (ints zer).toArray hr1 hsz8 rfl (ints_one _) ?_))
          refine bodyPost_ret (result_arr rfl Tryd.underlying33 hsz8 rfl (hr1.put zer) rfl) rfl ⟨?_, below_setRow hb3 (Nat.le_refl _) _⟩
          rw [hp.out, casts_no8]
          rfl

end Go.Proofs.YtcpnfokpgiigcaaDoor
