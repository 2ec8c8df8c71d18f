/- six.split. -/
import Derived.Test.YtcpnfokpgiigcaaDoorSixG
namespace Go.Proofs.YtcpnfokpgiigcaaDoor
open Go.RowKit Go.Proofs.YtcpnfokpgiigcaaDoorW.PrintWords

theorem row_lower {w : World} {base base' : Nat} {e : TypeId} {size n : Nat} {v : Value} {xs : List Value} (h : w.ownsRow base e size v n xs) (hb : base' ≤ base) : w.ownsRow base' e size v n xs := by
  refine ⟨h.1, ?_⟩
  rcases h.2 with h | ⟨g, cap, cur, h1, h2, h3⟩
  · exact Or.inl h
  · exact Or.inr ⟨g, cap, cur, h1, Nat.le_trans hb h2, h3⟩
theorem all_take_snoc {α : Type} {l : List α} {f : α → Bool} {k : Nat} {x : α} (h : (l.take k).all f = true) (hx : l[k]? = some x) (hf : f x = true) : (l.take (k + 1)).all f = true := by
  rw [List.take_add_one, hx, List.all_append, h]; simp [hf]
theorem valH_take {p : List UInt8} {j : Nat} {b : UInt8} (hx : p[j]? = some b) : valH 0 (p.take (j + 1)) = 16 * valH 0 (p.take j) + (hexD b).toNat := by
  rw [List.take_add_one, hx, valH_append]; rfl

set_option maxHeartbeats 2000000 in
set_option maxRecDepth 100000 in
theorem six_split (s : ByteArray) (hs : s.size ≤ 1000000) (w : World) (hG : Good w) :
    Calls Tryd.prog 45 #[.string s] w (Split (piecesO s.data.toList) w) := by
  by_cases h0 : s.data.toList = []
  · have e : s.size = 0 := by rw [size_list, h0]; rfl
    have e2 : s.toList.isEmpty = true := by rw [ba_toList, h0]; rfl
    have hp : Hid (piecesO s.data.toList = some []) := by show _ = _; unfold piecesO; rw [if_pos h0]
    clear h0
    go_enter Tryd.func45, Tryd.ntmps45
    go_wp2
    go_ret2
    rw [hp.out]
    exact ⟨_, rfl, World.ownsRow_nil _ _ _ _, Below.refl _ _⟩
  · have e : s.size ≠ 0 := by rw [size_list]; intro e; exact h0 (List.eq_nil_of_length_eq_zero e)
    have e2 : s.toList.isEmpty = false := by rw [ba_toList]; exact List.isEmpty_eq_false_iff.2 h0
    have hsp := split_any 58 s (by omega) w hG
    have hle := splitOn_le 58 s.data.toList
    have hcnt : (splitOn 58 s.data.toList).length ≤ s.size + 1 := by rw [splitOn_length, size_list]; have := List.count_le_length (a := (58 : UInt8)) (l := s.data.toList); omega
    rw [← size_list] at hle
    obtain ⟨ps, hps⟩ : ∃ ps, Hid (splitOn 58 s.data.toList = ps) := ⟨_, rfl⟩
    rw [hps.out] at hsp hle hcnt
    obtain ⟨o, ho⟩ : ∃ o, Hid (piecesO s.data.toList = o) := ⟨_, rfl⟩
    have hpo : Hid (o = if ps.all pieceB = true then some (ps.map (valH 0)) else none) := by show _ = _; rw [← ho.out]; unfold piecesO; rw [if_neg h0, hps.out]
    rw [ho.out]
    have hrow : (w.alloc (.cells (strs ps).toArray 9)).heap[w.heap.size]? = some (.cells (strs ps).toArray 9 (0, 0)) := heap_alloc_new w _
    have HLE := Lib.hid hle
    clear h0 hle
    go_enter Tryd.func45, Tryd.ntmps45
    go_wp2_with (go_at_call 34; refine hsp.mono ?_; rintro e w' ⟨rfl, rfl⟩)
    go_loopg [4, 15] ps.length (fun g v i wr => ∃ (k : Nat), k + g = ps.length ∧ i = .int .i64 k ∧ wr.ownsRow (w.heap.size + 1) 3 1 v k (ints (casts ((ps.take k).map (valH 0)))) ∧ Hid ((ps.take k).all pieceB = true) ∧ wr.heap[w.heap.size]? = some (.cells (strs ps).toArray 9 (0, 0)) ∧ Below w.heap.size w wr)
    case atStart => exact ⟨0, by omega, rfl, World.ownsRow_nil _ _ _ _, rfl, hrow, (Below.refl _ _).alloc (Nat.le_refl _) _⟩
    case round =>
      obtain ⟨k, hk, rfl, how, hall, hr, hb⟩ := hrel
      have hwl := lt_of_block hr
      cases gk with
      | zero =>
        have hkp : k = ps.length := by omega
        have hlt : ¬ ((k : Int) < (ps.length : Int)) := by omega
        have ho2 : Hid (o = some (ps.map (valH 0))) := by
          show _ = _
          rw [hpo.out, if_pos]
          have := hall.out; rwa [hkp, List.take_length] at this
        have how2 := row_lower (base' := w.heap.size) how (by omega)
        rw [hkp, List.take_length] at how2
        clear how hkp hk
        go_wp2
        go_ret2
        rw [ho2.out]
        refine ⟨_, rfl, ?_, hb⟩
        unfold IntOwn
        rw [casts_length, show (some (ps.map (valH 0))).getD [] = ps.map (valH 0) from rfl, List.length_map]
        exact how2
      | succ g0 =>
        have hlt : ((k : Int) < (ps.length : Int)) := by omega
        have hkl : k < ps.length := by omega
        obtain ⟨p, hp⟩ : ∃ p, Hid (ps[k]? = some p) := ⟨ps[k], List.getElem?_eq_getElem hkl⟩
        have hmem : p ∈ ps := List.mem_of_getElem? hp.out
        have hpl := HLE.out p hmem
        obtain ⟨t, ht⟩ : ∃ t, Hid (t = (⟨p.toArray⟩ : ByteArray)) := ⟨_, rfl⟩
        have htl : Hid (t.data.toList = p) := by show _ = _; rw [ht.out]
        have hts : Hid (t.size = p.length) := by show _ = _; rw [size_list, htl.out]
        have hts2 : t.size ≤ s.size := by rw [hts.out]; exact hpl
        have hcell : wr.cell? ⟨w.heap.size, k, none⟩ = some (.string t) := by
          rw [ht.out]
          simp only [World.cell?, hr, strs]
          simp [hp.out]
        have HM := Lib.hid hmem
        clear hmem hpl
        go_wp2
        go_loopg [7, 21] t.size (fun g n i wy => ∃ (j m : Nat), j + g = t.size ∧ i = .int .i64 j ∧ n = .int .i64 m ∧ m ≤ 65535 ∧ Hid (m = valH 0 (p.take j) ∧ (p.take j).all isHex = true) ∧ wy = wr)
        case atStart => exact ⟨0, 0, by omega, rfl, rfl, by omega, ⟨rfl, rfl⟩, rfl⟩
        case round =>
          obtain ⟨j, m, hj, rfl, rfl, hm, hv, rfl⟩ := hrel
          cases gk with
          | zero =>
            have hjl : ¬ ((j : Int) < (t.size : Int)) := by omega
            have hjp : p.length ≤ j := by rw [← hts.out]; omega
            have hv2 : Hid (m = valH 0 p ∧ p.all isHex = true) := by have := hv.out; rwa [List.take_of_length_le hjp] at this
            by_cases hpb : pieceB p = true
            · obtain ⟨q1, q2, q3⟩ := pieceB_out hpb
              have hte : t.toList.isEmpty = false := by rw [ba_toList, htl.out]; exact List.isEmpty_eq_false_iff.2 q1
              have ht4 : t.size ≤ 4 := by rw [hts.out]; exact q2
              have hall2 := Lib.hid (all_take_snoc hall.out hp.out hpb)
              have hmap : Hid ((ps.take (k + 1)).map (valH 0) = (ps.take k).map (valH 0) ++ [m]) := by
                show _ = _
                rw [List.take_add_one, hp.out, List.map_append, hv2.out.1]; rfl
              clear q1 q2 q3 hpb hj hjp
              go_wp2_with (at_builtin; refine wpList_append1 rfl _ _ 56 rfl 3 _ (.int .i64 0) 8 Tryd.underlying56 Tryd.infoInt rfl w.heap.size (w.heap.size + 1) (by omega) w _ _ k _ (.int .i64 m) (by rfl) (by rfl) how hb (by omega) (by simp [Value.oneCell']) (by omega) (by omega) ?_)
              intro v' w2 ho3 hb2 hg2 hne
              have hr2 := block_grown hg2 hr (fun b hb e => by have := row_base how b hb; omega)
              go_wp2
              go_roundg g0
              case measure => omega
              case rel =>
                refine ⟨k + 1, by omega, by go_num, ?_, hall2, hr2, hb2⟩
                rw [hmap.out, casts_append, ints_append, List.map_take]; exact ho3
            · have ho2 : Hid (o = none) := by
                show _ = _
                rw [hpo.out, if_neg]
                intro h
                exact hpb (List.all_eq_true.1 h p HM.out)
              have hc : t.toList.isEmpty = true ∨ t.toList.isEmpty = false ∧ 4 < t.size := by
                rw [ba_toList, htl.out, hts.out]
                by_cases h1 : p = []
                · left; rw [h1]; rfl
                · right
                  refine ⟨List.isEmpty_eq_false_iff.2 h1, ?_⟩
                  by_cases h2 : p.length ≤ 4
                  · exfalso; apply hpb; unfold pieceB; rw [hv2.out.2, List.isEmpty_eq_false_iff.2 h1]; simp [h2]
                  · omega
              clear hpb hj hjp
              rcases hc with hc | ⟨hc, hc2⟩
              · go_wp2
                go_ret2
                rw [ho2.out]
                exact split_none hb
              · go_wp2
                go_ret2
                rw [ho2.out]
                exact split_none hb
          | succ g1 =>
            have hjl : ((j : Int) < (t.size : Int)) := by omega
            have hjs : j < t.size := by omega
            have hjp : j < p.length := by rw [← hts.out]; omega
            obtain ⟨b, hbj⟩ : ∃ b, p[j]? = some b := ⟨_, List.getElem?_eq_getElem hjp⟩
            have hd : t.data.toList.drop j = b :: p.drop (j + 1) := by rw [htl.out, List.drop_eq_getElem_cons hjp]; congr 1; rw [List.getElem?_eq_getElem hjp] at hbj; exact Option.some.inj hbj
            have hg := get_cons hd hjs
            have hx := ascii_Hex b
            have hbd := hexD_bd b
            have hvt := valH_take hbj
            have hmb := List.mem_of_getElem? hbj
            have hall3 : 0 ≤ hexD b → (p.take (j + 1)).all isHex = true := fun h => all_take_snoc hv.out.2 hbj (decide_eq_true h)
            have hbx : isHex b = decide (0 ≤ hexD b) := rfl
            obtain ⟨D, hD⟩ : ∃ D, Hid (hexD b = D) := ⟨_, rfl⟩
            rw [hD.out] at hx hbd hvt hall3 hbx
            by_cases hD0 : D < 0
            · have ho2 : Hid (o = none) := by
                show _ = _
                rw [hpo.out, if_neg]
                intro h
                obtain ⟨q1, q2, q3⟩ := pieceB_out (List.all_eq_true.1 h p HM.out)
                have := List.all_eq_true.1 q3 b hmb
                rw [hbx] at this
                have := of_decide_eq_true this
                omega
              clear hbj hd hvt hmb hall3 hbx
              go_wp2_with (go_at_call 59; refine (hx _).mono ?_; rintro e w1 ⟨rfl, rfl⟩)
              go_ret2
              rw [ho2.out]
              exact split_none hb
            · obtain ⟨D, rfl⟩ := Int.eq_ofNat_of_zero_le (by omega : 0 ≤ D)
              rw [Int.toNat_natCast, ← hv.out.1] at hvt
              have HV := Lib.hid (And.intro hvt.symm (hall3 (by omega)))
              by_cases hbig : 65535 < m * 16 + D
              · have ho2 : Hid (o = none) := by
                  show _ = _
                  rw [hpo.out, if_neg]
                  intro h
                  obtain ⟨q1, q2, q3⟩ := pieceB_out (List.all_eq_true.1 h p HM.out)
                  have := piece_le (l := p.take (j + 1)) (by rw [List.length_take]; omega)
                  rw [hvt] at this
                  omega
                clear hbj hd hvt hmb hall3 hbx
                go_wp2_with (go_at_call 59; refine (hx _).mono ?_; rintro e w1 ⟨rfl, rfl⟩)
                go_ret2
                rw [ho2.out]
                exact split_none hb
              · clear hbj hd hvt hmb hall3 hbx
                go_wp2_with (go_at_call 59; refine (hx _).mono ?_; rintro e w1 ⟨rfl, rfl⟩)
                go_roundg g1
                case measure => omega
                case rel => exact ⟨j + 1, m * 16 + D, by omega, by go_num, by go_num, by omega, ⟨by have := HV.out.1; omega, HV.out.2⟩, rfl⟩

end Go.Proofs.YtcpnfokpgiigcaaDoor
