/- Header fields: slices.DeleteFunc on a list of one's own, and Drop. -/
import Derived.Test.YtnppnogmpoigkaaDoorHead5
import Derived.Laws.CopyOwn
namespace Go.Proofs.YtnppnogmpoigkaaDoor
open Go.RowKit Go.Proofs.YtnppnogmpoigkaaDoorW.PrintWords

theorem kept_get {L K : List Fld} {j : Nat} (h : K.length ≤ j) : (K ++ L.drop K.length)[j]? = L[j]? := by
  rw [List.getElem?_append_right h, List.getElem?_drop]
  congr 1; omega
theorem kept_len {L K : List Fld} (h : K.length ≤ L.length) : (K ++ L.drop K.length).length = L.length := by simp; omega
theorem kept_set {L K : List Fld} {f : Fld} (h : K.length < L.length) : (K ++ L.drop K.length).set K.length f = (K ++ [f]) ++ L.drop (K ++ [f]).length := by
  rw [List.set_append_right _ _ (Nat.le_refl _), Nat.sub_self, List.drop_eq_getElem_cons h, List.set_cons_zero]
  simp
theorem flds_set : ∀ (l : List Fld) (i : Nat) (f : Fld), i < l.length → ((flds l).set (i * 2) (.string ⟨f.1.toArray⟩)).set (i * 2 + 1) (.string ⟨f.2.toArray⟩) = flds (l.set i f)
  | g :: l, 0, f, _ => rfl
  | g :: l, i + 1, f, h => by
    have ih := flds_set l i f (by simpa using h)
    rw [flds_cons, List.set_cons_succ, flds_cons, ← ih, show (i + 1) * 2 = i * 2 + 1 + 1 by omega]
    rfl
theorem take_set {α : Type} (l : List α) (i n : Nat) (a : α) (h : i < n) : (l.set i a).take n = (l.take n).set i a := by
  apply List.ext_getElem?
  intro j
  simp only [List.getElem?_take, List.getElem?_set, List.length_take]
  by_cases hj : j < n
  · by_cases hij : i = j
    · subst hij
      by_cases hl : i < l.length
      · simp [h, hl]; omega
      · simp [h, hl]; omega
    · simp [hj, hij]
  · have : ¬ i = j := by omega
    simp [hj, this]
section
variable {w : World} {B g n cap : Nat} {M : List Fld}
theorem ownF_block {xs : List Value} (h : w.ownsRow B 38 2 (.slice (some ⟨g, 0, none⟩) n cap) n xs) : ∃ cur, w.heap[g]? = some (.cells cur 38 (0, 0)) ∧ B ≤ g ∧ n ≤ cap ∧ cap ≤ maxLen ∧ cur.size = cap * 2 ∧ cur.toList.take (n * 2) = xs := by
  rcases h.2 with ⟨h0, _⟩ | ⟨g', cap', cur, hv, hb, hc, hn, hm, hs, ht⟩
  · cases h0
  · injection hv with hv1 hv2 hv3
    injection hv1 with hv1
    injection hv1 with hv1 _ _
    subst hv1 hv3
    exact ⟨cur, hc, hb, hn, hm, hs, ht⟩
theorem ownF_cells (h : w.ownsRow B 38 2 (.slice (some ⟨g, 0, none⟩) M.length cap) M.length (flds M)) {j : Nat} {f : Fld} (hj : M[j]? = some f) :
    w.cell? ⟨g, j * 2, none⟩ = some (.string ⟨f.1.toArray⟩) ∧ w.cell? ⟨g, j * 2 + 1, none⟩ = some (.string ⟨f.2.toArray⟩) ∧ w.frozen? ⟨g, j * 2, none⟩ = false ∧ w.frozen? ⟨g, j * 2 + 1, none⟩ = false := by
  have hlt : j < M.length := (List.getElem?_eq_some_iff.1 hj).1
  obtain ⟨h1, h2⟩ := flds_get M j f hj
  obtain ⟨cur, hc, _⟩ := ownF_block h
  rw [h.cellAt (j * 2) (by omega), h.cellAt (j * 2 + 1) (by omega), h1, h2]
  exact ⟨rfl, rfl, by simp [World.frozen?, hc], by simp [World.frozen?, hc]⟩
theorem ownF_set (h : w.ownsRow B 38 2 (.slice (some ⟨g, 0, none⟩) M.length cap) M.length (flds M)) {i : Nat} (f : Fld) (hi : i < M.length) :
    ((w.setCell ⟨g, i * 2, none⟩ (.string ⟨f.1.toArray⟩)).setCell ⟨g, i * 2 + 1, none⟩ (.string ⟨f.2.toArray⟩)).ownsRow B 38 2 (.slice (some ⟨g, 0, none⟩) M.length cap) M.length (flds (M.set i f)) ∧
      Below B w ((w.setCell ⟨g, i * 2, none⟩ (.string ⟨f.1.toArray⟩)).setCell ⟨g, i * 2 + 1, none⟩ (.string ⟨f.2.toArray⟩)) := by
  obtain ⟨cur, hc, hb, hn, hm, hs, ht⟩ := ownF_block h
  have h1 := Go.heap_setCell_same w g (i * 2) cur 38 (.string ⟨f.1.toArray⟩) hc
  have h2 := Go.heap_setCell_same _ g (i * 2 + 1) _ 38 (.string ⟨f.2.toArray⟩) h1
  refine ⟨⟨by rw [flds_length]; simp, .inr ⟨g, cap, _, rfl, hb, h2, hn, hm, by simp; exact hs, ?_⟩⟩, ((Below.refl _ _).setCell hb _).setCell hb _⟩
  rw [Array.toList_setIfInBounds, Array.toList_setIfInBounds, take_set _ _ _ _ (by omega), take_set _ _ _ _ (by omega), ht, flds_set _ _ _ hi]
/-- The list's end is wiped; what stands ahead stays. -/
theorem ownF_wipe (h : w.ownsRow B 38 2 (.slice (some ⟨g, 0, none⟩) n cap) n (flds M)) (hM : M.length = n) {i : Nat} (hi : i < n) (c : Nat) :
    ∃ w', (∀ ty, (Builtin.clear_ #[22] ty #[.slice (some ⟨g, i * 2, none⟩) (n - i) c]).run Tryd.prog w = .ok (.tuple #[]) w') ∧
      w'.ownsRow B 38 2 (.slice (some ⟨g, 0, none⟩) i cap) i (flds (M.take i)) ∧ Below B w w' := by
  obtain ⟨cur, hc, hb, hn, hm, hs, ht⟩ := ownF_block h
  obtain ⟨i0, hi0, hz0, hz1, hz2⟩ := info_parts infoFld0
  have hv : ∀ w, (zeroValue 38).run Tryd.prog w = .ok (.agg #[.string ⟨#[]⟩, .string ⟨#[]⟩]) w := fun w => by
    simp [zeroValue, typeInfo, hi0, hz0]
  have hlen : (Builtin.zeroCells (Value.cells (.agg #[.string ⟨#[]⟩, .string ⟨#[]⟩])) (n - i)).toList.length = (n - i) * 2 := by simp [Builtin.zeroCells, Value.cells]
  have hone : ∀ v ∈ (Builtin.zeroCells (Value.cells (.agg #[.string ⟨#[]⟩, .string ⟨#[]⟩])) (n - i)).toList, v.oneCell' = true := by
    intro v hv
    simp only [Builtin.zeroCells, Value.cells, Array.toList_map, List.mem_map] at hv
    obtain ⟨j, _, rfl⟩ := hv
    rcases Nat.mod_two_eq_zero_or_one j with hm | hm <;> simp [hm, Value.oneCell']
  have hst := run_storeCells_at Tryd.prog g (i * 2) 38 _ 0 cur w hc (by rw [hlen]; omega) hone
  have hset := setRow_heap w g cur (cur.toList.take (i * 2 + 0) ++ (Builtin.zeroCells (Value.cells (.agg #[.string ⟨#[]⟩, .string ⟨#[]⟩])) (n - i)).toList ++ cur.toList.drop (i * 2 + 0 + (Builtin.zeroCells (Value.cells (.agg #[.string ⟨#[]⟩, .string ⟨#[]⟩])) (n - i)).toList.length)).toArray _ _ hc
  refine ⟨_, fun ty => ?_, ⟨by rw [flds_length, List.length_take]; omega, .inr ⟨g, cap, _, rfl, hb, hset, by omega, hm, ?_, ?_⟩⟩, below_setRow (Below.refl _ _) hb _⟩
  · obtain ⟨m, hm⟩ : ∃ m, n - i = m + 1 := ⟨n - i - 1, by omega⟩
    rw [hm] at hst ⊢
    simp [Builtin.clear_, run_underlying Tryd.underlying22, hv, hst]
  · rw [List.size_toArray, List.length_append, List.length_append, List.length_take, List.length_drop, hlen, Array.length_toList]
    omega
  · rw [List.append_assoc, List.take_append_of_le_length (by rw [List.length_take, Array.length_toList]; omega), List.take_take, Nat.min_eq_left (by omega)]
    have e : (cur.toList.take (n * 2)).take (i * 2) = (flds M).take (i * 2) := by rw [ht]
    rw [List.take_take, Nat.min_eq_left (by omega)] at e
    rw [e]
    have e2 : flds M = flds (M.take i) ++ flds (M.drop i) := by rw [← flds_append, List.take_append_drop]
    rw [e2, List.take_append_of_le_length (by rw [flds_length, List.length_take]; omega), List.take_of_length_le (by rw [flds_length, List.length_take]; omega)]
end

theorem drop_step {names : List (List UInt8)} {L : List Fld} {j : Nat} {f : Fld} (h : L[j]? = some f) : dropL names (L.take (j + 1)) = dropL names (L.take j) ++ (if goneB names f = true then [] else [f]) := by
  unfold dropL
  rw [List.take_add_one, h, List.filter_append]
  congr 1
  cases hg : goneB names f <;> simp [hg]
theorem drop_all {names : List (List UInt8)} {L : List Fld} (h : ∀ f ∈ L, goneB names f = false) : dropL names L = L := by
  unfold dropL
  rw [List.filter_eq_self]
  intro f hf
  rw [h f hf]; rfl
theorem drop_len (names : List (List UInt8)) (L : List Fld) : (dropL names L).length ≤ L.length := List.length_filter_le _ _

set_option maxHeartbeats 4000000 in
set_option maxRecDepth 100000 in
theorem delF_any (v : Value) (L : List Fld) (hL : L.length ≤ 1000000) (hfl : ∀ f ∈ L, f.1.length ≤ 1000000 ∧ f.2.length ≤ 1000000) (ao : Option Addr) (cap n₀ : Nat) (names : List (List UInt8)) (hN : names.length ≤ 1000000) (hall : ∀ x ∈ names, x.length ≤ 140737488351232) (bn B : Nat)
    (w : World) (ho : w.ownsRow B 38 2 v L.length (flds L)) (hn0 : n₀ ≤ B) (hbn : bn < B) (hB : B ≤ w.heap.size) (hT : TextsAt n₀ w ao names) (hc : w.cell? ⟨bn, 0, none⟩ = some (.slice ao names.length cap)) :
    Calls Tryd.prog 39 #[v, .func (.func 36) #[] #[.pointer (some ⟨bn, 0, none⟩)]] w fun e w' =>
      ∃ v', e = .returned v' ∧ w'.ownsRow B 38 2 v' (dropL names L).length (flds (dropL names L)) ∧ Below B w w' := by
  obtain ⟨fo, fcap, rfl, hF⟩ := (flds_here ho).at_
  have hI := idxF_any fo fcap w.heap.size L hL hfl ao cap n₀ names hN hall bn w (Nat.le_refl _) hF (by omega) hT hc
  have HT := Lib.hid hT
  have HA := Lib.hid hall
  have HL := Lib.hid hfl
  have HB := Lib.hid hc
  clear hF hT hall hfl hc
  go_enter Tryd.func39, Tryd.ntmps39
  go_wp2_with fail
  refine hI.mono ?_
  rintro e w1 ⟨r, rfl, hr, hb1⟩
  have ho1 := row_below ho hb1
  have hB1 : Below B w w1 := hb1.mono hB
  rcases hr with ⟨rfl, hno⟩ | ⟨k0, rfl, hk0, hno, hyes⟩
  · have hd := Lib.hid (drop_all hno)
    clear hno
    go_wp2
    go_ret
    exact ⟨_, rfl, by rw [hd.out]; exact ho1, hB1⟩
  · obtain ⟨f0, hf0⟩ : ∃ f, L[k0]? = some f := ⟨_, List.getElem?_eq_getElem hk0⟩
    have hpre : dropL names (L.take (k0 + 1)) = L.take k0 := by
      rw [drop_step hf0, hyes f0 hf0, if_pos rfl, List.append_nil, drop_all hno]
    have hne1 : ((k0 : Int) == -1) = false := beq_eq_false_iff_ne.2 (by omega)
    obtain ⟨ad, rfl⟩ : ∃ ad, fo = some ad := by
      cases fo with
      | none =>
        rcases ho.2 with ⟨_, h0⟩ | ⟨g', cap', cur, hv, _⟩
        · omega
        · cases hv
      | some ad => exact ⟨ad, rfl⟩
    obtain ⟨g, rfl⟩ : ∃ g, ad = ⟨g, 0, none⟩ := by
      rcases ho.2 with ⟨h0, _⟩ | ⟨g', cap', cur, hv, _⟩
      · cases h0
      · injection hv with hv1; exact ⟨g', Option.some.inj hv1⟩
    have hst0 : w1.ownsRow B 38 2 (.slice (some ⟨g, 0, none⟩) L.length fcap) L.length (flds (dropL names (L.take (k0 + 1)) ++ L.drop (dropL names (L.take (k0 + 1))).length)) := by
      rw [hpre, List.length_take, Nat.min_eq_left (by omega), List.take_append_drop]; exact ho1
    have hlen0 : (dropL names (L.take (k0 + 1))).length = k0 := by rw [hpre, List.length_take]; omega
    clear hno hyes hpre hf0 ho1
    have HS0 := Lib.hid hst0
    clear hst0
    go_wp2
    go_loopw [5, 6] (fun i j wr => ∃ m k : Nat, i = .int .i64 m ∧ j = .int .i64 k ∧ (dropL names (L.take k)).length = m ∧ m < k ∧ k ≤ L.length ∧ Hid (wr.ownsRow B 38 2 (.slice (some ⟨g, 0, none⟩) L.length fcap) L.length (flds (dropL names (L.take k) ++ L.drop (dropL names (L.take k)).length))) ∧ Below B w wr) (fun _ j _ => L.length - (intOf j).toNat)
    case atStart => exact ⟨k0, k0 + 1, rfl, by go_num, hlen0, by omega, by omega, HS0, hB1⟩
    case round =>
      obtain ⟨m, k, rfl, rfl, hm, hmk, hk, hrow, hbl⟩ := hrel
      clear HS0 hlen0
      have hBr : B ≤ wr.heap.size := Nat.le_trans hB hbl.size
      by_cases hkl : k < L.length
      · obtain ⟨f, hx⟩ : ∃ f, L[k]? = some f := ⟨_, List.getElem?_eq_getElem hkl⟩
        have hst := Lib.hid (drop_step (names := names) hx)
        have hxl := HL.out f (List.mem_of_getElem? hx)
        have hMl : (dropL names (L.take k) ++ L.drop (dropL names (L.take k)).length).length = L.length := kept_len (by omega)
        have hget : (dropL names (L.take k) ++ L.drop (dropL names (L.take k)).length)[k]? = some f := by rw [kept_get (by omega)]; exact hx
        have hks := Lib.hid (kept_set (L := L) (K := dropL names (L.take k)) (f := f) (by omega))
        obtain ⟨old, hold⟩ : ∃ old, (dropL names (L.take k) ++ L.drop (dropL names (L.take k)).length)[m]? = some old := ⟨_, List.getElem?_eq_getElem (by omega)⟩
        obtain ⟨a, b⟩ := f
        have HX := Lib.hid hx
        clear hx
        generalize hK : dropL names (L.take k) = K at *
        generalize hM : K ++ L.drop K.length = M at *
        rw [← hMl] at hrow
        have hcell := ownF_cells hrow.out hget
        obtain ⟨hcx, hcy, _, _⟩ := hcell
        dsimp only at hcx hcy hxl
        have hal : Below wr.heap.size wr (wr.alloc (.cells #[.string ⟨a.toArray⟩, .string ⟨b.toArray⟩] 38)) := (Below.refl _ _).alloc (Nat.le_refl _) _
        have hcs := Drop1_any ao cap n₀ names hN HA.out (a, b) hxl.1 bn (wr.alloc (.cells #[.string ⟨a.toArray⟩, .string ⟨b.toArray⟩] 38)) (by simp; omega) (HT.out.below ((hbl.mono (by omega)).trans (hal.mono (by omega)))) (by
          rw [hal.cell (p := ⟨bn, 0, none⟩) (show bn < _ by omega), hbl.cell (p := ⟨bn, 0, none⟩) hbn]; exact HB.out)
        dsimp only at hcs
        have hpc := pair_cells (Below.refl _ (wr.alloc (.cells #[.string ⟨a.toArray⟩, .string ⟨b.toArray⟩] 38)))
        obtain ⟨hp0, hp1⟩ := hpc
        cases hs : goneB names (a, b) with
        | true =>
          rw [hs] at hcs
          have hst' := Lib.hid (hst.out.trans (by rw [hs, if_pos rfl, List.append_nil] : _ = K))
          rw [hMl] at hrow
          go_wp2_with (first | (go_at_call 36; refine hcs.mono ?_; rintro e w2 ⟨rfl, hb2⟩))
          have hb3 : Below wr.heap.size wr w2 := hal.trans (hb2.mono (by simp))
          go_roundw
          case rel => exact ⟨m, k + 1, rfl, by go_num, by rw [hst'.out]; exact hm, by omega, by omega, by rw [hst'.out, hM]; exact row_below hrow.out hb3, hbl.trans (hb3.mono hBr)⟩
          case measure => simp [intOf]; omega
        | false =>
          rw [hs] at hcs
          have hst' := Lib.hid (hst.out.trans (by rw [hs]; simp : _ = K ++ [(a, b)]))
          go_wp2_with (first | (go_at_call 36; refine hcs.mono ?_; rintro e w2 ⟨rfl, hb2⟩; have hb3 : Below wr.heap.size wr w2 := hal.trans (hb2.mono (by simp)); obtain ⟨hq0, hq1⟩ := pair_cells hb2; have hr2 := row_below hrow.out hb3; obtain ⟨d0, d1, d2, d3⟩ := ownF_cells hr2 hold; have hset := ownF_set (i := m) hr2 (a, b) (by omega); have hset' := Lib.hid hset; clear hset; have hfz : ∀ u, (w2.setCell ⟨g, m * 2, none⟩ u).frozen? ⟨g, m * 2 + 1, none⟩ = false := (fun u => (World.frozen?_setCell _ _ _ _).trans d3); have hc1 : ∀ u, (w2.setCell ⟨g, m * 2, none⟩ u).cell? ⟨g, m * 2 + 1, none⟩ = some (.string ⟨old.2.toArray⟩) := (fun u => (World.cell?_setCell_other _ _ _ _ (by simp)).trans d1)))
          go_roundw
          case rel =>
            obtain ⟨h1, h2⟩ := hset'.out
            refine ⟨m + 1, k + 1, by go_num, by go_num, by rw [hst'.out, List.length_append, hm]; rfl, by omega, by omega, ?_, (hbl.trans (hb3.mono hBr)).trans h2⟩
            rw [hst'.out, ← hks.out, hm]
            rw [hMl] at h1
            exact h1
          case measure => simp [intOf]; omega
      · obtain rfl : k = L.length := by omega
        rw [List.take_length] at hm hrow
        have hMl : (dropL names L ++ L.drop (dropL names L).length).length = L.length := kept_len (by omega)
        have hdl := hm
        obtain ⟨w2, hcl, ho2, hb2⟩ := ownF_wipe hrow.out hMl (i := m) (by omega) (fcap - m)
        have htk : (dropL names L ++ L.drop (dropL names L).length).take m = dropL names L := by
          rw [List.take_append_of_le_length (by omega), List.take_of_length_le (by omega)]
        rw [htk] at ho2
        have hcapm := row_cap hrow.out
        have HO := Lib.hid ho2
        have HM := Lib.hid hm
        clear ho2 hrow hm htk hMl hdl
        go_wp2
        go_ret
        exact ⟨_, rfl, by rw [HM.out]; exact HO.out, hbl.trans hb2⟩

end Go.Proofs.YtnppnogmpoigkaaDoor
