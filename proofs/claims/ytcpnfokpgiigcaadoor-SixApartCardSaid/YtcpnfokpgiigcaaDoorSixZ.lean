/- six.Parse. -/
import Derived.Test.YtcpnfokpgiigcaaDoorSixS
namespace Go.Proofs.YtcpnfokpgiigcaaDoor
open Go.RowKit Go.Proofs.YtcpnfokpgiigcaaDoorW.PrintWords Go.Lib

theorem gapL_bound : ∀ {l x y : List UInt8}, gapL l = some (x, y) → l.take x.length = x ∧ l.drop (x.length + 2) = y := by
  intro l x y h
  rw [gapL_out h]
  constructor
  · simp
  · rw [show x ++ 58 :: 58 :: y = (x ++ [58, 58]) ++ y by simp, List.drop_left' (by simp)]
theorem index_gap : ∀ l : List UInt8, index l [58, 58] = gapI l
  | [] => rfl
  | [b] => by
    have : ([58, 58] : List UInt8).isPrefixOf [b] = false := by simp [List.isPrefixOf]
    rw [index, this]; rfl
  | b :: c :: l => by
    have ih := index_gap (c :: l)
    by_cases h : b = 58 ∧ c = 58
    · obtain ⟨rfl, rfl⟩ := h
      rw [gapI_hit, index]; simp [List.isPrefixOf]
    · have hp : ([58, 58] : List UInt8).isPrefixOf (b :: c :: l) = false := by
        simp [List.isPrefixOf]; intro e; exact fun e2 => h ⟨e.symm, e2.symm⟩
      rw [gapI_miss h, index, hp, ih]; simp
theorem cut_gap (l : List UInt8) : cut l [58, 58] = match gapL l with
    | some x => (x.1, x.2, true)
    | none => (l, [], false) := by
  unfold cut
  rw [index_gap]
  unfold gapI
  cases h : gapL l with
  | none => rfl
  | some x =>
    obtain ⟨x, y⟩ := x
    have := gapL_bound h
    simp [this.1, this.2]

/-- Eight noughts. -/
def zer : List Int := List.replicate 8 0
/-- An array's block behind a copy into it. -/
theorem IntRow.copied {w : World} {b : Nat} {T : TypeId} {l : List Int} (h : IntRow w b T l) (o : Nat) (xs : List Int) : IntRow (w.setRow b ((ints l).toArray.toList.take o ++ ints xs ++ (ints l).toArray.toList.drop (o + (ints xs).length)).toArray) b T (l.take o ++ xs ++ l.drop (o + xs.length)) := by
  unfold IntRow
  rw [setRow_heap w b (ints l).toArray _ T (0, 0) h]
  congr 2
  rw [ints_length, ints_append, ints_append]
  simp [ints, List.map_take, List.map_drop]
theorem below_setRow {B : Nat} {w0 w : World} (h : Below B w0 w) {g : Nat} (hg : B ≤ g) (cs : Array Value) : Below B w0 (w.setRow g cs) :=
  h.trans ⟨rfl, rfl, rfl, by simp [World.setRow], fun i hi => by
    have hne : g ≠ i := by omega
    simp [World.setRow, Array.getElem?_modify, hne]⟩

/-- What holds of a world behind a copy into a block of ints. -/
structure Copied (w w' : World) (g : Nat) (T : TypeId) (l : List Int) : Prop where
  row : IntRow w' g T l
  below : ∀ B w0, Below B w0 w → B ≤ g → Below B w0 w'
  rest : ∀ k, k ≠ g → w'.heap[k]? = w.heap[k]?
  size : w'.heap.size = w.heap.size
theorem copy_own {P : Program} {dT sT ty elem : TypeId} (hu : P.underlying dT = some (.slice elem)) (hs : (P.info? elem).map (·.size) = some 1) {w : World} {g o dLen dCap : Nat} {T : TypeId} {cur : List Int} (hg : IntRow w g T cur) {base : Nat} {v : Value} {n : Nat} {xs : List Int} (hv : w.ownsRow base elem 1 v n (ints xs)) (hn : n ≤ dLen) (ho : o + n ≤ cur.length) :
    ∃ w', (Builtin.copy_ #[dT, sT] ty #[.slice (some ⟨g, o, none⟩) dLen dCap, v]).run P w = .ok (goInt n) w' ∧ Copied w w' g T (cur.take o ++ xs ++ cur.drop (o + n)) := by
  have hxl : xs.length = n := by have := hv.1; simpa [ints_length] using this
  rcases hv.2 with ⟨rfl, rfl⟩ | ⟨g2, cap, cu, rfl, _⟩
  · refine ⟨w, ?_, ?_⟩
    · exact @_root_.Go.run_copy_nil P w dT sT ty elem ⟨g, o, none⟩ dLen dCap hu (by cases h : P.info? elem <;> simp [h] at hs ⊢)
    · obtain rfl : xs = [] := List.eq_nil_of_length_eq_zero hxl
      refine ⟨?_, fun _ _ h _ => h, fun _ _ => rfl, rfl⟩
      rw [List.append_nil, Nat.add_zero, List.take_append_drop]; exact hg
  · have hrun := run_copy_row (P := P) w dT sT ty elem g o dLen dCap ⟨g2, 0, none⟩ n cap (ints cur).toArray T (ints xs) hu hs hg (by rw [ints_length, hxl]; exact (Nat.min_eq_left hn).symm) (fun j u hj => by
        rw [Addr.add_lit, Nat.zero_add, hv.cellAt j (by have := (List.getElem?_eq_some_iff.1 hj).1; rw [ints_length, hxl] at this; omega)]; exact hj) (by simp [ints_length]; omega) (fun u hu => by obtain ⟨m, _, rfl⟩ := List.mem_map.1 hu; rfl)
    rw [ints_length, hxl] at hrun
    refine ⟨_, hrun, ?_, fun B w0 h hB => below_setRow h hB _, fun k hk => ?_, ?_⟩
    · have := hg.copied o xs
      rw [ints_length, hxl] at this
      exact this
    · simp [World.setRow, Array.getElem?_modify, Ne.symm hk]
    · simp [World.setRow]

theorem parse_by {l x y : List UInt8} {g : Bool} (h : cut l [58, 58] = (x, y, g)) : parseSix l = match piecesO x, piecesO y with
    | some a, some b => if (g = true ∧ a.length + b.length ≤ 7) ∨ (g = false ∧ a.length + b.length = 8) then (a ++ List.replicate (8 - a.length - b.length) 0 ++ b, true) else (no8, false)
    | _, _ => (no8, false) := by
  rw [cut_gap] at h
  unfold parseSix
  cases hg : gapL l with
  | none =>
    rw [hg] at h
    injection h with h1 h
    injection h with h2 h3
    subst h1 h2 h3
    have e : piecesO [] = some [] := rfl
    rw [e]
    cases piecesO l with
    | none => rfl
    | some a =>
      simp only [List.length_nil, Nat.add_zero]
      by_cases h8 : a.length = 8
      · rw [if_pos h8, if_pos (Or.inr ⟨trivial, h8⟩), h8]; simp
      · rw [if_neg h8, if_neg (by simp [h8])]
  | some z =>
    rw [hg] at h
    injection h with h1 h
    injection h with h2 h3
    subst h1 h2 h3
    obtain ⟨z1, z2⟩ := z
    simp only []
    generalize piecesO z1 = oa
    generalize piecesO z2 = ob
    cases oa with
    | none => rfl
    | some a =>
      cases ob with
      | none => rfl
      | some b =>
        simp only []
        by_cases h7 : a.length + b.length ≤ 7
        · rw [if_pos h7, if_pos (Or.inl ⟨trivial, h7⟩)]
        · rw [if_neg h7, if_neg (by simp; omega)]
theorem cut_le {l x y : List UInt8} {g : Bool} (h : cut l [58, 58] = (x, y, g)) : x.length ≤ l.length ∧ y.length ≤ l.length := by
  rw [cut_gap] at h
  cases hg : gapL l with
  | none =>
    rw [hg] at h
    injection h with h1 h
    injection h with h2 h3
    subst h1 h2; simp
  | some z =>
    rw [hg] at h
    injection h with h1 h
    injection h with h2 h3
    subst h1 h2
    have := gapL_out (l := l) (x := z.1) (y := z.2) hg
    rw [this]; simp; omega

/-- An array in a block and a Boolean in a slot are handed back. -/
theorem result_arr {fn : Func} {p u : Tmp} {ty e : TypeId} {k : Nat} (h : fn.results = #[.cell p ty, .tmp u]) {P : Program} (hu : P.underlying ty = some (.array k e)) {l : List Int} (hi : (P.info? ty).map (·.size) = some (ints l).toArray.size) {tmps : Array Value} {w : World} {b : Nat} {T : TypeId} (hp : tmps.getD p undef = .pointer (some ⟨b, 0, none⟩)) (hr : IntRow w b T l) {x : Value} (hx : tmps.getD u undef = x) :
    (results fn tmps).run P w = .ok (.tuple #[.agg (ints l).toArray, x]) w := by
  rw [results_cell_tmp h, hp, hx]
  simp [asAddr, run_loadVar_row w b T ty (ints l).toArray (0, 0) _ hr hu rfl hi]
theorem IntRow.put {w : World} {b : Nat} {T : TypeId} {l : List Int} (h : IntRow w b T l) (l' : List Int) : IntRow (w.setRow b (ints l').toArray) b T l' := setRow_heap w b _ _ T (0, 0) h
theorem pieces_count {l : List UInt8} {o : Option (List Nat)} (h : piecesO l = o) : (o.getD []).length ≤ l.length + 1 := by
  cases o with
  | none => simp
  | some a =>
    rcases (pieces_facts h).2 with ⟨e, _⟩ | ⟨_, e⟩
    · subst e; simp
    · show a.length ≤ _; omega
theorem casts_no8 : casts no8 = zer := rfl
theorem row_of_heap {w w' : World} {base : Nat} {e : TypeId} {size n : Nat} {v : Value} {xs : List Value} (h : w.ownsRow base e size v n xs) (hk : ∀ k, base ≤ k → w'.heap[k]? = w.heap[k]?) : w'.ownsRow base e size v n xs := by
  refine ⟨h.1, ?_⟩
  rcases h.2 with h | ⟨g, cap, cur, h1, h2, h3, h4⟩
  · exact Or.inl h
  · exact Or.inr ⟨g, cap, cur, h1, h2, by rw [hk g h2]; exact h3, h4⟩
theorem zer_length : zer.length = 8 := rfl
/-- Pieces laid into eight noughts from both ends. -/
theorem laid_both (a b : List Int) (h : a.length + b.length ≤ 8) (o : Nat) (ho : b.length = 0 ∧ o = 0 ∨ b.length ≠ 0 ∧ o = 8 - b.length) :
    (zer.take 0 ++ a ++ zer.drop (0 + a.length)).take o ++ b ++ (zer.take 0 ++ a ++ zer.drop (0 + a.length)).drop (o + b.length) = a ++ List.replicate (8 - a.length - b.length) 0 ++ b := by
  have e : zer.take 0 ++ a ++ zer.drop (0 + a.length) = a ++ List.replicate (8 - a.length) 0 := by
    unfold zer
    rw [List.take_zero, List.nil_append, Nat.zero_add, List.drop_replicate]
  rw [e]
  rcases ho with ⟨h0, rfl⟩ | ⟨h0, rfl⟩
  · obtain rfl : b = [] := List.eq_nil_of_length_eq_zero h0
    simp
  · have e2 : (a ++ List.replicate (8 - a.length) 0).take (8 - b.length) = a ++ List.replicate (8 - a.length - b.length) 0 := by
      rw [List.take_append, List.take_of_length_le (l := a) (by omega), List.take_replicate]
      congr 2; omega
    have e3 : (a ++ List.replicate (8 - a.length) 0).drop (8 - b.length + b.length) = [] := List.drop_eq_nil_of_le (by simp; omega)
    rw [e2, e3, List.append_nil]
theorem casts_zero (n : Nat) : casts (List.replicate n 0) = List.replicate n 0 := by simp [casts]
theorem ints_one (l : List Int) : (ints l).toArray.all (·.oneCell') = true := by
  simp [ints, Value.oneCell']
theorem own_slice {w : World} {base : Nat} {e : TypeId} {size n : Nat} {v : Value} {xs : List Value} (h : w.ownsRow base e size v n xs) : ∃ a c, v = .slice a n c := by
  rcases h.2 with ⟨rfl, rfl⟩ | ⟨g, c, cur, rfl, _⟩
  · exact ⟨_, _, rfl⟩
  · exact ⟨_, _, rfl⟩
set_option maxHeartbeats 2000000 in
set_option maxRecDepth 100000 in
theorem six_Parse_any (s : ByteArray) (hs : s.size ≤ 1000000) (w : World) (hG : Good w) :
    Calls Tryd.prog 26 #[.string s] w fun e w' => e = .returned (.tuple #[.agg (ints (casts (parseSix s.data.toList).1)).toArray, .bool (parseSix s.data.toList).2]) ∧ Below w.heap.size w w' := by
  obtain ⟨m, hm⟩ := hG.max
  obtain ⟨x, y, g, hc⟩ : ∃ x y g, Hid (cut s.data.toList [58, 58] = (x, y, g)) := ⟨_, _, _, rfl⟩
  have hcut := fun wx (h : Good wx) => Tryd.strings_Cut s ⟨#[58, 58]⟩ h.max.choose wx (by omega) h.max.choose_spec
  rw [show (⟨#[58, 58]⟩ : ByteArray).data.toList = [58, 58] from rfl, hc.out] at hcut
  have hle := cut_le hc.out
  rw [← size_list] at hle
  have hpb := Lib.hid (parse_by hc.out)
  obtain ⟨W0, hW0⟩ : ∃ W0, W0 = (w.alloc (.cells (ints zer).toArray 33)).alloc (.cells (ints zer).toArray 33) := ⟨_, rfl⟩
  have hr1 : IntRow W0 w.heap.size 33 zer := by rw [hW0]; exact (IntRow.new w _ zer).alloc _
  have hr2 : IntRow W0 (w.heap.size + 1) 33 zer := by rw [hW0]; have := IntRow.new (w.alloc (.cells (ints zer).toArray 33)) 33 zer; rwa [World.size_alloc] at this
  have hb0 : Below w.heap.size w W0 := by rw [hW0]; exact ((Below.refl _ _).alloc (Nat.le_refl _) _).alloc (by simp) _
  have hG0 : Good W0 := hG.below hb0
  go_enter Tryd.func26, Tryd.ntmps26
  go_wp2_with fail
  rw [show (w.alloc (.cells #[.int .i64 0, .int .i64 0, .int .i64 0, .int .i64 0, .int .i64 0, .int .i64 0, .int .i64 0, .int .i64 0] 33)).alloc (.cells #[.int .i64 0, .int .i64 0, .int .i64 0, .int .i64 0, .int .i64 0, .int .i64 0, .int .i64 0, .int .i64 0] 33) = W0 from hW0.symm]
  clear hW0
  refine (hcut W0 hG0).mono ?_
  rintro e W1 ⟨rfl, nd, hW1⟩
  have hb1 : Below w.heap.size w W1 := by rw [hW1]; exact below_on hb0 hb0.size ⟨rfl, rfl, rfl, Nat.le_refl _, fun _ _ => rfl⟩
  have hG1 : Good W1 := by rw [hW1]; exact hG0.drewN nd
  have hr1 : IntRow W1 w.heap.size 33 zer := by rw [hW1]; exact hr1
  have hr2 : IntRow W1 (w.heap.size + 1) 33 zer := by rw [hW1]; exact hr2
  clear hW1 hb0 hG0 hcut
  have hs1 := six_split ⟨x.toArray⟩ (by rw [size_list, mk_toList]; omega) W1 hG1
  rw [mk_toList] at hs1
  obtain ⟨oa, hoa⟩ : ∃ oa, Hid (piecesO x = oa) := ⟨_, rfl⟩
  obtain ⟨ob, hob⟩ : ∃ ob, Hid (piecesO y = ob) := ⟨_, rfl⟩
  rw [hoa.out] at hs1
  go_wp2_with fail
  refine hs1.mono ?_
  rintro e W2 ⟨v1, rfl, hv1, hb12⟩
  have hb2 := below_on hb1 hb1.size hb12
  have hG2 := hG1.below hb12
  have hb2lt : w.heap.size + 1 < W2.heap.size := Nat.lt_of_lt_of_le hr2.lt hb12.size
  have hr1 := hr1.below hb12 hr1.lt
  have hr2 := hr2.below hb12 hr2.lt
  have hs2 := six_split ⟨y.toArray⟩ (by rw [size_list, mk_toList]; omega) W2 hG2
  rw [mk_toList, hob.out] at hs2
  go_wp2_with fail
  refine hs2.mono ?_
  rintro e W3 ⟨v2, rfl, hv2, hb23⟩
  have hb3 := below_on hb2 hb2.size hb23
  have hr1 := hr1.below hb23 hr1.lt
  have hr2 := hr2.below hb23 hr2.lt
  have hv1 : IntOwn W3 W1.heap.size v1 (casts (oa.getD [])) := row_below hv1 hb23
  have hsz1 := hb1.size
  have hsz2 := hb2.size
  have hv1 : W3.ownsRow W1.heap.size 3 1 v1 (oa.getD []).length (ints (casts (oa.getD []))) := by rw [← casts_length]; exact hv1
  have hv2 : W3.ownsRow W2.heap.size 3 1 v2 (ob.getD []).length (ints (casts (ob.getD []))) := by rw [← casts_length]; exact hv2
  have hla := pieces_count hoa.out
  have hlb := pieces_count hob.out
  obtain ⟨na, hna⟩ : ∃ na, na = (oa.getD []).length := ⟨_, rfl⟩
  obtain ⟨nb, hnb⟩ : ∃ nb, nb = (ob.getD []).length := ⟨_, rfl⟩
  rw [← hna] at hv1 hla
  rw [← hnb] at hv2 hlb
  obtain ⟨a1, c1, rfl⟩ := own_slice hv1
  obtain ⟨a2, c2, rfl⟩ := own_slice hv2
  have HA := Lib.hid hna
  have HB := Lib.hid hnb
  clear hna hnb
  clear hs1 hs2
  have hsz8 : (Tryd.prog.info? 33).map (·.size) = some (ints zer).toArray.size := by kernel_rfl
  cases oa with
  | none =>
    have hp : Hid (parseSix s.data.toList = (no8, false)) := by show _ = _; rw [hpb.out, hoa.out]
    go_wp2_with (refine wpList_store_row rfl 33 _ _ rfl w.heap.size (ints zer).toArray (by rfl) (by rfl) 33 (ints zer).toArray hr1 hsz8 rfl (ints_one _) ?_)
    refine bodyPost_ret (result_arr rfl Tryd.underlying33 hsz8 rfl (hr1.put zer) rfl) rfl ⟨?_, below_setRow hb3 (Nat.le_refl _) _⟩
    rw [hp.out, casts_no8]
    rfl
  | some a =>
    cases ob with
    | none =>
      have hp : Hid (parseSix s.data.toList = (no8, false)) := by show _ = _; rw [hpb.out, hoa.out, hob.out]
      go_wp2_with (refine wpList_store_row rfl 33 _ _ rfl w.heap.size (ints zer).toArray (by rfl) (by rfl) 33 (ints zer).toArray hr1 hsz8 rfl (ints_one _) ?_)
      refine bodyPost_ret (result_arr rfl Tryd.underlying33 hsz8 rfl (hr1.put zer) rfl) rfl ⟨?_, below_setRow hb3 (Nat.le_refl _) _⟩
      rw [hp.out, casts_no8]
      rfl
    | some b =>
      have ha : na = a.length := HA.out
      have hb : nb = b.length := HB.out
      by_cases hok : (g = true ∧ a.length + b.length ≤ 7) ∨ (g = false ∧ a.length + b.length = 8)
      · have hp : Hid (parseSix s.data.toList = (a ++ List.replicate (8 - a.length - b.length) 0 ++ b, true)) := by show _ = _; rw [hpb.out, hoa.out, hob.out]; exact if_pos hok
        have hok2 : (g = true ∧ na + nb ≤ 7) ∨ (g = false ∧ na + nb ≤ 8 ∧ 8 ≤ na + nb) := by
          rw [ha, hb]
          rcases hok with ⟨h1, h2⟩ | ⟨h1, h2⟩
          · exact Or.inl ⟨h1, h2⟩
          · exact Or.inr ⟨h1, by omega, by omega⟩
        have hab : na + nb ≤ 8 := by rcases hok2 with ⟨_, h⟩ | ⟨_, h, _⟩ <;> omega
        have hsa := run_sliceAt_all (P := Tryd.prog) Tryd.underlying33 (by kernel_rfl) (w.heap.size + 1)
        obtain ⟨o, d, hsl2, hod⟩ : ∃ o d : Nat, (∀ w', (Instr.sliceAt 33 (.pointer (some ⟨w.heap.size + 1, 0, none⟩)) (some (.int .i64 (8 - (nb : Int)))) none none).run Tryd.prog w' = .ok (.slice (some ⟨w.heap.size + 1, o, none⟩) d d) w') ∧ (nb = 0 ∧ o = 0 ∧ d = 0 ∨ nb ≠ 0 ∧ o = 8 - nb ∧ d = nb) := by
          by_cases h : nb = 0
          · exact ⟨0, 0, fun w' => by rw [h]; exact run_sliceAt_end (P := Tryd.prog) Tryd.underlying33 (by kernel_rfl) _ w', Or.inl ⟨h, rfl, rfl⟩⟩
          · refine ⟨8 - nb, nb, fun w' => ?_, Or.inr ⟨h, rfl, rfl⟩⟩
            have := run_sliceAt_from (P := Tryd.prog) Tryd.underlying33 (by kernel_rfl) (by kernel_rfl) (w.heap.size + 1) (8 - nb) (by omega) w'
            rw [show ((8 - nb : Nat) : Int) = 8 - (nb : Int) by omega, show 8 - (8 - nb) = nb by omega] at this
            exact this
        obtain ⟨W4, hcp1, C1⟩ := copy_own (P := Tryd.prog) (dT := 56) (sT := 56) (ty := 3) (dLen := 8) (dCap := 8) (o := 0) Tryd.underlying56 (by kernel_rfl) hr2 hv1 (by omega) (by rw [zer_length]; omega)
        have hb4 := C1.below _ _ hb3 (by omega)
        have hsz12 := hb12.size
        have hlt2 := hr2.lt
        have hv24 : W4.ownsRow W2.heap.size 3 1 (.slice a2 nb c2) nb (ints (casts b)) := row_of_heap hv2 fun k hk => C1.rest k (by have := hb2lt; omega)
        obtain ⟨W5, hcp2, C2⟩ := copy_own (P := Tryd.prog) (dT := 56) (sT := 56) (ty := 3) (dLen := d) (dCap := d) (o := o) Tryd.underlying56 (by kernel_rfl) C1.row hv24 (by omega) (by simp [zer, casts]; omega)
        have hb5 := C2.below _ _ hb4 (by omega)
        have hr15 : IntRow W5 w.heap.size 33 zer := by
          unfold IntRow
          rw [C2.rest _ (by omega), C1.rest _ (by omega)]; exact hr1
        obtain ⟨L, hL⟩ : ∃ L, L = casts (a ++ List.replicate (8 - a.length - b.length) 0 ++ b) := ⟨_, rfl⟩
        have hcl := laid_both (casts a) (casts b) (by rw [casts_length, casts_length, ← ha, ← hb]; exact hab) o (by rw [casts_length, ← hb]; omega)
        rw [casts_length, casts_length, ← ha, ← hb] at hcl
        have hLL : (List.take o (zer.take 0 ++ casts a ++ zer.drop (0 + na)) ++ casts b ++ List.drop (o + nb) (zer.take 0 ++ casts a ++ zer.drop (0 + na))) = L := by
          rw [hcl, hL, casts_append, casts_append, casts_zero, ← ha, ← hb]
        have hC2 := C2
        rw [show (some a).getD [] = a from rfl, hLL] at C2
        have hL8 : L.length = 8 := by rw [hL, casts_length]; simp; omega
        have hszL : (Tryd.prog.info? 33).map (·.size) = some (ints L).toArray.size := by rw [List.size_toArray, ints_length, hL8]; kernel_rfl
        have hcL := Lib.hid hL
        clear ha hb hok hL hLL hcl hC2 C1
        rcases hok2 with ⟨rfl, h7⟩ | ⟨rfl, h7, h8⟩
        · have hx8 : ¬ ((8 : Int) ≤ (na : Int) + nb) := by omega
          go_wp2_with (first
            | (refine wpList_load_row rfl 33 _ rfl _ rfl 33 _ (0, 0) _ C2.row Tryd.underlying33 rfl hszL ?_)
            | (refine wpList_store_row rfl 33 _ _ rfl w.heap.size (ints L).toArray (by rfl) (by rfl) 33 (ints zer).toArray hr15 hszL (by rw [List.size_toArray, ints_length, List.size_toArray, ints_length, hL8]; rfl) (ints_one _) ?_))
          refine bodyPost_ret (result_arr rfl Tryd.underlying33 hszL rfl (hr15.put L) rfl) rfl ⟨?_, below_setRow hb5 (Nat.le_refl _) _⟩
          rw [hp.out, hcL.out]
          rfl
        · have hx8 : ((na : Int) + nb != 8) = false := by simp; omega
          go_wp2_with (first
            | (refine wpList_load_row rfl 33 _ rfl _ rfl 33 _ (0, 0) _ C2.row Tryd.underlying33 rfl hszL ?_)
            | (refine wpList_store_row rfl 33 _ _ rfl w.heap.size (ints L).toArray (by rfl) (by rfl) 33 (ints zer).toArray hr15 hszL (by rw [List.size_toArray, ints_length, List.size_toArray, ints_length, hL8]; rfl) (ints_one _) ?_))
          refine bodyPost_ret (result_arr rfl Tryd.underlying33 hszL rfl (hr15.put L) rfl) rfl ⟨?_, below_setRow hb5 (Nat.le_refl _) _⟩
          rw [hp.out, hcL.out]
          rfl
      · have hp : Hid (parseSix s.data.toList = (no8, false)) := by show _ = _; rw [hpb.out, hoa.out, hob.out]; exact if_neg hok
        have hno : (g = true ∧ 8 ≤ na + nb) ∨ (g = false ∧ (na + nb < 8 ∨ 8 < na + nb)) := by
          rw [ha, hb]
          cases g
          · right; refine ⟨rfl, ?_⟩; simp at hok; omega
          · left; refine ⟨rfl, ?_⟩; simp at hok; omega
        clear ha hb hok
        rcases hno with ⟨rfl, h7⟩ | ⟨rfl, h7 | h7⟩
        · have hx8 : (8 : Int) ≤ (na : Int) + nb := by omega
          go_wp2_with (refine wpList_store_row rfl 33 _ _ rfl w.heap.size (ints zer).toArray (by rfl) (by rfl) 33 (ints zer).toArray hr1 hsz8 rfl (ints_one _) ?_)
          refine bodyPost_ret (result_arr rfl Tryd.underlying33 hsz8 rfl (hr1.put zer) rfl) rfl ⟨?_, below_setRow hb3 (Nat.le_refl _) _⟩
          rw [hp.out, casts_no8]
          rfl
        · have hx8 : ((na : Int) + nb != 8) = true := by simp; omega
          go_wp2_with (refine wpList_store_row rfl 33 _ _ rfl w.heap.size (ints zer).toArray (by rfl) (by rfl) 33 (ints zer).toArray hr1 hsz8 rfl (ints_one _) ?_)
          refine bodyPost_ret (result_arr rfl Tryd.underlying33 hsz8 rfl (hr1.put zer) rfl) rfl ⟨?_, below_setRow hb3 (Nat.le_refl _) _⟩
          rw [hp.out, casts_no8]
          rfl
        · have hx8 : ((na : Int) + nb != 8) = true := by simp; omega
          go_wp2_with (refine wpList_store_row rfl 33 _ _ rfl w.heap.size (ints zer).toArray (by rfl) (by rfl) 33 (ints zer).toArray hr1 hsz8 rfl (ints_one _) ?_)
          refine bodyPost_ret (result_arr rfl Tryd.underlying33 hsz8 rfl (hr1.put zer) rfl) rfl ⟨?_, below_setRow hb3 (Nat.le_refl _) _⟩
          rw [hp.out, casts_no8]
          rfl

end Go.Proofs.YtcpnfokpgiigcaaDoor
