/- slices.Grow of nothing, slices.Concat of two lists of texts, path.Merge. -/
import Derived.Test.YtcegcjefjclcnaaDoorParse
import Derived.Lib.AppendZeros
import Derived.Deep.RegionWith
import Derived.Laws.AppendOwnNone
import Derived.Lib.SliceRun
namespace Go.Proofs.YtcegcjefjclcnaaDoor
open Go.RowKit Go.Proofs.YtcegcjefjclcnaaDoorW.PrintWords

set_option maxHeartbeats 2000000 in
set_option maxRecDepth 100000 in
/-- slices.Grow of no list. -/
theorem Grow_nil (n : Nat) (hn : n ≤ 3000000) (w : World) :
    Calls Tryd.prog 41 #[.slice none 0 0, .int .i64 n] w fun e w' => ∃ v, e = .returned v ∧ w'.ownsRow w.heap.size 9 1 v 0 [] ∧ Below w.heap.size w w' := by
  obtain ⟨i0, hi, hz0, hz1, hz2⟩ := info_parts infoStr0
  by_cases h0 : n = 0
  · subst h0
    go_enter Tryd.func41, Tryd.ntmps41
    go_wp2
    go_ret
    exact ⟨_, rfl, World.ownsRow_nil _ _ _ _, Below.refl _ _⟩
  · have hz := fun w : World => Lib.run_append_nil_zeros (P := Tryd.prog) w 22 3 22 9 i0 (.string ⟨#[]⟩) .i64 .i64 Tryd.underlying22 Tryd.underlying3 hi hz0 n (by omega) (by omega) (by omega) (by rw [hz2]; omega)
    have hn0 : (0 : Int) < n := by omega
    have hcap := grownCap_le_maxLen w n 0 9 (by unfold maxLen; omega)
    have hcge := grownCap_ge w n 0 9
    have hzw := hz w
    clear hz
    have hsz : (Builtin.zeroCells (Value.string ⟨#[]⟩).cells n ++ Builtin.zeroCells (Value.string ⟨#[]⟩).cells (grownCap w n 0 9 - n)).size = grownCap w n 0 9 := by
      simp [Builtin.zeroCells, Value.cells]; omega
    have hw' : Below w.heap.size w (w.drew.alloc (.cells (Builtin.zeroCells (Value.string ⟨#[]⟩).cells n ++ Builtin.zeroCells (Value.string ⟨#[]⟩).cells (grownCap w n 0 9 - n)) 9)) := ((Below.refl _ _).drew).alloc (Nat.le_refl _) _
    have hown : (w.drew.alloc (.cells (Builtin.zeroCells (Value.string ⟨#[]⟩).cells n ++ Builtin.zeroCells (Value.string ⟨#[]⟩).cells (grownCap w n 0 9 - n)) 9)).ownsRow w.heap.size 9 1 (.slice (some ⟨w.heap.size, 0, none⟩) 0 (grownCap w n 0 9)) 0 [] :=
      ⟨rfl, .inr ⟨w.heap.size, _, _, rfl, Nat.le_refl _, heap_alloc_new w.drew _, Nat.zero_le _, hcap, by rw [hsz]; omega, rfl⟩⟩
    generalize (w.drew.alloc (.cells (Builtin.zeroCells (Value.string ⟨#[]⟩).cells n ++ Builtin.zeroCells (Value.string ⟨#[]⟩).cells (grownCap w n 0 9 - n)) 9)) = W at *
    clear hsz
    generalize grownCap w n 0 9 = cap at *
    go_enter Tryd.func41, Tryd.ntmps41
    go_wp2_with (at_builtin; refine Lib.wpList_append_run _ rfl _ _ 22 3 rfl (.slice none 0 0) (.int .i64 n) (by rfl) (by rfl) _ _ hzw ?_)
    go_ret
    exact ⟨_, rfl, hown, hw'⟩

theorem texts_shape {n₀ : Nat} {w : World} {sv : Value} {l : List (List UInt8)} (h : Texts n₀ w sv l) : ∃ ao cap, sv = .slice ao l.length cap := by
  rcases h with ⟨rfl, rfl⟩ | ⟨b, off, cap, rfl, _, _⟩
  · exact ⟨none, 0, rfl⟩
  · exact ⟨_, _, rfl⟩
theorem append_texts {ops : Array Oper} {rest : List Oper} {o : Oper} {a : Act} {Q : Exit → Act → World → Prop} (hgd : o.guard = none) (s x : Operand) (ho : o.op = .call { callee := .builtin .append, args := #[s, x], argTypes := #[22, 22] })
    (w : World) (B n₀ : Nat) (v sv : Value) (L M : List (List UInt8)) (hs : a.eval s = v) (hx : a.eval x = sv) (hown : w.ownsRow B 9 1 v L.length (strs L)) (hT : Texts n₀ w sv M) (hl : L.length + M.length ≤ 3000000) (hB : B ≤ w.heap.size)
    (h : ∀ v' w', w'.ownsRow B 9 1 v' (L ++ M).length (strs (L ++ M)) → w.grownBy w' v.ownBlock → wpList Tryd.prog ops Q rest (a.put o.dst v') w') : wpList Tryd.prog ops Q (o :: rest) a w := by
  obtain ⟨i0, hi, hz0, hz1, hz2⟩ := info_parts infoStr0
  rcases hT with ⟨rfl, rfl⟩ | ⟨b, off, cap, rfl, hb, hc⟩
  · refine wpList_append_own_none hgd s x 22 ho B 9 i0 1 Tryd.underlying22 hi v L.length (strs L) hs hown hx ?_
    exact h v w (by rw [List.append_nil]; exact hown) (World.grownBy.refl _ _)
  · refine wpList_append_own _ hgd s x 22 ho B 9 i0 (.string ⟨#[]⟩) 1 16 Tryd.underlying22 hi hz0 hz1 hz2 rfl (by decide) v L.length (strs L) hs hown ⟨b, off, none⟩ M.length cap (strs M) hx (by rw [strs_length, Nat.mul_one]) (fun j u hj => ?_) (fun u hu => ?_) (by unfold maxLen; omega) (by omega) hB ?_
    · have hadd : (⟨b, off, none⟩ : Addr).add j = ⟨b, off + j, none⟩ := by unfold Addr.add; split <;> simp_all
      rw [hadd]
      unfold strs at hj
      rw [List.getElem?_map] at hj
      obtain ⟨y, hy, rfl⟩ := Option.map_eq_some_iff.1 hj
      exact hc j y hy
    · obtain ⟨y, _, rfl⟩ := List.mem_map.1 hu; rfl
    · intro v' w' h1 h2 _
      exact h v' w' (by rw [List.length_append, strs_append]; exact h1) h2

set_option maxHeartbeats 4000000 in
set_option maxRecDepth 100000 in
theorem Concat_two (va vb : Value) (a b : List (List UInt8)) (hla : a.length ≤ 1000000) (hlb : b.length ≤ 1000000) (g : Nat) (w : World) (hg : w.heap[g]? = some (.cells #[va, vb] 22 (0, 0))) (ha : Texts w.heap.size w va a) (hb : Texts w.heap.size w vb b) :
    Calls Tryd.prog 30 #[.slice (some ⟨g, 0, none⟩) 2 2] w fun e w' => ∃ v, e = .returned v ∧ w'.ownsRow w.heap.size 9 1 v (a ++ b).length (strs (a ++ b)) ∧ Below w.heap.size w w' := by
  obtain ⟨aoA, capA, rfl⟩ := texts_shape ha
  obtain ⟨aoB, capB, rfl⟩ := texts_shape hb
  have c0 : w.cell? ⟨g, 0, none⟩ = some (.slice aoA a.length capA) := by rw [cell_of_row w g 0 _ _ _ hg]; rfl
  have c1 : w.cell? ⟨g, 1, none⟩ = some (.slice aoB b.length capB) := by rw [cell_of_row w g 1 _ _ _ hg]; rfl
  have hgl := lt_of_block hg
  have hgr := Grow_nil (a.length + b.length) (by omega) w
  have hw1 : IntKind.i64.wrap ((a.length : Int) + b.length) = (a.length : Int) + b.length := by rw [IntKind.wrap_i64]; omega
  have hcast : ((a.length + b.length : Nat) : Int) = (a.length : Int) + b.length := by omega
  rw [hcast] at hgr
  clear hcast
  go_enter Tryd.func30, Tryd.ntmps30
  go_wp2
  go_loop [3, 5, 11] (fun z _ i => (i = .int .i64 0 ∧ z = .int .i64 0) ∨ (i = .int .i64 1 ∧ z = .int .i64 a.length) ∨ (i = .int .i64 2 ∧ z = .int .i64 ((a.length : Int) + b.length))) (fun _ _ i => 2 - (intOf i).toNat)
  case atStart => exact .inl ⟨rfl, rfl⟩
  case round =>
    rcases hrel with ⟨rfl, rfl⟩ | ⟨rfl, rfl⟩ | ⟨rfl, rfl⟩
    · go_wp2
      go_round
      case rel => exact .inr (.inl ⟨rfl, by simp⟩)
      case measure => simp [intOf]
    · go_wp2
      go_round
      case rel => exact .inr (.inr ⟨rfl, rfl⟩)
      case measure => simp [intOf]
    · go_wp2_with fail
      refine hgr.mono ?_
      rintro e W1 ⟨v0, rfl, ho0, hb1⟩
      have ho1 : W1.ownsRow w.heap.size 9 1 v0 ([] : List (List UInt8)).length (strs []) := ho0
      have hsz1 := hb1.size
      go_wp2
      go_loopw [6, 8, 27] (fun v _ i wr => ((i = .int .i64 0 ∧ wr.ownsRow w.heap.size 9 1 v ([] : List (List UInt8)).length (strs [])) ∨ (i = .int .i64 1 ∧ wr.ownsRow w.heap.size 9 1 v ([] ++ a).length (strs ([] ++ a))) ∨ (i = .int .i64 2 ∧ wr.ownsRow w.heap.size 9 1 v ([] ++ a ++ b).length (strs ([] ++ a ++ b)))) ∧ Below w.heap.size w wr) (fun _ _ i _ => 2 - (intOf i).toNat)
      case atStart => exact ⟨.inl ⟨rfl, ho1⟩, hb1⟩
      case round =>
        obtain ⟨hr, hbl⟩ := hrel
        have d0 : wr.cell? ⟨g, 0, none⟩ = some (.slice aoA a.length capA) := (hbl.cell (p := ⟨g, 0, none⟩) hgl).trans c0
        have d1 : wr.cell? ⟨g, 1, none⟩ = some (.slice aoB b.length capB) := (hbl.cell (p := ⟨g, 1, none⟩) hgl).trans c1
        have hta := ha.below hbl
        have htb := hb.below hbl
        have hsz := hbl.size
        clear c0 c1 hgr ho1 ho0
        rcases hr with ⟨rfl, how⟩ | ⟨rfl, how⟩ | ⟨rfl, how⟩
        · go_wp2_with (at_builtin; refine append_texts rfl _ _ rfl _ w.heap.size w.heap.size _ _ [] a (by rfl) (by rfl) how hta (by simp; omega) hsz ?_)
          intro v' w2 hown' hgrow
          go_wp2
          refine ⟨⟨.inr (.inl ⟨rfl, hown'⟩), hbl.grown hgrow hbl.size (fun k hk => (how.lt k hk).1)⟩, by simp [intOf]⟩
        · go_wp2_with (at_builtin; refine append_texts rfl _ _ rfl _ w.heap.size w.heap.size _ _ ([] ++ a) b (by rfl) (by rfl) how htb (by simp; omega) hsz ?_)
          intro v' w2 hown' hgrow
          go_wp2
          refine ⟨⟨.inr (.inr ⟨rfl, by simpa using hown'⟩), hbl.grown hgrow hbl.size (fun k hk => (how.lt k hk).1)⟩, by simp [intOf]⟩
        · go_wp2
          go_ret
          exact ⟨_, rfl, by simpa using how, hbl⟩

/-- A path beside another one. -/
def mergeL (base : List (List UInt8)) (l : List UInt8) : List (List UInt8) := normL (base.dropLast ++ pathSplit l)

set_option maxHeartbeats 4000000 in
set_option maxRecDepth 100000 in
theorem path_Merge_some (b off n cap : Nat) (base : List (List UInt8)) (hlb : base.length = n + 1) (hn : n ≤ 90000) (hall : ∀ x ∈ base, x.length ≤ 1000000) (s : ByteArray) (hs : s.size ≤ 100000) (w : World) (hG : Good w) (hT : Texts w.heap.size w (.slice (some ⟨b, off, none⟩) n cap) base.dropLast) (hnc : n + 1 ≤ cap) :
    Calls Tryd.prog 17 #[.slice (some ⟨b, off, none⟩) (n + 1) cap, .string s] w fun e w' => ∃ v, e = .returned v ∧ w'.ownsRow w.heap.size 9 1 v (mergeL base s.data.toList).length (strs (mergeL base s.data.toList)) ∧ Below w.heap.size w w' := by
  have h1 := path_split_any s (by omega) w.drew hG.drew
  have hw0 : IntKind.i64.wrap (n : Int) = n := by rw [IntKind.wrap_i64]; omega
  have hmx : max (0 : Int) (n : Int) = n := by omega
  have hnn : (0 : Int) ≤ n := by omega
  have hcp : (n : Int) ≤ cap := by omega
  have hsm := pathSplit_small (l := s.data.toList) (by rw [← size_list]; omega)
  have hdl : base.dropLast.length = n := by rw [List.length_dropLast, hlb]; rfl
  unfold mergeL
  generalize pathSplit s.data.toList = L at *
  go_enter Tryd.func17, Tryd.ntmps17
  go_wp2_with fail
  have hall2 : ∀ x ∈ base.dropLast ++ L, x.length ≤ 1000000 := fun x hx => by
    rcases List.mem_append.1 hx with h | h
    · exact hall x ((List.dropLast_sublist base).subset h)
    · exact hsm.2 x h
  have hlen2 : (base.dropLast ++ L).length ≤ 1000000 := by rw [List.length_append]; omega
  have HALL := Lib.hid hall2
  have HLEN := Lib.hid hlen2
  have HSM := Lib.hid hsm
  have HDL := Lib.hid hdl
  clear hall2 hlen2 hall hsm hdl
  go_region_with (first
    | (go_at_call 19; refine h1.mono ?_; rintro e w1 ⟨g, rfl, hrow, hg, hb1⟩; have hbw := (Below.refl w.heap.size w).drew.trans hb1)
    | (go_at_call 30; refine (Concat_two _ _ base.dropLast L (by have := HDL.out; omega) (by have := HSM.out.1; omega) w1.heap.size _ (heap_alloc_new w1 _) ((hT.below (hbw.alloc hbw.size _)).mono (by have := hbw.size; simp; omega)) (texts_row (block_alloc hrow _) (by have := hrow.lt; simp; omega))).mono ?_; rintro e w2 ⟨v2, rfl, ho2, hb2⟩; have hbw2 := below_on (hbw.alloc hbw.size _) (hbw.alloc hbw.size _).size hb2)
    | (go_at_call 15; refine (path_Norm_any v2 (base.dropLast ++ L) HLEN.out HALL.out w2 (texts_own ho2 (Nat.le_refl _)).1 (texts_own ho2 (Nat.le_refl _)).2).mono ?_; rintro e w3 ⟨v3, rfl, ho3, hb3⟩))
  all_goals go_wp2
  all_goals go_ret
  all_goals exact ⟨v3, rfl, ownsRow_mono ho3 hbw2.size, below_on hbw2 hbw2.size hb3⟩

end Go.Proofs.YtcegcjefjclcnaaDoor
