/- head.Parse, walked: a range over the lines. -/
import Derived.Test.YtgbjofahmkeapaaDoorHead8
import Derived.Test.YtgbjofahmkeapaaDoorHead7
import Derived.Test.YtgbjofahmkeapaaDoorHead3
import Derived.Test.YtgbjofahmkeapaaDoorAny3
import Derived.OwnWalkIn
namespace Go.Proofs.YtgbjofahmkeapaaDoor
open Go.RowKit Go.Shelf Go.Proofs.YtgbjofahmkeapaaDoorW.PrintWords
set_option linter.unusedVariables false
set_option linter.unnecessarySimpa false
attribute [local go_sem] Oper.semAt_some

theorem results_fb {fn : Func} {p q : Tmp} (h : fn.results = #[.cell p 22, .cell q 4]) (tmps : Array Value) {w : World} {b1 b2 : Nat} {v1 v2 : Value} (hp : tmps.getD p undef = .pointer (some ⟨b1, 0, none⟩)) (hq : tmps.getD q undef = .pointer (some ⟨b2, 0, none⟩))
    (c1 : w.cell? ⟨b1, 0, none⟩ = some v1) (c2 : w.cell? ⟨b2, 0, none⟩ = some v2) : (results fn tmps).run Tryd.prog w = .ok (.tuple #[v1, v2]) w := by
  have hp' : tmps[p]?.getD undef = .pointer (some ⟨b1, 0, none⟩) := by simpa using hp
  have hq' : tmps[q]?.getD undef = .pointer (some ⟨b2, 0, none⟩) := by simpa using hq
  simp only [results, h]
  simp [Sem.run_bind, Result.andThen, hp', hq', loadVar, Tryd.isAgg22, Tryd.isAgg4, go_sem, c1, c2]

def fieldOf (x : List UInt8 × Bool) : Option Fld :=
  if x.2 = true ∧ (Lib.cut x.1 [58]).2.2 = true ∧ nameB (Lib.cut x.1 [58]).1 = true ∧ valueB (trim2 (Lib.cut x.1 [58]).2.1) = true then some ((Lib.cut x.1 [58]).1, trim2 (Lib.cut x.1 [58]).2.1) else none
def linesL (raw : List UInt8) : List (List UInt8 × Bool) := upto (lineAt raw) (nl raw)
def parseHd (raw : List UInt8) : List Fld × Bool := if ((linesL raw).all fun x => (fieldOf x).isSome) = true then ((linesL raw).filterMap fieldOf, true) else ([], false)
def fieldC (x : List UInt8 × Bool) : Option Fld := fieldOf (x.1.take 1000000, x.2)
theorem lineAt_len (raw : List UInt8) (k : Nat) : (lineAt raw k).1.length ≤ raw.length := Nat.le_trans (cut_lens _ _).1 (restK_len raw k)
theorem fieldC_line {raw : List UInt8} (hl : raw.length ≤ 1000000) (k : Nat) : fieldC (lineAt raw k) = fieldOf (lineAt raw k) := by
  unfold fieldC
  rw [List.take_of_length_le (Nat.le_trans (lineAt_len raw k) hl)]
theorem upto_mem {α : Type} {f : Nat → α} {n : Nat} {x : α} (h : x ∈ upto f n) : ∃ k, k < n ∧ x = f k := by
  unfold upto at h
  obtain ⟨k, hk, rfl⟩ := List.mem_map.1 h
  exact ⟨k, List.mem_range.1 hk, rfl⟩

theorem filterMap_cong {α β : Type} {f g : α → Option β} : ∀ l : List α, (∀ x ∈ l, f x = g x) → l.filterMap f = l.filterMap g
  | [], _ => rfl
  | a :: l, h => by
    rw [List.filterMap_cons, List.filterMap_cons, h a List.mem_cons_self, filterMap_cong l fun x hx => h x (List.mem_cons_of_mem _ hx)]
theorem trim2_len (l : List UInt8) : (trim2 l).length ≤ l.length := by
  unfold trim2 Lib.trimS Lib.trimLeftS Lib.trimRightS
  have h1 := (List.dropWhile_suffix (p := fun x => blank2.contains x) (l := (l.reverse.dropWhile fun x => blank2.contains x).reverse)).length_le
  have h2 := (List.dropWhile_suffix (p := fun x => blank2.contains x) (l := l.reverse)).length_le
  simp only [List.length_reverse] at h1 h2
  omega
/-- One field appended to a list of one's own, within a round. -/
theorem wpListIn_appendF {F : Fence} {n : Nat} {ops : Array Oper} {rest : List Oper} {o : Oper} {a : Act} {Q : Exit → Act → World → Prop} (hgd : o.guard = none) (s x : Operand)
    (ho : o.op = .call { callee := .builtin .append, args := #[s, x], argTypes := #[22, 22] }) (T : TypeId)
    (B : Nat) (w : World) (N : Nat) (hN : w.heap.size = N) (v : Value) (L : List Fld) (f : Fld) (hs : a.eval s = v) (hx : a.eval x = .slice (some ⟨N, 0, none⟩) 1 1) (hrow : w.ownsRow B 42 2 v L.length (flds L)) (hBw : B ≤ w.heap.size)
    (hl : L.length ≤ 1000000)
    (h : ∀ v' w', w'.ownsRow B 42 2 v' (L ++ [f]).length (flds (L ++ [f])) → w.grownBy w' v.ownBlock → wpListIn F n Tryd.prog ops Q rest (a.put o.dst v') w') :
    wpListIn F n Tryd.prog ops Q (o :: rest) a (w.alloc (.cells #[.string ⟨f.1.toArray⟩, .string ⟨f.2.toArray⟩] T)) := by
  subst hN
  obtain ⟨i0, hi, hz0, hz1, hz2⟩ := info_parts infoFld0
  refine wpListIn_append_own _ hgd s x 22 ho B 42 i0 (.agg #[.string ⟨#[]⟩, .string ⟨#[]⟩]) 2 32 Tryd.underlying22 hi hz0 hz1 hz2 rfl (by decide) v L.length (flds L) hs (hrow.alloc _) ⟨w.heap.size, 0, none⟩ 1 1 (flds [f]) hx (by rw [flds_length]; rfl) (pair_new_at rfl _ _ _) (flds_one _) (by unfold maxLen; omega) (by omega) (by simp; omega) ?_
  intro v' w' h1 h2 _
  have hg : w.grownBy w' v.ownBlock := by
    refine ⟨h2.os, h2.tape, h2.output, Nat.le_trans (by simp) h2.size, fun k hk hr => ?_⟩
    rw [h2.block k (by simp; omega) hr]
    exact Below.heap_alloc _ _ _ hk
  exact h v' w' (by rw [List.length_append, flds_append]; exact h1) hg

/-- The variables of Parse: its results, and the list, in their boxes. -/
structure ParS (b0 c : Nat) (sv : Value) (L : List Fld) (W : World) : Prop where
  r0 : W.heap[b0]? = some (.cells #[.slice none 0 0] 22 (0, 0))
  r1 : W.heap[b0 + 1]? = some (.cells #[.bool false] 4 (0, 0))
  bx : W.heap[b0 + 1 + 1]? = some (.cells #[sv] 22 (0, 0))
  own : W.ownsRow c 42 2 sv L.length (flds L)
theorem row_same {A B : World} {c : Nat} {e : TypeId} {m n : Nat} {v : Value} {xs : List Value} (h : A.ownsRow c e m v n xs) (hs : ∀ g, c ≤ g → g < A.heap.size → B.heap[g]? = A.heap[g]?) : B.ownsRow c e m v n xs := by
  refine ⟨h.1, ?_⟩
  rcases h.2 with h | ⟨g, cap, cur, h1, h2, h3, h4⟩
  · exact .inl h
  · exact .inr ⟨g, cap, cur, h1, h2, (hs g h2 (lt_of_block h3)).trans h3, h4⟩
section
variable {b0 c : Nat} {sv : Value} {L : List Fld} {A B : World}
theorem ParS.quiet (h : ParS b0 c sv L A) (hc : b0 + 1 + 1 + 1 + 1 ≤ c) (hq : QuietT (fun k => k = b0 + 1 + 1 + 1 ∨ (b0 + 1 + 1 + 1 + 1 ≤ k ∧ k < c)) A B) : ParS b0 c sv L B := by
  have key : ∀ {k o}, k < b0 + 1 + 1 + 1 → A.heap[k]? = some o → B.heap[k]? = some o := fun {k o} hk hA => (hq.block k (lt_of_block hA) (fun ht => by rcases ht with ht | ⟨ht, _⟩ <;> omega)).trans hA
  exact ⟨key (by omega) h.r0, key (by omega) h.r1, key (by omega) h.bx, row_same h.own fun g hg hlt => hq.block g hlt (fun ht => by rcases ht with ht | ⟨_, ht⟩ <;> omega)⟩
theorem ParS.below (h : ParS b0 c sv L A) (hb : Below A.heap.size A B) : ParS b0 c sv L B :=
  ⟨block_below h.r0 hb (lt_of_block h.r0), block_below h.r1 hb (lt_of_block h.r1), block_below h.bx hb (lt_of_block h.bx), row_below h.own hb⟩
theorem ParS.grow (h : ParS b0 c sv L A) (hc : b0 + 1 + 1 + 1 + 1 ≤ c) {w2 : World} {v' : Value} {L' : List Fld} (hg : A.grownBy w2 sv.ownBlock) (ho : w2.ownsRow c 42 2 v' L'.length (flds L')) :
    ParS b0 c v' L' (w2.setCell ⟨b0 + 1 + 1, 0, none⟩ v') ∧ w2.cell? ⟨b0 + 1 + 1, 0, none⟩ = some sv ∧ w2.frozen? ⟨b0 + 1 + 1, 0, none⟩ = false ∧
      (∀ k, k < A.heap.size → k ≠ b0 + 1 + 1 → k < c → (w2.setCell ⟨b0 + 1 + 1, 0, none⟩ v').heap[k]? = A.heap[k]?) := by
  have hne : ∀ k, k < c → sv.ownBlock ≠ some k := fun k hk e => by have := row_base h.own k e; omega
  have kp : ∀ {k o}, k < c → A.heap[k]? = some o → w2.heap[k]? = some o := fun {k o} hk hh => by rw [hg.block k (lt_of_block hh) (fun e => hne k hk e.symm)]; exact hh
  have e3 := kp (by omega) h.bx
  refine ⟨⟨block_setCell (kp (by omega) h.r0) _ (by dsimp only; omega) _, block_setCell (kp (by omega) h.r1) _ (by dsimp only; omega) _, ?_, ?_⟩, (one_cell e3).1, (one_cell e3).2, fun k hk h1 h2 => ?_⟩
  · rw [Go.heap_setCell_same w2 _ 0 _ _ _ e3]; rfl
  · refine ho.kept (grown_setCell _ ⟨b0 + 1 + 1, 0, none⟩ v') (.inr fun e => ?_)
    have := row_base ho _ e
    dsimp only at this
    omega
  · rw [Below.heap_setCell _ _ _ _ h1, hg.block k hk (fun e => hne k h2 e.symm)]
end
theorem below_quiet {n : Nat} {T : Nat → Prop} {w A B : World} (h : Below n w A) (hn : n ≤ A.heap.size) (hq : QuietT T A B) (hT : ∀ k, T k → n ≤ k) : Below n w B :=
  h.trans ⟨hq.os, hq.tape, hq.output, hq.size, fun k hk => hq.block k (by omega) (fun ht => by have := hT k ht; omega)⟩
theorem keepsB {w w' : World} (h : Below w.heap.size w w') : KeepsOthers w w' := ⟨h.size, fun k o hk _ => (h.block k (lt_of_block hk)).trans hk⟩
theorem keepsG {w w' : World} {B : Nat} {e : TypeId} {v : Value} {n m : Nat} {xs : List Value} (hg : w.grownBy w' v.ownBlock) (ho : w.ownsRow B e m v n xs) : KeepsOthers w w' := ⟨hg.size, fun k o hk hc => by
  rw [hg.block k (lt_of_block hk) (fun e => ?_)]; · exact hk
  rcases ho.2 with ⟨rfl, _⟩ | ⟨g, cap, cur, rfl, _, hc2, _⟩
  · cases e
  · obtain rfl := Option.some.inj e
    rw [hk] at hc2; obtain rfl := Option.some.inj hc2; cases hc⟩
theorem own_in {B : Nat} {e : TypeId} {m n : Nat} {v : Value} {xs : List Value} {w : World} (ho : w.ownsRow B e m v n xs) {D : Nat} {o : Obj} (hD : w.heap[D]? = some o) (hc : o.isCells = false) (o' : Obj) : (w.putObj D o').ownsRow B e m v n xs := by
  refine ⟨ho.1, ?_⟩
  rcases ho.2 with h | ⟨g, cap, cur, h1, h2, h3, h4⟩
  · exact .inl h
  · refine .inr ⟨g, cap, cur, h1, h2, ?_, h4⟩
    rw [World.putObj_heap_other (fun e => by subst e; rw [h3] at hD; obtain rfl := Option.some.inj hD; cases hc)]; exact h3

set_option maxHeartbeats 8000000 in
set_option maxRecDepth 100000 in
theorem head_Parse_any (raw : List UInt8) (hl : raw.length ≤ 1000000) (w : World) (hG : Good w) :
    Calls Tryd.prog 12 #[.string ⟨raw.toArray⟩] w fun e w' => ∃ v, e = .returned (.tuple #[v, .bool (parseHd raw).2]) ∧ w'.ownsRow w.heap.size 42 2 v (parseHd raw).1.length (flds (parseHd raw).1) ∧ Below w.heap.size w w' := by
  refine (callsIn_wide (n := 6)).1 ?_
  refine callsIn_of_wp_marks Tryd.func12 rfl trivial ?_ rfl
  simp only [Tryd.ntmps12, List.size_toArray, List.length_cons, List.length_nil, Nat.reduceAdd, Nat.reduceSub, Array.replicate_succ, Array.replicate_zero, List.push_toArray, List.append_toArray, List.nil_append, List.cons_append]
  gi_wp2_with (first | (refine ⟨trivial, ?_⟩; gi_at_call 31; refine (head_lines_in _ raw _).mono ?_; rintro e w' ⟨rfl, rfl⟩) | (gi_at_call 31; refine (head_lines_in _ raw _).mono ?_; rintro e w' ⟨rfl, rfl⟩))
  obtain ⟨W0, hW0⟩ : ∃ W0, W0 = ((((w.alloc (.cells #[.slice none 0 0] 22)).alloc (.cells #[.bool false] 4)).alloc (.cells #[.slice none 0 0] 22)).alloc (.cells #[.string ⟨raw.toArray⟩] 9)) := ⟨_, rfl⟩
  have hsz : W0.heap.size = w.heap.size + 1 + 1 + 1 + 1 := by rw [hW0]; simp
  have hB0 : Below w.heap.size w W0 := by rw [hW0]; exact ((((Below.refl _ w).alloc (Nat.le_refl _) _).alloc (by simp) _).alloc (by simp; omega) _).alloc (by simp; omega) _
  have e0 := heap_alloc_new w (.cells #[.slice none 0 0] 22)
  have e1 := heap_alloc_new (w.alloc (.cells #[.slice none 0 0] 22)) (.cells #[.bool false] 4)
  have e2 := heap_alloc_new ((w.alloc (.cells #[.slice none 0 0] 22)).alloc (.cells #[.bool false] 4)) (.cells #[.slice none 0 0] 22)
  have e3 := heap_alloc_new (((w.alloc (.cells #[.slice none 0 0] 22)).alloc (.cells #[.bool false] 4)).alloc (.cells #[.slice none 0 0] 22)) (.cells #[.string ⟨raw.toArray⟩] 9)
  simp only [World.size_alloc] at e1 e2 e3
  rw [← hW0] at e3
  have f0 : W0.heap[w.heap.size]? = some (.cells #[.slice none 0 0] 22 (0, 0)) := by rw [hW0]; exact block_alloc (block_alloc (block_alloc e0 _) _) _
  have f1 : W0.heap[w.heap.size + 1]? = some (.cells #[.bool false] 4 (0, 0)) := by rw [hW0]; exact block_alloc (block_alloc e1 _) _
  have f2 : W0.heap[w.heap.size + 1 + 1]? = some (.cells #[.slice none 0 0] 22 (0, 0)) := by rw [hW0]; exact block_alloc e2 _
  have hgood : ∀ W', Below w.heap.size w W' → Good W' := fun W' h => hG.below h
  rw [← hW0]
  clear hW0 e0 e1 e2
  have hT : ∀ {c : Nat} k, (k = w.heap.size + 1 + 1 + 1 ∨ (W0.heap.size ≤ k ∧ k < c)) → (k = w.heap.size + 1 + 1 + 1 ∨ (w.heap.size + 1 + 1 + 1 + 1 ≤ k ∧ k < c)) := fun {c} k hk => hk.imp id fun ⟨p, q⟩ => ⟨by omega, q⟩
  have hT2 : ∀ {c : Nat} k, (k = w.heap.size + 1 + 1 + 1 ∨ (w.heap.size + 1 + 1 + 1 + 1 ≤ k ∧ k < c)) → w.heap.size ≤ k := fun {c} k hk => by rcases hk with h | ⟨h, _⟩ <;> omega
  refine wpIn_rangeFunc_ownT rfl (by decide) (gf := 56) (lb := #[.pointer (some ⟨w.heap.size + 1 + 1 + 1, 0, none⟩)]) rfl trivial (enters_of Tryd.func56 (by kernel_rfl) rfl)
    (lines_stops _ (by decide) (w.heap.size + 1 + 1 + 1) w.heap.size (by omega) raw hl W0 e3 (by omega) (fun W' h => hgood W' (hB0.trans h))) (fun k hk => by omega) BoxK.trans (fun W l o o' hlw h ho hk => ⟨World.putObj_heap_other (by omega), belowK_b (w := W0) (by omega) W l o o' hlw h ho hk⟩) (Below.refl _ _) (fun _ => rfl)
    (fun _ _ _ _ _ h => h) (fun _ _ _ _ _ h => h)
    (fun c pre W => (∀ x ∈ pre, (fieldC x).isSome = true) ∧ (∃ sv, ParS w.heap.size c sv (pre.filterMap fieldC) W) ∧ Below w.heap.size w W ∧ w.heap.size + 1 + 1 + 1 + 1 ≤ W.heap.size)
    (fun c d pre W => d = .ret ∧ (∃ x ∈ pre, fieldC x = none) ∧ W.heap[w.heap.size]? = some (.cells #[.slice none 0 0] 22 (0, 0)) ∧ W.heap[w.heap.size + 1]? = some (.cells #[.bool false] 4 (0, 0)) ∧ Below w.heap.size w W ∧ w.heap.size + 1 + 1 + 1 + 1 ≤ W.heap.size)
    (fun c s A B ⟨h1, ⟨sv, h2⟩, h3, h4⟩ hc hq => ⟨h1, ⟨sv, h2.quiet (by omega) (hq.wider hT)⟩, below_quiet h3 (by omega) (hq.wider hT) hT2, Nat.le_trans h4 hq.size⟩)
    (fun d c s A B ⟨h1, h2, h3, h4, h5, h6⟩ hc hq => ⟨h1, h2, ((hq.wider hT).block _ (by omega) (fun ht => by rcases ht with ht | ⟨ht, _⟩ <;> omega)).trans h3, ((hq.wider hT).block _ (by omega) (fun ht => by rcases ht with ht | ⟨ht, _⟩ <;> omega)).trans h4, below_quiet h5 (by omega) (hq.wider hT) hT2, Nat.le_trans h6 hq.size⟩)
    (fun c W1 hc hq hcs => ⟨(fun x hx => by cases hx), ⟨.slice none 0 0, (hq.block _ (by omega) (fun ht => by omega)).trans f0, (hq.block _ (by omega) (fun ht => by omega)).trans f1, (hq.block _ (by omega) (fun ht => by omega)).trans f2, World.ownsRow_nil _ _ _ _⟩, below_quiet hB0 (by omega) hq (fun k hk => by omega), Nat.le_trans (by omega) hq.size⟩)
    (fun x => { tmps := #[.string ⟨raw.toArray⟩, undef, .pointer (some ⟨w.heap.size, 0, none⟩), .pointer (some ⟨w.heap.size + 1, 0, none⟩), .pointer (some ⟨w.heap.size + 1 + 1, 0, none⟩), .string ⟨(x.1.take 1000000).toArray⟩, .bool x.2, undef, undef, undef, .string ⟨raw.toArray⟩, .func (.func 56) #[] #[.pointer (some ⟨w.heap.size + 1 + 1 + 1, 0, none⟩)], .string ⟨(x.1.take 1000000).toArray⟩, .bool x.2, undef, undef, undef, undef, undef, undef, undef, undef, undef, undef, undef, undef, undef, undef, undef, undef, undef, undef, undef, undef, undef, undef, undef, undef, undef, undef, undef, undef, undef, undef, undef], defers := [] }) ?assign ?body ?done ?stop
  case assign =>
    intro lp x W K hK
    gi_wp2
    exact hK
  case body =>
    rintro c lp pre x W hc hcW ⟨hall, ⟨sv, hS⟩, hB, hW⟩ hlen
    have hGW := hgood W hB
    have hyl : (x.1.take 1000000).length ≤ 1000000 := by rw [List.length_take]; omega
    have hfx : fieldC x = fieldOf (x.1.take 1000000, x.2) := rfl
    have hLl : (pre.filterMap fieldC).length ≤ 1000000 := by
      have h1 := List.length_filterMap_le fieldC pre
      have h2 : nl raw ≤ raw.length := by
        rcases Nat.lt_or_ge raw.length (nl raw) with h | h
        · exfalso
          have := nl_ne h
          rcases restK_le raw raw.length with h3 | h3
          · have := List.length_pos_iff.2 this; omega
          · exact this h3
        · exact h
      omega
    have happ : Hid ((pre ++ [x]).filterMap fieldC = pre.filterMap fieldC ++ (fieldC x).toList) := by show _ = _; rw [List.filterMap_append]; cases h : fieldC x <;> simp [h]
    have hcut := cut_world ⟨(x.1.take 1000000).toArray⟩ ⟨#[58]⟩ W (by rw [ba_len]; exact hyl) hGW
    rw [mk_toList, show (⟨#[58]⟩ : ByteArray).data.toList = [58] from rfl] at hcut
    have hlens := cut_lens (x.1.take 1000000) [58]
    unfold fieldOf at hfx
    dsimp only at hfx
    generalize x.1.take 1000000 = y at *
    generalize hcu : Lib.cut y [58] = C at *
    obtain ⟨nm, vl, has⟩ := C
    dsimp only at hcut hlens hfx
    have htrim := fun W' => trim_any ⟨vl.toArray⟩ (by rw [ba_len]; omega) W'
    rw [mk_toList] at htrim
    have htl := trim2_len vl
    generalize trim2 vl = v at *
    have hname := fun W' => head_Name_any ⟨nm.toArray⟩ W'
    have hval := fun W' => head_Value_any ⟨v.toArray⟩ (by rw [ba_len]; omega) W'
    rw [mk_toList] at hname hval
    have hd : ∀ m, Below W.heap.size W (W.drewN m) := fun m => ⟨rfl, rfl, rfl, Nat.le_refl _, fun _ _ => rfl⟩
    generalize hpre : pre.filterMap fieldC = L at *
    generalize hxi : x.2 = is at *
    have HF := Lib.hid hfx
    have HALL := Lib.hid hall
    clear hfx hcu hall hpre hxi
    cases is with
    | false =>
      have hnone : fieldC x = none := by rw [HF.out, if_neg]; rintro ⟨h1, h2, h3, h4⟩; exact absurd h1 (by decide)
      gi_wp2_with (first | (refine ⟨trivial, ?_⟩; gi_at_call 32; refine (CallsIn.inRound lp (callsIn_wide.2 hcut)).mono ?_; rintro e W1 ⟨rfl, n1, rfl⟩) | (refine ⟨trivial, ?_⟩; gi_at_call 33; refine (CallsIn.inRound lp (callsIn_wide.2 (htrim _))).mono ?_; rintro e W2 ⟨rfl, hb2⟩; have hb2' : Below W.heap.size W W2 := (hd _).trans hb2; have hSk := hS.below hb2'; obtain ⟨c0, z0⟩ := one_cell hSk.r0; obtain ⟨c1, z1⟩ := one_cell hSk.r1; obtain ⟨c2, z2⟩ := one_cell hSk.bx; have d1 : ∀ v, (W2.setCell ⟨w.heap.size, 0, none⟩ v).cell? ⟨w.heap.size + 1, 0, none⟩ = some (.bool false) := (fun v => (World.cell?_setCell_other _ _ _ _ (by simp)).trans c1); have d2 : ∀ v, (W2.setCell ⟨w.heap.size, 0, none⟩ v).frozen? ⟨w.heap.size + 1, 0, none⟩ = false := (fun v => (World.frozen?_setCell _ _ _ _).trans z1)) | (refine ⟨trivial, ?_⟩))
      have hsz2 : ((W2.setCell ⟨w.heap.size, 0, none⟩ (.slice none 0 0)).setCell ⟨w.heap.size + 1, 0, none⟩ (.bool false)).heap.size = W2.heap.size := by simp
      have hbk := hb2'.size
      refine ⟨(keepsB hb2').trans ((KeepsOthers.setCell _ _ _).trans (KeepsOthers.setCell _ _ _)), ⟨rfl, ⟨x, List.mem_append_right _ List.mem_cons_self, hnone⟩, ?_, ?_, ?_, by omega⟩, by omega⟩
      · refine block_setCell ?_ _ (by dsimp only; omega) _
        rw [Go.heap_setCell_same _ _ 0 _ _ _ hSk.r0]; rfl
      · rw [Go.heap_setCell_same _ _ 0 _ _ _ (block_setCell hSk.r1 _ (by dsimp only; omega) _)]; rfl
      · exact (((below_on hB (by omega) (hb2'.mono (Nat.le_refl _))).setCell (p := ⟨w.heap.size, 0, none⟩) (Nat.le_refl _) _).setCell (p := ⟨w.heap.size + 1, 0, none⟩) (by dsimp only; omega) _)
    | true =>
      cases has with
      | false =>
        have hnone : fieldC x = none := by rw [HF.out, if_neg]; rintro ⟨h1, h2, h3, h4⟩; exact absurd h2 (by decide)
        gi_wp2_with (first | (refine ⟨trivial, ?_⟩; gi_at_call 32; refine (CallsIn.inRound lp (callsIn_wide.2 hcut)).mono ?_; rintro e W1 ⟨rfl, n1, rfl⟩) | (refine ⟨trivial, ?_⟩; gi_at_call 33; refine (CallsIn.inRound lp (callsIn_wide.2 (htrim _))).mono ?_; rintro e W2 ⟨rfl, hb2⟩; have hb2' : Below W.heap.size W W2 := (hd _).trans hb2; have hSk := hS.below hb2'; obtain ⟨c0, z0⟩ := one_cell hSk.r0; obtain ⟨c1, z1⟩ := one_cell hSk.r1; obtain ⟨c2, z2⟩ := one_cell hSk.bx; have d1 : ∀ v, (W2.setCell ⟨w.heap.size, 0, none⟩ v).cell? ⟨w.heap.size + 1, 0, none⟩ = some (.bool false) := (fun v => (World.cell?_setCell_other _ _ _ _ (by simp)).trans c1); have d2 : ∀ v, (W2.setCell ⟨w.heap.size, 0, none⟩ v).frozen? ⟨w.heap.size + 1, 0, none⟩ = false := (fun v => (World.frozen?_setCell _ _ _ _).trans z1)) | (refine ⟨trivial, ?_⟩))
        have hsz2 : ((W2.setCell ⟨w.heap.size, 0, none⟩ (.slice none 0 0)).setCell ⟨w.heap.size + 1, 0, none⟩ (.bool false)).heap.size = W2.heap.size := by simp
        have hbk := hb2'.size
        refine ⟨(keepsB hb2').trans ((KeepsOthers.setCell _ _ _).trans (KeepsOthers.setCell _ _ _)), ⟨rfl, ⟨x, List.mem_append_right _ List.mem_cons_self, hnone⟩, ?_, ?_, ?_, by omega⟩, by omega⟩
        · refine block_setCell ?_ _ (by dsimp only; omega) _
          rw [Go.heap_setCell_same _ _ 0 _ _ _ hSk.r0]; rfl
        · rw [Go.heap_setCell_same _ _ 0 _ _ _ (block_setCell hSk.r1 _ (by dsimp only; omega) _)]; rfl
        · exact (((below_on hB (by omega) (hb2'.mono (Nat.le_refl _))).setCell (p := ⟨w.heap.size, 0, none⟩) (Nat.le_refl _) _).setCell (p := ⟨w.heap.size + 1, 0, none⟩) (by dsimp only; omega) _)
      | true =>
        cases hnb : nameB nm with
        | false =>
          rw [hnb] at hname
          have hnone : fieldC x = none := by rw [HF.out, if_neg]; rintro ⟨h1, h2, h3, h4⟩; rw [hnb] at h3; exact absurd h3 (by decide)
          gi_wp2_with (first | (refine ⟨trivial, ?_⟩; gi_at_call 32; refine (CallsIn.inRound lp (callsIn_wide.2 hcut)).mono ?_; rintro e W1 ⟨rfl, n1, rfl⟩) | (refine ⟨trivial, ?_⟩; gi_at_call 33; refine (CallsIn.inRound lp (callsIn_wide.2 (htrim _))).mono ?_; rintro e W2 ⟨rfl, hb2⟩; have hb2' : Below W.heap.size W W2 := (hd _).trans hb2) | (refine ⟨trivial, ?_⟩; gi_at_call 27; refine (CallsIn.inRound lp (callsIn_wide.2 (hname _))).mono ?_; rintro e W3 ⟨rfl, hb3⟩; have hb3' := below_on hb2' hb2'.size hb3; have hSk := hS.below hb3'; obtain ⟨c0, z0⟩ := one_cell hSk.r0; obtain ⟨c1, z1⟩ := one_cell hSk.r1; obtain ⟨c2, z2⟩ := one_cell hSk.bx; have d1 : ∀ v, (W3.setCell ⟨w.heap.size, 0, none⟩ v).cell? ⟨w.heap.size + 1, 0, none⟩ = some (.bool false) := (fun v => (World.cell?_setCell_other _ _ _ _ (by simp)).trans c1); have d2 : ∀ v, (W3.setCell ⟨w.heap.size, 0, none⟩ v).frozen? ⟨w.heap.size + 1, 0, none⟩ = false := (fun v => (World.frozen?_setCell _ _ _ _).trans z1)) | (refine ⟨trivial, ?_⟩))
          have hsz2 : ((W3.setCell ⟨w.heap.size, 0, none⟩ (.slice none 0 0)).setCell ⟨w.heap.size + 1, 0, none⟩ (.bool false)).heap.size = W3.heap.size := by simp
          have hbk := hb3'.size
          refine ⟨(keepsB hb3').trans ((KeepsOthers.setCell _ _ _).trans (KeepsOthers.setCell _ _ _)), ⟨rfl, ⟨x, List.mem_append_right _ List.mem_cons_self, hnone⟩, ?_, ?_, ?_, by omega⟩, by omega⟩
          · refine block_setCell ?_ _ (by dsimp only; omega) _
            rw [Go.heap_setCell_same _ _ 0 _ _ _ hSk.r0]; rfl
          · rw [Go.heap_setCell_same _ _ 0 _ _ _ (block_setCell hSk.r1 _ (by dsimp only; omega) _)]; rfl
          · exact (((below_on hB (by omega) (hb3'.mono (Nat.le_refl _))).setCell (p := ⟨w.heap.size, 0, none⟩) (Nat.le_refl _) _).setCell (p := ⟨w.heap.size + 1, 0, none⟩) (by dsimp only; omega) _)
        | true =>
          rw [hnb] at hname
          cases hvb : valueB v with
          | false =>
            rw [hvb] at hval
            have hnone : fieldC x = none := by rw [HF.out, if_neg]; rintro ⟨h1, h2, h3, h4⟩; rw [hvb] at h4; exact absurd h4 (by decide)
            gi_wp2_with (first | (refine ⟨trivial, ?_⟩; gi_at_call 32; refine (CallsIn.inRound lp (callsIn_wide.2 hcut)).mono ?_; rintro e W1 ⟨rfl, n1, rfl⟩) | (refine ⟨trivial, ?_⟩; gi_at_call 33; refine (CallsIn.inRound lp (callsIn_wide.2 (htrim _))).mono ?_; rintro e W2 ⟨rfl, hb2⟩; have hb2' : Below W.heap.size W W2 := (hd _).trans hb2) | (refine ⟨trivial, ?_⟩; gi_at_call 27; refine (CallsIn.inRound lp (callsIn_wide.2 (hname _))).mono ?_; rintro e W3 ⟨rfl, hb3⟩; have hb3' := below_on hb2' hb2'.size hb3) | (refine ⟨trivial, ?_⟩; gi_at_call 28; refine (CallsIn.inRound lp (callsIn_wide.2 (hval _))).mono ?_; rintro e W4 ⟨rfl, hb4⟩; have hb4' := below_on hb3' hb3'.size hb4; have hSk := hS.below hb4'; obtain ⟨c0, z0⟩ := one_cell hSk.r0; obtain ⟨c1, z1⟩ := one_cell hSk.r1; obtain ⟨c2, z2⟩ := one_cell hSk.bx; have d1 : ∀ v, (W4.setCell ⟨w.heap.size, 0, none⟩ v).cell? ⟨w.heap.size + 1, 0, none⟩ = some (.bool false) := (fun v => (World.cell?_setCell_other _ _ _ _ (by simp)).trans c1); have d2 : ∀ v, (W4.setCell ⟨w.heap.size, 0, none⟩ v).frozen? ⟨w.heap.size + 1, 0, none⟩ = false := (fun v => (World.frozen?_setCell _ _ _ _).trans z1)) | (refine ⟨trivial, ?_⟩))
            have hsz2 : ((W4.setCell ⟨w.heap.size, 0, none⟩ (.slice none 0 0)).setCell ⟨w.heap.size + 1, 0, none⟩ (.bool false)).heap.size = W4.heap.size := by simp
            have hbk := hb4'.size
            refine ⟨(keepsB hb4').trans ((KeepsOthers.setCell _ _ _).trans (KeepsOthers.setCell _ _ _)), ⟨rfl, ⟨x, List.mem_append_right _ List.mem_cons_self, hnone⟩, ?_, ?_, ?_, by omega⟩, by omega⟩
            · refine block_setCell ?_ _ (by dsimp only; omega) _
              rw [Go.heap_setCell_same _ _ 0 _ _ _ hSk.r0]; rfl
            · rw [Go.heap_setCell_same _ _ 0 _ _ _ (block_setCell hSk.r1 _ (by dsimp only; omega) _)]; rfl
            · exact (((below_on hB (by omega) (hb4'.mono (Nat.le_refl _))).setCell (p := ⟨w.heap.size, 0, none⟩) (Nat.le_refl _) _).setCell (p := ⟨w.heap.size + 1, 0, none⟩) (by dsimp only; omega) _)
          | true =>
            rw [hvb] at hval
            have hsome : fieldC x = some (nm, v) := by rw [HF.out, if_pos ⟨rfl, rfl, hnb, hvb⟩]
            gi_wp2_with (first | (refine ⟨trivial, ?_⟩; gi_at_call 32; refine (CallsIn.inRound lp (callsIn_wide.2 hcut)).mono ?_; rintro e W1 ⟨rfl, n1, rfl⟩) | (refine ⟨trivial, ?_⟩; gi_at_call 33; refine (CallsIn.inRound lp (callsIn_wide.2 (htrim _))).mono ?_; rintro e W2 ⟨rfl, hb2⟩; have hb2' : Below W.heap.size W W2 := (hd _).trans hb2) | (refine ⟨trivial, ?_⟩; gi_at_call 27; refine (CallsIn.inRound lp (callsIn_wide.2 (hname _))).mono ?_; rintro e W3 ⟨rfl, hb3⟩; have hb3' := below_on hb2' hb2'.size hb3) | (refine ⟨trivial, ?_⟩; gi_at_call 28; refine (CallsIn.inRound lp (callsIn_wide.2 (hval _))).mono ?_; rintro e W4 ⟨rfl, hb4⟩; have hb4' := below_on hb3' hb3'.size hb4; have hSk := hS.below hb4'; obtain ⟨c0, z0⟩ := one_cell hSk.r0; obtain ⟨c1, z1⟩ := one_cell hSk.r1; obtain ⟨c2, z2⟩ := one_cell hSk.bx; have d1 : ∀ v, (W4.setCell ⟨w.heap.size, 0, none⟩ v).cell? ⟨w.heap.size + 1, 0, none⟩ = some (.bool false) := (fun v => (World.cell?_setCell_other _ _ _ _ (by simp)).trans c1); have d2 : ∀ v, (W4.setCell ⟨w.heap.size, 0, none⟩ v).frozen? ⟨w.heap.size + 1, 0, none⟩ = false := (fun v => (World.frozen?_setCell _ _ _ _).trans z1)) | (gi_at_builtin; refine wpListIn_appendF rfl _ _ rfl _ c W4 _ rfl _ L (nm, v) (by rfl) (by rfl) hSk.own (by have := hb4'.size; omega) hLl ?_; intro v' W5 ho5 hg5; obtain ⟨hp5, q2, y2, hoth⟩ := hSk.grow (by omega) hg5 ho5; obtain ⟨ga, gc, rfl⟩ : ∃ ga gc, v' = .slice ga (L.length + 1) gc := (by obtain ⟨a, c, h⟩ := fld_slice ho5; exact ⟨a, c, by rw [h]; simp⟩)))
            have hk4 := hb4'.size
            have hg5s := hg5.size
            have hsz2 : (W5.setCell ⟨w.heap.size + 1 + 1, 0, none⟩ (.slice ga (L.length + 1) gc)).heap.size = W5.heap.size := by simp
            refine ⟨(keepsB hb4').trans ((keepsG hg5 hSk.own).trans (KeepsOthers.setCell _ _ _)), ⟨?_, ?_⟩, ⟨?_, ⟨.slice ga (L.length + 1) gc, ?_⟩, ?_, by omega⟩, by omega⟩
            · rw [hoth _ (by omega) (by omega) (by omega), hb4'.block _ (by omega)]
            · exact (hb4'.mono (by omega)).trans ⟨hg5.os, hg5.tape, hg5.output, by rw [hsz2]; exact hg5s, fun k hk => hoth k (by omega) (by omega) (by omega)⟩
            · intro z hz
              rcases List.mem_append.1 hz with hz | hz
              · exact HALL.out z hz
              · obtain rfl := List.mem_singleton.1 hz
                rw [hsome]; rfl
            · rw [happ.out, hsome]; exact hp5
            · exact (below_on hB (by omega) hb4').trans ⟨hg5.os, hg5.tape, hg5.output, by rw [hsz2]; exact hg5s, fun k hk => hoth k (by omega) (by omega) (by omega)⟩
  case done =>
    rintro D c ys W hD hc rfl ⟨hall, ⟨sv, hS⟩, hB, hW⟩ hK
    have hres : parseHd raw = ((upto (lineAt raw) (nl raw)).filterMap fieldC, true) := by
      have e : (upto (lineAt raw) (nl raw)).filterMap fieldC = (upto (lineAt raw) (nl raw)).filterMap fieldOf := by
        refine filterMap_cong _ fun x hx => ?_
        obtain ⟨k, _, rfl⟩ := upto_mem hx
        exact fieldC_line hl k
      unfold parseHd linesL
      rw [if_pos, e]
      refine List.all_eq_true.2 fun x hx => ?_
      have := hall x hx
      obtain ⟨k, _, rfl⟩ := upto_mem hx
      rwa [fieldC_line hl] at this
    generalize (upto (lineAt raw) (nl raw)).filterMap fieldC = L at *
    have HR := Lib.hid hres
    clear hres hall
    obtain ⟨ga, gc, rfl⟩ := fld_slice hS.own
    obtain ⟨c0, z0⟩ := one_cell hS.r0
    obtain ⟨c1, z1⟩ := one_cell hS.r1
    obtain ⟨c2, z2⟩ := one_cell hS.bx
    have d1 : ∀ v, (W.setCell ⟨w.heap.size, 0, none⟩ v).cell? ⟨w.heap.size + 1, 0, none⟩ = some (.bool false) := fun v => (World.cell?_setCell_other _ _ _ _ (by simp)).trans c1
    have d2 : ∀ v, (W.setCell ⟨w.heap.size, 0, none⟩ v).frozen? ⟨w.heap.size + 1, 0, none⟩ = false := fun v => (World.frozen?_setCell _ _ _ _).trans z1
    gi_wp2
    have hK2 : ((W.setCell ⟨w.heap.size, 0, none⟩ (.slice ga L.length gc)).setCell ⟨w.heap.size + 1, 0, none⟩ (.bool true)).heap[D]? = some (.deferred (some [])) := block_setCell (block_setCell hK _ (by dsimp only; omega) _) _ (by dsimp only; omega) _
    refine ⟨by simp, .inl ⟨_, _, rfl, run_takeDeferred hK2, ?_⟩⟩
    have g0 : ((W.setCell ⟨w.heap.size, 0, none⟩ (.slice ga L.length gc)).setCell ⟨w.heap.size + 1, 0, none⟩ (.bool true)).heap[w.heap.size]? = some (.cells #[.slice ga L.length gc] 22 (0, 0)) := by
      refine block_setCell ?_ _ (by dsimp only; omega) _
      rw [Go.heap_setCell_same W _ 0 _ _ _ hS.r0]; rfl
    have g1 : ((W.setCell ⟨w.heap.size, 0, none⟩ (.slice ga L.length gc)).setCell ⟨w.heap.size + 1, 0, none⟩ (.bool true)).heap[w.heap.size + 1]? = some (.cells #[.bool true] 4 (0, 0)) := by
      rw [Go.heap_setCell_same _ _ 0 _ _ _ (block_setCell hS.r1 _ (by dsimp only; omega) _)]; rfl
    have hrow : ((W.setCell ⟨w.heap.size, 0, none⟩ (.slice ga L.length gc)).setCell ⟨w.heap.size + 1, 0, none⟩ (.bool true)).ownsRow c 42 2 (.slice ga L.length gc) L.length (flds L) :=
      row_same hS.own fun g hg hlt => by rw [Below.heap_setCell _ _ _ _ (by dsimp only; omega), Below.heap_setCell _ _ _ _ (by dsimp only; omega)]
    refine ⟨_, results_fb rfl _ rfl rfl (one_cell ((World.putObj_heap_other (by omega)).trans g0)).1 (one_cell ((World.putObj_heap_other (by omega)).trans g1)).1, .slice ga L.length gc, by rw [HR.out], ?_, ?_⟩
    · rw [HR.out]; exact row_low (own_in hrow hK2 rfl _) (by omega)
    · exact ((hB.setCell (p := ⟨w.heap.size, 0, none⟩) (Nat.le_refl _) _).setCell (p := ⟨w.heap.size + 1, 0, none⟩) (by dsimp only; omega) _).trans (belowK_b (w := w) (Nat.le_refl _) _ D _ _ (by omega) hK2 rfl rfl)
  case stop =>
    rintro D c d pre W hD hc ⟨k, hk, rfl⟩ ⟨rfl, ⟨x, hx, hn⟩, h1, h2, hB, hW⟩ hK
    have hres : parseHd raw = ([], false) := by
      unfold parseHd linesL
      rw [if_neg]
      intro hall
      obtain ⟨j, hj, rfl⟩ := upto_mem hx
      rw [fieldC_line hl] at hn
      have := List.all_eq_true.1 hall (lineAt raw j) (List.mem_map.2 ⟨j, List.mem_range.2 (by omega), rfl⟩)
      rw [hn] at this
      exact Bool.noConfusion this
    have HR := Lib.hid hres
    clear hres hn
    gi_wp2
    refine ⟨by simp, .inl ⟨_, _, rfl, run_takeDeferred hK, ?_⟩⟩
    refine ⟨_, results_fb rfl _ rfl rfl (one_cell ((World.putObj_heap_other (by omega)).trans h1)).1 (one_cell ((World.putObj_heap_other (by omega)).trans h2)).1, .slice none 0 0, by rw [HR.out], ?_, ?_⟩
    · rw [HR.out]; exact World.ownsRow_nil _ _ _ _
    · exact hB.trans (belowK_b (w := w) (Nat.le_refl _) W D _ _ (by omega) hK rfl rfl)

end Go.Proofs.YtgbjofahmkeapaaDoor
