/- Header fields: Set of the program and of the reference. -/
import Derived.Test.YtgbjofahmkeapaaDoorHead2
import Derived.Laws.EntriesVeiled
namespace Go.Proofs.YtgbjofahmkeapaaDoor
open Go.RowKit Go.Proofs.YtgbjofahmkeapaaDoorW.PrintWords

def setStep (n v : List UInt8) (x : List Fld × Bool) (f : Fld) : List Fld × Bool := if sameN f.1 n = true then (if x.2 = true then x else (x.1 ++ [(n, v)], true)) else (x.1 ++ [f], x.2)
def setF (n v : List UInt8) (l : List Fld) : List Fld × Bool := l.foldl (setStep n v) ([], false)
def setL (n v : List UInt8) (l : List Fld) : List Fld := if (setF n v l).2 = true then (setF n v l).1 else (setF n v l).1 ++ [(n, v)]
theorem setF_step {n v : List UInt8} {l : List Fld} {k : Nat} {f : Fld} (h : l[k]? = some f) : setF n v (l.take (k + 1)) = setStep n v (setF n v (l.take k)) f := by
  unfold setF
  rw [List.take_add_one, h, List.foldl_append]; rfl
theorem setStep_len (n v : List UInt8) (x : List Fld × Bool) (f : Fld) : (setStep n v x f).1.length ≤ x.1.length + 1 := by
  unfold setStep
  split
  · split <;> simp
  · simp
theorem setF_len' (n v : List UInt8) : ∀ (l : List Fld) (x : List Fld × Bool), (l.foldl (setStep n v) x).1.length ≤ x.1.length + l.length
  | [], x => Nat.le_refl _
  | f :: l, x => by
    have h1 := setStep_len n v x f
    have h2 := setF_len' n v l (setStep n v x f)
    show (l.foldl (setStep n v) (setStep n v x f)).1.length ≤ _
    rw [List.length_cons]; omega
theorem setF_len (n v : List UInt8) (l : List Fld) : (setF n v l).1.length ≤ l.length := by have := setF_len' n v l ([], false); simpa [setF] using this
theorem setF_mem' {n v : List UInt8} {p : Fld → Prop} (hp : p (n, v)) : ∀ (l : List Fld) (x : List Fld × Bool), (∀ f ∈ l, p f) → (∀ f ∈ x.1, p f) → ∀ f ∈ (l.foldl (setStep n v) x).1, p f
  | [], x, _, hx => hx
  | g :: l, x, hl, hx => by
    refine setF_mem' hp l (setStep n v x g) (fun f hf => hl f (List.mem_cons_of_mem _ hf)) fun f hf => ?_
    unfold setStep at hf
    split at hf
    · split at hf
      · exact hx f hf
      · rcases List.mem_append.1 hf with hf | hf
        · exact hx f hf
        · obtain rfl := List.mem_singleton.1 hf; exact hp
    · rcases List.mem_append.1 hf with hf | hf
      · exact hx f hf
      · obtain rfl := List.mem_singleton.1 hf; exact hl f List.mem_cons_self

/-- The variables that Set's closure shares: name, value, whether it is set, and the list. -/
structure SetS (b0 : Nat) (n v : List UInt8) (s : Bool) (sv : Value) (L : List Fld) (w : World) : Prop where
  nm : w.heap[b0]? = some (.cells #[.string ⟨n.toArray⟩] 9 (0, 0))
  vl : w.heap[b0 + 1]? = some (.cells #[.string ⟨v.toArray⟩] 9 (0, 0))
  fl : w.heap[b0 + 1 + 1]? = some (.cells #[.bool s] 4 (0, 0))
  bx : w.heap[b0 + 1 + 1 + 1]? = some (.cells #[sv] 22 (0, 0))
  own : w.ownsRow (b0 + 1 + 1 + 1 + 1) 42 2 sv L.length (flds L)
theorem one_cell {w : World} {b : Nat} {v : Value} {T : TypeId} (h : w.heap[b]? = some (.cells #[v] T (0, 0))) : w.cell? ⟨b, 0, none⟩ = some v ∧ w.frozen? ⟨b, 0, none⟩ = false :=
  ⟨by rw [cell_of_row w b 0 _ _ _ h]; rfl, by simp [World.frozen?, h]⟩
section
variable {b0 : Nat} {n v : List UInt8} {s : Bool} {sv : Value} {L : List Fld} {w : World}
theorem SetS.below (h : SetS b0 n v s sv L w) {w' : World} (hb : Below w.heap.size w w') : SetS b0 n v s sv L w' :=
  ⟨block_below h.nm hb (lt_of_block h.nm), block_below h.vl hb (lt_of_block h.vl), block_below h.fl hb (lt_of_block h.fl), block_below h.bx hb (lt_of_block h.bx), row_below h.own hb⟩
theorem SetS.flag (h : SetS b0 n v s sv L w) (t : Bool) : SetS b0 n v t sv L (w.setCell ⟨b0 + 1 + 1, 0, none⟩ (.bool t)) ∧ Below b0 w (w.setCell ⟨b0 + 1 + 1, 0, none⟩ (.bool t)) := by
  refine ⟨⟨block_setCell h.nm _ (by dsimp only; omega) _, block_setCell h.vl _ (by dsimp only; omega) _, ?_, block_setCell h.bx _ (by dsimp only; omega) _, ?_⟩, (Below.refl _ _).setCell (by dsimp only; omega) _⟩
  · rw [Go.heap_setCell_same w _ 0 _ _ _ h.fl]; rfl
  · refine h.own.kept (grown_setCell _ ⟨b0 + 1 + 1, 0, none⟩ (.bool t)) (.inr fun e => ?_)
    have := row_base h.own _ e
    dsimp only at this
    omega
theorem SetS.grow (h : SetS b0 n v s sv L w) {w2 : World} {v' : Value} {L' : List Fld} (hg : w.grownBy w2 sv.ownBlock) (ho : w2.ownsRow (b0 + 1 + 1 + 1 + 1) 42 2 v' L'.length (flds L')) :
    SetS b0 n v s v' L' (w2.setCell ⟨b0 + 1 + 1 + 1, 0, none⟩ v') ∧ Below b0 w (w2.setCell ⟨b0 + 1 + 1 + 1, 0, none⟩ v') ∧ w2.cell? ⟨b0 + 1 + 1 + 1, 0, none⟩ = some sv ∧ w2.frozen? ⟨b0 + 1 + 1 + 1, 0, none⟩ = false := by
  have hne : ∀ k, k < b0 + 1 + 1 + 1 + 1 → sv.ownBlock ≠ some k := fun k hk e => by have := row_base h.own k e; omega
  have kp : ∀ k o, k < b0 + 1 + 1 + 1 + 1 → w.heap[k]? = some o → w2.heap[k]? = some o := fun k o hk hh => by rw [hg.block k (lt_of_block hh) (fun e => hne k hk e.symm)]; exact hh
  have e3 := kp _ _ (by omega) h.bx
  refine ⟨⟨block_setCell (kp _ _ (by omega) h.nm) _ (by dsimp only; omega) _, block_setCell (kp _ _ (by omega) h.vl) _ (by dsimp only; omega) _, block_setCell (kp _ _ (by omega) h.fl) _ (by dsimp only; omega) _, ?_, ?_⟩, ?_, (one_cell e3).1, (one_cell e3).2⟩
  · rw [Go.heap_setCell_same w2 _ 0 _ _ _ e3]; rfl
  · refine ho.kept (grown_setCell _ ⟨b0 + 1 + 1 + 1, 0, none⟩ v') (.inr fun e => ?_)
    have := row_base ho _ e
    dsimp only at this
    omega
  · have hb : Below b0 w w2 := ⟨hg.os, hg.tape, hg.output, hg.size, fun k hk => by
      rcases Nat.lt_or_ge k w.heap.size with hlt | hge
      · exact hg.block k hlt (fun e => hne k (by omega) e.symm)
      · have := lt_of_block h.nm; omega⟩
    exact hb.setCell (by dsimp only; omega) _
end
theorem row_low {w : World} {B B' : Nat} {e : TypeId} {m n : Nat} {v : Value} {xs : List Value} (h : w.ownsRow B e m v n xs) (hB : B' ≤ B) : w.ownsRow B' e m v n xs := by
  refine ⟨h.1, ?_⟩
  rcases h.2 with h | ⟨g, cap, cur, h1, h2, h3⟩
  · exact .inl h
  · exact .inr ⟨g, cap, cur, h1, by omega, h3⟩
theorem fld_slice {w : World} {B : Nat} {v : Value} {L : List Fld} (h : w.ownsRow B 42 2 v L.length (flds L)) : ∃ a c, v = .slice a L.length c := by
  rcases h.2 with ⟨rfl, h0⟩ | ⟨g, cap, cur, rfl, _⟩
  · exact ⟨none, 0, by rw [h0]⟩
  · exact ⟨_, _, rfl⟩

set_option maxHeartbeats 2000000 in
set_option maxRecDepth 100000 in
theorem Set1_out {b0 : Nat} {n v : List UInt8} {s : Bool} {sv : Value} {L : List Fld} {w : World} (h : SetS b0 n v s sv L w) (hl : L.length ≤ 1000000) (hB : b0 + 1 + 1 + 1 + 1 ≤ w.heap.size) :
    Calls Tryd.prog 37 #[.pointer (some ⟨b0 + 1 + 1, 0, none⟩), .pointer (some ⟨b0 + 1 + 1 + 1, 0, none⟩), .pointer (some ⟨b0, 0, none⟩), .pointer (some ⟨b0 + 1, 0, none⟩)] w fun e w' => e = .returned (.tuple #[]) ∧ ∃ sv', SetS b0 n v true sv' (if s = true then L else L ++ [(n, v)]) w' ∧ Below b0 w w' := by
  obtain ⟨c0, f0⟩ := one_cell h.nm
  obtain ⟨c1, f1⟩ := one_cell h.vl
  obtain ⟨c2, f2⟩ := one_cell h.fl
  obtain ⟨c3, f3⟩ := one_cell h.bx
  cases s with
  | true =>
    have hf := h.flag true
    go_enter Tryd.func37, Tryd.ntmps37
    go_wp2
    go_end0
    exact ⟨rfl, ⟨sv, hf.1⟩, hf.2⟩
  | false =>
    go_enter Tryd.func37, Tryd.ntmps37
    go_wp2_with (at_builtin; refine wpList_appendF rfl _ _ rfl _ (b0 + 1 + 1 + 1 + 1) w _ rfl _ L (n, v) (by rfl) (by rfl) h.own hB hl ?_)
    intro v' w2 ho hg _
    replace ho : w2.ownsRow (b0 + 1 + 1 + 1 + 1) 42 2 v' (L ++ [(n, v)]).length (flds (L ++ [(n, v)])) := by rw [List.length_append]; exact ho
    obtain ⟨hs, hb, d3, e3⟩ := h.grow hg ho
    obtain ⟨ga, gc, rfl⟩ : ∃ ga gc, v' = .slice ga (L.length + 1) gc := by
      obtain ⟨a, c, h⟩ := fld_slice ho
      exact ⟨a, c, by rw [h]; simp⟩
    obtain ⟨d2, e2⟩ := one_cell hs.fl
    have hf := hs.flag true
    have hbb := hb.trans hf.2
    go_wp2
    go_end0
    exact ⟨rfl, ⟨_, hf.1⟩, hbb⟩

set_option maxHeartbeats 4000000 in
set_option maxRecDepth 100000 in
theorem head_Set_any (ao : Option Addr) (cap : Nat) (L : List Fld) (hL : L.length ≤ 999999) (hall : ∀ f ∈ L, f.1.length ≤ 1000000 ∧ f.2.length ≤ 1000000) (n v : List UInt8) (hn : n.length ≤ 1000000) (w : World) (hc : FldsAt w.heap.size w ao L) :
    Calls Tryd.prog 20 #[.slice ao L.length cap, .string ⟨n.toArray⟩, .string ⟨v.toArray⟩] w fun e w' => ∃ sv, e = .returned sv ∧ w'.ownsRow w.heap.size 42 2 sv (setL n v L).length (flds (setL n v L)) ∧ Below w.heap.size w w' := by
  have HC := Lib.hid hc
  have HA := Lib.hid hall
  clear hc hall
  go_enter Tryd.func20, Tryd.ntmps20
  go_wp2
  obtain ⟨W0, hW0⟩ : ∃ W0, W0 = (((w.alloc (.cells #[.string ⟨n.toArray⟩] 9)).alloc (.cells #[.string ⟨v.toArray⟩] 9)).alloc (.cells #[.bool false] 4)).alloc (.cells #[.slice none 0 0] 22) := ⟨_, rfl⟩
  have hS0 : SetS w.heap.size n v (setF n v (L.take 0)).2 (.slice none 0 0) (setF n v (L.take 0)).1 W0 := by
    have e1 := heap_alloc_new w (.cells #[.string ⟨n.toArray⟩] 9)
    have e2 := heap_alloc_new (w.alloc (.cells #[.string ⟨n.toArray⟩] 9)) (.cells #[.string ⟨v.toArray⟩] 9)
    have e3 := heap_alloc_new ((w.alloc (.cells #[.string ⟨n.toArray⟩] 9)).alloc (.cells #[.string ⟨v.toArray⟩] 9)) (.cells #[.bool false] 4)
    have e4 := heap_alloc_new (((w.alloc (.cells #[.string ⟨n.toArray⟩] 9)).alloc (.cells #[.string ⟨v.toArray⟩] 9)).alloc (.cells #[.bool false] 4)) (.cells #[.slice none 0 0] 22)
    simp only [World.size_alloc] at e2 e3 e4
    rw [hW0]
    exact ⟨block_alloc (block_alloc (block_alloc e1 _) _) _, block_alloc (block_alloc e2 _) _, block_alloc e3 _, e4, World.ownsRow_nil _ _ _ _⟩
  have hB0 : Below w.heap.size w W0 := by rw [hW0]; exact ((((Below.refl _ w).alloc (Nat.le_refl _) _).alloc (by simp) _).alloc (by simp; omega) _).alloc (by simp; omega) _
  have hsz0 : w.heap.size + 1 + 1 + 1 + 1 ≤ W0.heap.size := by rw [hW0]; simp
  rw [← hW0]
  clear hW0
  go_loopw [15] (fun i wr => ∃ (k : Nat) (sv : Value), k ≤ L.length ∧ i = .int .i64 k ∧ SetS w.heap.size n v (setF n v (L.take k)).2 sv (setF n v (L.take k)).1 wr ∧ Below w.heap.size w wr ∧ w.heap.size + 1 + 1 + 1 + 1 ≤ wr.heap.size) (fun i _ => L.length - (intOf i).toNat)
  case atStart => exact ⟨0, _, by omega, rfl, hS0, hB0, hsz0⟩
  case round =>
    obtain ⟨k, sv, hk, rfl, hS, hbl, hsz⟩ := hrel
    clear hS0 hB0 hsz0
    have hlen : (setF n v (L.take k)).1.length ≤ k := Nat.le_trans (setF_len _ _ _) (by rw [List.length_take]; omega)
    by_cases hkl : k < L.length
    · obtain ⟨f, hx⟩ : ∃ f, L[k]? = some f := ⟨_, List.getElem?_eq_getElem hkl⟩
      have hst := Lib.hid (setF_step (n := n) (v := v) hx)
      obtain ⟨g, off, rfl, hg, hc1, hc2⟩ := HC.out k _ hx
      have hcx := (hbl.cell (p := ⟨g, off + k * 2, none⟩) hg).trans hc1
      have hcy := (hbl.cell (p := ⟨g, off + k * 2 + 1, none⟩) hg).trans hc2
      clear hc1 hc2
      have hxl := HA.out f (List.mem_of_getElem? hx)
      obtain ⟨a, b⟩ := f
      dsimp only at hst hcx hcy hxl
      have hcs := fun w1 => ascii_Same_any ⟨a.toArray⟩ ⟨n.toArray⟩ (by rw [ba_len]; omega) (by rw [ba_len]; omega) w1
      rw [mk_toList, mk_toList] at hcs
      have HX := Lib.hid hx
      clear hx
      have e : sameN a n = (lowL a == lowL n) := rfl
      rw [← e] at hcs
      generalize setF n v (L.take k) = X at *
      obtain ⟨X, s⟩ := X
      dsimp only at hS hlen
      have hpair : Below wr.heap.size wr (wr.alloc (.cells #[.string ⟨a.toArray⟩, .string ⟨b.toArray⟩] 42)) := (Below.refl _ _).alloc (Nat.le_refl _) _
      have hS1 := hS.below hpair
      obtain ⟨cn, fn⟩ := one_cell hS1.nm
      cases hs : sameN a n with
      | true =>
        rw [hs] at hcs
        have hst' := Lib.hid (hst.out.trans (by unfold setStep; rw [hs, if_pos rfl] : _ = if s = true then (X, s) else (X ++ [(n, v)], true)))
        go_wp2_with fail
        refine (hcs _).mono ?_
        rintro e w1 ⟨rfl, hb1⟩
        have hb2 : Below wr.heap.size wr w1 := hpair.trans (hb1.mono (by simp))
        have hS2 := hS.below hb2
        have hbl1 := below_on hbl hbl.size hb2
        have hcl := Set1_out hS2 (by omega) (by have := hb2.size; omega)
        go_wp2_with (first | (go_at_call 37; refine hcl.mono ?_; rintro e w2 ⟨rfl, sv', hS3, hb3⟩))
        go_roundw
        case rel =>
          refine ⟨k + 1, sv', by omega, by go_num, ?_, hbl1.trans hb3, by have := hb3.size; have := hb2.size; omega⟩
          rw [hst'.out]
          cases s with
          | true => exact hS3
          | false => exact hS3
        case measure => simp [intOf]; omega
      | false =>
        rw [hs] at hcs
        have hst' := Lib.hid (hst.out.trans (by unfold setStep; rw [hs, if_neg (by decide)] : _ = (X ++ [(a, b)], s)))
        go_wp2_with fail
        refine (hcs _).mono ?_
        rintro e w1 ⟨rfl, hb1⟩
        obtain ⟨hn0, hn1⟩ := pair_cells hb1
        have hb2 : Below wr.heap.size wr w1 := hpair.trans (hb1.mono (by simp))
        have hS2 := hS.below hb2
        have hbl1 := below_on hbl hbl.size hb2
        obtain ⟨c3, f3⟩ := one_cell hS2.bx
        go_wp2_with (at_builtin; refine wpList_appendF rfl _ _ rfl _ (w.heap.size + 1 + 1 + 1 + 1) w1 _ rfl _ X (a, b) (by rfl) (by rfl) hS2.own (by have := hb2.size; omega) (by omega) ?_)
        intro v' w2 ho hg2 _
        replace ho : w2.ownsRow (w.heap.size + 1 + 1 + 1 + 1) 42 2 v' (X ++ [(a, b)]).length (flds (X ++ [(a, b)])) := by rw [List.length_append]; exact ho
        obtain ⟨hs3, hb3, d3, e3⟩ := hS2.grow hg2 ho
        obtain ⟨ga, gc, rfl⟩ : ∃ ga gc, v' = .slice ga (X.length + 1) gc := by
          obtain ⟨a, c, h⟩ := fld_slice ho
          exact ⟨a, c, by rw [h]; simp⟩
        go_wp2
        go_roundw
        case rel =>
          refine ⟨k + 1, .slice ga (X.length + 1) gc, by omega, by go_num, ?_, hbl1.trans hb3, by have := hb3.size; have := hb2.size; omega⟩
          rw [hst'.out]; exact hs3
        case measure => simp [intOf]; omega
    · obtain rfl : k = L.length := by omega
      rw [List.take_length] at hS hlen
      obtain ⟨X, s, hX⟩ : ∃ X s, setF n v L = (X, s) := ⟨_, _, rfl⟩
      rw [hX] at hS hlen
      dsimp only at hS hlen
      have hset := Lib.hid (show setL n v L = if s = true then X else X ++ [(n, v)] by unfold setL; rw [hX])
      clear hX
      have hcl := Set1_out hS (by omega) hsz
      generalize (if s = true then X else X ++ [(n, v)]) = Y at hcl hset
      go_wp2_with (first | (go_at_call 37; refine hcl.mono ?_; rintro e w2 ⟨rfl, sv', hS3, hb3⟩; obtain ⟨c3, f3⟩ := one_cell hS3.bx; obtain ⟨ga, gc, rfl⟩ := fld_slice hS3.own))
      go_ret
      exact ⟨_, rfl, by rw [hset.out]; exact row_low hS3.own (by omega), hbl.trans hb3⟩

end Go.Proofs.YtgbjofahmkeapaaDoor
