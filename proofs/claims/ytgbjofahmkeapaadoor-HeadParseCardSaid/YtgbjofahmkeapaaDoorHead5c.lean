/- Header fields: Drop of the program and of the reference. -/
import Derived.Test.YtgbjofahmkeapaaDoorHead5b
namespace Go.Proofs.YtgbjofahmkeapaaDoor
open Go.RowKit Go.Proofs.YtgbjofahmkeapaaDoorW.PrintWords

set_option maxHeartbeats 2000000 in
set_option maxRecDepth 100000 in
theorem head_Drop_any (fo : Option Addr) (fcap : Nat) (L : List Fld) (hL : L.length ≤ 1000000) (hfl : ∀ f ∈ L, f.1.length ≤ 1000000 ∧ f.2.length ≤ 1000000) (ao : Option Addr) (cap : Nat) (names : List (List UInt8)) (hN : names.length ≤ 1000000) (hall : ∀ x ∈ names, x.length ≤ 140737488351232)
    (w : World) (hF : FldsAt w.heap.size w fo L) (hT : TextsAt w.heap.size w ao names) :
    Calls Tryd.prog 22 #[.slice fo L.length fcap, .slice ao names.length cap] w fun e w' => ∃ v, e = .returned v ∧ w'.ownsRow w.heap.size 42 2 v (dropL names L).length (flds (dropL names L)) ∧ Below w.heap.size w w' := by
  have hal : Below w.heap.size w (w.alloc (.cells #[.slice ao names.length cap] 23)) := (Below.refl _ _).alloc (Nat.le_refl _) _
  have hcl := cloneF_any fo fcap w.heap.size L hL (w.alloc (.cells #[.slice ao names.length cap] 23)) (by simp) (hF.below hal)
  have hbox := heap_alloc_new w (.cells #[.slice ao names.length cap] 23)
  go_enter Tryd.func22, Tryd.ntmps22
  go_wp2_with fail
  refine hcl.mono ?_
  rintro e w1 ⟨v, rfl, ho, hb1⟩
  have hb2 : Below w.heap.size w w1 := hal.trans (hb1.mono (by simp))
  have hbox1 := block_below hbox hb1 (by simp)
  have hd := delF_any v L hL hfl ao cap w.heap.size names hN hall w.heap.size (w.heap.size + 1) w1 (by rw [World.size_alloc] at ho; exact ho) (by omega) (by omega) (by have := hb1.size; simp at this; omega) (hT.below hb2) (one_cell hbox1).1
  obtain ⟨fa, fc, rfl⟩ := fld_slice ho
  go_wp2_with (first | (go_at_call 41; refine hd.mono ?_; rintro e w2 ⟨v2, rfl, ho2, hb3⟩))
  go_ret
  exact ⟨v2, rfl, row_low ho2 (by omega), hb2.trans (hb3.mono (by omega))⟩

set_option maxHeartbeats 4000000 in
set_option maxRecDepth 100000 in
theorem ref13_Drop_any (fo : Option Addr) (fcap : Nat) (L : List Fld) (hL : L.length ≤ 1000000) (hfl : ∀ f ∈ L, f.1.length ≤ 1000000 ∧ f.2.length ≤ 1000000) (ao : Option Addr) (cap : Nat) (names : List (List UInt8)) (hN : names.length ≤ 1000000) (hall : ∀ x ∈ names, x.length ≤ 140737488351232)
    (w : World) (hF : FldsAt w.heap.size w fo L) (hT : TextsAt w.heap.size w ao names) :
    Calls Tryd.prog 23 #[.slice fo L.length fcap, .slice ao names.length cap] w fun e w' => ∃ v, e = .returned v ∧ w'.ownsRow w.heap.size 42 2 v (dropL names L).length (flds (dropL names L)) ∧ Below w.heap.size w w' := by
  have HF := Lib.hid hF
  have HT := Lib.hid hT
  have HA := Lib.hid hall
  have HL := Lib.hid hfl
  clear hF hT hall hfl
  go_enter Tryd.func23, Tryd.ntmps23
  go_wp2
  go_loopw [5, 6] (fun o i wr => ∃ k : Nat, k ≤ L.length ∧ i = .int .i64 k ∧ wr.ownsRow w.heap.size 42 2 o (dropL names (L.take k)).length (flds (dropL names (L.take k))) ∧ Below w.heap.size w wr) (fun _ i _ => L.length - (intOf i).toNat)
  case atStart => exact ⟨0, by omega, rfl, World.ownsRow_nil _ _ _ _, Below.refl _ _⟩
  case round =>
    obtain ⟨k, hk, rfl, ho, hbl⟩ := hrel
    have hlen : (dropL names (L.take k)).length ≤ k := Nat.le_trans (drop_len _ _) (by rw [List.length_take]; omega)
    by_cases hkl : k < L.length
    · obtain ⟨f, hx⟩ : ∃ f, L[k]? = some f := ⟨_, List.getElem?_eq_getElem hkl⟩
      have hst := Lib.hid (drop_step (names := names) hx)
      obtain ⟨g, off, rfl, hg, hc1, hc2⟩ := HF.out k _ hx
      have hxl := HL.out f (List.mem_of_getElem? hx)
      obtain ⟨a, b⟩ := f
      dsimp only at hst hc1 hc2 hxl
      have HX := Lib.hid hx
      clear hx
      generalize dropL names (L.take k) = X at *
      have HC1 := Lib.hid hc1
      have HC2 := Lib.hid hc2
      clear hc1 hc2
      go_wp2
      go_loopw [7, 8] (fun s q wq => ∃ j : Nat, j ≤ names.length ∧ q = .int .i64 j ∧ s = .bool ((names.take j).any fun s => sameN s a) ∧ wq.ownsRow w.heap.size 42 2 u5 X.length (flds X) ∧ Below w.heap.size w wq) (fun _ q _ => names.length - (intOf q).toNat)
      case atStart => exact ⟨0, by omega, rfl, rfl, ho, hbl⟩
      case round =>
        obtain ⟨j, hj, rfl, rfl, ho1, hbl1⟩ := hrel
        clear ho hbl
        by_cases hjl : j < names.length
        · obtain ⟨x, hjx⟩ : ∃ x, names[j]? = some x := ⟨_, List.getElem?_eq_getElem hjl⟩
          obtain ⟨gn, noff, rfl, hgn, hn1⟩ := HT.out j _ hjx
          have hxx := HA.out x (List.mem_of_getElem? hjx)
          have hany : Hid (((names.take (j + 1)).any fun s => sameN s a) = (((names.take j).any fun s => sameN s a) || sameN x a)) := by
            show _ = _
            rw [List.take_add_one, hjx, List.any_append]; simp
          have hmk : ∀ w', Below wr.heap.size wr w' → (fun w' => Below wr.heap.size wr w' ∧ w'.cell? ⟨g, off + k * 2, none⟩ = some (.string ⟨a.toArray⟩) ∧ w'.cell? ⟨gn, noff + j, none⟩ = some (.string ⟨x.toArray⟩)) w' := fun w' h =>
            ⟨h, ((below_on hbl1 hbl1.size h).cell (p := ⟨g, off + k * 2, none⟩) hg).trans HC1.out, ((below_on hbl1 hbl1.size h).cell (p := ⟨gn, noff + j, none⟩) hgn).trans hn1⟩
          have hcs : ∀ w', Below wr.heap.size wr w' → Calls Tryd.prog 36 #[.string ⟨a.toArray⟩, .string ⟨x.toArray⟩] w' fun e w'' => e = .returned (.bool (sameN x a)) ∧ Below wr.heap.size wr w'' := fun w' h => by
            have := ref1_Same ⟨a.toArray⟩ ⟨x.toArray⟩ (by rw [ba_len]; omega) (by rw [ba_len]; omega) w'
            rw [mk_toList, mk_toList] at this
            refine this.mono ?_
            rintro e w2 ⟨rfl, hb⟩
            exact ⟨by unfold sameN; rw [Bool.beq_comm], below_on h h.size hb⟩
          have hfin : ∀ w', Below wr.heap.size wr w' → w'.ownsRow w.heap.size 42 2 u5 X.length (flds X) ∧ Below w.heap.size w w' := fun w' h => ⟨row_below ho1 h, below_on hbl1 hbl1.size h⟩
          have hkd : Below wr.heap.size wr wr.drew := ⟨rfl, rfl, rfl, Nat.le_refl _, fun _ _ => rfl⟩
          have HJ := Lib.hid hjx
          clear hjx hn1 ho1
          generalize ((names.take j).any fun s => sameN s a) = A at *
          go_wp2_with fail
          go_region_held3 (fun w' => Below wr.heap.size wr w' ∧ w'.cell? ⟨g, off + k * 2, none⟩ = some (.string ⟨a.toArray⟩) ∧ w'.cell? ⟨gn, noff + j, none⟩ = some (.string ⟨x.toArray⟩)) (exact hmk _ (by assumption)) (first | (go_simp; go_at_call 36; refine (hcs _ ?_).mono ?_; (exact And.left (by assumption)); rintro e wm ⟨rfl, hmm⟩))
          all_goals
            obtain ⟨hfo, hfb⟩ := hfin _ (And.left (by assumption))
            cases A <;> (
              go_wp2
              go_roundw
              case rel => exact ⟨j + 1, by omega, by go_num, by rw [hany.out]; rfl, hfo, hfb⟩
              case measure => simp [intOf]; omega)
        · obtain rfl : j = names.length := by omega
          rw [List.take_length]
          have e : (names.any fun s => sameN s a) = goneB names (a, b) := rfl
          rw [e]
          cases hs : goneB names (a, b) with
          | true =>
            have hst' := Lib.hid (hst.out.trans (by rw [hs, if_pos rfl, List.append_nil] : _ = X))
            go_wp2
            go_roundw
            case rel => exact ⟨k + 1, by omega, by go_num, by rw [hst'.out]; exact ho1, hbl1⟩
            case measure => simp [intOf]; omega
          | false =>
            have hst' := Lib.hid (hst.out.trans (by rw [hs]; simp : _ = X ++ [(a, b)]))
            have hcx := (hbl1.cell (p := ⟨g, off + k * 2, none⟩) hg).trans HC1.out
            have hcy := (hbl1.cell (p := ⟨g, off + k * 2 + 1, none⟩) hg).trans HC2.out
            go_wp2_with (at_builtin; refine wpList_appendF rfl _ _ rfl _ w.heap.size wr _ rfl _ X (a, b) (by rfl) (by rfl) ho1 hbl1.size (by omega) ?_)
            intro v' w2 ho2 hg2 _
            replace ho2 : w2.ownsRow w.heap.size 42 2 v' (X ++ [(a, b)]).length (flds (X ++ [(a, b)])) := by rw [List.length_append]; exact ho2
            have hbl2 : Below w.heap.size w w2 := hbl1.grown hg2 hbl1.size fun k hk => row_base ho1 k hk
            obtain ⟨ga, gc, rfl⟩ := fld_slice ho2
            go_wp2
            go_roundw
            case rel => exact ⟨k + 1, by omega, by go_num, by rw [hst'.out]; exact ho2, hbl2⟩
            case measure => simp [intOf]; omega
    · obtain rfl : k = L.length := by omega
      rw [List.take_length] at ho hlen
      go_wp2
      go_ret
      exact ⟨_, rfl, ho, hbl⟩

end Go.Proofs.YtgbjofahmkeapaaDoor
