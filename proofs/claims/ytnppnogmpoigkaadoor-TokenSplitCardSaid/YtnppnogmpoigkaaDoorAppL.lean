/- Lists appended as a whole; two lists of texts compared. -/
import Derived.Test.YtnppnogmpoigkaaDoorFlds
import Derived.Test.YtnppnogmpoigkaaDoorGood
import Derived.Test.YtnppnogmpoigkaaDoorShelf
import Derived.Laws.AppendOwnNone
namespace Go.Proofs.YtnppnogmpoigkaaDoor
open Go.RowKit Go.Proofs.YtnppnogmpoigkaaDoorW.PrintWords

theorem own_below {w w' : World} {B : Nat} {e : TypeId} {v : Value} {m n : Nat} {xs : List Value} (ho : w.ownsRow B e m v n xs) (hB : B ≤ w.heap.size) (hg : w.grownBy w' v.ownBlock) : Below B w w' :=
  ⟨hg.os, hg.tape, hg.output, hg.size, fun k hk => hg.block k (by omega) (fun e => by
    rcases ho.2 with ⟨rfl, _⟩ | ⟨g, cap, cur, rfl, hbg, _⟩
    · cases e
    · obtain rfl := Option.some.inj e
      omega)⟩
theorem flds_cell {w : World} {b off : Nat} {l : List Fld} (hc : ∀ j f, l[j]? = some f → w.cell? ⟨b, off + j * 2, none⟩ = some (.string ⟨f.1.toArray⟩) ∧ w.cell? ⟨b, off + j * 2 + 1, none⟩ = some (.string ⟨f.2.toArray⟩))
    (j : Nat) (u : Value) (hu : (flds l)[j]? = some u) : w.cell? ((⟨b, off, none⟩ : Addr).add j) = some u := by
  rw [Go.WideShapes.add_plain]
  have hj : j < l.length * 2 := by rw [← flds_length]; exact (List.getElem?_eq_some_iff.1 hu).1
  have hk : j / 2 < l.length := by omega
  have hf : l[j / 2]? = some l[j / 2] := List.getElem?_eq_getElem hk
  obtain ⟨f1, f2⟩ := flds_get l (j / 2) _ hf
  obtain ⟨c1, c2⟩ := hc (j / 2) _ hf
  rcases Nat.mod_two_eq_zero_or_one j with hm | hm
  · have e : j / 2 * 2 = j := by omega
    rw [e] at f1 c1
    rw [hu] at f1
    rw [c1, ← f1]
  · have e : j / 2 * 2 + 1 = j := by omega
    rw [e] at f2
    rw [Nat.add_assoc, e] at c2
    rw [hu] at f2
    rw [c2, ← f2]
/-- A list of fields appended to a list of one's own. -/
theorem wpList_appendFs {ops : Array Oper} {rest : List Oper} {o : Oper} {a : Act} {Q : Exit → Act → World → Prop} (hgd : o.guard = none) (s x : Operand)
    (ho : o.op = .call { callee := .builtin .append, args := #[s, x], argTypes := #[22, 22] })
    (B : Nat) (w : World) (v : Value) (L l : List Fld) (sv : Value) (hs : a.eval s = v) (hx : a.eval x = sv) (hsv : Flds w.heap.size w sv l) (hrow : w.ownsRow B 38 2 v L.length (flds L)) (hB : B ≤ w.heap.size)
    (hl : L.length + l.length ≤ 1000000)
    (h : ∀ v' w', w'.ownsRow B 38 2 v' (L ++ l).length (flds (L ++ l)) → Below B w w' → wpList Tryd.prog ops Q rest (a.put o.dst v') w') :
    wpList Tryd.prog ops Q (o :: rest) a w := by
  obtain ⟨i0, hi, hz0, hz1, hz2⟩ := info_parts infoFld0
  rcases hsv with ⟨rfl, rfl⟩ | ⟨b, off, cap, rfl, hb, hc⟩
  · exact wpList_append_own_none hgd s x 22 ho B 38 i0 2 Tryd.underlying22 hi v L.length (flds L) hs hrow hx (h v w (by rw [List.append_nil]; exact hrow) (Below.refl _ _))
  · refine wpList_append_own_at _ hgd s x 22 ho B 38 i0 (.agg #[.string ⟨#[]⟩, .string ⟨#[]⟩]) 2 32 Tryd.underlying22 hi hz0 hz1 hz2 rfl (by decide) v L.length (flds L) hs hrow ⟨b, off, none⟩ l.length cap (flds l) hx (flds_length l) (flds_cell hc) (flds_one _) (by unfold maxLen; omega) (by omega) hB ?_
    intro v' w' h1 h2 _ _
    exact h v' w' (by rw [List.length_append, flds_append]; exact h1) (own_below hrow hB h2)
/-- A list of texts appended to a list of one's own. -/
theorem wpList_appendTs {ops : Array Oper} {rest : List Oper} {o : Oper} {a : Act} {Q : Exit → Act → World → Prop} (hgd : o.guard = none) (s x : Operand)
    (ho : o.op = .call { callee := .builtin .append, args := #[s, x], argTypes := #[26, 26] })
    (B : Nat) (w : World) (v : Value) (L l : List (List UInt8)) (sv : Value) (hs : a.eval s = v) (hx : a.eval x = sv) (hsv : Texts w.heap.size w sv l) (hrow : w.ownsRow B 9 1 v L.length (strs L)) (hB : B ≤ w.heap.size)
    (hl : L.length + l.length ≤ 1000000)
    (h : ∀ v' w', w'.ownsRow B 9 1 v' (L ++ l).length (strs (L ++ l)) → Below B w w' → wpList Tryd.prog ops Q rest (a.put o.dst v') w') :
    wpList Tryd.prog ops Q (o :: rest) a w := by
  obtain ⟨i0, hi, hz0, hz1, hz2⟩ := info_parts infoStr0
  rcases hsv with ⟨rfl, rfl⟩ | ⟨b, off, cap, rfl, hb, hc⟩
  · exact wpList_append_own_none hgd s x 26 ho B 9 i0 1 Tryd.underlying26 hi v L.length (strs L) hs hrow hx (h v w (by rw [List.append_nil]; exact hrow) (Below.refl _ _))
  · refine wpList_append_own_at _ hgd s x 26 ho B 9 i0 (.string ⟨#[]⟩) 1 16 Tryd.underlying26 hi hz0 hz1 hz2 rfl (by decide) v L.length (strs L) hs hrow ⟨b, off, none⟩ l.length cap (strs l) hx (by rw [strs_length, Nat.mul_one]) ?_ (fun u hu => by obtain ⟨x, _, rfl⟩ := List.mem_map.1 hu; rfl) (by unfold maxLen; omega) (by omega) hB ?_
    · intro j u hu
      unfold strs at hu
      rw [List.getElem?_map] at hu
      obtain ⟨y, hy, rfl⟩ := Option.map_eq_some_iff.1 hu
      rw [Go.WideShapes.add_plain]
      exact hc j y hy
    · intro v' w' h1 h2 _ _
      exact h v' w' (by rw [List.length_append, strs_append]; exact h1) (own_below hrow hB h2)

set_option maxHeartbeats 4000000 in
set_option maxRecDepth 100000 in
theorem ref08_Same (va vb : Value) (a b : List (List UInt8)) (hla : a.length ≤ 1000000) (hlb : b.length ≤ 1000000) (w : World) (ha : Texts w.heap.size w va a) (hb : Texts w.heap.size w vb b) :
    Calls Tryd.prog 11 #[va, vb] w fun e w' => e = .returned (.bool (a == b)) ∧ Below w.heap.size w w' := by
  by_cases hlen : a.length = b.length
  · rcases ha with ⟨rfl, rfl⟩ | ⟨ga, oa, ca, rfl, hga, hca⟩
    · obtain rfl : b = [] := List.eq_nil_of_length_eq_zero hlen.symm
      rcases hb with ⟨rfl, _⟩ | ⟨gb, ob, cb, rfl, hgb, hcb⟩
      · go_enter Tryd.func11, Tryd.ntmps11
        go_wp2
        go_loopw [5] (fun i wr => i = .int .i64 0 ∧ Below w.heap.size w wr) (fun _ _ => 0)
        case atStart => exact ⟨rfl, Below.refl _ _⟩
        case round =>
          obtain ⟨rfl, hb⟩ := hrel
          go_wp2
          go_ret
          exact ⟨rfl, hb⟩
      · go_enter Tryd.func11, Tryd.ntmps11
        go_wp2
        go_loopw [5] (fun i wr => i = .int .i64 0 ∧ Below w.heap.size w wr) (fun _ _ => 0)
        case atStart => exact ⟨rfl, Below.refl _ _⟩
        case round =>
          obtain ⟨rfl, hb⟩ := hrel
          go_wp2
          go_ret
          exact ⟨rfl, hb⟩
    · rcases hb with ⟨rfl, rfl⟩ | ⟨gb, ob, cb, rfl, hgb, hcb⟩
      · obtain rfl : a = [] := List.eq_nil_of_length_eq_zero hlen
        go_enter Tryd.func11, Tryd.ntmps11
        go_wp2
        go_loopw [5] (fun i wr => i = .int .i64 0 ∧ Below w.heap.size w wr) (fun _ _ => 0)
        case atStart => exact ⟨rfl, Below.refl _ _⟩
        case round =>
          obtain ⟨rfl, hb⟩ := hrel
          go_wp2
          go_ret
          exact ⟨rfl, hb⟩
      · rw [← hlen]
        go_enter Tryd.func11, Tryd.ntmps11
        go_wp2
        go_loopw [5] (fun i wr => ∃ k : Nat, k ≤ a.length ∧ i = .int .i64 k ∧ a.take k = b.take k ∧ Below w.heap.size w wr) (fun i _ => a.length - (intOf i).toNat)
        case atStart => exact ⟨0, by omega, rfl, rfl, Below.refl _ _⟩
        case round =>
          obtain ⟨k, hk, rfl, heq, hbl⟩ := hrel
          by_cases hlt : k < a.length
          · obtain ⟨x, hx⟩ : ∃ x, a[k]? = some x := ⟨_, List.getElem?_eq_getElem hlt⟩
            obtain ⟨y, hy⟩ : ∃ y, b[k]? = some y := ⟨_, List.getElem?_eq_getElem (by omega)⟩
            have c1 : wr.cell? ⟨ga, oa + k, none⟩ = some (.string ⟨x.toArray⟩) := (hbl.cell (p := ⟨ga, oa + k, none⟩) hga).trans (hca k x hx)
            have c2 : wr.cell? ⟨gb, ob + k, none⟩ = some (.string ⟨y.toArray⟩) := (hbl.cell (p := ⟨gb, ob + k, none⟩) hgb).trans (hcb k y hy)
            by_cases hxy : x = y
            · have hs : a.take (k + 1) = b.take (k + 1) := by rw [List.take_add_one, List.take_add_one, hx, hy, heq, hxy]
              have HS := Lib.hid hs
              clear hs hx hy heq hca hcb
              subst hxy
              go_wp2
              go_big_region
              go_wp2
              refine ⟨⟨k + 1, by omega, by go_num, HS.out, hbl.drew⟩, by simp [intOf]; omega⟩
            · have hne : (a == b) = false := beq_eq_false_iff_ne.2 (fun e => hxy (by rw [e, hy] at hx; exact (Option.some.inj hx).symm))
              have hxb : (x == y) = false := beq_eq_false_iff_ne.2 hxy
              have HN := Lib.hid hne
              clear hx hy heq hca hcb hne
              go_wp2
              go_big_region
              go_wp2
              go_ret
              exact ⟨by rw [HN.out]; rfl, hbl.drew⟩
          · obtain rfl : k = a.length := by omega
            rw [List.take_length, hlen, List.take_length] at heq
            have hab : (a == b) = true := by rw [heq]; exact beq_self_eq_true b
            have HN := Lib.hid hab
            clear hab heq
            go_wp2
            go_ret
            exact ⟨by rw [HN.out]; rfl, hbl⟩
  · have hne : (a == b) = false := beq_eq_false_iff_ne.2 (fun e => hlen (by rw [e]))
    have hz : ¬ ((a.length : Int) = b.length) := by omega
    rw [hne]
    clear hne
    rcases ha with ⟨rfl, rfl⟩ | ⟨ga, oa, ca, rfl, hga, hca⟩
    · rcases hb with ⟨rfl, rfl⟩ | ⟨gb, ob, cb, rfl, hgb, hcb⟩
      · exact absurd rfl hlen
      · have hq0 : b.length ≠ 0 := fun e => hlen (by rw [e]; rfl)
        have hq : ((0 : Int) != (b.length : Int)) = true := by rw [bne_iff_ne]; omega
        clear hz hlen
        go_enter Tryd.func11, Tryd.ntmps11
        go_wp2
        go_ret
        exact ⟨rfl, Below.refl _ _⟩
    · rcases hb with ⟨rfl, rfl⟩ | ⟨gb, ob, cb, rfl, hgb, hcb⟩
      · have hq0 : a.length ≠ 0 := fun e => hlen (by rw [e]; rfl)
        have hq : ((a.length : Int) != 0) = true := by rw [bne_iff_ne]; omega
        clear hz hlen
        go_enter Tryd.func11, Tryd.ntmps11
        go_wp2
        go_ret
        exact ⟨rfl, Below.refl _ _⟩
      · have hq : ((a.length : Int) != (b.length : Int)) = true := by rw [bne_iff_ne]; exact hz
        clear hz hlen
        go_enter Tryd.func11, Tryd.ntmps11
        go_wp2
        go_ret
        exact ⟨rfl, Below.refl _ _⟩

end Go.Proofs.YtnppnogmpoigkaaDoor
