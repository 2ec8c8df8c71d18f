/- path.Parse; the laws' own Few and Same. -/
import Derived.Test.YtcegcjefjclcnaaDoorNorm2
import Derived.Test.YtcegcjefjclcnaaDoorPathS
import Derived.BigRegion
namespace Go.Proofs.YtcegcjefjclcnaaDoor
open Go.RowKit Go.Proofs.YtcegcjefjclcnaaDoorW.PrintWords

def parseL (l : List UInt8) : List (List UInt8) := normL (pathSplit l)
theorem ownsRow_mono {w : World} {B B' : Nat} {e : TypeId} {v : Value} {n : Nat} {xs : List Value} (h : w.ownsRow B e 1 v n xs) (hB : B' ≤ B) : w.ownsRow B' e 1 v n xs := by
  refine ⟨h.1, ?_⟩
  rcases h.2 with h | ⟨g, cap, cur, h1, h2, h3⟩
  · exact .inl h
  · exact .inr ⟨g, cap, cur, h1, by omega, h3⟩
theorem pathSplit_small {l : List UInt8} (hl : l.length ≤ 300000) : (pathSplit l).length ≤ 900001 ∧ ∀ x ∈ pathSplit l, x.length ≤ 1000000 := by
  have h1 := trimSlash_len l
  have h2 := encB_len set3 (trimSlash l)
  have h3 : (encode3 (trimSlash l)).length ≤ 900000 := by show (encB set3 (trimSlash l)).length ≤ _; omega
  refine ⟨?_, fun x hx => ?_⟩
  · have := splitOn_length 47 (encode3 (trimSlash l))
    have := List.count_le_length (a := (47 : UInt8)) (l := encode3 (trimSlash l))
    unfold pathSplit; omega
  · have := splitOn_le 47 (encode3 (trimSlash l)) x hx
    omega
theorem texts_row {w : World} {g n₀ : Nat} {L : List (List UInt8)} {cap : Nat} (h : StrRow w g 9 L) (hn : g < n₀) : Texts n₀ w (.slice (some ⟨g, 0, none⟩) L.length cap) L :=
  .inr ⟨g, 0, cap, rfl, hn, fun j x hj => by rw [Nat.zero_add]; exact h.cell hj⟩
theorem texts_own {w : World} {B n₀ : Nat} {v : Value} {L : List (List UInt8)} (h : w.ownsRow B 9 1 v L.length (strs L)) (hn : w.heap.size ≤ n₀) : Texts n₀ w v L ∧ v.oneCell' = true := by
  rcases h.2 with ⟨rfl, h0⟩ | ⟨g, cap, cur, rfl, hg, hc, hr⟩
  · exact ⟨.inl ⟨rfl, List.eq_nil_of_length_eq_zero h0⟩, rfl⟩
  · refine ⟨.inr ⟨g, 0, cap, rfl, Nat.lt_of_lt_of_le (lt_of_block hc) hn, fun j x hj => ?_⟩, rfl⟩
    have hlt : j < L.length := (List.getElem?_eq_some_iff.1 hj).1
    have := h.cellAt j (by omega)
    rw [Nat.zero_add, this]
    simp [strs, hj]

set_option maxHeartbeats 1000000 in
theorem path_Parse_any (s : ByteArray) (hs : s.size ≤ 300000) (w : World) (hG : Good w) :
    Calls Tryd.prog 11 #[.string s] w fun e w' => ∃ v, e = .returned v ∧ w'.ownsRow w.heap.size 9 1 v (parseL s.data.toList).length (strs (parseL s.data.toList)) ∧ Below w.heap.size w w' := by
  have h1 := path_split_any s (by omega) w hG
  have hsm := pathSplit_small (l := s.data.toList) (by rw [← size_list]; exact hs)
  unfold parseL
  generalize pathSplit s.data.toList = L at *
  go_enter Tryd.func11, Tryd.ntmps11
  go_wp2_with fail
  refine h1.mono ?_
  rintro e w1 ⟨g, rfl, hrow, hg, hb1⟩
  have h2 := path_Norm_any (.slice (some ⟨g, 0, none⟩) L.length L.length) L (by omega) hsm.2 w1 (texts_row hrow hrow.lt) rfl
  go_wp2_with fail
  refine h2.mono ?_
  rintro e w2 ⟨v, rfl, ho, hb2⟩
  go_wp2
  go_ret
  exact ⟨v, rfl, ownsRow_mono ho hb1.size, below_on hb1 hb1.size hb2⟩

set_option maxHeartbeats 4000000 in
set_option maxRecDepth 100000 in
theorem Same_any (va vb : Value) (a b : List (List UInt8)) (hla : a.length ≤ 1000000) (hlb : b.length ≤ 1000000) (w : World) (ha : Texts w.heap.size w va a) (hb : Texts w.heap.size w vb b) :
    Calls Tryd.prog 12 #[va, vb] w fun e w' => e = .returned (.bool (a == b)) ∧ Below w.heap.size w w' := by
  by_cases hlen : a.length = b.length
  · rcases ha with ⟨rfl, rfl⟩ | ⟨ga, oa, ca, rfl, hga, hca⟩
    · obtain rfl : b = [] := List.eq_nil_of_length_eq_zero hlen.symm
      rcases hb with ⟨rfl, _⟩ | ⟨gb, ob, cb, rfl, hgb, hcb⟩
      · go_enter Tryd.func12, Tryd.ntmps12
        go_wp2
        go_loopw [5] (fun i wr => i = .int .i64 0 ∧ Below w.heap.size w wr) (fun _ _ => 0)
        case atStart => exact ⟨rfl, Below.refl _ _⟩
        case round =>
          obtain ⟨rfl, hb⟩ := hrel
          go_wp2
          go_ret
          exact ⟨rfl, hb⟩
      · go_enter Tryd.func12, Tryd.ntmps12
        go_wp2
        go_loopw [5] (fun i wr => i = .int .i64 0 ∧ Below w.heap.size w wr) (fun _ _ => 0)
        case atStart => exact ⟨rfl, Below.refl _ _⟩
        case round =>
          obtain ⟨rfl, hb⟩ := hrel
          go_wp2
          go_ret
          exact ⟨rfl, hb⟩
    · rcases hb with ⟨rfl, rfl⟩ | ⟨gb, ob, cb, rfl, hgb, hcb⟩
      · obtain rfl : a = [] := List.eq_nil_of_length_eq_zero hlen
        go_enter Tryd.func12, Tryd.ntmps12
        go_wp2
        go_loopw [5] (fun i wr => i = .int .i64 0 ∧ Below w.heap.size w wr) (fun _ _ => 0)
        case atStart => exact ⟨rfl, Below.refl _ _⟩
        case round =>
          obtain ⟨rfl, hb⟩ := hrel
          go_wp2
          go_ret
          exact ⟨rfl, hb⟩
      · rw [← hlen]
        go_enter Tryd.func12, Tryd.ntmps12
        go_wp2
        go_loopw [5] (fun i wr => ∃ k : Nat, k ≤ a.length ∧ i = .int .i64 k ∧ a.take k = b.take k ∧ Below w.heap.size w wr) (fun i _ => a.length - (intOf i).toNat)
        case atStart => exact ⟨0, by omega, rfl, rfl, Below.refl _ _⟩
        case round =>
          obtain ⟨k, hk, rfl, heq, hbl⟩ := hrel
          by_cases hlt : k < a.length
          · obtain ⟨x, hx⟩ : ∃ x, a[k]? = some x := ⟨_, List.getElem?_eq_getElem hlt⟩
            obtain ⟨y, hy⟩ : ∃ y, b[k]? = some y := ⟨_, List.getElem?_eq_getElem (by omega)⟩
            have c1 : wr.cell? ⟨ga, oa + k, none⟩ = some (.string ⟨x.toArray⟩) := (hbl.cell (p := ⟨ga, oa + k, none⟩) hga).trans (hca k x hx)
            have c2 : wr.cell? ⟨gb, ob + k, none⟩ = some (.string ⟨y.toArray⟩) := (hbl.cell (p := ⟨gb, ob + k, none⟩) hgb).trans (hcb k y hy)
            by_cases hxy : x = y
            · have hs : a.take (k + 1) = b.take (k + 1) := by rw [List.take_add_one, List.take_add_one, hx, hy, heq, hxy]
              have HS := Lib.hid hs
              clear hs hx hy heq hca hcb
              subst hxy
              go_wp2
              go_big_region
              go_wp2
              refine ⟨⟨k + 1, by omega, by go_num, HS.out, hbl.drew⟩, by simp [intOf]; omega⟩
            · have hne : (a == b) = false := beq_eq_false_iff_ne.2 (fun e => hxy (by rw [e, hy] at hx; exact (Option.some.inj hx).symm))
              have hxb : (x == y) = false := beq_eq_false_iff_ne.2 hxy
              have HN := Lib.hid hne
              clear hx hy heq hca hcb hne
              go_wp2
              go_big_region
              go_wp2
              go_ret
              exact ⟨by rw [HN.out]; rfl, hbl.drew⟩
          · obtain rfl : k = a.length := by omega
            rw [List.take_length, hlen, List.take_length] at heq
            have hab : (a == b) = true := by rw [heq]; exact beq_self_eq_true b
            have HN := Lib.hid hab
            clear hab heq
            go_wp2
            go_ret
            exact ⟨by rw [HN.out]; rfl, hbl⟩
  · have hne : (a == b) = false := beq_eq_false_iff_ne.2 (fun e => hlen (by rw [e]))
    have hz : ¬ ((a.length : Int) = b.length) := by omega
    rw [hne]
    clear hne
    rcases ha with ⟨rfl, rfl⟩ | ⟨ga, oa, ca, rfl, hga, hca⟩
    · rcases hb with ⟨rfl, rfl⟩ | ⟨gb, ob, cb, rfl, hgb, hcb⟩
      · exact absurd rfl hlen
      · have hq0 : b.length ≠ 0 := fun e => hlen (by rw [e]; rfl)
        have hq : ((0 : Int) != (b.length : Int)) = true := by rw [bne_iff_ne]; omega
        clear hz hlen
        go_enter Tryd.func12, Tryd.ntmps12
        go_wp2
        go_ret
        exact ⟨rfl, Below.refl _ _⟩
    · rcases hb with ⟨rfl, rfl⟩ | ⟨gb, ob, cb, rfl, hgb, hcb⟩
      · have hq0 : a.length ≠ 0 := fun e => hlen (by rw [e]; rfl)
        have hq : ((a.length : Int) != 0) = true := by rw [bne_iff_ne]; omega
        clear hz hlen
        go_enter Tryd.func12, Tryd.ntmps12
        go_wp2
        go_ret
        exact ⟨rfl, Below.refl _ _⟩
      · have hq : ((a.length : Int) != (b.length : Int)) = true := by rw [bne_iff_ne]; exact hz
        clear hz hlen
        go_enter Tryd.func12, Tryd.ntmps12
        go_wp2
        go_ret
        exact ⟨rfl, Below.refl _ _⟩

end Go.Proofs.YtcegcjefjclcnaaDoor
