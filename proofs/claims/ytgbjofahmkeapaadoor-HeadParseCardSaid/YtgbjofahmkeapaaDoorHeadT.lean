/- Header fields: the reference's trim and field. -/
import Derived.Test.YtgbjofahmkeapaaDoorHeadS
import Derived.Test.YtgbjofahmkeapaaDoorHead9
namespace Go.Proofs.YtgbjofahmkeapaaDoor
open Go.RowKit Go.Proofs.YtgbjofahmkeapaaDoorW.PrintWords

def strLen : Value → Nat
  | .string s => s.size
  | _ => 0
theorem bl_iff (c : UInt8) : blC c = true ↔ c.toNat = 32 ∨ c.toNat = 9 := by
  have key : ∀ n : Nat, n < 256 → (blC (UInt8.ofNat n) = true ↔ n = 32 ∨ n = 9) := by decide +kernel
  have := key c.toNat c.toNat_lt
  rwa [UInt8.ofNat_toNat] at this
theorem ex_front (x : ByteArray) : (x.extract 1 x.size).data.toList = x.data.toList.drop 1 := by
  rw [ByteArray.data_extract, Array.toList_extract]
  show (x.data.toList.drop 1).take (x.size - 1) = _
  rw [List.take_of_length_le]
  rw [List.length_drop, ← size_list]; omega
theorem ex_back (x : ByteArray) (n : Nat) : (x.extract 0 n).data.toList = x.data.toList.take n := by
  rw [ByteArray.data_extract, Array.toList_extract]; simp
theorem trimR_step {l : List UInt8} {c : UInt8} (h : blC c = true) : trimR blC (l ++ [c]) = trimR blC l := by
  unfold trimR; rw [List.reverse_append, List.reverse_singleton, List.singleton_append, List.dropWhile_cons, if_pos h]
theorem trimR_stay {l : List UInt8} {c : UInt8} (h : blC c = false) : trimR blC (l ++ [c]) = l ++ [c] := by
  unfold trimR; rw [List.reverse_append, List.reverse_singleton, List.singleton_append, List.dropWhile_cons, if_neg (by rw [h]; decide)]; simp

set_option maxHeartbeats 4000000 in
set_option maxRecDepth 100000 in
theorem ref13_trim (s : ByteArray) (hs : s.size ≤ 1000000) (w : World) :
    Calls Tryd.prog 65 #[.string s] w fun e w' => e = .returned (.string ⟨(trim2 s.data.toList).toArray⟩) ∧ Below w.heap.size w w' := by
  go_enter Tryd.func65, Tryd.ntmps65
  go_wp2
  go_loopw [0] (fun v wr => ∃ x : ByteArray, v = .string x ∧ x.size ≤ 1000000 ∧ Hid (x.data.toList.dropWhile blC = s.data.toList.dropWhile blC) ∧ Below w.heap.size w wr) (fun v _ => strLen v)
  case atStart => exact ⟨s, rfl, hs, rfl, Below.refl _ _⟩
  case round =>
    obtain ⟨x, rfl, hxs, hx, hbl⟩ := hrel
    have HSX := Lib.hid (size_list x)
    by_cases h0 : x.size = 0
    · have h1 : x.data.toList = [] := List.eq_nil_of_length_eq_zero (by have := HSX.out; omega)
      have hR : Hid (trimR blC x.data.toList = trim2 s.data.toList) := by
        show _ = _
        rw [trim2_alt, ← hx.out, h1]; rfl
      have d0 : decide (0 < x.size) = false := decide_eq_false (by omega)
      have d1 : decide ((0 : Int) < (x.size : Int)) = false := decide_eq_false (by omega)
      clear h0 h1
      go_wp2
      go_loopw [0] (fun v wr => ∃ y : ByteArray, v = .string y ∧ y.size ≤ 1000000 ∧ Hid (trimR blC y.data.toList = trim2 s.data.toList) ∧ Below w.heap.size w wr) (fun v _ => strLen v)
      case atStart => exact ⟨x, rfl, hxs, hR, hbl⟩
      case round =>
        obtain ⟨y, rfl, hys, hy, hbl2⟩ := hrel
        have HSY := Lib.hid (size_list y)
        by_cases h0 : y.size = 0
        · have hye : Hid (y.data.toList = trim2 s.data.toList) := by
            show _ = _
            have h1 : y.data.toList = [] := List.eq_nil_of_length_eq_zero (by have := HSY.out; omega)
            rw [← hy.out, h1]; rfl
          have d0 : decide (0 < y.size) = false := decide_eq_false (by omega)
          have d1 : decide ((0 : Int) < (y.size : Int)) = false := decide_eq_false (by omega)
          clear h0
          go_wp2
          go_ret
          exact ⟨by rw [← hye.out, of_toList]; rfl, hbl2⟩
        · obtain ⟨n, hn⟩ : ∃ n, y.size = n + 1 := ⟨y.size - 1, by omega⟩
          have hlt : n < y.size := by omega
          obtain ⟨c, hc⟩ : ∃ c, y.data.toList[n]? = some c := ⟨_, List.getElem?_eq_getElem (by have := HSY.out; omega)⟩
          have hg : y[n]'hlt = c := get_cons (l := y.data.toList.drop (n + 1)) (by rw [List.drop_eq_getElem_cons (by have := HSY.out; omega), (List.getElem?_eq_some_iff.1 hc).2]) _
          have hsp : Hid (y.data.toList = y.data.toList.take n ++ [c]) := by
            show _ = _
            have hsy := HSY.out
            conv => lhs; rw [← List.take_append_drop n y.data.toList]
            congr 1
            rw [List.drop_eq_getElem_cons (by omega), (List.getElem?_eq_some_iff.1 hc).2, List.drop_eq_nil_of_le (by omega)]
          have d0 : decide ((0 : Int) < (y.size : Int)) = true := decide_eq_true (by omega)
          have d2 : decide (0 < y.size) = true := decide_eq_true (by omega)
          have hn6 : n ≤ 1000000 := by omega
          have hme : Hid (strLen (.string (y.extract 0 n)) < strLen (.string y)) := by
            show (y.extract 0 n).size < y.size
            rw [size_list, ex_back, List.length_take]; omega
          have hsm : (y.extract 0 n).size ≤ 1000000 := by rw [size_list, ex_back, List.length_take]; omega
          have hnx : blC c = true → Hid (trimR blC (y.extract 0 n).data.toList = trim2 s.data.toList) := fun hb => by
            show _ = _
            rw [ex_back, ← hy.out, hsp.out, trimR_step hb, List.take_append_of_le_length (by rw [List.length_take]; have := HSY.out; omega), List.take_take, Nat.min_self]
          clear h0 hc
          by_cases h32 : c.toNat = 32
          · have q0 : ((c.toNat : Int) == 32) = true := by rw [h32]; rfl
            have hq := hnx ((bl_iff c).2 (.inl h32))
            clear h32 hnx
            go_wp2
            exact ⟨⟨y.extract 0 n, rfl, hsm, hq, hbl2⟩, hme.out⟩
          · have q0 : ((c.toNat : Int) == 32) = false := beq_eq_false_iff_ne.2 (by omega)
            by_cases h9 : c.toNat = 9
            · have q1 : ((c.toNat : Int) == 9) = true := by rw [h9]; rfl
              have hq := hnx ((bl_iff c).2 (.inr h9))
              clear h9 hnx h32
              go_wp2
              exact ⟨⟨y.extract 0 n, rfl, hsm, hq, hbl2⟩, hme.out⟩
            · have q1 : ((c.toNat : Int) == 9) = false := beq_eq_false_iff_ne.2 (by omega)
              have hye : Hid (y.data.toList = trim2 s.data.toList) := by
                show _ = _
                have hb : blC c = false := by
                  rw [Bool.eq_false_iff]; intro hb
                  rcases (bl_iff c).1 hb with h | h
                  · exact h32 h
                  · exact h9 h
                rw [← hy.out]
                rw [hsp.out, trimR_stay hb]
              clear hnx h32 h9
              go_wp2
              go_ret
              exact ⟨by rw [← hye.out, of_toList]; rfl, hbl2⟩
    · have hlt : 0 < x.size := by omega
      obtain ⟨c, t, hc⟩ : ∃ c t, x.data.toList = c :: t := by
        cases h : x.data.toList with
        | nil => have := HSX.out; rw [h] at this; exact absurd this h0
        | cons c t => exact ⟨c, t, rfl⟩
      have hg : x[0]'hlt = c := get_cons (l := t) (by rw [hc]; rfl) _
      have d0 : decide ((0 : Int) < (x.size : Int)) = true := decide_eq_true (by omega)
      have d2 : decide (0 < x.size) = true := decide_eq_true (by omega)
      have hme : Hid (strLen (.string (x.extract 1 x.size)) < strLen (.string x)) := by
        show (x.extract 1 x.size).size < x.size
        rw [size_list, ex_front, List.length_drop, ← size_list]; omega
      have hsm : (x.extract 1 x.size).size ≤ 1000000 := by rw [size_list, ex_front, List.length_drop, ← size_list]; omega
      have hnx : blC c = true → Hid ((x.extract 1 x.size).data.toList.dropWhile blC = s.data.toList.dropWhile blC) := fun hb => by
        show _ = _
        rw [ex_front, ← hx.out, hc, List.drop_one, List.tail_cons, List.dropWhile_cons, if_pos hb]
      have HC := Lib.hid hc
      clear h0 hc
      by_cases h32 : c.toNat = 32
      · have q0 : ((c.toNat : Int) == 32) = true := by rw [h32]; rfl
        have hq := hnx ((bl_iff c).2 (.inl h32))
        clear h32 hnx
        go_wp2
        exact ⟨⟨x.extract 1 x.size, rfl, hsm, hq, hbl⟩, hme.out⟩
      · have q0 : ((c.toNat : Int) == 32) = false := beq_eq_false_iff_ne.2 (by omega)
        by_cases h9 : c.toNat = 9
        · have q1 : ((c.toNat : Int) == 9) = true := by rw [h9]; rfl
          have hq := hnx ((bl_iff c).2 (.inr h9))
          clear h9 hnx h32
          go_wp2
          exact ⟨⟨x.extract 1 x.size, rfl, hsm, hq, hbl⟩, hme.out⟩
        · have q1 : ((c.toNat : Int) == 9) = false := beq_eq_false_iff_ne.2 (by omega)
          have hR : Hid (trimR blC x.data.toList = trim2 s.data.toList) := by
            show _ = _
            have hb : blC c = false := by
              rw [Bool.eq_false_iff]; intro hb
              rcases (bl_iff c).1 hb with h | h
              · exact h32 h
              · exact h9 h
            rw [trim2_alt, ← hx.out, HC.out, List.dropWhile_cons, if_neg (by rw [hb]; decide)]
          clear hnx h32 h9 hme hsm
          go_wp2
          go_loopw [0] (fun v wr => ∃ y : ByteArray, v = .string y ∧ y.size ≤ 1000000 ∧ Hid (trimR blC y.data.toList = trim2 s.data.toList) ∧ Below w.heap.size w wr) (fun v _ => strLen v)
          case atStart => exact ⟨x, rfl, hxs, hR, hbl⟩
          case round =>
            obtain ⟨y, rfl, hys, hy, hbl2⟩ := hrel
            have HSY := Lib.hid (size_list y)
            by_cases h0 : y.size = 0
            · have hye : Hid (y.data.toList = trim2 s.data.toList) := by
                show _ = _
                have h1 : y.data.toList = [] := List.eq_nil_of_length_eq_zero (by have := HSY.out; omega)
                rw [← hy.out, h1]; rfl
              have d0 : decide (0 < y.size) = false := decide_eq_false (by omega)
              have d1 : decide ((0 : Int) < (y.size : Int)) = false := decide_eq_false (by omega)
              clear h0
              go_wp2
              go_ret
              exact ⟨by rw [← hye.out, of_toList]; rfl, hbl2⟩
            · obtain ⟨n, hn⟩ : ∃ n, y.size = n + 1 := ⟨y.size - 1, by omega⟩
              have hlt : n < y.size := by omega
              obtain ⟨c, hc⟩ : ∃ c, y.data.toList[n]? = some c := ⟨_, List.getElem?_eq_getElem (by have := HSY.out; omega)⟩
              have hg : y[n]'hlt = c := get_cons (l := y.data.toList.drop (n + 1)) (by rw [List.drop_eq_getElem_cons (by have := HSY.out; omega), (List.getElem?_eq_some_iff.1 hc).2]) _
              have hsp : Hid (y.data.toList = y.data.toList.take n ++ [c]) := by
                show _ = _
                have hsy := HSY.out
                conv => lhs; rw [← List.take_append_drop n y.data.toList]
                congr 1
                rw [List.drop_eq_getElem_cons (by omega), (List.getElem?_eq_some_iff.1 hc).2, List.drop_eq_nil_of_le (by omega)]
              have d0 : decide ((0 : Int) < (y.size : Int)) = true := decide_eq_true (by omega)
              have d2 : decide (0 < y.size) = true := decide_eq_true (by omega)
              have hn6 : n ≤ 1000000 := by omega
              have hme : Hid (strLen (.string (y.extract 0 n)) < strLen (.string y)) := by
                show (y.extract 0 n).size < y.size
                rw [size_list, ex_back, List.length_take]; omega
              have hsm : (y.extract 0 n).size ≤ 1000000 := by rw [size_list, ex_back, List.length_take]; omega
              have hnx : blC c = true → Hid (trimR blC (y.extract 0 n).data.toList = trim2 s.data.toList) := fun hb => by
                show _ = _
                rw [ex_back, ← hy.out, hsp.out, trimR_step hb, List.take_append_of_le_length (by rw [List.length_take]; have := HSY.out; omega), List.take_take, Nat.min_self]
              clear h0 hc
              by_cases h32 : c.toNat = 32
              · have q0 : ((c.toNat : Int) == 32) = true := by rw [h32]; rfl
                have hq := hnx ((bl_iff c).2 (.inl h32))
                clear h32 hnx
                go_wp2
                exact ⟨⟨y.extract 0 n, rfl, hsm, hq, hbl2⟩, hme.out⟩
              · have q0 : ((c.toNat : Int) == 32) = false := beq_eq_false_iff_ne.2 (by omega)
                by_cases h9 : c.toNat = 9
                · have q1 : ((c.toNat : Int) == 9) = true := by rw [h9]; rfl
                  have hq := hnx ((bl_iff c).2 (.inr h9))
                  clear h9 hnx h32
                  go_wp2
                  exact ⟨⟨y.extract 0 n, rfl, hsm, hq, hbl2⟩, hme.out⟩
                · have q1 : ((c.toNat : Int) == 9) = false := beq_eq_false_iff_ne.2 (by omega)
                  have hye : Hid (y.data.toList = trim2 s.data.toList) := by
                    show _ = _
                    have hb : blC c = false := by
                      rw [Bool.eq_false_iff]; intro hb
                      rcases (bl_iff c).1 hb with h | h
                      · exact h32 h
                      · exact h9 h
                    rw [← hy.out]
                    rw [hsp.out, trimR_stay hb]
                  clear hnx h32 h9
                  go_wp2
                  go_ret
                  exact ⟨by rw [← hye.out, of_toList]; rfl, hbl2⟩

theorem occ58 (l : List UInt8) (j : Nat) : Lib.occAt l [58] j = true ↔ l[j]? = some 58 := by
  unfold Lib.occAt
  rcases Nat.lt_or_ge j l.length with h | h
  · rw [List.drop_eq_getElem_cons h, List.getElem?_eq_getElem h]
    simp [List.isPrefixOf]
    exact eq_comm
  · rw [List.drop_eq_nil_of_le h, List.getElem?_eq_none h]; simp [List.isPrefixOf]
theorem cut58_hit {l : List UInt8} {n : Nat} (h : l[n]? = some 58) (hno : ∀ j, j < n → l[j]? ≠ some 58) : Lib.cut l [58] = (l.take n, l.drop (n + 1), true) := by
  have hi : Lib.index l [58] = n := Lib.index_first (by have := (List.getElem?_eq_some_iff.1 h).1; omega) ((occ58 l n).2 h) fun j hj => by
    rw [Bool.eq_false_iff]; intro e; exact hno j hj ((occ58 l j).1 e)
  rcases cut_ways l [58] with ⟨_, e⟩ | ⟨i, e, hc⟩
  · omega
  · obtain rfl : i = n := by omega
    exact hc
theorem cut58_miss {l : List UInt8} (hno : ∀ j : Nat, l[j]? ≠ some 58) : Lib.cut l [58] = (l, [], false) := by
  have hi : Lib.index l [58] = -1 := Lib.index_none fun j _ => by
    rw [Bool.eq_false_iff]; intro e; exact hno j ((occ58 l j).1 e)
  rcases cut_ways l [58] with ⟨hc, _⟩ | ⟨i, e, hc⟩
  · exact hc
  · omega
def fieldR (l : List UInt8) : Fld × Bool := if (Lib.cut l [58]).2.2 = true then (((Lib.cut l [58]).1, trim2 (Lib.cut l [58]).2.1), nameB (Lib.cut l [58]).1 && valueB (trim2 (Lib.cut l [58]).2.1)) else (([], []), false)
theorem fieldR_of (l : List UInt8) : fieldOf (l, true) = if (fieldR l).2 = true then some (fieldR l).1 else none := by
  unfold fieldOf fieldR
  dsimp only
  cases (Lib.cut l [58]).2.2 <;> cases nameB (Lib.cut l [58]).1 <;> cases valueB (trim2 (Lib.cut l [58]).2.1) <;> simp
theorem ex_tail (x : ByteArray) (n : Nat) : (x.extract n x.size).data.toList = x.data.toList.drop n := by
  rw [ByteArray.data_extract, Array.toList_extract]
  show (x.data.toList.drop n).take (x.size - n) = _
  rw [List.take_of_length_le]
  rw [List.length_drop, ← size_list]; omega

theorem sz_fld (a b : Value) : (Tryd.prog.info? 42).map (·.size) = some (#[a, b] : Array Value).size := by kernel_rfl
set_option maxHeartbeats 4000000 in
set_option maxRecDepth 100000 in
theorem ref13_field (s : ByteArray) (hs : s.size ≤ 1000000) (w : World) :
    Calls Tryd.prog 34 #[.string s] w fun e w' => e = .returned (.tuple #[.agg #[.string ⟨(fieldR s.data.toList).1.1.toArray⟩, .string ⟨(fieldR s.data.toList).1.2.toArray⟩], .bool (fieldR s.data.toList).2]) ∧ Below w.heap.size w w' := by
  have HSL := Lib.hid (size_list s)
  have hal : Below w.heap.size w (w.alloc (.cells #[.string ⟨#[]⟩, .string ⟨#[]⟩] 42)) := (Below.refl _ _).alloc (Nat.le_refl _) _
  have hnew := heap_alloc_new w (.cells #[.string ⟨#[]⟩, .string ⟨#[]⟩] 42)
  go_enter Tryd.func34, Tryd.ntmps34
  go_wp2
  go_loopw [4] (fun i wr => ∃ k : Nat, k ≤ s.size ∧ i = .int .i64 k ∧ Hid (∀ j, j < k → s.data.toList[j]? ≠ some 58) ∧ wr.heap[w.heap.size]? = some (.cells #[.string ⟨#[]⟩, .string ⟨#[]⟩] 42 (0, 0)) ∧ Below w.heap.size w wr) (fun i _ => s.size - (intOf i).toNat)
  case atStart => exact ⟨0, by omega, rfl, (fun j h => absurd h (Nat.not_lt_zero _)), hnew, hal⟩
  case round =>
    obtain ⟨k, hk, rfl, hno, hblk, hbl⟩ := hrel
    clear hnew hal
    by_cases hkl : k < s.size
    · obtain ⟨c, hx⟩ : ∃ c, s.data.toList[k]? = some c := ⟨_, List.getElem?_eq_getElem (by have := HSL.out; omega)⟩
      have hg : s[k]'hkl = c := get_cons (l := s.data.toList.drop (k + 1)) (by rw [List.drop_eq_getElem_cons (by have := HSL.out; omega), (List.getElem?_eq_some_iff.1 hx).2]) _
      have HX := Lib.hid hx
      clear hx
      by_cases h58 : c = 58
      · subst h58
        have hcut := cut58_hit HX.out hno.out
        have e2 : (s.extract (k + 1) s.size).data.toList = s.data.toList.drop (k + 1) := ex_tail s (k + 1)
        have e1 : (s.extract 0 k).data.toList = s.data.toList.take k := ex_back s k
        have hT := fun w1 => ref13_trim (s.extract (k + 1) s.size) (by rw [size_list, e2, List.length_drop, ← HSL.out]; omega) w1
        rw [e2] at hT
        have hN := fun w1 => ref13_Name (s.extract 0 k) (by rw [size_list, e1, List.length_take, ← HSL.out]; omega) w1
        rw [e1] at hN
        have hfr : Hid (fieldR s.data.toList = ((s.data.toList.take k, trim2 (s.data.toList.drop (k + 1))), nameB (s.data.toList.take k) && valueB (trim2 (s.data.toList.drop (k + 1))))) := by
          show _ = _
          unfold fieldR
          rw [hcut]; rfl
        have hvl : (trim2 (s.data.toList.drop (k + 1))).length ≤ 1000000 := Nat.le_trans (trim2_len _) (by rw [List.length_drop, ← HSL.out]; omega)
        have E1 : Hid ((⟨(s.data.toList.take k).toArray⟩ : ByteArray) = s.extract 0 k) := toList_inj (by rw [mk_toList, e1])
        generalize trim2 (s.data.toList.drop (k + 1)) = v at *
        have hV := fun w1 => ref13_Value ⟨v.toArray⟩ (by rw [ba_len]; exact hvl) w1
        rw [mk_toList] at hV
        have hne : ((k : Int) == (s.size : Int)) = false := beq_eq_false_iff_ne.2 (by omega)
        generalize nameB (s.data.toList.take k) = nb at *
        generalize valueB v = vb at *
        clear hcut e1 e2
        generalize hex : s.extract 0 k = pre at *
        cases nb <;> (
          go_wp2_with (first | (go_at_call 65; refine (hT _).mono ?_; rintro e w1 ⟨rfl, hb1⟩) | (go_at_call 24; refine (hN _).mono ?_; rintro e w2 ⟨rfl, hb2⟩) | (go_at_call 25; refine (hV _).mono ?_; rintro e w3 ⟨rfl, hb3⟩; have hbw : Below wr.heap.size wr w3 := below_on (below_on hb1 hb1.size hb2) (Nat.le_trans hb1.size hb2.size) hb3; have hblk3 := block_below hblk hbw (lt_of_block hblk); have c0 : w3.cell? ⟨w.heap.size, 0, none⟩ = some (.string ⟨#[]⟩) := (by rw [cell_of_row w3 _ _ _ _ _ hblk3]; rfl); have c1 : ∀ u, (w3.setCell ⟨w.heap.size, 0, none⟩ u).cell? ⟨w.heap.size, 1, none⟩ = some (.string ⟨#[]⟩) := (fun u => (World.cell?_setCell_other _ _ _ _ (by simp)).trans (by rw [cell_of_row w3 _ _ _ _ _ hblk3]; rfl)); have f0 : w3.frozen? ⟨w.heap.size, 0, none⟩ = false := (by simp [World.frozen?, hblk3]); have f1 : ∀ u, (w3.setCell ⟨w.heap.size, 0, none⟩ u).frozen? ⟨w.heap.size, 1, none⟩ = false := (fun u => (World.frozen?_setCell _ _ _ _).trans (by simp [World.frozen?, hblk3]))))
          have hF0 := Go.heap_setCell_same w3 w.heap.size 0 _ 42 (.string pre) hblk3
          have hF1 := Go.heap_setCell_same _ w.heap.size 1 _ 42 (.string ⟨v.toArray⟩) hF0
          refine bodyPost_ret (results_ct rfl _ _ w.heap.size 42 #[.string pre, .string ⟨v.toArray⟩] (0, 0) _ rfl hF1 Tryd.underlying42 rfl (sz_fld _ _)) rfl ?_
          refine ⟨?_, ((hbl.trans (hbw.mono hbl.size)).setCell (p := ⟨w.heap.size, 0, none⟩) (Nat.le_refl _) _).setCell (p := ⟨w.heap.size, 1, none⟩) (Nat.le_refl _) _⟩
          rw [hfr.out, ← E1.out]; rfl)
      · have q58 : ((c.toNat : Int) != 58) = true := bne_iff_ne.2 (fun h => h58 (UInt8.toNat_inj.1 (show c.toNat = (58 : UInt8).toNat from by show c.toNat = 58; omega)))
        have hn : Hid (∀ j, j < k + 1 → s.data.toList[j]? ≠ some 58) := fun j hj => by
          rcases Nat.lt_or_ge j k with h | h
          · exact hno.out j h
          · obtain rfl : j = k := by omega
            rw [HX.out]; exact fun e => h58 (Option.some.inj e)
        clear h58
        go_wp2
        exact ⟨⟨k + 1, by omega, by go_num, hn, hblk, hbl⟩, by simp [intOf]; omega⟩
    · obtain rfl : k = s.size := by omega
      have hcut := Lib.hid (cut58_miss (l := s.data.toList) fun j => by
        rcases Nat.lt_or_ge j s.size with h | h
        · exact hno.out j h
        · rw [List.getElem?_eq_none (by have := HSL.out; omega)]; exact fun e => by cases e)
      have hfr : Hid (fieldR s.data.toList = (([], []), false)) := by show _ = _; unfold fieldR; rw [hcut.out]; rfl
      have c0 : wr.cell? ⟨w.heap.size, 0, none⟩ = some (.string ⟨#[]⟩) := by rw [cell_of_row wr _ _ _ _ _ hblk]; rfl
      have c1 : ∀ u, (wr.setCell ⟨w.heap.size, 0, none⟩ u).cell? ⟨w.heap.size, 1, none⟩ = some (.string ⟨#[]⟩) := fun u => (World.cell?_setCell_other _ _ _ _ (by simp)).trans (by rw [cell_of_row wr _ _ _ _ _ hblk]; rfl)
      have f0 : wr.frozen? ⟨w.heap.size, 0, none⟩ = false := by simp [World.frozen?, hblk]
      have f1 : ∀ u, (wr.setCell ⟨w.heap.size, 0, none⟩ u).frozen? ⟨w.heap.size, 1, none⟩ = false := fun u => (World.frozen?_setCell _ _ _ _).trans (by simp [World.frozen?, hblk])
      go_wp2
      have hF0 := Go.heap_setCell_same wr w.heap.size 0 _ 42 (.string ⟨#[]⟩) hblk
      have hF1 := Go.heap_setCell_same _ w.heap.size 1 _ 42 (.string ⟨#[]⟩) hF0
      refine bodyPost_ret (results_ct rfl _ _ w.heap.size 42 #[.string ⟨#[]⟩, .string ⟨#[]⟩] (0, 0) _ rfl hF1 Tryd.underlying42 rfl (sz_fld _ _)) rfl ?_
      refine ⟨?_, (hbl.setCell (p := ⟨w.heap.size, 0, none⟩) (Nat.le_refl _) _).setCell (p := ⟨w.heap.size, 1, none⟩) (Nat.le_refl _) _⟩
      rw [hfr.out]; rfl

end Go.Proofs.YtgbjofahmkeapaaDoor
