/- Token: the reference's Split. -/
import Derived.Test.YtnppnogmpoigkaaDoorTok3
namespace Go.Proofs.YtnppnogmpoigkaaDoor
open Go.RowKit Go.Proofs.YtnppnogmpoigkaaDoorW.PrintWords
set_option linter.unusedVariables false
set_option linter.unnecessarySimpa false
set_option linter.unusedSimpArgs false

def seg (l : List UInt8) (a b : Nat) : List UInt8 := (l.drop a).take (b - a)
theorem seg_nil (l : List UInt8) (a : Nat) : seg l a a = [] := by unfold seg; rw [Nat.sub_self, List.take_zero]
theorem seg_front {l : List UInt8} {a b : Nat} {c : UInt8} (h : a < b) (hc : l[a]? = some c) : seg l a b = c :: seg l (a + 1) b := by
  obtain ⟨ha, e⟩ := List.getElem?_eq_some_iff.1 hc
  unfold seg
  rw [List.drop_eq_getElem_cons ha, e, show b - a = (b - (a + 1)) + 1 by omega, List.take_succ_cons]
theorem seg_back {l : List UInt8} {a b : Nat} {c : UInt8} (h : a ≤ b) (hc : l[b]? = some c) : seg l a (b + 1) = seg l a b ++ [c] := by
  unfold seg
  rw [show b + 1 - a = (b - a) + 1 by omega, List.take_add_one, List.getElem?_drop, show a + (b - a) = b by omega, hc]
  rfl
theorem seg_len (l : List UInt8) (a b : Nat) : (seg l a b).length ≤ b - a := by unfold seg; rw [List.length_take]; omega
def TInv (l : List UInt8) (n m : Nat) (out : List (List UInt8)) : Prop :=
  (n ≤ m ∧ m ≤ l.length ∧ splitT l = out ++ splitT (l.drop n) ∧ ∀ p, n ≤ p → p < m → l[p]? ≠ some 44) ∨ (m = l.length + 1 ∧ out = splitT l)
theorem tinv_skip {l : List UInt8} {n m : Nat} {out : List (List UInt8)} (h : TInv l n m out) (hm : m < l.length) (hc : l[m]? ≠ some 44) : TInv l n (m + 1) out := by
  rcases h with ⟨h1, h2, h3, h4⟩ | ⟨h1, _⟩
  · refine .inl ⟨by omega, by omega, h3, fun p hp hq => ?_⟩
    rcases Nat.lt_or_ge p m with h | h
    · exact h4 p hp h
    · obtain rfl : p = m := by omega
      exact hc
  · omega
theorem no44 {l : List UInt8} {n m : Nat} (h : ∀ p, n ≤ p → p < m → l[p]? ≠ some 44) : (44 : UInt8) ∉ seg l n m := by
  intro hm
  obtain ⟨j, hj⟩ := List.getElem?_of_mem hm
  have hl := seg_len l n m
  have hjl := (List.getElem?_eq_some_iff.1 hj).1
  unfold seg at hj
  rw [List.getElem?_take_of_lt (by omega), List.getElem?_drop] at hj
  exact h (n + j) (by omega) (by omega) hj
theorem tinv_hit {l : List UInt8} {n m : Nat} {out : List (List UInt8)} (h : TInv l n m out) (hc : l[m]? = some 44) : TInv l (m + 1) (m + 1) (out ++ [trim2 (seg l n m)]) := by
  have hml := (List.getElem?_eq_some_iff.1 hc).1
  rcases h with ⟨h1, h2, h3, h4⟩ | ⟨h1, _⟩
  · refine .inl ⟨Nat.le_refl _, by omega, ?_, fun p hp hq => by omega⟩
    have e : l.drop n = seg l n m ++ 44 :: l.drop (m + 1) := by
      unfold seg
      conv => lhs; rw [← List.take_append_drop (m - n) (l.drop n)]
      rw [List.drop_drop, show n + (m - n) = m by omega, List.drop_eq_getElem_cons hml, (List.getElem?_eq_some_iff.1 hc).2]
    rw [h3, e]
    unfold splitT
    rw [splitOn_append 44 _ _ (no44 h4), List.map_cons, List.append_assoc]
    rfl
  · omega
theorem tinv_end {l : List UInt8} {n : Nat} {out : List (List UInt8)} (h : TInv l n l.length out) : TInv l (l.length + 1) (l.length + 1) (out ++ [trim2 (seg l n l.length)]) := by
  rcases h with ⟨h1, h2, h3, h4⟩ | ⟨h1, _⟩
  · refine .inr ⟨rfl, ?_⟩
    have e : l.drop n = seg l n l.length := by
      unfold seg
      rw [List.take_of_length_le (by rw [List.length_drop]; exact Nat.le_refl _)]
    rw [h3, e]
    unfold splitT
    rw [splitOn_none 44 _ (no44 h4)]
    rfl
  · omega
theorem dw_front {c : UInt8} {t : List UInt8} (h : blC c = true) : (c :: t).dropWhile blC = t.dropWhile blC := by rw [List.dropWhile_cons, if_pos h]
theorem dw_stay {c : UInt8} {t : List UInt8} (h : blC c = false) : (c :: t).dropWhile blC = c :: t := by rw [List.dropWhile_cons, if_neg (by rw [h]; decide)]
theorem ex_seg (x : ByteArray) (a b : Nat) (h : a ≤ b) (hb : b ≤ x.size) : x.extract a b = ⟨(seg x.data.toList a b).toArray⟩ := toList_inj (by rw [mk_toList, ex_mid x a b h hb]; rfl)

set_option maxHeartbeats 8000000 in
set_option maxRecDepth 100000 in
theorem ref14_Split_any (s : ByteArray) (hs : s.size ≤ 999998) (w : World) :
    Calls Tryd.prog 13 #[.string s] w fun e w' => ∃ v, e = .returned v ∧ w'.ownsRow w.heap.size 9 1 v (splitT s.data.toList).length (strs (splitT s.data.toList)) ∧ Below w.heap.size w w' := by
  have HSL := Lib.hid (size_list s)
  go_enter Tryd.func13, Tryd.ntmps13
  go_wp2
  go_loopw [3, 4, 5] (fun o f i wr => ∃ n m : Nat, ∃ out : List (List UInt8), f = .int .i64 n ∧ i = .int .i64 m ∧ m ≤ s.size + 1 ∧ n ≤ m ∧ out.length ≤ n ∧ Hid (TInv s.data.toList n m out) ∧ wr.ownsRow w.heap.size 9 1 o out.length (strs out) ∧ Below w.heap.size w wr) (fun _ _ i _ => s.size + 1 - (intOf i).toNat)
  case atStart => exact ⟨0, 0, [], rfl, rfl, by omega, by omega, by simp, .inl ⟨by omega, by omega, rfl, fun p h1 h2 => by omega⟩, World.ownsRow_nil _ _ _ _, Below.refl _ _⟩
  case round =>
    obtain ⟨n, m, out, rfl, rfl, hm, hnm, hol, hinv, hrow, hbl⟩ := hrel
    by_cases hml : m < s.size
    · obtain ⟨c, hx⟩ : ∃ c, s.data.toList[m]? = some c := ⟨_, List.getElem?_eq_getElem (by have := HSL.out; omega)⟩
      have hg : s[m]'hml = c := get_cons (l := s.data.toList.drop (m + 1)) (by rw [List.drop_eq_getElem_cons (by have := HSL.out; omega), (List.getElem?_eq_some_iff.1 hx).2]) _
      have HX := Lib.hid hx
      clear hx
      have t0 : decide ((m : Int) ≤ (s.size : Int)) = true := decide_eq_true (by omega)
      have t0n : decide (m ≤ s.size) = true := decide_eq_true (by omega)
      have t1 : decide ((m : Int) < (s.size : Int)) = true := decide_eq_true (by omega)
      have t1n : decide (m < s.size) = true := decide_eq_true (by omega)
      by_cases h44 : c = 44
      · subst h44
        have hnew := Lib.hid (tinv_hit hinv.out HX.out)
        clear hinv
        go_wp2
        go_loopw [6] (fun a' wq => ∃ a : Nat, a' = .int .i64 a ∧ n ≤ a ∧ a ≤ m ∧ Hid ((seg s.data.toList a m).dropWhile blC = (seg s.data.toList n m).dropWhile blC) ∧ wq.ownsRow w.heap.size 9 1 u3 out.length (strs out) ∧ Below w.heap.size w wq) (fun a' _ => s.size + 1 - (intOf a').toNat)
        case atStart => exact ⟨n, rfl, by omega, by omega, rfl, hrow, hbl⟩
        case round =>
          clear hrow hbl
          obtain ⟨a, rfl, hna, ham, hD, hrow, hbl⟩ := hrel
          by_cases haM : a = m
          · have hH1 : trimR blC (seg s.data.toList a m) = trim2 (seg s.data.toList n m) := by rw [trim2_alt, ← hD.out, haM, seg_nil]; rfl
            have q2 : decide ((a : Int) < (m : Int)) = false := decide_eq_false (by omega)
            have q2n : decide (a < m) = false := decide_eq_false (by omega)
            clear haM hD
            have hh1 := Lib.hid hH1
            clear hH1
            go_wp2
            go_loopw [7] (fun b' wq => ∃ b : Nat, b' = .int .i64 b ∧ a ≤ b ∧ b ≤ m ∧ Hid (trimR blC (seg s.data.toList a b) = trim2 (seg s.data.toList n m)) ∧ wq.ownsRow w.heap.size 9 1 u3 out.length (strs out) ∧ Below w.heap.size w wq) (fun b' _ => (intOf b').toNat)
            case atStart => exact ⟨m, rfl, by omega, by omega, hh1.out, hrow, hbl⟩
            case round =>
              obtain ⟨b, rfl, hab, hbm, hT, hrow2, hbl2⟩ := hrel
              clear hrow hbl
              by_cases hba : b = a
              · have hfin : Hid (seg s.data.toList a b = trim2 (seg s.data.toList n m)) := by show _ = _; rw [← hT.out, hba, seg_nil]; rfl
                have hE := Lib.hid (ex_seg s a b (by omega) (by omega))
                have q3 : decide ((a : Int) < (b : Int)) = false := decide_eq_false (by omega)
                have q3n : decide (a < b) = false := decide_eq_false (by omega)
                clear hba hT
                have i0 : (0 : Int) ≤ (a : Int) := by omega
                have i1 : (a : Int) ≤ (b : Int) := by omega
                have i2 : (b : Int) ≤ (s.size : Int) := by omega
                have hTx : Texts (wr.alloc (.cells #[.string (s.extract a b)] 9)).heap.size (wr.alloc (.cells #[.string (s.extract a b)] 9)) (.slice (some ⟨wr.heap.size, 0, none⟩) 1 1) [trim2 (seg s.data.toList n m)] := by
                  rw [hE.out, hfin.out]
                  exact texts_row (L := [trim2 (seg s.data.toList n m)]) (cap := 1) (heap_alloc_new wr (.cells (strs [trim2 (seg s.data.toList n m)]).toArray 9)) (by rw [World.size_alloc]; exact Nat.lt_succ_self _)
                have hbA : Below w.heap.size w (wr.alloc (.cells #[.string (s.extract a b)] 9)) := hbl2.alloc hbl2.size _
                go_wp2_with (at_builtin; refine wpList_appendTs rfl _ _ rfl w.heap.size (wr.alloc (.cells #[.string (s.extract a b)] 9)) _ out [trim2 (seg s.data.toList n m)] _ (by rfl) (by rfl) hTx (hrow2.alloc _) hbA.size (by simp only [List.length_cons, List.length_nil]; omega) ?_; intro v2 w2 ho2 hp2; have hb2 := hbA.trans hp2)
                refine ⟨⟨m + 1, m + 1, out ++ [trim2 (seg s.data.toList n m)], by go_num, by go_num, by omega, by omega, by rw [List.length_append, List.length_singleton]; omega, hnew.out, ?_, hb2⟩, by (simp [intOf] <;> omega)⟩
                simpa using ho2
              · obtain ⟨b0, rfl⟩ : ∃ b0, b = b0 + 1 := ⟨b - 1, by omega⟩
                obtain ⟨d, hd⟩ : ∃ d, s.data.toList[b0]? = some d := ⟨_, List.getElem?_eq_getElem (by have := HSL.out; omega)⟩
                have hb0 : b0 < s.size := by omega
                have hgd : s[b0]'hb0 = d := get_cons (l := s.data.toList.drop (b0 + 1)) (by rw [List.drop_eq_getElem_cons (by have := HSL.out; omega), (List.getElem?_eq_some_iff.1 hd).2]) _
                have hsb := Lib.hid (seg_back (l := s.data.toList) (a := a) (b := b0) (by omega) hd)
                have q3 : decide ((a : Int) < (b0 : Int) + 1) = true := decide_eq_true (by omega)
                clear hd
                cases hbd : blC d with
                | true =>
                  have hT2 : Hid (trimR blC (seg s.data.toList a b0) = trim2 (seg s.data.toList n m)) := by show _ = _; rw [← hT.out, hsb.out, trimR_step hbd]
                  rcases (bl_iff d).1 hbd with h32 | h9
                  · have p0 : ((d.toNat : Int) == 32) = true := by rw [h32]; rfl
                    clear h32 hbd
                    go_wp2
                    exact ⟨⟨b0, by go_num, by omega, by omega, hT2.out, hrow2, hbl2⟩, by (simp [intOf] <;> omega)⟩
                  · have p0 : ((d.toNat : Int) == 32) = false := by rw [h9]; rfl
                    have p1 : ((d.toNat : Int) == 9) = true := by rw [h9]; rfl
                    clear h9 hbd
                    go_wp2
                    exact ⟨⟨b0, by go_num, by omega, by omega, hT2.out, hrow2, hbl2⟩, by (simp [intOf] <;> omega)⟩
                | false =>
                  have p0 : ((d.toNat : Int) == 32) = false := beq_eq_false_iff_ne.2 (fun h => by have := (bl_iff d).2 (.inl (by omega)); rw [hbd] at this; cases this)
                  have p1 : ((d.toNat : Int) == 9) = false := beq_eq_false_iff_ne.2 (fun h => by have := (bl_iff d).2 (.inr (by omega)); rw [hbd] at this; cases this)
                  obtain ⟨b, hbe⟩ : ∃ b, b = b0 + 1 := ⟨_, rfl⟩
                  have hfin : Hid (seg s.data.toList a (b0 + 1) = trim2 (seg s.data.toList n m)) := by show _ = _; rw [← hT.out, hsb.out, trimR_stay hbd]
                  have hE := Lib.hid (ex_seg s a (b0 + 1) (by omega) (by omega))
                  clear hT hbd hbe
                  have i0 : (0 : Int) ≤ (a : Int) := by omega
                  have i1 : (a : Int) ≤ (b0 : Int) + 1 := by omega
                  have i2 : (b0 : Int) + 1 ≤ (s.size : Int) := by omega
                  have hTx : Texts (wr.alloc (.cells #[.string (s.extract a (b0 + 1))] 9)).heap.size (wr.alloc (.cells #[.string (s.extract a (b0 + 1))] 9)) (.slice (some ⟨wr.heap.size, 0, none⟩) 1 1) [trim2 (seg s.data.toList n m)] := by
                    rw [hE.out, hfin.out]
                    exact texts_row (L := [trim2 (seg s.data.toList n m)]) (cap := 1) (heap_alloc_new wr (.cells (strs [trim2 (seg s.data.toList n m)]).toArray 9)) (by rw [World.size_alloc]; exact Nat.lt_succ_self _)
                  have hbA : Below w.heap.size w (wr.alloc (.cells #[.string (s.extract a (b0 + 1))] 9)) := hbl2.alloc hbl2.size _
                  go_wp2_with (at_builtin; refine wpList_appendTs rfl _ _ rfl w.heap.size (wr.alloc (.cells #[.string (s.extract a (b0 + 1))] 9)) _ out [trim2 (seg s.data.toList n m)] _ (by rfl) (by rfl) hTx (hrow2.alloc _) hbA.size (by simp only [List.length_cons, List.length_nil]; omega) ?_; intro v2 w2 ho2 hp2; have hb2 := hbA.trans hp2)
                  refine ⟨⟨m + 1, m + 1, out ++ [trim2 (seg s.data.toList n m)], by go_num, by go_num, by omega, by omega, by rw [List.length_append, List.length_singleton]; omega, hnew.out, ?_, hb2⟩, by (simp [intOf] <;> omega)⟩
                  simpa using ho2
          · obtain ⟨c, hc⟩ : ∃ c, s.data.toList[a]? = some c := ⟨_, List.getElem?_eq_getElem (by have := HSL.out; omega)⟩
            have has : a < s.size := by omega
            have hga : s[a]'has = c := get_cons (l := s.data.toList.drop (a + 1)) (by rw [List.drop_eq_getElem_cons (by have := HSL.out; omega), (List.getElem?_eq_some_iff.1 hc).2]) _
            have hsf := Lib.hid (seg_front (b := m) (by omega) hc)
            have q2 : decide ((a : Int) < (m : Int)) = true := decide_eq_true (by omega)
            have q2n : decide (a < m) = true := decide_eq_true (by omega)
            clear hc
            cases hbc : blC c with
            | true =>
              have hD2 : Hid ((seg s.data.toList (a + 1) m).dropWhile blC = (seg s.data.toList n m).dropWhile blC) := by show _ = _; rw [← hD.out, hsf.out, dw_front hbc]
              rcases (bl_iff c).1 hbc with h32 | h9
              · have p0 : ((c.toNat : Int) == 32) = true := by rw [h32]; rfl
                clear h32 hbc
                go_wp2
                exact ⟨⟨a + 1, by go_num, by omega, by omega, hD2.out, hrow, hbl⟩, by (simp [intOf] <;> omega)⟩
              · have p0 : ((c.toNat : Int) == 32) = false := by rw [h9]; rfl
                have p1 : ((c.toNat : Int) == 9) = true := by rw [h9]; rfl
                clear h9 hbc
                go_wp2
                exact ⟨⟨a + 1, by go_num, by omega, by omega, hD2.out, hrow, hbl⟩, by (simp [intOf] <;> omega)⟩
            | false =>
              have p0 : ((c.toNat : Int) == 32) = false := beq_eq_false_iff_ne.2 (fun h => by have := (bl_iff c).2 (.inl (by omega)); rw [hbc] at this; cases this)
              have p1 : ((c.toNat : Int) == 9) = false := beq_eq_false_iff_ne.2 (fun h => by have := (bl_iff c).2 (.inr (by omega)); rw [hbc] at this; cases this)
              have hH1 : trimR blC (seg s.data.toList a m) = trim2 (seg s.data.toList n m) := by rw [trim2_alt, ← hD.out, hsf.out, dw_stay hbc]
              clear hD hbc hsf
              have hh1 := Lib.hid hH1
              clear hH1
              go_wp2
              go_loopw [7] (fun b' wq => ∃ b : Nat, b' = .int .i64 b ∧ a ≤ b ∧ b ≤ m ∧ Hid (trimR blC (seg s.data.toList a b) = trim2 (seg s.data.toList n m)) ∧ wq.ownsRow w.heap.size 9 1 u3 out.length (strs out) ∧ Below w.heap.size w wq) (fun b' _ => (intOf b').toNat)
              case atStart => exact ⟨m, rfl, by omega, by omega, hh1.out, hrow, hbl⟩
              case round =>
                obtain ⟨b, rfl, hab, hbm, hT, hrow2, hbl2⟩ := hrel
                clear hrow hbl
                by_cases hba : b = a
                · have hfin : Hid (seg s.data.toList a b = trim2 (seg s.data.toList n m)) := by show _ = _; rw [← hT.out, hba, seg_nil]; rfl
                  have hE := Lib.hid (ex_seg s a b (by omega) (by omega))
                  have q3 : decide ((a : Int) < (b : Int)) = false := decide_eq_false (by omega)
                  have q3n : decide (a < b) = false := decide_eq_false (by omega)
                  clear hba hT
                  have i0 : (0 : Int) ≤ (a : Int) := by omega
                  have i1 : (a : Int) ≤ (b : Int) := by omega
                  have i2 : (b : Int) ≤ (s.size : Int) := by omega
                  have hTx : Texts (wr.alloc (.cells #[.string (s.extract a b)] 9)).heap.size (wr.alloc (.cells #[.string (s.extract a b)] 9)) (.slice (some ⟨wr.heap.size, 0, none⟩) 1 1) [trim2 (seg s.data.toList n m)] := by
                    rw [hE.out, hfin.out]
                    exact texts_row (L := [trim2 (seg s.data.toList n m)]) (cap := 1) (heap_alloc_new wr (.cells (strs [trim2 (seg s.data.toList n m)]).toArray 9)) (by rw [World.size_alloc]; exact Nat.lt_succ_self _)
                  have hbA : Below w.heap.size w (wr.alloc (.cells #[.string (s.extract a b)] 9)) := hbl2.alloc hbl2.size _
                  go_wp2_with (at_builtin; refine wpList_appendTs rfl _ _ rfl w.heap.size (wr.alloc (.cells #[.string (s.extract a b)] 9)) _ out [trim2 (seg s.data.toList n m)] _ (by rfl) (by rfl) hTx (hrow2.alloc _) hbA.size (by simp only [List.length_cons, List.length_nil]; omega) ?_; intro v2 w2 ho2 hp2; have hb2 := hbA.trans hp2)
                  refine ⟨⟨m + 1, m + 1, out ++ [trim2 (seg s.data.toList n m)], by go_num, by go_num, by omega, by omega, by rw [List.length_append, List.length_singleton]; omega, hnew.out, ?_, hb2⟩, by (simp [intOf] <;> omega)⟩
                  simpa using ho2
                · obtain ⟨b0, rfl⟩ : ∃ b0, b = b0 + 1 := ⟨b - 1, by omega⟩
                  obtain ⟨d, hd⟩ : ∃ d, s.data.toList[b0]? = some d := ⟨_, List.getElem?_eq_getElem (by have := HSL.out; omega)⟩
                  have hb0 : b0 < s.size := by omega
                  have hgd : s[b0]'hb0 = d := get_cons (l := s.data.toList.drop (b0 + 1)) (by rw [List.drop_eq_getElem_cons (by have := HSL.out; omega), (List.getElem?_eq_some_iff.1 hd).2]) _
                  have hsb := Lib.hid (seg_back (l := s.data.toList) (a := a) (b := b0) (by omega) hd)
                  have q3 : decide ((a : Int) < (b0 : Int) + 1) = true := decide_eq_true (by omega)
                  clear hd
                  cases hbd : blC d with
                  | true =>
                    have hT2 : Hid (trimR blC (seg s.data.toList a b0) = trim2 (seg s.data.toList n m)) := by show _ = _; rw [← hT.out, hsb.out, trimR_step hbd]
                    rcases (bl_iff d).1 hbd with h32 | h9
                    · have p0 : ((d.toNat : Int) == 32) = true := by rw [h32]; rfl
                      clear h32 hbd
                      go_wp2
                      exact ⟨⟨b0, by go_num, by omega, by omega, hT2.out, hrow2, hbl2⟩, by (simp [intOf] <;> omega)⟩
                    · have p0 : ((d.toNat : Int) == 32) = false := by rw [h9]; rfl
                      have p1 : ((d.toNat : Int) == 9) = true := by rw [h9]; rfl
                      clear h9 hbd
                      go_wp2
                      exact ⟨⟨b0, by go_num, by omega, by omega, hT2.out, hrow2, hbl2⟩, by (simp [intOf] <;> omega)⟩
                  | false =>
                    have p0 : ((d.toNat : Int) == 32) = false := beq_eq_false_iff_ne.2 (fun h => by have := (bl_iff d).2 (.inl (by omega)); rw [hbd] at this; cases this)
                    have p1 : ((d.toNat : Int) == 9) = false := beq_eq_false_iff_ne.2 (fun h => by have := (bl_iff d).2 (.inr (by omega)); rw [hbd] at this; cases this)
                    obtain ⟨b, hbe⟩ : ∃ b, b = b0 + 1 := ⟨_, rfl⟩
                    have hfin : Hid (seg s.data.toList a (b0 + 1) = trim2 (seg s.data.toList n m)) := by show _ = _; rw [← hT.out, hsb.out, trimR_stay hbd]
                    have hE := Lib.hid (ex_seg s a (b0 + 1) (by omega) (by omega))
                    clear hT hbd hbe
                    have i0 : (0 : Int) ≤ (a : Int) := by omega
                    have i1 : (a : Int) ≤ (b0 : Int) + 1 := by omega
                    have i2 : (b0 : Int) + 1 ≤ (s.size : Int) := by omega
                    have hTx : Texts (wr.alloc (.cells #[.string (s.extract a (b0 + 1))] 9)).heap.size (wr.alloc (.cells #[.string (s.extract a (b0 + 1))] 9)) (.slice (some ⟨wr.heap.size, 0, none⟩) 1 1) [trim2 (seg s.data.toList n m)] := by
                      rw [hE.out, hfin.out]
                      exact texts_row (L := [trim2 (seg s.data.toList n m)]) (cap := 1) (heap_alloc_new wr (.cells (strs [trim2 (seg s.data.toList n m)]).toArray 9)) (by rw [World.size_alloc]; exact Nat.lt_succ_self _)
                    have hbA : Below w.heap.size w (wr.alloc (.cells #[.string (s.extract a (b0 + 1))] 9)) := hbl2.alloc hbl2.size _
                    go_wp2_with (at_builtin; refine wpList_appendTs rfl _ _ rfl w.heap.size (wr.alloc (.cells #[.string (s.extract a (b0 + 1))] 9)) _ out [trim2 (seg s.data.toList n m)] _ (by rfl) (by rfl) hTx (hrow2.alloc _) hbA.size (by simp only [List.length_cons, List.length_nil]; omega) ?_; intro v2 w2 ho2 hp2; have hb2 := hbA.trans hp2)
                    refine ⟨⟨m + 1, m + 1, out ++ [trim2 (seg s.data.toList n m)], by go_num, by go_num, by omega, by omega, by rw [List.length_append, List.length_singleton]; omega, hnew.out, ?_, hb2⟩, by (simp [intOf] <;> omega)⟩
                    simpa using ho2
      · have q44 : ((c.toNat : Int) != 44) = true := bne_iff_ne.2 (fun h => h44 (UInt8.toNat_inj.1 (show c.toNat = (44 : UInt8).toNat from by show c.toNat = 44; omega)))
        have hsk := Lib.hid (tinv_skip hinv.out (by have := HSL.out; omega) (by rw [HX.out]; exact fun e => h44 (Option.some.inj e)))
        clear h44
        go_wp2
        exact ⟨⟨n, m + 1, out, rfl, by go_num, by omega, by omega, hol, hsk.out, hrow, hbl⟩, by (simp [intOf] <;> omega)⟩
    · by_cases hme : m = s.size
      · subst hme
        have hnew := Lib.hid (tinv_end (by have := hinv.out; rw [HSL.out] at this; exact this))
        rw [← HSL.out] at hnew
        clear hinv
        have t0 : decide ((s.size : Int) ≤ (s.size : Int)) = true := decide_eq_true (by omega)
        have t1 : decide ((s.size : Int) < (s.size : Int)) = false := decide_eq_false (by omega)
        go_wp2
        go_loopw [6] (fun a' wq => ∃ a : Nat, a' = .int .i64 a ∧ n ≤ a ∧ a ≤ s.size ∧ Hid ((seg s.data.toList a s.size).dropWhile blC = (seg s.data.toList n s.size).dropWhile blC) ∧ wq.ownsRow w.heap.size 9 1 u3 out.length (strs out) ∧ Below w.heap.size w wq) (fun a' _ => s.size + 1 - (intOf a').toNat)
        case atStart => exact ⟨n, rfl, by omega, by omega, rfl, hrow, hbl⟩
        case round =>
          clear hrow hbl
          obtain ⟨a, rfl, hna, ham, hD, hrow, hbl⟩ := hrel
          by_cases haM : a = s.size
          · have hH1 : trimR blC (seg s.data.toList a s.size) = trim2 (seg s.data.toList n s.size) := by rw [trim2_alt, ← hD.out, haM, seg_nil]; rfl
            have q2 : decide ((a : Int) < (s.size : Int)) = false := decide_eq_false (by omega)
            have q2n : decide (a < s.size) = false := decide_eq_false (by omega)
            clear haM hD
            have hh1 := Lib.hid hH1
            clear hH1
            go_wp2
            go_loopw [7] (fun b' wq => ∃ b : Nat, b' = .int .i64 b ∧ a ≤ b ∧ b ≤ s.size ∧ Hid (trimR blC (seg s.data.toList a b) = trim2 (seg s.data.toList n s.size)) ∧ wq.ownsRow w.heap.size 9 1 u3 out.length (strs out) ∧ Below w.heap.size w wq) (fun b' _ => (intOf b').toNat)
            case atStart => exact ⟨s.size, rfl, by omega, by omega, hh1.out, hrow, hbl⟩
            case round =>
              obtain ⟨b, rfl, hab, hbm, hT, hrow2, hbl2⟩ := hrel
              clear hrow hbl
              by_cases hba : b = a
              · have hfin : Hid (seg s.data.toList a b = trim2 (seg s.data.toList n s.size)) := by show _ = _; rw [← hT.out, hba, seg_nil]; rfl
                have hE := Lib.hid (ex_seg s a b (by omega) (by omega))
                have q3 : decide ((a : Int) < (b : Int)) = false := decide_eq_false (by omega)
                have q3n : decide (a < b) = false := decide_eq_false (by omega)
                clear hba hT
                have i0 : (0 : Int) ≤ (a : Int) := by omega
                have i1 : (a : Int) ≤ (b : Int) := by omega
                have i2 : (b : Int) ≤ (s.size : Int) := by omega
                have hTx : Texts (wr.alloc (.cells #[.string (s.extract a b)] 9)).heap.size (wr.alloc (.cells #[.string (s.extract a b)] 9)) (.slice (some ⟨wr.heap.size, 0, none⟩) 1 1) [trim2 (seg s.data.toList n s.size)] := by
                  rw [hE.out, hfin.out]
                  exact texts_row (L := [trim2 (seg s.data.toList n s.size)]) (cap := 1) (heap_alloc_new wr (.cells (strs [trim2 (seg s.data.toList n s.size)]).toArray 9)) (by rw [World.size_alloc]; exact Nat.lt_succ_self _)
                have hbA : Below w.heap.size w (wr.alloc (.cells #[.string (s.extract a b)] 9)) := hbl2.alloc hbl2.size _
                go_wp2_with (at_builtin; refine wpList_appendTs rfl _ _ rfl w.heap.size (wr.alloc (.cells #[.string (s.extract a b)] 9)) _ out [trim2 (seg s.data.toList n s.size)] _ (by rfl) (by rfl) hTx (hrow2.alloc _) hbA.size (by simp only [List.length_cons, List.length_nil]; omega) ?_; intro v2 w2 ho2 hp2; have hb2 := hbA.trans hp2)
                refine ⟨⟨s.size + 1, s.size + 1, out ++ [trim2 (seg s.data.toList n s.size)], by go_num, by go_num, by omega, by omega, by rw [List.length_append, List.length_singleton]; omega, hnew.out, ?_, hb2⟩, by (simp [intOf] <;> omega)⟩
                simpa using ho2
              · obtain ⟨b0, rfl⟩ : ∃ b0, b = b0 + 1 := ⟨b - 1, by omega⟩
                obtain ⟨d, hd⟩ : ∃ d, s.data.toList[b0]? = some d := ⟨_, List.getElem?_eq_getElem (by have := HSL.out; omega)⟩
                have hb0 : b0 < s.size := by omega
                have hgd : s[b0]'hb0 = d := get_cons (l := s.data.toList.drop (b0 + 1)) (by rw [List.drop_eq_getElem_cons (by have := HSL.out; omega), (List.getElem?_eq_some_iff.1 hd).2]) _
                have hsb := Lib.hid (seg_back (l := s.data.toList) (a := a) (b := b0) (by omega) hd)
                have q3 : decide ((a : Int) < (b0 : Int) + 1) = true := decide_eq_true (by omega)
                clear hd
                cases hbd : blC d with
                | true =>
                  have hT2 : Hid (trimR blC (seg s.data.toList a b0) = trim2 (seg s.data.toList n s.size)) := by show _ = _; rw [← hT.out, hsb.out, trimR_step hbd]
                  rcases (bl_iff d).1 hbd with h32 | h9
                  · have p0 : ((d.toNat : Int) == 32) = true := by rw [h32]; rfl
                    clear h32 hbd
                    go_wp2
                    exact ⟨⟨b0, by go_num, by omega, by omega, hT2.out, hrow2, hbl2⟩, by (simp [intOf] <;> omega)⟩
                  · have p0 : ((d.toNat : Int) == 32) = false := by rw [h9]; rfl
                    have p1 : ((d.toNat : Int) == 9) = true := by rw [h9]; rfl
                    clear h9 hbd
                    go_wp2
                    exact ⟨⟨b0, by go_num, by omega, by omega, hT2.out, hrow2, hbl2⟩, by (simp [intOf] <;> omega)⟩
                | false =>
                  have p0 : ((d.toNat : Int) == 32) = false := beq_eq_false_iff_ne.2 (fun h => by have := (bl_iff d).2 (.inl (by omega)); rw [hbd] at this; cases this)
                  have p1 : ((d.toNat : Int) == 9) = false := beq_eq_false_iff_ne.2 (fun h => by have := (bl_iff d).2 (.inr (by omega)); rw [hbd] at this; cases this)
                  obtain ⟨b, hbe⟩ : ∃ b, b = b0 + 1 := ⟨_, rfl⟩
                  have hfin : Hid (seg s.data.toList a (b0 + 1) = trim2 (seg s.data.toList n s.size)) := by show _ = _; rw [← hT.out, hsb.out, trimR_stay hbd]
                  have hE := Lib.hid (ex_seg s a (b0 + 1) (by omega) (by omega))
                  clear hT hbd hbe
                  have i0 : (0 : Int) ≤ (a : Int) := by omega
                  have i1 : (a : Int) ≤ (b0 : Int) + 1 := by omega
                  have i2 : (b0 : Int) + 1 ≤ (s.size : Int) := by omega
                  have hTx : Texts (wr.alloc (.cells #[.string (s.extract a (b0 + 1))] 9)).heap.size (wr.alloc (.cells #[.string (s.extract a (b0 + 1))] 9)) (.slice (some ⟨wr.heap.size, 0, none⟩) 1 1) [trim2 (seg s.data.toList n s.size)] := by
                    rw [hE.out, hfin.out]
                    exact texts_row (L := [trim2 (seg s.data.toList n s.size)]) (cap := 1) (heap_alloc_new wr (.cells (strs [trim2 (seg s.data.toList n s.size)]).toArray 9)) (by rw [World.size_alloc]; exact Nat.lt_succ_self _)
                  have hbA : Below w.heap.size w (wr.alloc (.cells #[.string (s.extract a (b0 + 1))] 9)) := hbl2.alloc hbl2.size _
                  go_wp2_with (at_builtin; refine wpList_appendTs rfl _ _ rfl w.heap.size (wr.alloc (.cells #[.string (s.extract a (b0 + 1))] 9)) _ out [trim2 (seg s.data.toList n s.size)] _ (by rfl) (by rfl) hTx (hrow2.alloc _) hbA.size (by simp only [List.length_cons, List.length_nil]; omega) ?_; intro v2 w2 ho2 hp2; have hb2 := hbA.trans hp2)
                  refine ⟨⟨s.size + 1, s.size + 1, out ++ [trim2 (seg s.data.toList n s.size)], by go_num, by go_num, by omega, by omega, by rw [List.length_append, List.length_singleton]; omega, hnew.out, ?_, hb2⟩, by (simp [intOf] <;> omega)⟩
                  simpa using ho2
          · obtain ⟨c, hc⟩ : ∃ c, s.data.toList[a]? = some c := ⟨_, List.getElem?_eq_getElem (by have := HSL.out; omega)⟩
            have has : a < s.size := by omega
            have hga : s[a]'has = c := get_cons (l := s.data.toList.drop (a + 1)) (by rw [List.drop_eq_getElem_cons (by have := HSL.out; omega), (List.getElem?_eq_some_iff.1 hc).2]) _
            have hsf := Lib.hid (seg_front (b := s.size) (by omega) hc)
            have q2 : decide ((a : Int) < (s.size : Int)) = true := decide_eq_true (by omega)
            have q2n : decide (a < s.size) = true := decide_eq_true (by omega)
            clear hc
            cases hbc : blC c with
            | true =>
              have hD2 : Hid ((seg s.data.toList (a + 1) s.size).dropWhile blC = (seg s.data.toList n s.size).dropWhile blC) := by show _ = _; rw [← hD.out, hsf.out, dw_front hbc]
              rcases (bl_iff c).1 hbc with h32 | h9
              · have p0 : ((c.toNat : Int) == 32) = true := by rw [h32]; rfl
                clear h32 hbc
                go_wp2
                exact ⟨⟨a + 1, by go_num, by omega, by omega, hD2.out, hrow, hbl⟩, by (simp [intOf] <;> omega)⟩
              · have p0 : ((c.toNat : Int) == 32) = false := by rw [h9]; rfl
                have p1 : ((c.toNat : Int) == 9) = true := by rw [h9]; rfl
                clear h9 hbc
                go_wp2
                exact ⟨⟨a + 1, by go_num, by omega, by omega, hD2.out, hrow, hbl⟩, by (simp [intOf] <;> omega)⟩
            | false =>
              have p0 : ((c.toNat : Int) == 32) = false := beq_eq_false_iff_ne.2 (fun h => by have := (bl_iff c).2 (.inl (by omega)); rw [hbc] at this; cases this)
              have p1 : ((c.toNat : Int) == 9) = false := beq_eq_false_iff_ne.2 (fun h => by have := (bl_iff c).2 (.inr (by omega)); rw [hbc] at this; cases this)
              have hH1 : trimR blC (seg s.data.toList a s.size) = trim2 (seg s.data.toList n s.size) := by rw [trim2_alt, ← hD.out, hsf.out, dw_stay hbc]
              clear hD hbc hsf
              have hh1 := Lib.hid hH1
              clear hH1
              go_wp2
              go_loopw [7] (fun b' wq => ∃ b : Nat, b' = .int .i64 b ∧ a ≤ b ∧ b ≤ s.size ∧ Hid (trimR blC (seg s.data.toList a b) = trim2 (seg s.data.toList n s.size)) ∧ wq.ownsRow w.heap.size 9 1 u3 out.length (strs out) ∧ Below w.heap.size w wq) (fun b' _ => (intOf b').toNat)
              case atStart => exact ⟨s.size, rfl, by omega, by omega, hh1.out, hrow, hbl⟩
              case round =>
                obtain ⟨b, rfl, hab, hbm, hT, hrow2, hbl2⟩ := hrel
                clear hrow hbl
                by_cases hba : b = a
                · have hfin : Hid (seg s.data.toList a b = trim2 (seg s.data.toList n s.size)) := by show _ = _; rw [← hT.out, hba, seg_nil]; rfl
                  have hE := Lib.hid (ex_seg s a b (by omega) (by omega))
                  have q3 : decide ((a : Int) < (b : Int)) = false := decide_eq_false (by omega)
                  have q3n : decide (a < b) = false := decide_eq_false (by omega)
                  clear hba hT
                  have i0 : (0 : Int) ≤ (a : Int) := by omega
                  have i1 : (a : Int) ≤ (b : Int) := by omega
                  have i2 : (b : Int) ≤ (s.size : Int) := by omega
                  have hTx : Texts (wr.alloc (.cells #[.string (s.extract a b)] 9)).heap.size (wr.alloc (.cells #[.string (s.extract a b)] 9)) (.slice (some ⟨wr.heap.size, 0, none⟩) 1 1) [trim2 (seg s.data.toList n s.size)] := by
                    rw [hE.out, hfin.out]
                    exact texts_row (L := [trim2 (seg s.data.toList n s.size)]) (cap := 1) (heap_alloc_new wr (.cells (strs [trim2 (seg s.data.toList n s.size)]).toArray 9)) (by rw [World.size_alloc]; exact Nat.lt_succ_self _)
                  have hbA : Below w.heap.size w (wr.alloc (.cells #[.string (s.extract a b)] 9)) := hbl2.alloc hbl2.size _
                  go_wp2_with (at_builtin; refine wpList_appendTs rfl _ _ rfl w.heap.size (wr.alloc (.cells #[.string (s.extract a b)] 9)) _ out [trim2 (seg s.data.toList n s.size)] _ (by rfl) (by rfl) hTx (hrow2.alloc _) hbA.size (by simp only [List.length_cons, List.length_nil]; omega) ?_; intro v2 w2 ho2 hp2; have hb2 := hbA.trans hp2)
                  refine ⟨⟨s.size + 1, s.size + 1, out ++ [trim2 (seg s.data.toList n s.size)], by go_num, by go_num, by omega, by omega, by rw [List.length_append, List.length_singleton]; omega, hnew.out, ?_, hb2⟩, by (simp [intOf] <;> omega)⟩
                  simpa using ho2
                · obtain ⟨b0, rfl⟩ : ∃ b0, b = b0 + 1 := ⟨b - 1, by omega⟩
                  obtain ⟨d, hd⟩ : ∃ d, s.data.toList[b0]? = some d := ⟨_, List.getElem?_eq_getElem (by have := HSL.out; omega)⟩
                  have hb0 : b0 < s.size := by omega
                  have hgd : s[b0]'hb0 = d := get_cons (l := s.data.toList.drop (b0 + 1)) (by rw [List.drop_eq_getElem_cons (by have := HSL.out; omega), (List.getElem?_eq_some_iff.1 hd).2]) _
                  have hsb := Lib.hid (seg_back (l := s.data.toList) (a := a) (b := b0) (by omega) hd)
                  have q3 : decide ((a : Int) < (b0 : Int) + 1) = true := decide_eq_true (by omega)
                  clear hd
                  cases hbd : blC d with
                  | true =>
                    have hT2 : Hid (trimR blC (seg s.data.toList a b0) = trim2 (seg s.data.toList n s.size)) := by show _ = _; rw [← hT.out, hsb.out, trimR_step hbd]
                    rcases (bl_iff d).1 hbd with h32 | h9
                    · have p0 : ((d.toNat : Int) == 32) = true := by rw [h32]; rfl
                      clear h32 hbd
                      go_wp2
                      exact ⟨⟨b0, by go_num, by omega, by omega, hT2.out, hrow2, hbl2⟩, by (simp [intOf] <;> omega)⟩
                    · have p0 : ((d.toNat : Int) == 32) = false := by rw [h9]; rfl
                      have p1 : ((d.toNat : Int) == 9) = true := by rw [h9]; rfl
                      clear h9 hbd
                      go_wp2
                      exact ⟨⟨b0, by go_num, by omega, by omega, hT2.out, hrow2, hbl2⟩, by (simp [intOf] <;> omega)⟩
                  | false =>
                    have p0 : ((d.toNat : Int) == 32) = false := beq_eq_false_iff_ne.2 (fun h => by have := (bl_iff d).2 (.inl (by omega)); rw [hbd] at this; cases this)
                    have p1 : ((d.toNat : Int) == 9) = false := beq_eq_false_iff_ne.2 (fun h => by have := (bl_iff d).2 (.inr (by omega)); rw [hbd] at this; cases this)
                    obtain ⟨b, hbe⟩ : ∃ b, b = b0 + 1 := ⟨_, rfl⟩
                    have hfin : Hid (seg s.data.toList a (b0 + 1) = trim2 (seg s.data.toList n s.size)) := by show _ = _; rw [← hT.out, hsb.out, trimR_stay hbd]
                    have hE := Lib.hid (ex_seg s a (b0 + 1) (by omega) (by omega))
                    clear hT hbd hbe
                    have i0 : (0 : Int) ≤ (a : Int) := by omega
                    have i1 : (a : Int) ≤ (b0 : Int) + 1 := by omega
                    have i2 : (b0 : Int) + 1 ≤ (s.size : Int) := by omega
                    have hTx : Texts (wr.alloc (.cells #[.string (s.extract a (b0 + 1))] 9)).heap.size (wr.alloc (.cells #[.string (s.extract a (b0 + 1))] 9)) (.slice (some ⟨wr.heap.size, 0, none⟩) 1 1) [trim2 (seg s.data.toList n s.size)] := by
                      rw [hE.out, hfin.out]
                      exact texts_row (L := [trim2 (seg s.data.toList n s.size)]) (cap := 1) (heap_alloc_new wr (.cells (strs [trim2 (seg s.data.toList n s.size)]).toArray 9)) (by rw [World.size_alloc]; exact Nat.lt_succ_self _)
                    have hbA : Below w.heap.size w (wr.alloc (.cells #[.string (s.extract a (b0 + 1))] 9)) := hbl2.alloc hbl2.size _
                    go_wp2_with (at_builtin; refine wpList_appendTs rfl _ _ rfl w.heap.size (wr.alloc (.cells #[.string (s.extract a (b0 + 1))] 9)) _ out [trim2 (seg s.data.toList n s.size)] _ (by rfl) (by rfl) hTx (hrow2.alloc _) hbA.size (by simp only [List.length_cons, List.length_nil]; omega) ?_; intro v2 w2 ho2 hp2; have hb2 := hbA.trans hp2)
                    refine ⟨⟨s.size + 1, s.size + 1, out ++ [trim2 (seg s.data.toList n s.size)], by go_num, by go_num, by omega, by omega, by rw [List.length_append, List.length_singleton]; omega, hnew.out, ?_, hb2⟩, by (simp [intOf] <;> omega)⟩
                    simpa using ho2
      · have hdone : Hid (out = splitT s.data.toList) := by
          rcases hinv.out with ⟨_, h2, _, _⟩ | ⟨_, h⟩
          · have := HSL.out; omega
          · exact h
        have t0 : decide ((m : Int) ≤ (s.size : Int)) = false := decide_eq_false (by omega)
        have t0n : decide (m ≤ s.size) = false := decide_eq_false (by omega)
        clear hinv
        go_wp2
        go_ret
        exact ⟨_, rfl, by rw [← hdone.out]; exact hrow, hbl⟩

end Go.Proofs.YtnppnogmpoigkaaDoor
