/- Header fields: the reference's blank, Value, trim. -/
import Derived.Test.YtgbjofahmkeapaaDoorHeadR
namespace Go.Proofs.YtgbjofahmkeapaaDoor
open Go.RowKit Go.Proofs.YtgbjofahmkeapaaDoorW.PrintWords

def blC (c : UInt8) : Bool := blank2.contains c
theorem dw_append {α : Type} (p : α → Bool) : ∀ (a b : List α), (∀ x ∈ a, p x = true) → (a ++ b).dropWhile p = b.dropWhile p
  | [], b, _ => rfl
  | x :: a, b, h => by
    rw [List.cons_append, List.dropWhile_cons, if_pos (h x List.mem_cons_self)]
    exact dw_append p a b fun y hy => h y (List.mem_cons_of_mem _ hy)
theorem dw_stop {α : Type} (p : α → Bool) : ∀ (a : List α) (c : α) (b : List α), p c = false → ∃ a', (a ++ c :: b).dropWhile p = a' ++ c :: b ∧ a'.length ≤ a.length ∧ ∃ d, a = d ++ a' ∧ ∀ x ∈ d, p x = true
  | [], c, b, h => ⟨[], (by rw [List.nil_append, List.dropWhile_cons, if_neg (by rw [h]; decide)]), Nat.le_refl _, [], rfl, (fun _ hx => by cases hx)⟩
  | x :: a, c, b, h => by
    rw [List.cons_append, List.dropWhile_cons]
    by_cases hx : p x = true
    · rw [if_pos hx]
      obtain ⟨a', h1, h2, d, h3, h4⟩ := dw_stop p a c b h
      refine ⟨a', h1, by rw [List.length_cons]; omega, x :: d, by rw [h3]; rfl, fun y hy => ?_⟩
      rcases List.mem_cons.1 hy with rfl | hy
      · exact hx
      · exact h4 y hy
    · rw [if_neg hx]
      exact ⟨x :: a, rfl, Nat.le_refl _, [], rfl, (fun _ hx => by cases hx)⟩
def trimR (p : UInt8 → Bool) (l : List UInt8) : List UInt8 := (l.reverse.dropWhile p).reverse
theorem dw_split (p : UInt8 → Bool) : ∀ l : List UInt8, ∃ a, l = a ++ l.dropWhile p ∧ (∀ x ∈ a, p x = true) ∧ (l.dropWhile p = [] ∨ ∃ c t, l.dropWhile p = c :: t ∧ p c = false)
  | [] => ⟨[], rfl, (fun _ h => by cases h), .inl rfl⟩
  | x :: l => by
    rw [List.dropWhile_cons]
    by_cases hx : p x = true
    · rw [if_pos hx]
      obtain ⟨a, h1, h2, h3⟩ := dw_split p l
      refine ⟨x :: a, by rw [List.cons_append, ← h1], fun y hy => ?_, h3⟩
      rcases List.mem_cons.1 hy with rfl | hy
      · exact hx
      · exact h2 y hy
    · rw [if_neg hx]
      exact ⟨[], rfl, (fun _ h => by cases h), .inr ⟨x, l, rfl, by simpa using hx⟩⟩
theorem trim_swap (p : UInt8 → Bool) (l : List UInt8) : (trimR p l).dropWhile p = trimR p (l.dropWhile p) := by
  obtain ⟨a, h1, h2, h3⟩ := dw_split p l
  rcases h3 with h3 | ⟨c, t, h3, hc⟩
  · rw [h3] at h1 ⊢
    rw [List.append_nil] at h1
    have : trimR p l = [] := by
      unfold trimR
      rw [h1]
      have := dw_append p a.reverse [] (fun x hx => h2 x (List.mem_reverse.1 hx))
      rw [List.append_nil] at this
      rw [this]; rfl
    rw [this]; rfl
  · rw [h3] at h1 ⊢
    have hrev : (c :: t).reverse = t.reverse ++ c :: [] := by simp
    obtain ⟨d, e1, _⟩ := dw_stop p t.reverse c a.reverse hc
    obtain ⟨d', e2, _⟩ := dw_stop p t.reverse c [] hc
    have hd : (t.reverse ++ c :: a.reverse).dropWhile p = (t.reverse ++ c :: []).dropWhile p ++ a.reverse := by
      have key : ∀ (u : List UInt8) (v : List UInt8), (u ++ c :: v).dropWhile p = (u ++ c :: []).dropWhile p ++ v := by
        intro u v
        induction u with
        | nil => rw [List.nil_append, List.nil_append, List.dropWhile_cons, List.dropWhile_cons, if_neg (by rw [hc]; decide), if_neg (by rw [hc]; decide)]; rfl
        | cons x u ih =>
          rw [List.cons_append, List.cons_append, List.dropWhile_cons, List.dropWhile_cons]
          split
          · exact ih
          · simp
      exact key _ _
    have hl : trimR p l = a ++ trimR p (c :: t) := by
      unfold trimR
      rw [h1, List.reverse_append, hrev, List.append_assoc, List.singleton_append, hd, List.reverse_append, List.reverse_reverse]
    rw [hl, dw_append p a _ h2]
    have hh : ∃ t', trimR p (c :: t) = c :: t' := by
      unfold trimR
      rw [hrev, e2, List.reverse_append]
      exact ⟨d'.reverse, by simp⟩
    obtain ⟨t', ht'⟩ := hh
    rw [ht', List.dropWhile_cons, if_neg (by rw [hc]; decide)]
theorem trim2_alt (l : List UInt8) : trim2 l = trimR blC (l.dropWhile blC) := (trim_swap blC l)
theorem trimR_le (p : UInt8 → Bool) (l : List UInt8) : (trimR p l).length ≤ l.length := by
  unfold trimR
  have := (List.dropWhile_suffix (p := p) (l := l.reverse)).length_le
  simp only [List.length_reverse] at this ⊢
  exact this
theorem value_first {c : UInt8} {t : List UInt8} (h : blC c = true) : valueB (c :: t) = false := by
  unfold valueB
  have hne : (trim2 (c :: t) == c :: t) = false := beq_eq_false_iff_ne.2 fun e => by
    have h1 := congrArg List.length e
    rw [trim2_alt, List.dropWhile_cons, if_pos h] at h1
    have h2 := trimR_le blC (t.dropWhile blC)
    have h3 := (List.dropWhile_suffix (p := blC) (l := t)).length_le
    rw [List.length_cons] at h1
    omega
  rw [hne, Bool.and_false]
theorem value_last {c : UInt8} {t : List UInt8} (h : blC c = true) : valueB (t ++ [c]) = false := by
  unfold valueB
  have hne : (trim2 (t ++ [c]) == t ++ [c]) = false := beq_eq_false_iff_ne.2 fun e => by
    have h1 := congrArg List.length e
    have e2 : trim2 (t ++ [c]) = (trimR blC (t ++ [c])).dropWhile blC := rfl
    have e3 : trimR blC (t ++ [c]) = trimR blC t := by unfold trimR; rw [List.reverse_append, List.reverse_singleton, List.singleton_append, List.dropWhile_cons, if_pos h]
    rw [e2, e3] at h1
    have h2 := trimR_le blC t
    have h3 := (List.dropWhile_suffix (p := blC) (l := trimR blC t)).length_le
    rw [List.length_append, List.length_singleton] at h1
    omega
  rw [hne, Bool.and_false]
theorem value_end {c : UInt8} {l : List UInt8} (hc : c ∈ l) (h : endC c = true) : valueB l = false := by
  unfold valueB
  rw [List.any_eq_true.2 ⟨c, hc, h⟩]; rfl
theorem value_yes {l : List UInt8} (h0 : l.any endC = false) (h1 : ∀ c t, l = c :: t → blC c = false) (h2 : ∀ c t, l = t ++ [c] → blC c = false) : valueB l = true := by
  unfold valueB
  have hl : l.dropWhile blC = l := by
    cases l with
    | nil => rfl
    | cons c t => rw [List.dropWhile_cons, if_neg (by rw [h1 c t rfl]; decide)]
  have hr : trimR blC l = l := by
    unfold trimR
    cases hrev : l.reverse with
    | nil => have := congrArg List.reverse hrev; rw [List.reverse_reverse] at this; rw [this]; rfl
    | cons c t =>
      have e : l = t.reverse ++ [c] := by rw [← List.reverse_reverse l, hrev, List.reverse_cons]
      rw [List.dropWhile_cons, if_neg (by rw [h2 c _ e]; decide), ← hrev, List.reverse_reverse]
  rw [h0, trim2_alt, hl, hr]
  simp

theorem ref13_blank (c : UInt8) (w : World) : Calls Tryd.prog 45 #[.int .u8 c.toNat] w fun e w' => e = .returned (.bool (blC c)) ∧ w' = w := by
  have hb : blC c = (((c.toNat : Int) == 32) || ((c.toNat : Int) == 9)) := by
    have key : ∀ n : Nat, n < 256 → blC (UInt8.ofNat n) = (((n : Int) == 32) || ((n : Int) == 9)) := by decide +kernel
    have := key c.toNat c.toNat_lt
    rwa [UInt8.ofNat_toNat] at this
  rw [hb]
  cases h1 : ((c.toNat : Int) == 32) with
  | true =>
    go_enter Tryd.func45, Tryd.ntmps45
    go_wp2
    go_ret
    exact ⟨rfl, rfl⟩
  | false =>
    go_enter Tryd.func45, Tryd.ntmps45
    go_wp2
    go_ret
    exact ⟨rfl, rfl⟩

theorem end_cases {c : UInt8} (h : endC c = true) : c.toNat = 0 ∨ c.toNat = 10 ∨ c.toNat = 13 := by
  have key : ∀ n : Nat, n < 256 → endC (UInt8.ofNat n) = true → n = 0 ∨ n = 10 ∨ n = 13 := by decide +kernel
  have := key c.toNat c.toNat_lt
  rw [UInt8.ofNat_toNat] at this
  exact this h
theorem end_not {c : UInt8} (h : endC c = false) : c.toNat ≠ 0 ∧ c.toNat ≠ 10 ∧ c.toNat ≠ 13 := by
  have key : ∀ n : Nat, n < 256 → endC (UInt8.ofNat n) = false → n ≠ 0 ∧ n ≠ 10 ∧ n ≠ 13 := by decide +kernel
  have := key c.toNat c.toNat_lt
  rw [UInt8.ofNat_toNat] at this
  exact this h

set_option maxHeartbeats 4000000 in
set_option maxRecDepth 100000 in
theorem ref13_Value (s : ByteArray) (hs : s.size ≤ 1000000) (w : World) :
    Calls Tryd.prog 25 #[.string s] w fun e w' => e = .returned (.bool (valueB s.data.toList)) ∧ Below w.heap.size w w' := by
  have HSL := Lib.hid (size_list s)
  go_enter Tryd.func25, Tryd.ntmps25
  go_wp2
  go_loopw [3] (fun i wr => ∃ k : Nat, k ≤ s.size ∧ i = .int .i64 k ∧ Hid ((s.data.toList.take k).any endC = false ∧ ∀ (j : Nat) c, j < k → s.data.toList[j]? = some c → (j = 0 ∨ j + 1 = s.size) → blC c = false) ∧ Below w.heap.size w wr) (fun i _ => s.size - (intOf i).toNat)
  case atStart => exact ⟨0, by omega, rfl, ⟨rfl, fun j c h => absurd h (Nat.not_lt_zero _)⟩, Below.refl _ _⟩
  case round =>
    obtain ⟨k, hk, rfl, hno, hbl⟩ := hrel
    by_cases hkl : k < s.size
    · obtain ⟨c, hx⟩ : ∃ c, s.data.toList[k]? = some c := ⟨_, List.getElem?_eq_getElem (by have := HSL.out; omega)⟩
      have hg : s[k]'hkl = c := get_cons (l := s.data.toList.drop (k + 1)) (by rw [List.drop_eq_getElem_cons (by have := HSL.out; omega), (List.getElem?_eq_some_iff.1 hx).2]) _
      have hB := fun w1 => ref13_blank c w1
      have hst := Lib.hid (any_step (p := endC) hx)
      have HX := Lib.hid hx
      have HM := Lib.hid (List.mem_of_getElem? hx)
      clear hx
      cases he : endC c with
      | true =>
        have hv := Lib.hid (value_end HM.out he)
        rcases end_cases he with h0 | h0 | h0
        · have q0 : ((c.toNat : Int) == 0) = true := by rw [h0]; rfl
          clear h0
          go_wp2_with (first | (go_at_call 45; refine (hB _).mono ?_; rintro e w1 ⟨rfl, rfl⟩))
          go_ret
          exact ⟨by rw [hv.out]; rfl, hbl⟩
        · have q0 : ((c.toNat : Int) == 0) = false := by rw [h0]; rfl
          have q1 : ((c.toNat : Int) == 10) = true := by rw [h0]; rfl
          clear h0
          go_wp2_with (first | (go_at_call 45; refine (hB _).mono ?_; rintro e w1 ⟨rfl, rfl⟩))
          go_ret
          exact ⟨by rw [hv.out]; rfl, hbl⟩
        · have q0 : ((c.toNat : Int) == 0) = false := by rw [h0]; rfl
          have q1 : ((c.toNat : Int) == 10) = false := by rw [h0]; rfl
          have q2 : ((c.toNat : Int) == 13) = true := by rw [h0]; rfl
          clear h0
          go_wp2_with (first | (go_at_call 45; refine (hB _).mono ?_; rintro e w1 ⟨rfl, rfl⟩))
          go_ret
          exact ⟨by rw [hv.out]; rfl, hbl⟩
      | false =>
        obtain ⟨n0, n1, n2⟩ := end_not he
        have q0 : ((c.toNat : Int) == 0) = false := beq_eq_false_iff_ne.2 (by omega)
        have q1 : ((c.toNat : Int) == 10) = false := beq_eq_false_iff_ne.2 (by omega)
        have q2 : ((c.toNat : Int) == 13) = false := beq_eq_false_iff_ne.2 (by omega)
        have hnext : (¬ (k = 0 ∨ k + 1 = s.size) ∨ blC c = false) → Hid ((s.data.toList.take (k + 1)).any endC = false ∧ ∀ (j : Nat) c, j < k + 1 → s.data.toList[j]? = some c → (j = 0 ∨ j + 1 = s.size) → blC c = false) := fun h => by
          refine ⟨by rw [hst.out, hno.out.1, he]; rfl, fun j d hj hd hw => ?_⟩
          rcases Nat.lt_or_ge j k with h1 | h1
          · exact hno.out.2 j d h1 hd hw
          · obtain rfl : j = k := by omega
            rw [HX.out] at hd
            obtain rfl := Option.some.inj hd
            rcases h with h | h
            · exact absurd hw h
            · exact h
        clear n0 n1 n2
        cases hb : blC c with
        | false =>
          rw [hb] at hB
          have hn := hnext (.inr hb)
          clear hnext
          go_wp2_with (first | (go_at_call 45; refine (hB _).mono ?_; rintro e w1 ⟨rfl, rfl⟩))
          go_roundw
          case rel => exact ⟨k + 1, by omega, by go_num, hn, hbl⟩
          case measure => simp [intOf]; omega
        | true =>
          rw [hb] at hB
          by_cases hk0 : k = 0
          · have hv : Hid (valueB s.data.toList = false) := by
              show _ = _
              have hx := HX.out
              rw [hk0] at hx
              cases hl : s.data.toList with
              | nil => rw [hl] at hx; simp at hx
              | cons a t =>
                rw [hl] at hx
                have ha : a = c := by simpa using hx
                rw [ha]
                exact value_first hb
            have p0 : ((k : Int) == 0) = true := by rw [hk0]; rfl
            clear hnext hk0
            go_wp2_with (first | (go_at_call 45; refine (hB _).mono ?_; rintro e w1 ⟨rfl, rfl⟩))
            go_ret
            exact ⟨by rw [hv.out]; rfl, hbl⟩
          · have p0 : ((k : Int) == 0) = false := beq_eq_false_iff_ne.2 (by omega)
            by_cases hk1 : k + 1 = s.size
            · have hv : Hid (valueB s.data.toList = false) := by
                show _ = _
                have hx := HX.out
                have hsl := HSL.out
                have e : s.data.toList = s.data.toList.take k ++ [c] := by
                  conv => lhs; rw [← List.take_append_drop k s.data.toList]
                  congr 1
                  rw [List.drop_eq_getElem_cons (by omega), (List.getElem?_eq_some_iff.1 hx).2, List.drop_eq_nil_of_le (by omega)]
                rw [e]; exact value_last hb
              have p1 : ((k : Int) == (s.size : Int) - 1) = true := beq_iff_eq.2 (by omega)
              clear hnext hk1
              go_wp2_with (first | (go_at_call 45; refine (hB _).mono ?_; rintro e w1 ⟨rfl, rfl⟩))
              go_ret
              exact ⟨by rw [hv.out]; rfl, hbl⟩
            · have p1 : ((k : Int) == (s.size : Int) - 1) = false := beq_eq_false_iff_ne.2 (by omega)
              have hn := hnext (.inl (by omega))
              clear hnext
              go_wp2_with (first | (go_at_call 45; refine (hB _).mono ?_; rintro e w1 ⟨rfl, rfl⟩))
              go_roundw
              case rel => exact ⟨k + 1, by omega, by go_num, hn, hbl⟩
              case measure => simp [intOf]; omega
    · obtain rfl : k = s.size := by omega
      have hv : Hid (valueB s.data.toList = true) := by
        obtain ⟨h1, h2⟩ := hno.out
        have hsl := HSL.out
        rw [hsl, List.take_length] at h1
        refine value_yes h1 (fun c t e => ?_) (fun c t e => ?_)
        · exact h2 0 c (by rw [hsl, e]; simp) (by rw [e]; rfl) (.inl rfl)
        · have hl : s.data.toList.length = t.length + 1 := by rw [e]; simp
          exact h2 t.length c (by omega) (by rw [e]; simp) (.inr (by omega))
      go_wp2
      go_ret
      exact ⟨by rw [hv.out]; rfl, hbl⟩

end Go.Proofs.YtgbjofahmkeapaaDoor
