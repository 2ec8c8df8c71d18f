/- Hosts: what is shown is parsed, and what is parsed may be; which bytes are in what is shown: plain laws. -/
import Derived.Test.YtcpjonglfnakpaaDoorMH
namespace Go.Proofs.YtcpjonglfnakpaaDoor
open Go.RowKit

def Som.ok : Som → Bool
  | .dom l => okHost l.data.toList
  | .num n => decide (0 ≤ n ∧ n ≤ 4294967295)
  | .six x0 x1 x2 x3 x4 x5 x6 x7 => mayB [x0, x1, x2, x3, x4, x5, x6, x7]
theorem showF_ne {n : Int} : showF n ≠ [] ↔ 0 ≤ n ∧ n ≤ 4294967295 := by
  unfold showF
  constructor
  · intro h
    by_cases hn : 0 ≤ n ∧ n ≤ 4294967295
    · exact hn
    · rw [if_neg hn] at h; exact absurd rfl h
  · intro h
    rw [if_pos h]; exact showFour_ne _
theorem ofH_some {h : HostT} {s : Som} (e : ofH h = some s) : h = s.host ∧ s.ok = true := by
  obtain ⟨k, l, n, x0, x1, x2, x3, x4, x5, x6, x7⟩ := h
  unfold ofH HostT.p at e
  dsimp only at e
  split at e
  · rename_i hk
    split at e
    · rename_i hc
      obtain ⟨h1, h2, h3⟩ := hc
      simp only [List.cons.injEq, and_true] at h3
      obtain ⟨rfl, rfl, rfl, rfl, rfl, rfl, rfl, rfl⟩ := h3
      subst hk h2
      obtain rfl := Option.some.inj e
      exact ⟨rfl, h1⟩
    · cases e
  · split at e
    · rename_i hk
      split at e
      · rename_i hc
        obtain ⟨h1, h2, h3⟩ := hc
        simp only [List.cons.injEq, and_true] at h3
        obtain ⟨rfl, rfl, rfl, rfl, rfl, rfl, rfl, rfl⟩ := h3
        subst hk h2
        obtain rfl := Option.some.inj e
        exact ⟨rfl, decide_eq_true (showF_ne.1 h1)⟩
      · cases e
    · split at e
      · rename_i hk
        split at e
        · rename_i hc
          obtain ⟨h1, h2, h3⟩ := hc
          subst hk h2 h3
          obtain rfl := Option.some.inj e
          exact ⟨rfl, h1⟩
        · cases e
      · cases e
theorem ofH_host {s : Som} (h : s.ok = true) : ofH s.host = some s := by
  cases s with
  | dom l => exact ofH_dom h
  | num n =>
    unfold ofH Som.host HostT.p
    dsimp only
    rw [if_neg (by decide), if_pos rfl, if_pos ⟨showF_ne.2 (of_decide_eq_true h), rfl, rfl⟩]
  | six x0 x1 x2 x3 x4 x5 x6 x7 =>
    unfold ofH Som.host HostT.p
    dsimp only
    rw [if_neg (by decide), if_neg (by decide), if_pos rfl, if_pos ⟨h, rfl, rfl⟩]
theorem low_okC {c : UInt8} (h : okC c = true) : lowC c = c ∧ c ≠ 91 ∧ c ≠ 58 ∧ (c.toNat < 65 ∨ 90 < c.toNat) := by
  have key : ∀ n : Nat, n < 256 → okC (UInt8.ofNat n) = true → lowC (UInt8.ofNat n) = UInt8.ofNat n ∧ UInt8.ofNat n ≠ 91 ∧ UInt8.ofNat n ≠ 58 ∧ ((UInt8.ofNat n).toNat < 65 ∨ 90 < (UInt8.ofNat n).toNat) := by decide +kernel
  have := key c.toNat c.toNat_lt
  rw [UInt8.ofNat_toNat] at this
  exact this h
theorem dig_facts {c : UInt8} (h : isDig c = true) : c ≠ 91 ∧ c ≠ 58 ∧ (c.toNat < 65 ∨ 90 < c.toNat) := by
  have key : ∀ n : Nat, n < 256 → isDig (UInt8.ofNat n) = true → UInt8.ofNat n ≠ 91 ∧ UInt8.ofNat n ≠ 58 ∧ ((UInt8.ofNat n).toNat < 65 ∨ 90 < (UInt8.ofNat n).toNat) := by decide +kernel
  have := key c.toNat c.toNat_lt
  rw [UInt8.ofNat_toNat] at this
  exact this h
theorem okHost_all {l : List UInt8} (h : okHost l = true) : l ≠ [] ∧ looksB l = false ∧ ∀ c ∈ l, okC c = true := by
  unfold okHost at h
  simp only [Bool.and_eq_true, Bool.not_eq_true', decide_eq_true_eq] at h
  obtain ⟨⟨⟨⟨h1, _⟩, h3⟩, _⟩, h5⟩ := h
  exact ⟨fun e => by rw [e] at h1; exact Bool.noConfusion h1, h3, fun c hc => List.all_eq_true.1 h5 c hc⟩
theorem low_okHost {l : List UInt8} (h : okHost l = true) : lowL l = l := by
  have ha := (okHost_all h).2.2
  unfold lowL
  conv => rhs; rw [← List.map_id l]
  exact List.map_congr_left fun c hc => (low_okC (ha c hc)).1
theorem parse_text {s : Som} (h : s.ok = true) : parseH s.text = (s.host, true) := by
  cases s with
  | dom l =>
    have ho : okHost l.data.toList = true := h
    obtain ⟨_, h2, h3⟩ := okHost_all ho
    have hp : ¬ ∃ t, l.data.toList = 91 :: t := by
      rintro ⟨t, ht⟩
      exact (low_okC (h3 91 (by rw [ht]; exact List.mem_cons_self))).2.1 rfl
    show parseH l.data.toList = _
    rw [parse_dom hp h2, low_okHost ho, if_pos ho]
  | num n =>
    have hn : 0 ≤ n ∧ n ≤ 4294967295 := of_decide_eq_true h
    have e : showF n = showFour n.toNat := by unfold showF; rw [if_pos hn]
    have hp : ¬ ∃ t, showFour n.toNat = 91 :: t := by
      rintro ⟨t, ht⟩
      rcases four_mem (n := n.toNat) (c := 91) (by rw [ht]; exact List.mem_cons_self) with h | h
      · exact absurd h (by decide)
      · exact absurd h (by decide)
    show parseH (showF n) = _
    rw [e, parse_num hp (looks_show _), parse_show _ (by omega), if_pos rfl]
    show ((Som.num (n.toNat : Int)).host, true) = _
    rw [Int.toNat_of_nonneg hn.1]
  | six x0 x1 x2 x3 x4 x5 x6 x7 =>
    have hm : mayB [x0, x1, x2, x3, x4, x5, x6, x7] = true := h
    show parseH (91 :: showSix [x0, x1, x2, x3, x4, x5, x6, x7] ++ [93]) = _
    rw [parse_in, parse_showSix rfl hm, if_pos rfl]
    have e : casts ([x0, x1, x2, x3, x4, x5, x6, x7].map Int.toNat) = [x0, x1, x2, x3, x4, x5, x6, x7] := by
      unfold casts
      rw [List.map_map]
      conv => rhs; rw [← List.map_id [x0, x1, x2, x3, x4, x5, x6, x7]]
      exact List.map_congr_left fun n hn => by
        have := mayB_mem hm n hn
        show ((n.toNat : Nat) : Int) = n
        omega
    show (sixT (casts ([x0, x1, x2, x3, x4, x5, x6, x7].map Int.toNat)), true) = _
    rw [e]; rfl
theorem text_ne {s : Som} (h : s.ok = true) : s.text ≠ [] := by
  cases s with
  | dom l => exact (okHost_all h).1
  | num n => exact showF_ne.2 (of_decide_eq_true h)
  | six => exact List.cons_ne_nil _ _
theorem parse_nil : parseH [] = (zeroT, false) := by decide +kernel
theorem parse_is (l : List UInt8) : parseH l = (zeroT, false) ∨ ∃ s : Som, s.ok = true ∧ parseH l = (s.host, true) := by
  by_cases hp : ∃ t, l = 91 :: t
  · obtain ⟨t, rfl⟩ := hp
    unfold parseH
    rw [if_pos ((pre_iff _).2 ⟨t, rfl⟩)]
    split
    · rename_i hc
      have hb := parse_back (l := cutIn (91 :: t)) (k := (parseSix (cutIn (91 :: t))).1) (by rw [← hc.2])
      obtain ⟨y0, y1, y2, y3, y4, y5, y6, y7, hy⟩ := list8 (casts (parseSix (cutIn (91 :: t))).1) (by unfold casts; rw [List.length_map]; exact parseSix_len _)
      refine .inr ⟨.six y0 y1 y2 y3 y4 y5 y6 y7, ?_, ?_⟩
      · show mayB _ = true
        rw [← hy]; exact hb.1
      · rw [hy]; rfl
    · exact .inl rfl
  · cases hk : looksB l with
    | true =>
      rw [parse_num hp hk]
      rcases parse_cases l with e | ⟨n, hn, e, _⟩
      · rw [e]; exact .inl rfl
      · rw [e]
        exact .inr ⟨.num n, decide_eq_true ⟨by omega, by omega⟩, rfl⟩
    | false =>
      rw [parse_dom hp hk]
      split
      · rename_i h
        exact .inr ⟨.dom ⟨(lowL l).toArray⟩, h, rfl⟩
      · exact .inl rfl
theorem show_ok {s : Som} (h : s.ok = true) : showH s.host = s.text := by unfold showH; rw [ofH_host h]
theorem show_no {h : HostT} (e : ofH h = none) : showH h = [] := by unfold showH; rw [e]
theorem text_inj {s t : Som} (hs : s.ok = true) (ht : t.ok = true) (e : s.text = t.text) : s.host = t.host := by
  have h1 := parse_text hs
  rw [e, parse_text ht] at h1
  exact (congrArg Prod.fst h1).symm

/-- No capital letters; a colon just in brackets; nothing that is in no host. -/
def fineC (c : UInt8) : Bool := !badC c && (decide (c.toNat < 65) || decide (90 < c.toNat))
theorem hexC_small : ∀ d : Nat, d < 16 → ((hexC d).toNat < 65 ∨ 90 < (hexC d).toNat) := by decide
theorem hexs_small' (n : Nat) : ∀ c ∈ hexs n, c.toNat < 65 ∨ 90 < c.toNat := by
  induction n using Nat.strongRecOn with
  | ind n ih =>
    intro c hc
    rcases Nat.lt_or_ge n 16 with h | h
    · rw [hexs_small h, List.mem_singleton] at hc
      rw [hc]; exact hexC_small n h
    · rw [hexs_big h] at hc
      rcases List.mem_append.1 hc with hc | hc
      · exact ih (n / 16) (by omega) c hc
      · rw [List.mem_singleton.1 hc]; exact hexC_small _ (by omega)
theorem colons_small {A : List (List UInt8)} (hA : ∀ a ∈ A, ∀ c ∈ a, c.toNat < 65 ∨ 90 < c.toNat) : ∀ c ∈ colons A, c.toNat < 65 ∨ 90 < c.toNat := by
  induction A with
  | nil => intro c hc; rw [colons_nil] at hc; cases hc
  | cons a A ih =>
    cases A with
    | nil => rw [colons_one]; exact hA a List.mem_cons_self
    | cons b A =>
      rw [colons_cons]
      intro c hc
      rcases List.mem_append.1 hc with hc | hc
      · exact hA a List.mem_cons_self c hc
      · rcases List.mem_cons.1 hc with rfl | hc
        · exact .inl (by decide)
        · exact ih (fun x hx => hA x (List.mem_cons_of_mem _ hx)) c hc
theorem texts_small (p : List Int) : ∀ c ∈ colons (texts p), c.toNat < 65 ∨ 90 < c.toNat := by
  refine colons_small fun a ha => ?_
  obtain ⟨n, _, rfl⟩ := List.mem_map.1 ha
  exact hexs_small' _
theorem six_small (p : List Int) : ∀ c ∈ showSix p, c.toNat < 65 ∨ 90 < c.toNat := by
  intro c hc
  unfold showSix at hc
  split at hc
  · split at hc
    · exact texts_small _ c hc
    · rcases List.mem_append.1 hc with hc | hc
      · rcases List.mem_append.1 hc with hc | hc
        · exact texts_small _ c hc
        · simp only [List.mem_cons, List.not_mem_nil, or_false, or_self] at hc
          rw [hc]; exact .inl (by decide)
      · exact texts_small _ c hc
  · cases hc
theorem text_small {s : Som} (h : s.ok = true) : ∀ c ∈ s.text, c.toNat < 65 ∨ 90 < c.toNat := by
  intro c hc
  cases s with
  | dom l => exact (low_okC ((okHost_all h).2.2 c hc)).2.2.2
  | num n =>
    have hn : 0 ≤ n ∧ n ≤ 4294967295 := of_decide_eq_true h
    have e : showF n = showFour n.toNat := by unfold showF; rw [if_pos hn]
    have hc : c ∈ showF n := hc
    rw [e] at hc
    rcases four_mem hc with rfl | h
    · exact .inl (by decide)
    · exact (dig_facts h).2.2
  | six x0 x1 x2 x3 x4 x5 x6 x7 =>
    have hc : c ∈ 91 :: showSix [x0, x1, x2, x3, x4, x5, x6, x7] ++ [93] := hc
    simp only [List.cons_append, List.mem_cons, List.mem_append, List.not_mem_nil, or_false] at hc
    rcases hc with rfl | hc | rfl
    · exact .inr (by decide)
    · exact six_small _ c hc
    · exact .inr (by decide)
theorem text_good {s : Som} (h : s.ok = true) {c : UInt8} (hc : c ∈ s.text) : badC c = false := by
  cases hb : badC c with
  | false => rfl
  | true =>
    have h1 := bad_no hc hb
    rw [parse_text h] at h1
    exact Bool.noConfusion (congrArg Prod.snd h1)
theorem text_colon {s : Som} (h : s.ok = true) (hc : (58 : UInt8) ∈ s.text) : ∃ t, s.text = 91 :: t ++ [93] := by
  cases s with
  | dom l => exact absurd rfl ((low_okC ((okHost_all h).2.2 58 hc)).2.2.1)
  | num n =>
    have hn : 0 ≤ n ∧ n ≤ 4294967295 := of_decide_eq_true h
    have e : showF n = showFour n.toNat := by unfold showF; rw [if_pos hn]
    have hc : 58 ∈ showF n := hc
    rw [e] at hc
    rcases four_mem hc with h | h
    · exact absurd h (by decide)
    · exact absurd rfl (dig_facts h).2.1
  | six => exact ⟨_, rfl⟩

theorem text_le {s : Som} (h : s.ok = true) : s.text.length ≤ 1000000 := by
  cases s with
  | dom l =>
    have h : okHost l.data.toList = true := h
    unfold okHost at h
    simp only [Bool.and_eq_true, decide_eq_true_eq] at h
    show l.data.toList.length ≤ _
    omega
  | num n =>
    have hn : 0 ≤ n ∧ n ≤ 4294967295 := of_decide_eq_true h
    have e : showF n = showFour n.toNat := by unfold showF; rw [if_pos hn]
    have := showFour_max n.toNat (by omega)
    show (showF n).length ≤ _
    rw [e]; omega
  | six x0 x1 x2 x3 x4 x5 x6 x7 =>
    have := showSix_le (p := [x0, x1, x2, x3, x4, x5, x6, x7]) rfl
    show (91 :: showSix [x0, x1, x2, x3, x4, x5, x6, x7] ++ [93]).length ≤ _
    simp
    omega
theorem host_le {s : Som} (h : s.ok = true) : s.host.l.size ≤ 1000000 := by
  cases s with
  | dom l =>
    have := text_le h
    show l.size ≤ _
    rw [size_list]; exact this
  | num n => exact Nat.zero_le _
  | six => exact Nat.zero_le _
theorem text_at {s : Som} {c : UInt8} {j : Nat} {h : j < (⟨s.text.toArray⟩ : ByteArray).size} (e : (⟨s.text.toArray⟩ : ByteArray)[j]'h = c) : c ∈ s.text := by
  rw [← e]
  show s.text.toArray[j]'h ∈ s.text
  rw [List.getElem_toArray]
  exact List.getElem_mem _
theorem fine_at {s : Som} (hs : s.ok = true) (c : UInt8) (j : Nat) (h : j < (⟨s.text.toArray⟩ : ByteArray).size) (e : (⟨s.text.toArray⟩ : ByteArray)[j]'h = c) :
    32 < c.toNat ∧ c.toNat < 127 ∧ c.toNat ≠ 47 ∧ c.toNat ≠ 63 ∧ c.toNat ≠ 35 ∧ c.toNat ≠ 64 ∧ c.toNat ≠ 92 ∧
      (c.toNat = 58 → ∃ (m : Nat) (_ : (⟨s.text.toArray⟩ : ByteArray).size = m + 1) (h0 : 0 < (⟨s.text.toArray⟩ : ByteArray).size) (h1 : m < (⟨s.text.toArray⟩ : ByteArray).size), (⟨s.text.toArray⟩ : ByteArray)[0]'h0 = 91 ∧ (⟨s.text.toArray⟩ : ByteArray)[m]'h1 = 93) ∧ (c.toNat < 65 ∨ 90 < c.toNat) := by
  have hm := text_at e
  have hg := text_good hs hm
  have hb : ¬ (c.toNat ≤ 32 ∨ 127 ≤ c.toNat ∨ c = 47 ∨ c = 37 ∨ c = 64 ∨ c = 63 ∨ c = 35 ∨ c = 92) := of_decide_eq_false hg
  have nat : ∀ n : Nat, c.toNat = n → c = UInt8.ofNat n := fun n h => by rw [← h, UInt8.ofNat_toNat]
  refine ⟨by omega, by omega, fun h => hb ?_, fun h => hb ?_, fun h => hb ?_, fun h => hb ?_, fun h => hb ?_, fun h => ?_, text_small hs c hm⟩
  · have := nat _ h; simp [this]
  · have := nat _ h; simp [this]
  · have := nat _ h; simp [this]
  · have := nat _ h; simp [this]
  · have := nat _ h; simp [this]
  · rw [nat 58 h] at hm
    obtain ⟨t, ht⟩ := text_colon hs hm
    have hsz : (⟨s.text.toArray⟩ : ByteArray).size = t.length + 1 + 1 := by rw [size_list, mk_toList, ht]; simp
    refine ⟨t.length + 1, hsz, by omega, by omega, ?_, ?_⟩
    · show s.text.toArray[0]'_ = 91
      simp only [ht]; simp
    · show s.text.toArray[t.length + 1]'_ = 93
      simp only [ht]; simp
theorem eq_host_ne {a b : HostT} (h : a ≠ b) (w : World) : (Op.equalIn 10000 24 a.val b.val).run Tryd.prog w = .ok false w := by
  obtain ⟨k, l, n, x0, x1, x2, x3, x4, x5, x6, x7⟩ := a
  obtain ⟨k', l', n', y0, y1, y2, y3, y4, y5, y6, y7⟩ := b
  refine (eqHost k l n x0 x1 x2 x3 x4 x5 x6 x7 k' l' n' y0 y1 y2 y3 y4 y5 y6 y7 w).trans ?_
  refine congrArg (fun b => Result.ok b w) ?_
  rw [Bool.eq_false_iff]
  intro e
  simp only [Bool.and_eq_true, beq_iff_eq, List.cons.injEq, and_true] at e
  obtain ⟨rfl, e2, rfl, rfl, rfl, rfl, rfl, rfl, rfl, rfl, rfl⟩ := e
  rw [ba_toList, ba_toList] at e2
  obtain rfl := toList_inj e2
  exact h rfl

end Go.Proofs.YtcpjonglfnakpaaDoor
