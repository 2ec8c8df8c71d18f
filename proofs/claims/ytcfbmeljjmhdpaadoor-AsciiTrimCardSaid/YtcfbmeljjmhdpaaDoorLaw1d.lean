/- The laws AsciiHex and AsciiTrim, walked over the contracts. -/
import Derived.Test.YtcfbmeljjmhdpaaDoorLaw1c
namespace Go.Proofs.YtcfbmeljjmhdpaaDoor
open Go.RowKit Go.Proofs.YtcfbmeljjmhdpaaDoorW.PrintWords

/-- What a byte is, all ways. -/
theorem hex_ways (c : UInt8) : (hexD c = -1 ∧ digitB c = false) ∨ (0 ≤ hexD c ∧ hexD c ≤ 15 ∧ alphaB c = true ∧ digitB c = false) ∨ (0 ≤ hexD c ∧ hexD c ≤ 15 ∧ alphaB c = false ∧ digitB c = true ∧ hexD c = (c.toNat : Int) - 48) := by
  have key : ∀ n : Nat, n < 256 → (hexD (UInt8.ofNat n) = -1 ∧ digitB (UInt8.ofNat n) = false) ∨ (0 ≤ hexD (UInt8.ofNat n) ∧ hexD (UInt8.ofNat n) ≤ 15 ∧ alphaB (UInt8.ofNat n) = true ∧ digitB (UInt8.ofNat n) = false) ∨ (0 ≤ hexD (UInt8.ofNat n) ∧ hexD (UInt8.ofNat n) ≤ 15 ∧ alphaB (UInt8.ofNat n) = false ∧ digitB (UInt8.ofNat n) = true ∧ hexD (UInt8.ofNat n) = ((UInt8.ofNat n).toNat : Int) - 48) := by decide +kernel
  have := key c.toNat c.toNat_lt
  rwa [UInt8.ofNat_toNat] at this
theorem hex_low (c : UInt8) : hexD (lowC c) = hexD c := by
  have key : ∀ n : Nat, n < 256 → hexD (lowC (UInt8.ofNat n)) = hexD (UInt8.ofNat n) := by decide +kernel
  have := key c.toNat c.toNat_lt
  rwa [UInt8.ofNat_toNat] at this
theorem hex_same {c d : UInt8} (h : hexD c = hexD d) (h0 : 0 ≤ hexD c) : lowC c = lowC d := by
  have key : ∀ n : Nat, n < 256 → ∀ m : Nat, m < 256 → hexD (UInt8.ofNat n) = hexD (UInt8.ofNat m) → 0 ≤ hexD (UInt8.ofNat n) → lowC (UInt8.ofNat n) = lowC (UInt8.ofNat m) := by decide +kernel
  have := key c.toNat c.toNat_lt d.toNat d.toNat_lt
  rw [UInt8.ofNat_toNat, UInt8.ofNat_toNat] at this
  exact this h h0

set_option maxHeartbeats 8000000 in
set_option maxRecDepth 100000 in
theorem law_AsciiHex (c d : Int) (hc : (Lit.int .u8 c).wf = true) (hd : (Lit.int .u8 d).wf = true) (w : World) (hG : Good w) :
    Calls Tryd.prog 6 #[.int .u8 c, .int .u8 d] w fun e w' => e = .returned (.bool true) ∧ Below w.heap.size w w' := by
  have hk := Ok.refl hG
  have hcb := bounds_u8 hc
  have hdb := bounds_u8 hd
  obtain ⟨x, rfl⟩ : ∃ x : UInt8, c = (x.toNat : Int) := ⟨UInt8.ofNat c.toNat, by rw [UInt8.toNat_ofNat']; omega⟩
  obtain ⟨y, rfl⟩ : ∃ y : UInt8, d = (y.toNat : Int) := ⟨UInt8.ofNat d.toNat, by rw [UInt8.toNat_ofNat']; omega⟩
  have hx := fun w => ascii_Hex x w
  have hy := fun w => ascii_Hex y w
  have hz := fun w => ascii_Hex (lowC x) w
  have ha := fun w => ascii_Alpha_any x w
  have hg := fun w => ascii_Digit_any x w
  have hlo := fun w1 (hk : Ok w w1) => oLower hk (⟨#[x]⟩ : ByteArray) (by show (1 : Nat) ≤ _; omega)
  have hsa := fun w1 (hk : Ok w w1) => oSameA hk (⟨#[x]⟩ : ByteArray) ⟨#[y]⟩ (by show (1 : Nat) ≤ _; omega) (by show (1 : Nat) ≤ _; omega)
  have e1 : lowL ((⟨#[x]⟩ : ByteArray).data.toList) = [lowC x] := rfl
  have e2 : lowL ((⟨#[y]⟩ : ByteArray).data.toList) = [lowC y] := rfl
  rw [e1] at hlo
  rw [e1, e2] at hsa
  rw [hex_low] at hz
  have hidx := fun w => idx_one (lowC x) w
  have hsame : Hid (hexD x = hexD y → 0 ≤ hexD x → ([lowC x] == [lowC y]) = true) := fun h h0 => by rw [hex_same h h0]; exact beq_self_eq_true _
  have hsz : (⟨[lowC x].toArray⟩ : ByteArray).size = 1 := rfl
  have hlw : (⟨[lowC x].toArray⟩ : ByteArray) = ⟨#[lowC x]⟩ := rfl
  rw [← hlw] at hidx
  clear hlw
  generalize (⟨[lowC x].toArray⟩ : ByteArray) = lw at *
  generalize ([lowC x] == [lowC y]) = sm at *
  have hw := hex_ways x
  generalize hexD x = a at *
  generalize hexD y = b at *
  generalize alphaB x = A at *
  generalize digitB x = D at *
  generalize lowC x = lx at *
  have q1 : ((lw.size : Int) != 1) = false := by rw [hsz]; rfl
  clear hsz e1 e2 hc hd
  have hcx : ∀ W : World, (convert 28 9 (.slice (some ⟨W.heap.size, 0, none⟩) 1 1)).run Tryd.prog (W.alloc (.cells #[.int .u8 x.toNat] 5)) = .ok (.string ⟨#[x]⟩) (W.alloc (.cells #[.int .u8 x.toNat] 5)) := fun W => str_one x (heap_alloc_new W (.cells #[.int .u8 x.toNat] 5)) Tryd.underlying28 Tryd.underlying5 Tryd.underlying9
  have hcy : ∀ (W : World) (X : Obj), (convert 28 9 (.slice (some ⟨W.heap.size + 1, 0, none⟩) 1 1)).run Tryd.prog ((W.alloc X).alloc (.cells #[.int .u8 y.toNat] 5)) = .ok (.string ⟨#[y]⟩) ((W.alloc X).alloc (.cells #[.int .u8 y.toNat] 5)) := fun W X => by
    have h := heap_alloc_new (W.alloc X) (.cells #[.int .u8 y.toNat] 5)
    rw [World.size_alloc] at h
    exact str_one y h Tryd.underlying28 Tryd.underlying5 Tryd.underlying9
  rcases hw with ⟨rfl, rfl⟩ | ⟨ha0, ha1, rfl, rfl⟩ | ⟨ha0, ha1, rfl, rfl, hav⟩
  · cases A with
    | false =>
    go_enter Tryd.func6, Tryd.ntmps6
    go_wp2_with fail
    refine (awake1 hk).mono ?_
    rintro e w1 ⟨rfl, hk1⟩
    go_wp2_with fail
    refine (hx _).mono ?_
    rintro e wz ⟨rfl, rfl⟩
    go_wp2_with fail
    refine (hy _).mono ?_
    rintro e wz ⟨rfl, rfl⟩
    go_wp2_with fail
    refine (hlo _ (hk1.alloc _)).mono ?_
    rintro e w2 ⟨rfl, hk2⟩
    go_wp2_with fail
    refine (hz _).mono ?_
    rintro e wz ⟨rfl, rfl⟩
    go_wp2_with fail
    refine (hg _).mono ?_
    rintro e wz ⟨rfl, rfl⟩
    go_wp2_with fail
    refine (ha _).mono ?_
    rintro e wz ⟨rfl, rfl⟩
    go_wp2
    go_ret
    exact ⟨rfl, hk2.below⟩
    | true =>
    go_enter Tryd.func6, Tryd.ntmps6
    go_wp2_with fail
    refine (awake1 hk).mono ?_
    rintro e w1 ⟨rfl, hk1⟩
    go_wp2_with fail
    refine (hx _).mono ?_
    rintro e wz ⟨rfl, rfl⟩
    go_wp2_with fail
    refine (hy _).mono ?_
    rintro e wz ⟨rfl, rfl⟩
    go_wp2_with fail
    refine (hlo _ (hk1.alloc _)).mono ?_
    rintro e w2 ⟨rfl, hk2⟩
    go_wp2_with fail
    refine (hz _).mono ?_
    rintro e wz ⟨rfl, rfl⟩
    go_wp2_with fail
    refine (hg _).mono ?_
    rintro e wz ⟨rfl, rfl⟩
    go_wp2_with fail
    refine (ha _).mono ?_
    rintro e wz ⟨rfl, rfl⟩
    go_wp2_with fail
    refine (hg _).mono ?_
    rintro e wz ⟨rfl, rfl⟩
    go_wp2
    go_ret
    exact ⟨rfl, hk2.below⟩
  · by_cases hab : a = b
    · have := hsame.out hab ha0
      subst this
      subst hab
      have q2 : ((a : Int) != a) = false := by simp
      have q3 : ((a : Int) == a) = true := by simp
      go_enter Tryd.func6, Tryd.ntmps6
      go_wp2_with fail
      refine (awake1 hk).mono ?_
      rintro e w1 ⟨rfl, hk1⟩
      go_wp2_with fail
      refine (hx _).mono ?_
      rintro e wz ⟨rfl, rfl⟩
      go_wp2_with fail
      refine (hy _).mono ?_
      rintro e wz ⟨rfl, rfl⟩
      go_wp2_with fail
      refine (hlo _ (hk1.alloc _)).mono ?_
      rintro e w2 ⟨rfl, hk2⟩
      go_wp2_with fail
      refine (hz _).mono ?_
      rintro e wz ⟨rfl, rfl⟩
      go_wp2_with fail
      refine (ha _).mono ?_
      rintro e wz ⟨rfl, rfl⟩
      go_wp2_with fail
      refine (hsa _ ((hk2.alloc _).alloc _)).mono ?_
      rintro e w3 ⟨rfl, hk3⟩
      go_wp2_with fail
      refine (hg _).mono ?_
      rintro e wz ⟨rfl, rfl⟩
      go_wp2_with fail
      refine (ha _).mono ?_
      rintro e wz ⟨rfl, rfl⟩
      go_wp2_with fail
      refine (hg _).mono ?_
      rintro e wz ⟨rfl, rfl⟩
      go_wp2
      go_ret
      exact ⟨rfl, hk3.below⟩
    · have q2 : ((a : Int) != b) = true := by rw [bne_iff_ne]; exact hab
      have q3 : ((a : Int) == a) = true := by simp
      go_enter Tryd.func6, Tryd.ntmps6
      go_wp2_with fail
      refine (awake1 hk).mono ?_
      rintro e w1 ⟨rfl, hk1⟩
      go_wp2_with fail
      refine (hx _).mono ?_
      rintro e wz ⟨rfl, rfl⟩
      go_wp2_with fail
      refine (hy _).mono ?_
      rintro e wz ⟨rfl, rfl⟩
      go_wp2_with fail
      refine (hlo _ (hk1.alloc _)).mono ?_
      rintro e w2 ⟨rfl, hk2⟩
      go_wp2_with fail
      refine (hz _).mono ?_
      rintro e wz ⟨rfl, rfl⟩
      go_wp2_with fail
      refine (ha _).mono ?_
      rintro e wz ⟨rfl, rfl⟩
      go_wp2_with fail
      refine (hg _).mono ?_
      rintro e wz ⟨rfl, rfl⟩
      go_wp2_with fail
      refine (ha _).mono ?_
      rintro e wz ⟨rfl, rfl⟩
      go_wp2_with fail
      refine (hg _).mono ?_
      rintro e wz ⟨rfl, rfl⟩
      go_wp2
      go_ret
      exact ⟨rfl, hk2.below⟩
  · have q4 : ((a : Int) == (x.toNat : Int) - 48) = true := by rw [hav]; simp
    have HAV := Lib.hid hav
    clear hav
    by_cases hab : a = b
    · have := hsame.out hab ha0
      subst this
      subst hab
      have q2 : ((a : Int) != a) = false := by simp
      have q3 : ((a : Int) == a) = true := by simp
      go_enter Tryd.func6, Tryd.ntmps6
      go_wp2_with fail
      refine (awake1 hk).mono ?_
      rintro e w1 ⟨rfl, hk1⟩
      go_wp2_with fail
      refine (hx _).mono ?_
      rintro e wz ⟨rfl, rfl⟩
      go_wp2_with fail
      refine (hy _).mono ?_
      rintro e wz ⟨rfl, rfl⟩
      go_wp2_with fail
      refine (hlo _ (hk1.alloc _)).mono ?_
      rintro e w2 ⟨rfl, hk2⟩
      go_wp2_with fail
      refine (hz _).mono ?_
      rintro e wz ⟨rfl, rfl⟩
      go_wp2_with fail
      refine (ha _).mono ?_
      rintro e wz ⟨rfl, rfl⟩
      go_wp2_with fail
      refine (hg _).mono ?_
      rintro e wz ⟨rfl, rfl⟩
      go_wp2_with fail
      refine (hsa _ ((hk2.alloc _).alloc _)).mono ?_
      rintro e w3 ⟨rfl, hk3⟩
      go_wp2_with fail
      refine (hg _).mono ?_
      rintro e wz ⟨rfl, rfl⟩
      go_wp2_with fail
      refine (ha _).mono ?_
      rintro e wz ⟨rfl, rfl⟩
      go_wp2
      go_ret
      exact ⟨rfl, hk3.below⟩
    · have q2 : ((a : Int) != b) = true := by rw [bne_iff_ne]; exact hab
      have q3 : ((a : Int) == a) = true := by simp
      go_enter Tryd.func6, Tryd.ntmps6
      go_wp2_with fail
      refine (awake1 hk).mono ?_
      rintro e w1 ⟨rfl, hk1⟩
      go_wp2_with fail
      refine (hx _).mono ?_
      rintro e wz ⟨rfl, rfl⟩
      go_wp2_with fail
      refine (hy _).mono ?_
      rintro e wz ⟨rfl, rfl⟩
      go_wp2_with fail
      refine (hlo _ (hk1.alloc _)).mono ?_
      rintro e w2 ⟨rfl, hk2⟩
      go_wp2_with fail
      refine (hz _).mono ?_
      rintro e wz ⟨rfl, rfl⟩
      go_wp2_with fail
      refine (ha _).mono ?_
      rintro e wz ⟨rfl, rfl⟩
      go_wp2_with fail
      refine (hg _).mono ?_
      rintro e wz ⟨rfl, rfl⟩
      go_wp2_with fail
      refine (hg _).mono ?_
      rintro e wz ⟨rfl, rfl⟩
      go_wp2_with fail
      refine (ha _).mono ?_
      rintro e wz ⟨rfl, rfl⟩
      go_wp2
      go_ret
      exact ⟨rfl, hk2.below⟩

set_option maxHeartbeats 8000000 in
set_option maxRecDepth 100000 in
theorem law_AsciiTrim (s : ByteArray) (n m c : Int) (hs : s.size ≤ 140737488351232) (_hn : (Lit.int .i64 n).wf = true) (_hm : (Lit.int .i64 m).wf = true) (hc : (Lit.int .u8 c).wf = true) (w : World) (hG : Good w) :
    Calls Tryd.prog 5 #[.string s, .int .i64 n, .int .i64 m, .int .u8 c] w fun e w' => e = .returned (.bool true) ∧ Below w.heap.size w w' := by
  have hk := Ok.refl hG
  have hcb := bounds_u8 hc
  obtain ⟨x, rfl⟩ : ∃ x : UInt8, c = (x.toNat : Int) := ⟨UInt8.ofNat c.toNat, by rw [UInt8.toNat_ofNat']; omega⟩
  clear hc
  by_cases hall : s.size ≤ 200 ∧ 0 ≤ n ∧ 0 ≤ m ∧ n ≤ 20 ∧ m ≤ 20 ∧ x.toNat ≤ 32
  · obtain ⟨hl, hn0, hm0, hn, hm, hx32⟩ := hall
    obtain ⟨n, rfl⟩ := Int.eq_ofNat_of_zero_le hn0
    obtain ⟨m, rfl⟩ := Int.eq_ofNat_of_zero_le hm0
    have hsl := size_list s
    have htr := fun w1 (hk : Ok w w1) => oTrim hk s (by omega)
    have hcl := fun w1 (hk : Ok w w1) => oClean hk s (by omega)
    have hti := trim_tight s.data.toList
    have hlen := trim_len s.data.toList
    have hwd : ∀ a b : Nat, trimSp (List.replicate a x ++ s.data.toList ++ List.replicate b x) = trimSp s.data.toList := fun a b =>
      trim_wide (fun y hy => by rw [List.eq_of_mem_replicate hy]; exact decide_eq_true hx32) (fun y hy => by rw [List.eq_of_mem_replicate hy]; exact decide_eq_true hx32) _
    have hclw : ∀ a b : Nat, cleanL (List.replicate a x ++ s.data.toList ++ List.replicate b x) = cleanL s.data.toList := fun a b => by unfold cleanL; rw [hwd]
    have htr2 := fun w1 (hk : Ok w w1) => oTrim hk (⟨(List.replicate n x ++ s.data.toList ++ List.replicate m x).toArray⟩ : ByteArray) (by rw [size_list, mk_toList]; simp; omega)
    have hcl2 := fun w1 (hk : Ok w w1) => oClean hk (⟨(List.replicate n x ++ s.data.toList ++ List.replicate m x).toArray⟩ : ByteArray) (by rw [size_list, mk_toList]; simp; omega)
    simp only [mk_toList, hwd, hclw] at htr2 hcl2
    generalize hT : trimSp s.data.toList = T at *
    have htl : (⟨T.toArray⟩ : ByteArray).data.toList = T := mk_toList T
    have hts : (⟨T.toArray⟩ : ByteArray).size = T.length := by rw [size_list, htl]
    generalize (⟨T.toArray⟩ : ByteArray) = t at *
    generalize (⟨(cleanL s.data.toList).toArray⟩ : ByteArray) = cl at *
    have HTL := Lib.hid htl
    have hends : (t.toList.isEmpty = true ∧ t.size = 0) ∨ (∃ (j : Nat) (c0 c1 : UInt8) (h0 : 0 < t.size) (h1 : j < t.size), t.toList.isEmpty = false ∧ t.size = j + 1 ∧ t[0]'h0 = c0 ∧ t[j]'h1 = c1 ∧ 33 ≤ c0.toNat ∧ 33 ≤ c1.toNat) := by
      rcases snoc_ways T with h | ⟨R, c1, h⟩
      · exact .inl ⟨by rw [ba_toList, HTL.out, h]; rfl, by rw [hts, h]; rfl⟩
      · right
        cases hc : T with
        | nil => rw [hc] at h; simp at h
        | cons c0 R0 =>
          have e0 := hti.first c0 R0 hc
          have e1 := hti.last c1 R h
          have l1 : T.length = R.length + 1 := by rw [h]; simp
          refine ⟨R.length, c0, c1, by omega, by omega, by rw [ba_toList, HTL.out, hc]; rfl, by omega, get_cons (l := R0) (by rw [HTL.out, hc]; rfl) _, get_cons (l := []) (by rw [HTL.out, h]; simp) _, ?_, ?_⟩
          · have := of_decide_eq_false e0; omega
          · have := of_decide_eq_false e1; omega
    have hbt : t.size ≤ s.size := by omega
    clear hti hwd hclw htl hT hts hlen
    have hcx : ∀ W : World, (convert 28 9 (.slice (some ⟨W.heap.size, 0, none⟩) 1 1)).run Tryd.prog (W.alloc (.cells #[.int .u8 x.toNat] 5)) = .ok (.string ⟨#[x]⟩) (W.alloc (.cells #[.int .u8 x.toNat] 5)) := fun W => str_one x (heap_alloc_new W (.cells #[.int .u8 x.toNat] 5)) Tryd.underlying28 Tryd.underlying5 Tryd.underlying9
    have hz1 : (⟨#[x]⟩ : ByteArray).size = 1 := rfl
    have hfirst : ∀ k, ((⟨#[x]⟩ : ByteArray) ++ ⟨(List.replicate k x ++ s.data.toList).toArray⟩) = ⟨(List.replicate (k + 1) x ++ s.data.toList).toArray⟩ := fun k => toList_inj (by simp [ByteArray.data_append, List.replicate_succ])
    have hsecond : ∀ k, ((⟨(List.replicate n x ++ s.data.toList ++ List.replicate k x).toArray⟩ : ByteArray) ++ ⟨#[x]⟩) = ⟨(List.replicate n x ++ s.data.toList ++ List.replicate (k + 1) x).toArray⟩ := fun k => toList_inj (by simp [ByteArray.data_append, List.replicate_succ'])
    have HF := Lib.hid hfirst
    have HS2 := Lib.hid hsecond
    have HSL := Lib.hid hsl
    clear hfirst hsecond hsl
    go_enter Tryd.func5, Tryd.ntmps5
    go_wp2_with fail
    refine (awake1 hk).mono ?_
    rintro e w1 ⟨rfl, hk1⟩
    go_wp2_with fail
    refine (htr w1 hk1).mono ?_
    rintro e w2 ⟨rfl, hk2⟩
    go_wp2
    go_loopw [11, 12] (fun v i wr => ∃ k : Nat, k ≤ n ∧ i = .int .i64 k ∧ v = .string ⟨(List.replicate k x ++ s.data.toList).toArray⟩ ∧ Ok w wr) (fun _ i _ => n - (intOf i).toNat)
    case atStart => exact ⟨0, by omega, rfl, by simp, hk2⟩
    case round =>
      obtain ⟨k, hkn, rfl, rfl, hkr⟩ := hrel
      by_cases hlt : k < n
      · have hzk : (⟨(List.replicate k x ++ s.data.toList).toArray⟩ : ByteArray).size ≤ 300 := by rw [size_list, mk_toList]; simp; have := HSL.out; omega
        have H1 := Lib.hid (HF.out k)
        generalize (⟨(List.replicate k x ++ s.data.toList).toArray⟩ : ByteArray) = W at *
        go_wp2
        exact ⟨⟨k + 1, by omega, by go_num, by rw [← H1.out], hkr.alloc _⟩, by simp [intOf]; omega⟩
      · obtain rfl : k = n := by omega
        go_wp2
        go_loopw [11, 13] (fun v i wr => ∃ j : Nat, j ≤ m ∧ i = .int .i64 j ∧ v = .string ⟨(List.replicate k x ++ s.data.toList ++ List.replicate j x).toArray⟩ ∧ Ok w wr) (fun _ i _ => m - (intOf i).toNat)
        case atStart => exact ⟨0, by omega, rfl, by simp, hkr⟩
        case round =>
          obtain ⟨j, hjn, rfl, rfl, hkr2⟩ := hrel
          by_cases hlt2 : j < m
          · have hzk : (⟨(List.replicate k x ++ s.data.toList ++ List.replicate j x).toArray⟩ : ByteArray).size ≤ 300 := by rw [size_list, mk_toList]; simp; have := HSL.out; omega
            have H1 := Lib.hid (HS2.out j)
            generalize (⟨(List.replicate k x ++ s.data.toList ++ List.replicate j x).toArray⟩ : ByteArray) = W at *
            go_wp2
            exact ⟨⟨j + 1, by omega, by go_num, by rw [← H1.out], hkr2.alloc _⟩, by simp [intOf]; omega⟩
          · obtain rfl : j = m := by omega
            generalize (⟨(List.replicate k x ++ s.data.toList ++ List.replicate j x).toArray⟩ : ByteArray) = W at *
            rcases hends with ⟨he, hz⟩ | ⟨q, c0, c1, h0, h1, he, hz, g0, g1, l0, l1⟩
            all_goals
              go_wp2_with fail
              refine (htr2 _ hkr2).mono ?_
              rintro e w3 ⟨rfl, hk3⟩
              go_wp2_with fail
              refine (hcl2 _ hk3).mono ?_
              rintro e w4 ⟨rfl, hk4⟩
              go_wp2_with fail
              refine (hcl _ hk4).mono ?_
              rintro e w5 ⟨rfl, hk5⟩
              go_wp2
              go_ret
              exact ⟨rfl, hk5.below⟩
  · have hcs : 200 < s.size ∨ (s.size ≤ 200 ∧ n < 0) ∨ (s.size ≤ 200 ∧ 0 ≤ n ∧ m < 0) ∨ (s.size ≤ 200 ∧ 0 ≤ n ∧ 0 ≤ m ∧ 20 < n) ∨ (s.size ≤ 200 ∧ 0 ≤ n ∧ 0 ≤ m ∧ n ≤ 20 ∧ 20 < m) ∨ (s.size ≤ 200 ∧ 0 ≤ n ∧ 0 ≤ m ∧ n ≤ 20 ∧ m ≤ 20 ∧ 32 < x.toNat) := by omega
    clear hall
    rcases hcs with h | ⟨h, h'⟩ | ⟨h, h', h''⟩ | ⟨h, h', h'', h3⟩ | ⟨h, h', h'', h3, h4⟩ | ⟨h, h', h'', h3, h4, h5⟩
    all_goals
      go_enter Tryd.func5, Tryd.ntmps5
      go_wp2_with fail
      refine (awake1 hk).mono ?_
      rintro e w1 ⟨rfl, hk1⟩
      go_wp2
      go_ret
      exact ⟨rfl, hk1.below⟩

end Go.Proofs.YtcfbmeljjmhdpaaDoor
