/- The document's answers of layer 1: trimmed and cleaned texts. -/
import Derived.Test.YtcfbmeljjmhdpaaGreatDoorRef1b
import Derived.Lib.Split
namespace Go.Proofs.YtcfbmeljjmhdpaaGreatDoor
open Go.RowKit Go.Proofs.YtcfbmeljjmhdpaaGreatDoorW.PrintWords

def strSize (v : Value) : Nat := match v with | .string t => t.size | _ => 0
theorem cut_head {t : ByteArray} {c : UInt8} {R : List UInt8} (h : t.data.toList = c :: R) : (t.extract 1 (R.length + 1)).data.toList = R := by
  have e := Lib.extract_to_end t 1
  rw [size_list t, h] at e
  exact e
theorem cut_last {t : ByteArray} {c : UInt8} {R : List UInt8} (h : t.data.toList = R ++ [c]) : (t.extract 0 R.length).data.toList = R := by
  rw [Lib.extract_from_zero, h]; simp
theorem rt_no {l : List UInt8} (h : l = [] ∨ ∃ R c, l = R ++ [c] ∧ spB c = false) : trimRt l = l := by
  rcases h with rfl | ⟨R, c, rfl, hc⟩
  · rfl
  · rw [trimRt_snoc, if_neg (by rw [hc]; decide)]
theorem dw_no {l : List UInt8} (h : l = [] ∨ ∃ c R, l = c :: R ∧ spB c = false) : l.dropWhile spB = l := by
  rcases h with rfl | ⟨c, R, rfl, hc⟩
  · rfl
  · rw [List.dropWhile_cons, if_neg (by rw [hc]; decide)]
theorem snoc_cases (l : List UInt8) : l = [] ∨ ∃ R c, l = R ++ [c] := by
  by_cases h : l = []
  · exact .inl h
  · exact .inr ⟨_, _, (List.dropLast_concat_getLast h).symm⟩
theorem last_at {t : ByteArray} {c : UInt8} {R : List UInt8} (h : t.data.toList = R ++ [c]) (hi : R.length < t.size) : t[R.length]'hi = c := by
  refine get_cons (l := []) ?_ hi
  rw [h]; simp

set_option maxHeartbeats 4000000 in
set_option maxRecDepth 100000 in
theorem ref1_Trim (s : ByteArray) (hs : s.size ≤ 1000000) (w : World) : Calls Tryz.prog 16 #[.string s] w fun e w' => e = .returned (.string ⟨(trimSp s.data.toList).toArray⟩) ∧ Below w.heap.size w w' := by
  go_enter Tryz.func16, Tryz.ntmps16
  go_wp2
  go_loopw [0] (fun v wr => ∃ t : ByteArray, v = .string t ∧ t.size ≤ 1000000 ∧ Hid (t.data.toList.dropWhile spB = s.data.toList.dropWhile spB) ∧ Below w.heap.size w wr) (fun v _ => strSize v)
  case atStart => exact ⟨s, rfl, hs, rfl, Below.refl _ _⟩
  case round =>
    obtain ⟨t, rfl, ht, hd, hb⟩ := hrel
    have tail : ∀ (t : ByteArray) (wr : World), t.size ≤ 1000000 → Hid (t.data.toList = s.data.toList.dropWhile spB) → Below w.heap.size w wr → (∃ u : ByteArray, Hid (u = t)) := fun t _ _ _ _ => ⟨t, rfl⟩
    clear tail
    have hcs : (∃ c R, t.data.toList = c :: R ∧ spB c = true) ∨ (t.size = 0) ∨ (∃ c R, t.data.toList = c :: R ∧ spB c = false) := by
      cases hL : t.data.toList with
      | nil => exact .inr (.inl (by rw [size_list, hL]; rfl))
      | cons c R =>
        cases hsp : spB c with
        | true => exact .inl ⟨c, R, rfl, hsp⟩
        | false => exact .inr (.inr ⟨c, R, rfl, hsp⟩)
    rcases hcs with ⟨c, R, hL, hsp⟩ | h0 | ⟨c, R, hL, hsp⟩
    · have hts : t.size = R.length + 1 := by rw [size_list, hL]; rfl
      have hg : t[0]'(by omega) = c := get_cons (l := R) (by rw [hL]; rfl) (by omega)
      have h32 : c.toNat ≤ 32 := of_decide_eq_true hsp
      have HX := Lib.hid (cut_head hL)
      have HD : Hid ((t.extract 1 (R.length + 1)).data.toList.dropWhile spB = s.data.toList.dropWhile spB) := by
        show _ = _
        rw [HX.out, ← hd.out, hL, List.dropWhile_cons, if_pos hsp]
      have HL : Hid ((t.extract 1 (R.length + 1)).size = R.length) := by show _ = _; rw [size_list, HX.out]
      clear hL hsp hd HX
      go_wp2
      exact ⟨⟨_, rfl, by rw [HL.out]; omega, HD, hb⟩, by show (t.extract 1 (R.length + 1)).size < t.size; rw [HL.out]; omega⟩
    all_goals
      have hM : Hid (t.data.toList = s.data.toList.dropWhile spB) := by
        show _ = _
        rw [← hd.out]
        refine (dw_no ?_).symm
        first
        | exact .inr ⟨c, R, hL, hsp⟩
        | exact .inl (List.eq_nil_of_length_eq_zero (by rw [← size_list]; exact h0))
      clear hd
      have hfact : (t.size = 0) ∨ (∃ c : UInt8, ∃ h : 0 < t.size, t[0]'h = c ∧ 33 ≤ c.toNat) := by
        first
        | exact .inl h0
        | exact .inr ⟨c, by rw [size_list, hL]; simp, get_cons (l := R) (by rw [hL]; rfl) _, by have := of_decide_eq_false hsp; omega⟩
      first | (have hpos : 0 < t.size := by rw [size_list, hL]; simp) | skip
      first | clear hL hsp | skip
      rcases hfact with hz | ⟨c, hp, hc0, h33⟩
      all_goals first | (exfalso; omega) | skip
      all_goals
        go_wp2
        go_loopw [0] (fun v wr => ∃ t : ByteArray, v = .string t ∧ t.size ≤ 1000000 ∧ Hid (trimRt t.data.toList = trimRt (s.data.toList.dropWhile spB)) ∧ Below w.heap.size w wr) (fun v _ => strSize v)
        case atStart => exact ⟨t, rfl, ht, by show _ = _; rw [hM.out], hb⟩
        case round =>
          obtain ⟨u, rfl, hu, hr, hbu⟩ := hrel
          rcases snoc_cases u.data.toList with hL2 | ⟨R2, c2, hL2⟩
          · have hz2 : u.size = 0 := by rw [size_list, hL2]; rfl
            have HR : Hid (u = ⟨(trimSp s.data.toList).toArray⟩) := by
              show _ = _
              refine toList_inj ?_
              rw [mk_toList]; unfold trimSp
              rw [← hr.out, hL2]; rfl
            clear hL2
            go_wp2
            go_ret
            exact ⟨by rw [← HR.out]; rfl, hbu⟩
          · have hz2 : u.size = R2.length + 1 := by rw [size_list, hL2]; simp
            have hg2 : u[R2.length]'(by omega) = c2 := last_at hL2 _
            cases hsp2 : spB c2 with
            | true =>
              have h32 : c2.toNat ≤ 32 := of_decide_eq_true hsp2
              have HX := Lib.hid (cut_last hL2)
              have HD : Hid (trimRt (u.extract 0 R2.length).data.toList = trimRt (s.data.toList.dropWhile spB)) := by
                show _ = _
                rw [HX.out, ← hr.out, hL2, trimRt_snoc, if_pos hsp2]
              have HL : Hid ((u.extract 0 R2.length).size = R2.length) := by show _ = _; rw [size_list, HX.out]
              clear hL2 hsp2 hr HX
              go_wp2
              exact ⟨⟨_, rfl, by rw [HL.out]; omega, HD, hbu⟩, by show (u.extract 0 R2.length).size < u.size; rw [HL.out]; omega⟩
            | false =>
              have h33b : 33 ≤ c2.toNat := by have := of_decide_eq_false hsp2; omega
              have HR : Hid (u = ⟨(trimSp s.data.toList).toArray⟩) := by
                show _ = _
                refine toList_inj ?_
                rw [mk_toList]; unfold trimSp
                rw [← hr.out]
                exact (rt_no (.inr ⟨R2, c2, hL2, hsp2⟩)).symm
              clear hL2 hsp2
              go_wp2
              go_ret
              exact ⟨by rw [← HR.out]; rfl, hbu⟩

set_option maxHeartbeats 4000000 in
set_option maxRecDepth 100000 in
theorem ref1_Clean (s : ByteArray) (hs : s.size ≤ 1000000) (w : World) : Calls Tryz.prog 18 #[.string s] w fun e w' => e = .returned (.string ⟨(cleanL s.data.toList).toArray⟩) ∧ Below w.heap.size w w' := by
  have hT := ref1_Trim s hs w
  have hlen := trim_len s.data.toList
  rw [← size_list s] at hlen
  unfold cleanL
  generalize trimSp s.data.toList = T at *
  have hts : (⟨T.toArray⟩ : ByteArray).size = T.length := by rw [size_list, mk_toList]
  have htl : (⟨T.toArray⟩ : ByteArray).data.toList = T := mk_toList T
  generalize (⟨T.toArray⟩ : ByteArray) = t at *
  have HTL := Lib.hid htl
  clear htl
  go_enter Tryz.func18, Tryz.ntmps18
  go_wp2_with fail
  refine hT.mono ?_
  rintro e w1 ⟨rfl, hb1⟩
  go_wp2
  have hi0 : (Tryz.prog.info? 5).map (fun i => (i.zero, i.size, i.bytes)) = some (some (.int .u8 0), 1, 1) := by kernel_rfl
  have HI := Lib.hid hi0
  clear hi0 hT
  go_loopw [4, 5] (fun o i wr => ∃ k : Nat, k ≤ T.length ∧ i = .int .i64 k ∧ wr.ownsRow w.heap.size 5 1 o ((T.take k).filter keepC).length (u8s ((T.take k).filter keepC)) ∧ Below w.heap.size w wr) (fun _ i _ => T.length - (intOf i).toNat)
  case atStart => exact ⟨0, by omega, rfl, World.ownsRow_nil _ _ _ _, hb1⟩
  case round =>
    obtain ⟨k, hk, rfl, how, hb⟩ := hrel
    by_cases hks : k < T.length
    · obtain ⟨c, hc⟩ : ∃ c, T[k]? = some c := ⟨_, List.getElem?_eq_getElem hks⟩
      have hg : t[k]'(by omega) = c := get_cons (l := T.drop (k + 1)) (by rw [HTL.out, List.drop_eq_getElem_cons hks, (List.getElem?_eq_some_iff.1 hc).2]) _
      have hkn : ((T.take k).filter keepC).length ≤ k := Nat.le_trans (List.length_filter_le _ _) (by rw [List.length_take]; omega)
      have c256 := c.toNat_lt
      have hst : Hid ((T.take (k + 1)).filter keepC = (T.take k).filter keepC ++ (if keepC c = true then [c] else [])) := by
        show _ = _
        rw [List.take_add_one, hc, List.filter_append]
        congr 1
        cases hh : keepC c <;> simp [hh]
      have hkc : keepC c = !(((c.toNat : Int) == 9) || ((c.toNat : Int) == 10) || ((c.toNat : Int) == 13)) := by
        have key : ∀ n : Nat, n < 256 → keepC (UInt8.ofNat n) = !(((n : Int) == 9) || ((n : Int) == 10) || ((n : Int) == 13)) := by decide +kernel
        have := key c.toNat c.toNat_lt
        rwa [UInt8.ofNat_toNat] at this
      have HKC := Lib.hid hkc
      clear hc hkc
      generalize (T.take k).filter keepC = X at *
      by_cases h9 : c.toNat = 9
      · have hst' := hst.out
        rw [if_neg (by rw [HKC.out, h9]; decide), List.append_nil] at hst'
        have HS := Lib.hid hst'
        clear hst hst'
        have q1 : ((c.toNat : Int) != 9) = false := by rw [h9]; rfl
        go_wp2
        exact ⟨⟨k + 1, by omega, by go_num, by rw [HS.out]; exact how, hb⟩, by simp [intOf]; omega⟩
      · have q1 : ((c.toNat : Int) != 9) = true := by rw [bne_iff_ne]; omega
        by_cases h10 : c.toNat = 10
        · have hst' := hst.out
          rw [if_neg (by rw [HKC.out, h10]; decide), List.append_nil] at hst'
          have HS := Lib.hid hst'
          clear hst hst'
          have q2 : ((c.toNat : Int) != 10) = false := by rw [h10]; rfl
          go_wp2
          exact ⟨⟨k + 1, by omega, by go_num, by rw [HS.out]; exact how, hb⟩, by simp [intOf]; omega⟩
        · have q2 : ((c.toNat : Int) != 10) = true := by rw [bne_iff_ne]; omega
          by_cases h13 : c.toNat = 13
          · have hst' := hst.out
            rw [if_neg (by rw [HKC.out, h13]; decide), List.append_nil] at hst'
            have HS := Lib.hid hst'
            clear hst hst'
            have q3 : ((c.toNat : Int) != 13) = false := by rw [h13]; rfl
            go_wp2
            exact ⟨⟨k + 1, by omega, by go_num, by rw [HS.out]; exact how, hb⟩, by simp [intOf]; omega⟩
          · have q3 : ((c.toNat : Int) != 13) = true := by rw [bne_iff_ne]; omega
            have hst' := hst.out
            rw [if_pos (by rw [HKC.out, beq_eq_false_iff_ne.2 (by omega), beq_eq_false_iff_ne.2 (by omega), beq_eq_false_iff_ne.2 (by omega)]; rfl)] at hst'
            have HS := Lib.hid hst'
            have hgt : t.size = T.length := hts
            clear hst hst'
            have hbs := hb.size
            go_wp2_with (at_builtin; refine wpList_append1 rfl _ _ 29 rfl 5 _ (.int .u8 0) 1 Tryz.underlying29 HI.out rfl w.heap.size w.heap.size (Nat.le_refl _) w _ _ X.length _ (.int .u8 c.toNat) (by rfl) (by rfl) how hb hbs (by simp [Value.oneCell']) (by omega) (by omega) ?_)
            intro v' w2 hown' hbelow _ _
            go_wp2
            exact ⟨⟨k + 1, by omega, by go_num, by rw [HS.out, u8s_append, List.length_append]; exact hown', hbelow⟩, by simp [intOf]; omega⟩
    · obtain rfl : k = T.length := by omega
      rw [List.take_length] at how
      have hcv := u8s_string (P := Tryz.prog) (src := 29) (dst := 9) Tryz.underlying29 Tryz.underlying5 Tryz.underlying9 how
      go_wp2
      go_ret
      exact ⟨rfl, hb⟩

end Go.Proofs.YtcfbmeljjmhdpaaGreatDoor
