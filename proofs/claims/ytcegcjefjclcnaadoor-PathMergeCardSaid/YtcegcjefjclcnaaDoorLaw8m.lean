/- The law PathMerge, walked over the contracts. -/
import Derived.Test.YtcegcjefjclcnaaDoorPathR
import Derived.Test.YtcegcjefjclcnaaDoorStrsIn
import Derived.Test.YtcegcjefjclcnaaDoorLaw8b
import Derived.Test.YtcegcjefjclcnaaDoorMerge0
namespace Go.Proofs.YtcegcjefjclcnaaDoor
open Go.RowKit Go.Proofs.YtcegcjefjclcnaaDoorW.PrintWords

/-- A slice's length is no more than its capacity. -/
def CapOk (v : Value) : Prop := match v with | .slice _ n c => n ≤ c | _ => True
theorem slice_cap {P : Program} {W : World} {r : Reach} {T e : TypeId} {b0 : Nat} {v : Value} (hT : P.underlying T = some (.slice e)) (hval : Value.okWide P W r b0 T v) : CapOk v := by
  obtain ⟨ao, len, cap, rfl⟩ := Go.WideShapes.okWide_slice hT hval
  cases ao with
  | none =>
    cases len with
    | zero => exact Nat.zero_le _
    | succ n => exact absurd hval (by simp [Value.okWide, Cell.okWide, Cell.ok, hT])
  | some a =>
    have hok : len ≤ cap ∧ (cap : Int) ≤ IntKind.i64.max ∧ W.has P r b0 a e cap := by simpa [Value.okWide, Cell.okWide, Cell.ok, hT] using hval
    exact hok.1
theorem texts_drop {n₀ : Nat} {W : World} {b off n cap : Nat} {L : List (List UInt8)} (hl : L.length = n + 1) (hb : b < n₀) (hc : ∀ j x, L[j]? = some x → W.cell? ⟨b, off + j, none⟩ = some (.string ⟨x.toArray⟩)) : Texts n₀ W (.slice (some ⟨b, off, none⟩) n cap) L.dropLast :=
  .inr ⟨b, off, cap, by rw [List.length_dropLast, hl]; rfl, hb, fun j x hj => hc j x (by
    rw [List.dropLast_eq_take, List.getElem?_take] at hj
    split at hj
    · exact hj
    · cases hj)⟩
theorem ups_string (k : Nat) : (⟨(upsL k).toArray⟩ : ByteArray) ++ ⟨#[46, 46, 47]⟩ = ⟨(upsL (k + 1)).toArray⟩ := by
  rw [upsL_snoc]; apply ByteArray.ext; simp [ByteArray.data_append]
theorem ups_cat (k : Nat) (s : ByteArray) : ((⟨(upsL k).toArray⟩ : ByteArray) ++ s).data.toList = upsL k ++ s.data.toList := by simp [ByteArray.data_append]
theorem ups_size (k : Nat) (s : ByteArray) : ((⟨(upsL k).toArray⟩ : ByteArray) ++ s).size = 3 * k + s.size := by
  rw [ByteArray.size_append]
  have : (⟨(upsL k).toArray⟩ : ByteArray).size = (upsL k).length := by show (upsL k).toArray.size = _; simp
  rw [this, upsL_len]

set_option maxHeartbeats 4000000 in
set_option maxRecDepth 100000 in
theorem law_PathMerge (v : Value) (L : List (List UInt8)) (s : ByteArray) (hs : s.size ≤ 140737488351232) (w : World) (hG : Good w) (hT : Texts w.heap.size w v L) (hv : v.oneCell' = true) (hL : L.length ≤ maxLen) (hall : ∀ x ∈ L, x.length ≤ maxLen) (hcp : CapOk v) :
    Calls Tryd.prog 5 #[v, .string s] w fun e w' => e = .returned (.bool true) ∧ Below w.heap.size w w' := by
  have hk := Ok.refl hG
  have cf := fun w1 (hk1 : Ok w w1) => Few_any v L hL hall w1 (hT.ok hk1)
  go_enter Tryd.func5, Tryd.ntmps5
  go_wp2_with fail
  refine (awake8 hk).mono ?_
  rintro e w1 ⟨rfl, hk1⟩
  go_wp2_with fail
  refine (cf w1 hk1).mono ?_
  rintro e w2 ⟨b, rfl, hb, hb2⟩
  have hk2 := hk1.step hb2
  clear cf
  cases b with
  | false =>
    clear hb
    go_wp2
    go_ret
    exact ⟨rfl, hk2.below⟩
  | true =>
    obtain ⟨hl60, hl300⟩ := hb rfl
    clear hb hall hL
    have hall6 : ∀ x ∈ L, x.length ≤ 1000000 := fun x hx => by have := hl300 x hx; omega
    have HALL := Lib.hid hall6
    clear hl300 hall6
    by_cases hls : s.size ≤ 300
    · have hls' : s.data.toList.length ≤ 300 := by rw [← size_list]; exact hls
      have cm := path_May_any v L (by omega) HALL.out w2 (hT.ok hk2)
      cases hm : mayL L with
      | false =>
        rw [hm] at cm
        clear hm
        go_wp2_with fail
        refine cm.mono ?_
        rintro e w3 ⟨rfl, hb3⟩
        have hk3 := hk2.step hb3
        go_wp2
        go_ret
        exact ⟨rfl, hk3.below⟩
      | true =>
        rw [hm] at cm
        have hm2 := merge_may hm HALL.out (s := s.data.toList) (by omega)
        have hmt := merge_top hm HALL.out (by omega) (s := s.data.toList) (by omega)
        have hpl := parse_len (l := s.data.toList) (by omega)
        have hpl2 := parse_len (l := upsL L.length ++ s.data.toList) (by rw [List.length_append, upsL_len]; omega)
        have hmx : ∀ x ∈ mergeL L s.data.toList, x.length ≤ 1000000 := fun x hx => by
          rw [merge_eq HALL.out (by omega)] at hx
          rcases normR_mem _ _ x hx with h | h | h
          · cases h
          · rcases List.mem_append.1 h with h | h
            · exact HALL.out x ((List.dropLast_sublist L).subset h)
            · exact (pathSplit_small (l := s.data.toList) (by omega)).2 x h
          · subst h; exact Nat.zero_le _
        have hml : (mergeL L s.data.toList).length ≤ 1000000 := by
          rw [merge_eq HALL.out (by omega)]
          have h1 := normR_len (L.dropLast ++ pathSplit s.data.toList) []
          have h2 := (pathSplit_small (l := s.data.toList) (by omega)).1
          simp at h1
          omega
        have hne : 0 < (mergeL L s.data.toList).length := List.length_pos_iff.2 ((may_iff _).1 hm2).1
        rcases hT with ⟨_, rfl⟩ | ⟨g, off, cap, rfl, hg, hc⟩
        · cases hm
        · obtain ⟨n, hn⟩ : ∃ n, L.length = n + 1 := by
            cases L with
            | nil => cases hm
            | cons x r => exact ⟨r.length, rfl⟩
          rw [hn] at hcp hmt hpl2 hl60
          replace hcp : n + 1 ≤ cap := hcp
          have hTd : Texts w.heap.size w (.slice (some ⟨g, off, none⟩) n cap) L.dropLast := texts_drop hn hg hc
          have hT0 : Texts w.heap.size w (.slice (some ⟨g, off, none⟩) (n + 1) cap) L := .inr ⟨g, off, cap, by rw [hn], hg, hc⟩
          have hgg : Hid (∀ w1, Ok w w1 → Texts w1.heap.size w1 (.slice (some ⟨g, off, none⟩) n cap) L.dropLast) := fun w1 hk1 => hTd.ok hk1
          have c1 := fun w1 (hk1 : Ok w w1) => path_Merge_some g off n cap L hn (by omega) HALL.out s (by omega) w1 hk1.good (hTd.ok hk1) hcp
          have c2 := fun w1 (hk1 : Ok w w1) => path_Merge_some g off n cap L hn (by omega) HALL.out ((⟨(upsL (n + 1)).toArray⟩ : ByteArray) ++ s) (by rw [ups_size]; omega) w1 hk1.good (hTd.ok hk1) hcp
          have c3 := fun w1 (hk1 : Ok w w1) => path_Parse_any ((⟨(upsL (n + 1)).toArray⟩ : ByteArray) ++ s) (by rw [ups_size]; omega) w1 hk1.good
          have c4 := fun w1 (hk1 : Ok w w1) => path_Merge_nil s (by omega) w1 hk1.good
          have c5 := fun w1 (hk1 : Ok w w1) => path_Parse_any s (by omega) w1 hk1.good
          simp only [ups_cat] at c2 c3
          rw [hmt] at c2
          rw [merge_none] at c4
          generalize mergeL L s.data.toList = X at *
          generalize parseL (upsL (n + 1) ++ s.data.toList) = Y at *
          generalize parseL s.data.toList = Z at *
          rw [hn] at cm ⊢
          clear hm hmt hc hT0 hTd hn
          have HMX := Lib.hid hmx
          have HM2 := Lib.hid hm2
          clear hmx hm2
          go_wp2_with fail
          refine cm.mono ?_
          rintro e w3 ⟨rfl, hb3⟩
          have hk3 := hk2.step hb3
          clear cm
          go_wp2_with fail
          refine (c1 w3 hk3).mono ?_
          rintro e w4 ⟨v4, rfl, ho4, hb4⟩
          have hk4 := hk3.step hb4
          clear c1
          go_wp2_with fail
          go_loopw [8, 9] (fun u j wr => ∃ k : Nat, k ≤ n + 1 ∧ j = .int .i64 k ∧ u = .string ⟨(upsL k).toArray⟩ ∧ Ok w wr ∧ Below w4.heap.size w4 wr) (fun _ j _ => n + 1 - (intOf j).toNat)
          case atStart => exact ⟨0, by omega, rfl, rfl, hk4, Below.refl _ _⟩
          case round =>
            obtain ⟨k, hkn, rfl, rfl, hkr, hbr⟩ := hrel
            by_cases hlt : k < n + 1
            · have hus := ups_size k ⟨#[46, 46, 47]⟩
              have hsz3 : (⟨#[46, 46, 47]⟩ : ByteArray).size = 3 := rfl
              have HU := Lib.hid (ups_string k)
              have hus1 : (⟨(upsL k).toArray⟩ : ByteArray).size ≤ 1000 := by show (upsL k).toArray.size ≤ _; simp [upsL_len]; omega
              clear hus
              go_wp2
              go_roundw
              case rel => exact ⟨k + 1, by omega, by go_num, by rw [← HU.out], hkr, hbr⟩
              case measure => simp [intOf]; omega
            · obtain rfl : k = n + 1 := by omega
              have hus1 : (⟨(upsL (n + 1)).toArray⟩ : ByteArray).size ≤ 1000 := by show (upsL (n + 1)).toArray.size ≤ _; simp [upsL_len]; omega
              have ho4r := row_below ho4 hbr
              go_wp2_with fail
              refine (c2 wr hkr).mono ?_
              rintro e w5 ⟨v5, rfl, ho5, hb5⟩
              have hk5 := hkr.step hb5
              clear c2
              go_wp2_with fail
              refine (c3 w5 hk5).mono ?_
              rintro e w6 ⟨v6, rfl, ho6, hb6⟩
              have hk6 := hk5.step hb6
              have ho56 := row_below ho5 hb6
              have c7 := Same_any v5 v6 Y Y (by omega) (by omega) w6 (texts_here ho56) (texts_here ho6)
              rw [beq_self_eq_true] at c7
              clear c3
              go_wp2_with fail
              refine c7.mono ?_
              rintro e w7 ⟨rfl, hb7⟩
              have hk7 := hk6.step hb7
              clear c7
              go_wp2_with fail
              refine (c4 w7 hk7).mono ?_
              rintro e w8 ⟨v8, rfl, ho8, hb8⟩
              have hk8 := hk7.step hb8
              clear c4
              go_wp2_with fail
              refine (c5 w8 hk8).mono ?_
              rintro e w9 ⟨v9, rfl, ho9, hb9⟩
              have hk9 := hk8.step hb9
              have ho89 := row_below ho8 hb9
              have c10 := Same_any v8 v9 Z Z (by omega) (by omega) w9 (texts_here ho89) (texts_here ho9)
              rw [beq_self_eq_true] at c10
              clear c5
              go_wp2_with fail
              refine c10.mono ?_
              rintro e w10 ⟨rfl, hb10⟩
              have hk10 := hk9.step hb10
              clear c10
              have ho4z := row_below (row_below (row_below (row_below (row_below (row_below ho4r hb5) hb6) hb7) hb8) hb9) hb10
              have c11 := path_May_any v4 X (by omega) HMX.out w10 (texts_here ho4z)
              rw [HM2.out] at c11
              obtain ⟨ao4, cap4, rfl⟩ := texts_shape (texts_here ho4z)
              have hpos : decide ((0 : Int) < (X.length : Int)) = true := decide_eq_true (by omega)
              go_wp2_with fail
              refine c11.mono ?_
              rintro e w11 ⟨rfl, hb11⟩
              have hk11 := hk10.step hb11
              clear c11
              go_wp2
              go_ret
              exact ⟨rfl, hk11.below⟩
    · go_wp2
      go_ret
      exact ⟨rfl, hk2.below⟩

end Go.Proofs.YtcegcjefjclcnaaDoor
