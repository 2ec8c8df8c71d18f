/- The reference's gap and pieces, and six.split. -/
import Derived.Test.YtcpnfokpgiigcaaDoorSixT
import Derived.Test.YtcpnfokpgiigcaaDoorStrs
namespace Go.Proofs.YtcpnfokpgiigcaaDoor
open Go.RowKit Go.Proofs.YtcpnfokpgiigcaaDoorW.PrintWords

/-- Where the first two colons stand. -/
def gapI (l : List UInt8) : Int := match gapL l with
  | some x => x.1.length
  | none => -1
theorem gapI_hit (l : List UInt8) : gapI (58 :: 58 :: l) = 0 := by unfold gapI; rw [gapL_hit]; rfl
theorem gapI_miss {b c : UInt8} (h : ¬ (b = 58 ∧ c = 58)) (l : List UInt8) : gapI (b :: c :: l) = if gapI (c :: l) = -1 then -1 else gapI (c :: l) + 1 := by
  unfold gapI
  rw [gapL_miss h]
  cases gapL (c :: l) with
  | none => rfl
  | some x => simp

set_option maxHeartbeats 1000000 in
set_option maxRecDepth 100000 in
theorem ref06_gap (s : ByteArray) (hs : s.size ≤ 140737488351232) (w : World) :
    Calls Tryd.prog 46 #[.string s] w fun e w' => e = .returned (.int .i64 (gapI s.data.toList)) ∧ w' = w := by
  go_enter Tryd.func46, Tryd.ntmps46
  go_wp2
  go_loop [3] (fun i => ∃ k : Nat, k ≤ s.size ∧ i = .int .i64 k ∧ Hid (gapI s.data.toList = if gapI (s.data.toList.drop k) = -1 then -1 else gapI (s.data.toList.drop k) + k)) (fun i => s.size - (intOf i).toNat)
  case atStart => exact ⟨0, by omega, rfl, by show _ = _; simp⟩
  case round =>
    obtain ⟨k, hk, rfl, hg⟩ := hrel
    cases h1 : s.data.toList.drop k with
    | nil =>
      have := drop_done h1
      have hlt : ¬ ((k : Int) + 1 < (s.size : Int)) := by omega
      rw [h1] at hg
      have hg2 : Hid (gapI s.data.toList = -1) := hg
      go_wp2
      go_ret
      exact ⟨by rw [hg2.out]; rfl, rfl⟩
    | cons b l =>
      obtain ⟨hb, hbk, hl⟩ := bt_cons h1
      cases l with
      | nil =>
        have := drop_done hl
        have hlt : ¬ ((k : Int) + 1 < (s.size : Int)) := by omega
        rw [h1] at hg
        have hg2 : Hid (gapI s.data.toList = -1) := hg
        clear hb hl h1
        go_wp2
        go_ret
        exact ⟨by rw [hg2.out]; rfl, rfl⟩
      | cons c l =>
        obtain ⟨hc, hck, hl2⟩ := bt_cons hl
        have g1 := get_cons h1 hbk
        have g2 := get_cons hl hck
        have hlt : ((k : Int) + 1 < (s.size : Int)) := by omega
        rw [h1] at hg
        by_cases h58 : b = 58 ∧ c = 58
        · obtain ⟨rfl, rfl⟩ := h58
          rw [gapI_hit] at hg
          have hg2 : Hid (gapI s.data.toList = k) := by show _ = _; rw [hg.out]; simp
          clear hb hc hl hl2 h1 hg
          go_wp2
          go_ret
          exact ⟨by rw [hg2.out]; rfl, rfl⟩
        · rw [gapI_miss h58] at hg
          have hg2 : Hid (gapI s.data.toList = if gapI (s.data.toList.drop (k + 1)) = -1 then -1 else gapI (s.data.toList.drop (k + 1)) + ((k + 1 : Nat) : Int)) := by
            show _ = _
            rw [hg.out, hl]
            by_cases e : gapI (c :: l) = -1
            · simp [e]
            · have h0 : -1 ≤ gapI (c :: l) := by unfold gapI; split <;> omega
              rw [if_neg e, if_neg e, if_neg (by omega)]; omega
          have hne : (((b.toNat : Int) == 58) = false) ∨ ((b.toNat : Int) == 58) = true ∧ ((c.toNat : Int) == 58) = false := by
            by_cases e : b = 58
            · subst e
              refine Or.inr ⟨rfl, beq_eq_false_iff_ne.2 fun e => h58 ⟨rfl, UInt8.toNat_inj.1 ?_⟩⟩
              have h : (58 : UInt8).toNat = 58 := rfl
              omega
            · refine Or.inl (beq_eq_false_iff_ne.2 fun h => e (UInt8.toNat_inj.1 ?_))
              have h : (58 : UInt8).toNat = 58 := rfl
              omega
          clear hb hc hl hl2 h1 hg h58
          rcases hne with hne | ⟨hne, hne2⟩
          · go_wp2
            go_round
            case rel => exact ⟨k + 1, by omega, by go_num, hg2⟩
            case measure => simp [intOf]; omega
          · go_wp2
            go_round
            case rel => exact ⟨k + 1, by omega, by go_num, hg2⟩
            case measure => simp [intOf]; omega

/-- A row of ints of the call's own. -/
def IntOwn (w : World) (base : Nat) (v : Value) (l : List Int) : Prop := w.ownsRow base 3 1 v l.length (ints l)
theorem Tryd.infoInt : (Tryd.prog.info? 3).map (fun i => (i.zero, i.size, i.bytes)) = some (some (.int .i64 0), 1, 8) := by kernel_rfl
def casts (a : List Nat) : List Int := a.map fun n : Nat => (n : Int)
theorem casts_append (a b : List Nat) : casts (a ++ b) = casts a ++ casts b := by simp [casts]
theorem casts_length (a : List Nat) : (casts a).length = a.length := by simp [casts]

/-- What the reference's pieces do with the rest of a text: the pieces so far, the number, its digits. -/
def scan (out : List Nat) (n d : Nat) : List UInt8 → Option (List Nat)
  | [] => if d = 0 then none else some (out ++ [n])
  | c :: l => if c = 58 then (if d = 0 then none else scan (out ++ [n]) 0 0 l) else if hexD c < 0 ∨ 4 < d + 1 then none else scan out (16 * n + (hexD c).toNat) (d + 1) l
theorem scan_nil (out : List Nat) (n d : Nat) : scan out n d [] = if d = 0 then none else some (out ++ [n]) := rfl
theorem scan_colon (out : List Nat) (n d : Nat) (l : List UInt8) : scan out n d (58 :: l) = if d = 0 then none else scan (out ++ [n]) 0 0 l := by rw [scan, if_pos rfl]
theorem scan_dig {c : UInt8} (h : c ≠ 58) (out : List Nat) (n d : Nat) (l : List UInt8) : scan out n d (c :: l) = if hexD c < 0 ∨ 4 < d + 1 then none else scan out (16 * n + (hexD c).toNat) (d + 1) l := by rw [scan, if_neg h]
/-- A piece whose first digits have been read. -/
def restB (d : Nat) (p : List UInt8) : Bool := decide (0 < d + p.length) && decide (d + p.length ≤ 4) && p.all isHex
theorem scan_all : ∀ (l : List UInt8) (out : List Nat) (n d : Nat) (p : List UInt8) (ps : List (List UInt8)), splitOn 58 l = p :: ps → d ≤ 4 → scan out n d l = if restB d p = true ∧ ps.all pieceB = true then some (out ++ valH n p :: ps.map (valH 0)) else none
  | [], out, n, d, p, ps, h, hd => by
    rw [splitOn_nil] at h
    injection h with h1 h2
    subst h1 h2
    rw [scan_nil]
    by_cases h0 : d = 0
    · subst h0; simp [restB]
    · rw [if_neg h0, if_pos (by simp [restB]; omega)]; rfl
  | c :: l, out, n, d, p, ps, h, hd => by
    by_cases hc : c = 58
    · subst hc
      rw [splitOn_hit] at h
      injection h with h1 h2
      subst h1
      rw [scan_colon]
      by_cases h0 : d = 0
      · subst h0; simp [restB]
      · rw [if_neg h0]
        obtain ⟨q, qs, e⟩ := splitOn_ne 58 l
        rw [scan_all l _ 0 0 q qs e (by omega)]
        rw [e] at h2
        subst h2
        have e2 : restB d [] = true := by simp [restB]; omega
        have e3 : pieceB q = restB 0 q := by
          unfold pieceB restB
          cases q with
          | nil => rfl
          | cons a q => simp
        rw [e2, List.all_cons, e3]
        simp [valH]
    · obtain ⟨q, qs, e⟩ := splitOn_ne 58 l
      rw [splitOn_miss hc e] at h
      injection h with h1 h2
      subst h1 h2
      rw [scan_dig hc]
      by_cases h1 : hexD c < 0 ∨ 4 < d + 1
      · rw [if_pos h1, if_neg]
        intro ⟨h2, _⟩
        unfold restB at h2
        rw [Bool.and_eq_true, Bool.and_eq_true, List.all_cons, Bool.and_eq_true] at h2
        obtain ⟨⟨_, h3⟩, h4, _⟩ := h2
        have h3 := of_decide_eq_true h3
        have h4 : 0 ≤ hexD c := of_decide_eq_true h4
        simp only [List.length_cons] at h3
        omega
      · rw [if_neg h1, scan_all l _ _ _ q qs e (by omega)]
        have e2 : restB d (c :: q) = restB (d + 1) q := by
          have h4 : isHex c = true := decide_eq_true (by omega)
          unfold restB
          rw [List.all_cons, h4, List.length_cons, Bool.true_and, show d + (q.length + 1) = d + 1 + q.length by omega]
        rw [e2, valH_cons]
theorem scan_pieces (l : List UInt8) (h : l ≠ []) : piecesO l = scan [] 0 0 l := by
  obtain ⟨q, qs, e⟩ := splitOn_ne 58 l
  rw [scan_all l [] 0 0 q qs e (by omega)]
  unfold piecesO
  have e3 : pieceB q = restB 0 q := by
    unfold pieceB restB
    cases q with
    | nil => rfl
    | cons a q => simp
  rw [if_neg h, e, List.all_cons, e3]
  simp

/-- What splitting leaves: the pieces in a row of the call's own, or none. -/
def Split (o : Option (List Nat)) (w : World) (e : Ending) (w' : World) : Prop := ∃ v, e = .returned (.tuple #[v, .bool o.isSome]) ∧ IntOwn w' w.heap.size v (casts (o.getD [])) ∧ Below w.heap.size w w'
theorem split_none {w w' : World} (hb : Below w.heap.size w w') : Split none w (.returned (.tuple #[.slice none 0 0, .bool false])) w' := ⟨_, rfl, World.ownsRow_nil _ _ _ _, hb⟩

set_option maxHeartbeats 1000000 in
set_option maxRecDepth 100000 in
theorem ref06_pieces (s : ByteArray) (hs : s.size ≤ 1000000) (w : World) :
    Calls Tryd.prog 47 #[.string s] w (Split (piecesO s.data.toList) w) := by
  by_cases h0 : s.data.toList = []
  · have e : s.size = 0 := by rw [size_list, h0]; rfl
    have e2 : s.toList.isEmpty = true := by rw [ba_toList, h0]; rfl
    have hp : Hid (piecesO s.data.toList = some []) := by show _ = _; unfold piecesO; rw [if_pos h0]
    clear h0
    go_enter Tryd.func47, Tryd.ntmps47
    go_wp2
    go_ret2
    rw [hp.out]
    exact ⟨_, rfl, World.ownsRow_nil _ _ _ _, Below.refl _ _⟩
  · have e : s.size ≠ 0 := by rw [size_list]; intro e; exact h0 (List.eq_nil_of_length_eq_zero e)
    have e2 : s.toList.isEmpty = false := by rw [ba_toList]; exact List.isEmpty_eq_false_iff.2 h0
    have hp := Lib.hid (scan_pieces _ h0)
    obtain ⟨o, ho⟩ : ∃ o, Hid (piecesO s.data.toList = o) := ⟨_, rfl⟩
    rw [ho.out] at hp ⊢
    clear h0
    go_enter Tryd.func47, Tryd.ntmps47
    go_wp2
    go_loopw [4, 5, 6, 7] (fun v n d i wr => ∃ (k : Nat) (outs : List Nat) (m c : Nat), i = .int .i64 k ∧ n = .int .i64 m ∧ d = .int .i64 c ∧ m ≤ 65535 ∧ c ≤ 4 ∧ outs.length ≤ k ∧ wr.ownsRow w.heap.size 3 1 v outs.length (ints (casts outs)) ∧ Below w.heap.size w wr ∧ (k ≤ s.size ∧ Hid (m < 16 ^ c ∧ scan outs m c (s.data.toList.drop k) = o) ∨ k = s.size + 1 ∧ Hid (o = some outs))) (fun _ _ _ i _ => s.size + 1 - (intOf i).toNat)
    case atStart => exact ⟨0, [], 0, 0, rfl, rfl, rfl, by omega, by omega, by simp, World.ownsRow_nil _ _ _ _, Below.refl _ _, Or.inl ⟨by omega, by decide, hp.out.symm⟩⟩
    case round =>
      obtain ⟨k, outs, m, c, rfl, rfl, rfl, hm, hc, hol, how, hb, hk⟩ := hrel
      rcases hk with ⟨hk, hsc⟩ | ⟨rfl, hsc⟩
      · cases h1 : s.data.toList.drop k with
        | nil =>
          have hks : k = s.size := by have := drop_done h1; omega
          rw [h1, scan_nil] at hsc
          have hlt : ((k : Int) ≤ (s.size : Int)) := by omega
          have heq : ((k : Int) == (s.size : Int)) = true := by rw [hks]; exact beq_iff_eq.2 rfl
          clear h1
          by_cases hc0 : c = 0
          · subst hc0
            have ho2 : Hid (o = none) := by show _ = _; exact hsc.out.2.symm
            clear hks
            go_wp2
            go_ret2
            rw [ho2.out]
            exact split_none hb
          · have hcb : ((c : Int) == 0) = false := by simpa using hc0
            have ho2 : Hid (o = some (outs ++ [m])) := by have := hsc.out.2; rw [if_neg hc0] at this; exact this.symm
            have HK := Lib.hid hks
            clear hks
            go_wp2_with (at_builtin; refine wpList_append1 rfl _ _ 56 rfl 3 _ (.int .i64 0) 8 Tryd.underlying56 Tryd.infoInt rfl w.heap.size w.heap.size (Nat.le_refl _) w _ _ outs.length _ (.int .i64 m) (by rfl) (by rfl) how hb hb.size (by simp [Value.oneCell']) (by omega) (by omega) ?_)
            intro v' w2 ho3 hb2 _ hne
            go_wp2
            go_roundw
            case rel =>
              refine ⟨k + 1, outs ++ [m], 0, 0, by go_num, rfl, rfl, by omega, by omega, by simp; omega, ?_, hb2, Or.inr ⟨by rw [HK.out], ho2⟩⟩
              rw [List.length_append, casts_append, ints_append]; exact ho3
            case measure => have := HK.out; simp only [intOf]; omega
        | cons b l =>
          obtain ⟨hbt, hbk, hl⟩ := bt_cons h1
          have g1 := get_cons h1 hbk
          have hlt : ((k : Int) ≤ (s.size : Int)) := by omega
          have heq : ((k : Int) == (s.size : Int)) = false := by simp; omega
          rw [h1] at hsc
          by_cases hb58 : b = 58
          · subst hb58
            rw [scan_colon] at hsc
            clear h1 hbt
            by_cases hc0 : c = 0
            · subst hc0
              have ho2 : Hid (o = none) := by show _ = _; exact hsc.out.2.symm
              have HL := Lib.hid hl
              clear hl
              go_wp2
              go_ret2
              rw [ho2.out]
              exact split_none hb
            · have hcb : ((c : Int) == 0) = false := by simpa using hc0
              have ho2 : Hid (0 < 16 ^ 0 ∧ scan (outs ++ [m]) 0 0 (s.data.toList.drop (k + 1)) = o) := by
                refine ⟨by decide, ?_⟩
                have := hsc.out.2; rw [if_neg hc0] at this; rw [hl]; exact this
              clear hl
              go_wp2_with (at_builtin; refine wpList_append1 rfl _ _ 56 rfl 3 _ (.int .i64 0) 8 Tryd.underlying56 Tryd.infoInt rfl w.heap.size w.heap.size (Nat.le_refl _) w _ _ outs.length _ (.int .i64 m) (by rfl) (by rfl) how hb hb.size (by simp [Value.oneCell']) (by omega) (by omega) ?_)
              intro v' w2 ho3 hb2 _ hne
              go_wp2
              go_roundw
              case rel =>
                refine ⟨k + 1, outs ++ [m], 0, 0, by go_num, rfl, rfl, by omega, by omega, by simp; omega, ?_, hb2, Or.inl ⟨by omega, ho2⟩⟩
                rw [List.length_append, casts_append, ints_append]; exact ho3
              case measure => simp only [intOf]; omega
          · have hb' : ((b.toNat : Int) == 58) = false := beq_eq_false_iff_ne.2 fun h => hb58 (UInt8.toNat_inj.1 (by have h : (58 : UInt8).toNat = 58 := rfl; omega))
            rw [scan_dig hb58] at hsc
            have hx := ref01_Hex b
            have hbd := hexD_bd b
            obtain ⟨D, hD⟩ : ∃ D, Hid (hexD b = D) := ⟨_, rfl⟩
            rw [hD.out] at hsc hx hbd
            have HL := Lib.hid hl
            clear hl h1 hbt hb58
            by_cases hbad : D < 0 ∨ 4 < c + 1
            · have ho2 : Hid (o = none) := by show _ = _; have := hsc.out.2; rw [if_pos hbad] at this; exact this.symm
              by_cases hD0 : D < 0
              · clear hbad
                go_wp2_with (go_at_call 60; refine (hx _).mono ?_; rintro e w1 ⟨rfl, rfl⟩)
                go_ret2
                rw [ho2.out]
                exact split_none hb
              · have hc4 : c = 4 := by omega
                subst hc4
                clear hbad
                go_wp2_with (go_at_call 60; refine (hx _).mono ?_; rintro e w1 ⟨rfl, rfl⟩)
                go_ret2
                rw [ho2.out]
                exact split_none hb
            · have h2 := hsc.out
              rw [if_neg hbad] at h2
              have hD0 : 0 ≤ D := by omega
              have hc3 : c ≤ 3 := by omega
              obtain ⟨D, rfl⟩ := Int.eq_ofNat_of_zero_le hD0
              have hlow : 16 * m + D < 16 ^ (c + 1) := by rw [Nat.pow_succ]; omega
              have hle : 16 * m + D ≤ 65535 := by
                have : 16 ^ (c + 1) ≤ 16 ^ 4 := Nat.pow_le_pow_right (by decide) (by omega)
                omega
              have ho2 : Hid (16 * m + D < 16 ^ (c + 1) ∧ scan outs (16 * m + D) (c + 1) (s.data.toList.drop (k + 1)) = o) := ⟨hlow, by rw [HL.out]; have := h2.2; rwa [Int.toNat_natCast] at this⟩
              clear hbad h2 hlow
              go_wp2_with (go_at_call 60; refine (hx _).mono ?_; rintro e w1 ⟨rfl, rfl⟩)
              go_roundw
              case rel => exact ⟨k + 1, outs, 16 * m + D, c + 1, by go_num, by go_num, by go_num, hle, by omega, by omega, how, hb, Or.inl ⟨by omega, ho2⟩⟩
              case measure => simp only [intOf]; omega
      · have hlt : ¬ (((s.size + 1 : Nat) : Int) ≤ (s.size : Int)) := by omega
        go_wp2
        go_ret2
        rw [hsc.out]
        refine ⟨_, rfl, ?_, hb⟩
        unfold IntOwn
        rw [casts_length]; exact how

end Go.Proofs.YtcpnfokpgiigcaaDoor
