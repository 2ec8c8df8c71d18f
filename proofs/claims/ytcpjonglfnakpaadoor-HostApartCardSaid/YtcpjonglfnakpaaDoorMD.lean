/- The reference's Parse of layer 6. six.join and six.Show. The reference's May and Run. The reference's Show of layer 6. The laws of layer 6 (six), walked over the contracts. -/
import Derived.Test.YtcpjonglfnakpaaDoorMC
import Derived.Test.YtcpjonglfnakpaaDoorMB
import Derived.Deep.RegionWith
namespace Go.Proofs.YtcpjonglfnakpaaDoor
open Go.RowKit Go.Proofs.YtcpjonglfnakpaaDoorW.PrintWords Go.Lib

/-- A list with the first j of others laid into it from place o on. -/
def laidIn (L xs : List Int) (o j : Nat) : List Int := L.take o ++ xs.take j ++ L.drop (o + j)
theorem laidIn_zero (L xs : List Int) (o : Nat) : laidIn L xs o 0 = L := by unfold laidIn; simp
theorem laidIn_len {L xs : List Int} {o j : Nat} (h : o + j ≤ L.length) (hj : j ≤ xs.length) : (laidIn L xs o j).length = L.length := by unfold laidIn; simp; omega
theorem laidIn_set {L xs : List Int} {o j : Nat} {x : Int} (hx : xs[j]? = some x) (h : o + j < L.length) : (laidIn L xs o j).set (o + j) x = laidIn L xs o (j + 1) := by
  have hj : j < xs.length := (List.getElem?_eq_some_iff.1 hx).1
  unfold laidIn
  rw [List.set_append_right _ _ (by simp; omega), show o + j - (L.take o ++ xs.take j).length = 0 by simp; omega, List.drop_eq_getElem_cons h, List.set_cons_zero, List.take_add_one, hx]
  simp [Nat.add_assoc]

def one8 : Option (List Nat) → List Nat × Bool
  | some a => if a.length = 8 then (a, true) else (no8, false)
  | none => (no8, false)
def two8 : Option (List Nat) → Option (List Nat) → List Nat × Bool
  | some a, some b => if a.length + b.length ≤ 7 then (a ++ List.replicate (8 - a.length - b.length) 0 ++ b, true) else (no8, false)
  | _, _ => (no8, false)
theorem parse_nogap {l : List UInt8} (h : gapL l = none) : parseSix l = one8 (piecesO l) := by
  unfold parseSix; rw [h]; cases piecesO l <;> rfl
theorem parse_gapped {l x y : List UInt8} (h : gapL l = some (x, y)) : parseSix l = two8 (piecesO x) (piecesO y) := by
  unfold parseSix; rw [h]
  simp only []
  cases piecesO x <;> cases piecesO y <;> rfl
end Go.Proofs.YtcpjonglfnakpaaDoor

namespace Go.Proofs.YtcpjonglfnakpaaDoor
open Go.RowKit Go.Proofs.YtcpjonglfnakpaaDoorW.PrintWords

theorem lens_texts (l : List Int) (hb : ∀ n ∈ l, 0 ≤ n ∧ n ≤ 65535) : (colons (texts l)).length ≤ 5 * l.length := by
  have h : tot (texts l) ≤ 4 * l.length := by
    induction l with
    | nil => simp [tot, texts]
    | cons n l ih =>
      have := ih fun m hm => hb m (by simp [hm])
      have h2 := hexs_len n.toNat (by have := hb n (by simp); omega)
      unfold texts at this ⊢
      rw [List.map_cons, tot_cons, List.length_cons]; omega
  by_cases hl : l = []
  · subst hl; simp [texts, colons_nil]
  · have := colons_len (texts l) (by intro e; exact hl (List.map_eq_nil_iff.1 e))
    simp only [texts, List.length_map] at this h ⊢
    omega

/-- Texts in a row of the call's own are joined. -/
theorem join_row (sep : ByteArray) {w : World} {base : Nat} {v : Value} {t : List (List UInt8)} (ho : w.ownsRow base 9 1 v t.length (strs t)) (hl : t.length ≤ 140737488355328) (hlen : (sep.data.toList.intercalate t).length ≤ 140737488355328) :
    Calls Tryd.prog 49 #[v, .string sep] w fun e w' => e = .returned (.string ⟨(sep.data.toList.intercalate t).toArray⟩) ∧ Below w.heap.size w w' := by
  by_cases h0 : t = []
  · subst h0
    rcases ho.2 with ⟨rfl, _⟩ | ⟨g, c, cur, rfl, _⟩
    · refine (Tryd.strings_Join_none none 0 sep w).mono ?_
      rintro e w' ⟨rfl, rfl⟩
      exact ⟨rfl, Below.refl _ _⟩
    · refine (Tryd.strings_Join_none _ c sep w).mono ?_
      rintro e w' ⟨rfl, rfl⟩
      exact ⟨rfl, Below.refl _ _⟩
  · obtain ⟨g, cap, rfl, hg1, hg2⟩ := ho.form (List.length_pos_iff.2 h0)
    have e : (t.map fun x => (⟨x.toArray⟩ : ByteArray)).map (·.data.toList) = t := by
      rw [List.map_map]
      conv => rhs; rw [← List.map_id t]
      exact List.map_congr_left fun x _ => by simp
    have hj := Tryd.strings_Join g 0 cap (t.map fun x => ⟨x.toArray⟩) sep w (fun j x hx => by
        rw [Nat.zero_add, ho.cellAt j (by have := (List.getElem?_eq_some_iff.1 hx).1; simpa using this)]
        rw [List.getElem?_map, Option.map_eq_some_iff] at hx
        obtain ⟨y, hy, rfl⟩ := hx
        simp [strs, hy]) hg2 (by simpa using hl) (by simpa using row_cap ho) (by rw [e]; exact hlen)
    rw [e, List.length_map] at hj
    exact hj

set_option maxHeartbeats 1000000 in
set_option maxRecDepth 100000 in
theorem six_join (bk off cap : Nat) (l : List Int) (hl : l.length ≤ 8) (hb : ∀ n ∈ l, 0 ≤ n ∧ n ≤ 65535) (w : World) (hcells : ∀ (j : Nat) x, l[j]? = some x → w.cell? ⟨bk, off + j, none⟩ = some (.int .i64 x)) (hbk : bk < w.heap.size) :
    Calls Tryd.prog 93 #[.slice (some ⟨bk, off, none⟩) l.length cap] w fun e w' => e = .returned (.string ⟨(colons (texts l)).toArray⟩) ∧ Below w.heap.size w w' := by
  have HL := Lib.hid hb
  have HC := Lib.hid hcells
  have hlens := lens_texts l hb
  clear hb hcells
  go_enter Tryd.func93, Tryd.ntmps93
  go_wp2
  go_loopw [3, 8] (fun v i wr => ∃ k : Nat, k ≤ l.length ∧ i = .int .i64 k ∧ wr.ownsRow w.heap.size 9 1 v k (strs ((texts l).take k)) ∧ (k ≠ 0 → v ≠ .slice none 0 0) ∧ Below w.heap.size w wr) (fun _ i _ => l.length - (intOf i).toNat)
  case atStart => exact ⟨0, by omega, rfl, World.ownsRow_nil _ _ _ _, fun h => absurd rfl h, Below.refl _ _⟩
  case round =>
    obtain ⟨k, hk, rfl, ho, hv, hbl⟩ := hrel
    by_cases hkl : k < l.length
    · obtain ⟨x, hx⟩ : ∃ x, l[k]? = some x := ⟨_, List.getElem?_eq_getElem hkl⟩
      have hc : wr.cell? ⟨bk, off + k, none⟩ = some (.int .i64 x) := by rw [hbl.cell (show (⟨bk, off + k, none⟩ : Addr).block < w.heap.size from hbk)]; exact HC.out k x hx
      have hxb := HL.out x (List.mem_of_getElem? hx)
      obtain ⟨x, rfl⟩ := Int.eq_ofNat_of_zero_le hxb.1
      have htx := six_text x (by omega) wr
      have HX := Lib.hid hx
      clear hx
      go_wp2_with (first | (go_at_call 94; refine htx.mono ?_; rintro e w1 ⟨rfl, rfl⟩) | (at_builtin; refine wpList_append1 rfl _ _ 55 rfl 9 _ (.string ⟨#[]⟩) 16 Tryd.underlying55 Tryd.infoStr rfl w.heap.size w.heap.size (Nat.le_refl _) w _ _ k _ (.string ⟨(hexs x).toArray⟩) (by rfl) (by rfl) ho hbl hbl.size (by simp [Value.oneCell']) (by omega) (by omega) ?_))
      intro v' w2 ho2 hb2 _ hne
      go_wp2
      go_roundw
      case rel =>
        refine ⟨k + 1, by omega, by go_num, ?_, fun _ => hne, hb2⟩
        have e : (texts l).take (k + 1) = (texts l).take k ++ [hexs x] := by
          rw [List.take_add_one]; unfold texts; rw [List.getElem?_map, HX.out]; rfl
        rw [e, strs_append]; exact ho2
      case measure => simp [intOf]; omega
    · obtain rfl : k = l.length := by omega
      have ht : (texts l).take l.length = texts l := List.take_of_length_le (by simp [texts])
      rw [ht] at ho
      have hj := join_row ⟨#[58]⟩ (w := wr) (t := texts l) (by rw [show (texts l).length = l.length by simp [texts]]; exact ho) (by simp [texts]; omega) (by show (colons (texts l)).length ≤ _; omega)
      go_wp2_with fail
      refine hj.mono ?_
      rintro e w1 ⟨rfl, hb1⟩
      go_wp2
      go_ret
      exact ⟨rfl, below_on hbl hbl.size hb1⟩

/-- The text's length, for the tests that a sum of strings makes. -/
theorem take_all {p : List Int} (h : ∀ n ∈ p, 0 ≤ n ∧ n ≤ 65535) (k : Nat) : ∀ n ∈ p.take k, 0 ≤ n ∧ n ≤ 65535 := fun n hn => h n (List.mem_of_mem_take hn)
theorem drop_all {p : List Int} (h : ∀ n ∈ p, 0 ≤ n ∧ n ≤ 65535) (k : Nat) : ∀ n ∈ p.drop k, 0 ≤ n ∧ n ≤ 65535 := fun n hn => h n (List.mem_of_mem_drop hn)

set_option maxHeartbeats 20000000 in
set_option maxRecDepth 100000 in
theorem six_Show_any (p : List Int) (h8 : p.length = 8) (w : World) :
    Calls Tryd.prog 91 #[.agg (ints p).toArray] w fun e w' => e = .returned (.string ⟨(showSix p).toArray⟩) ∧ Below w.heap.size w w' := by
  have hrow : IntRow (w.alloc (.cells (ints p).toArray 22)) w.heap.size 22 p := IntRow.new w _ p
  have hsz : (Option.map (fun i => i.size) (Tryd.prog.info? 22)) = some ((ints p).toArray.size) := by rw [List.size_toArray, ints_length, h8]; kernel_rfl
  obtain ⟨w0, hw0⟩ : ∃ w0, w0 = w.alloc (.cells (ints p).toArray 22) := ⟨_, rfl⟩
  have hb0 : Below w.heap.size w w0 := by rw [hw0]; exact (Below.refl _ _).alloc (Nat.le_refl _) _
  rw [← hw0] at hrow
  have HW := Lib.hid hw0
  have hmay := six_May_any p h8 w0
  go_enter Tryd.func91, Tryd.ntmps91
  go_wp2_with (refine wpList_load_row rfl 22 _ rfl _ rfl 22 (ints p).toArray (0, 0) _ (by rw [← hw0]; exact hrow) Tryd.underlying22 rfl hsz ?_)
  rw [← hw0]
  clear hw0
  refine hmay.mono ?_
  rintro e w1 ⟨rfl, hb1⟩
  have hb01 := below_on hb0 hb0.size hb1
  have hr1 : IntRow w1 w.heap.size 22 p := hrow.below hb1 hrow.lt
  cases hm : mayB p with
  | false =>
    go_wp2
    go_ret
    exact ⟨by rw [showSix_no hm]; rfl, hb01⟩
  | true =>
    have hall := mayB_mem hm
    have HA := Lib.hid hall
    have hrk := runR_ok p
    have hin := hrk.inside
    have hrun := six_Run_any p h8 w1
    have hshow : Hid (showSix p = if (runR p).2 = 0 then colons (texts p) else colons (texts (p.take (runR p).1)) ++ [58, 58] ++ colons (texts (p.drop ((runR p).1 + (runR p).2)))) := by show _ = _; unfold showSix; rw [if_pos hm]
    have Hm := Lib.hid hm
    clear hm hall hrk
    generalize (runR p).1 = a at *
    generalize (runR p).2 = n at *
    go_wp2_with (refine wpList_load_row rfl 22 _ rfl _ rfl 22 (ints p).toArray (0, 0) _ hr1 Tryd.underlying22 rfl hsz ?_)
    refine hrun.mono ?_
    rintro e w2 ⟨rfl, hw2⟩
    have hb02 : Below w.heap.size w w2 := by rw [hw2]; exact hb01.alloc hb01.size _
    have hr2 : IntRow w2 w.heap.size 22 p := by rw [hw2]; exact hr1.alloc _
    clear hw2
    have hsa := run_sliceAt_all (P := Tryd.prog) Tryd.underlying22 (by kernel_rfl) w.heap.size
    by_cases hn : n = 0
    · have hs1 : Hid (showSix p = colons (texts p)) := by show _ = _; rw [hshow.out, if_pos hn]
      clear hshow
      subst hn
      have hj := six_join w.heap.size 0 8 p (by omega) HA.out w2 (fun j x hx => by rw [Nat.zero_add]; exact hr2.cell hx) hr2.lt
      rw [h8] at hj
      go_wp2_with fail
      refine hj.mono ?_
      rintro e w3 ⟨rfl, hb3⟩
      go_wp2
      go_ret
      exact ⟨by rw [hs1.out]; rfl, below_on hb02 hb02.size hb3⟩
    · have ha8 : a ≤ 8 := by omega
      have hsu := run_sliceAt_upto (P := Tryd.prog) Tryd.underlying22 (by kernel_rfl) w.heap.size a ha8
      have hj1 := fun w3 (hb : Below w2.heap.size w2 w3) => six_join w.heap.size 0 8 (p.take a) (by simp; omega) (take_all HA.out a) w3 (fun j x hx => by rw [Nat.zero_add]; exact (hr2.below hb hr2.lt).cell (by rw [List.getElem?_take] at hx; split at hx <;> simp_all)) (hr2.below hb hr2.lt).lt
      rw [show (p.take a).length = a by simp; omega] at hj1
      have hs2 : Hid (showSix p = colons (texts (p.take a)) ++ [58, 58] ++ colons (texts (p.drop (a + n)))) := by show _ = _; rw [hshow.out, if_neg hn]
      have hl1 := lens_texts (p.take a) (take_all HA.out a)
      have hl2 := lens_texts (p.drop (a + n)) (drop_all HA.out (a + n))
      rw [show (p.take a).length = a by simp; omega] at hl1
      rw [show (p.drop (a + n)).length = 8 - (a + n) by simp; omega] at hl2
      clear hshow
      have hj2 : ∃ sv, (∀ w', (Instr.sliceAt 22 (.pointer (some ⟨w.heap.size, 0, none⟩)) (some (.int .i64 ((a : Int) + n))) none none).run Tryd.prog w' = .ok sv w') ∧
          ∀ w3, Below w2.heap.size w2 w3 → Calls Tryd.prog 93 #[sv] w3 fun e w' => e = .returned (.string ⟨(colons (texts (p.drop (a + n)))).toArray⟩) ∧ Below w3.heap.size w3 w' := by
        have ec : (a : Int) + n = ((a + n : Nat) : Int) := by omega
        rw [ec]
        by_cases h : a + n = 8
        · refine ⟨_, fun w' => by rw [h]; exact run_sliceAt_end (P := Tryd.prog) Tryd.underlying22 (by kernel_rfl) w.heap.size w', fun w3 hb => ?_⟩
          have := six_join w.heap.size 0 0 [] (by simp) (fun n hn => absurd hn (by simp)) w3 (fun j x hx => by simp at hx) (hr2.below hb hr2.lt).lt
          rw [h, List.drop_eq_nil_of_le (by omega)]
          exact this
        · refine ⟨_, run_sliceAt_from (P := Tryd.prog) Tryd.underlying22 (by kernel_rfl) (by kernel_rfl) w.heap.size (a + n) (by omega), fun w3 hb => ?_⟩
          have := six_join w.heap.size (a + n) (8 - (a + n)) (p.drop (a + n)) (by simp; omega) (drop_all HA.out _) w3 (fun j x hx => (hr2.below hb hr2.lt).cell (by rwa [List.getElem?_drop] at hx)) (hr2.below hb hr2.lt).lt
          rw [show (p.drop (a + n)).length = 8 - (a + n) by simp; omega] at this
          exact this
      obtain ⟨sv, hsl, hj2⟩ := hj2
      have hbr : Below w2.heap.size w2 w2.drew := (Below.refl _ _).drew
      have hwr : IntKind.i64.wrap ((a : Int) + n) = (a : Int) + n := by rw [IntKind.wrap_i64]; omega
      have HJ1 := Lib.hid hj1
      have HJ2 := Lib.hid hj2
      have HB2 := Lib.hid hb02
      clear hj1 hj2 hsa hr2 hb02 hr1 hb01 hb1 hmay hrow hsz hb0 hrun HA
      go_wp2_with fail
      go_region_with (first
        | (go_at_call_of 93 sv; first
          | (refine (HJ2.out _ hbr).mono ?_; rintro e w3 ⟨rfl, hb3⟩; have hb5 := below_on hbr hbr.size hb3; clear hb3)
          | (refine (HJ2.out _ hb4).mono ?_; rintro e w4 ⟨rfl, hb6⟩; have hb7 := below_on hb4 hb4.size hb6; clear hb6))
        | (go_at_call 93; first
          | (refine (HJ1.out _ hbr).mono ?_; rintro e w3 ⟨rfl, hb3⟩; have hb4 := below_on hbr hbr.size hb3; clear hb3)
          | (refine (HJ1.out _ hb5).mono ?_; rintro e w4 ⟨rfl, hb6⟩; have hb7 := below_on hb5 hb5.size hb6; clear hb6)))
      all_goals go_wp2
      all_goals go_ret
      all_goals refine ⟨?_, below_on HB2.out HB2.out.size hb7⟩
      all_goals refine congrArg (fun x => Ending.returned (.string x)) (toList_inj ?_)
      all_goals rw [hs2.out]
      all_goals simp [ByteArray.data_append]

end Go.Proofs.YtcpjonglfnakpaaDoor

namespace Go.Proofs.YtcpjonglfnakpaaDoor
open Go.RowKit Go.Proofs.YtcpjonglfnakpaaDoorW.PrintWords

end Go.Proofs.YtcpjonglfnakpaaDoor

namespace Go.Proofs.YtcpjonglfnakpaaDoor
open Go.RowKit Go.Proofs.YtcpjonglfnakpaaDoorW.PrintWords

theorem needs_bytes (l : List UInt8) : needs l = (!l.isEmpty && l.getLast? != some 58) := rfl
theorem pref_len (p : List Int) (hb : ∀ n ∈ p, 0 ≤ n ∧ n ≤ 65535) (h8 : p.length = 8) (a n i : Nat) (hi : i ≤ 8) : (pref (texts p) a n i).length ≤ 100 := by
  have hl : ∀ q : List Int, (∀ n ∈ q, 0 ≤ n ∧ n ≤ 65535) → (colons (texts q)).length ≤ 5 * q.length := by
    intro q hq
    have h : tot (texts q) ≤ 4 * q.length := by
      induction q with
      | nil => simp [tot, texts]
      | cons n l ih =>
        have := ih fun m hm => hq m (by simp [hm])
        have h2 := hexs_len n.toNat (by have := hq n (by simp); omega)
        unfold texts at this ⊢
        rw [List.map_cons, tot_cons, List.length_cons]; omega
    by_cases e : q = []
    · subst e; simp [texts, colons_nil]
    · have := colons_len (texts q) (by intro h; exact e (List.map_eq_nil_iff.1 h))
      simp only [texts, List.length_map] at this h ⊢
      omega
  unfold pref
  split
  · rw [← texts_take]
    have := hl (p.take i) fun n hn => hb n (List.mem_of_mem_take hn)
    simp only [List.length_take] at this
    omega
  · rw [← texts_take, ← texts_drop, ← texts_take]
    have h1 := hl (p.take a) fun n hn => hb n (List.mem_of_mem_take hn)
    have h2 := hl ((p.drop (a + n)).take (i - (a + n))) fun n hn => hb n (List.mem_of_mem_drop (List.mem_of_mem_take hn))
    simp only [List.length_append, List.length_cons, List.length_nil, List.length_take, List.length_drop] at h1 h2 ⊢
    omega

end Go.Proofs.YtcpjonglfnakpaaDoor

namespace Go.Proofs.YtcpjonglfnakpaaDoor
open Go.RowKit Go.Proofs.YtcpjonglfnakpaaDoorW.PrintWords

theorem oMay6 {w0 w : World} (hk : Ok w0 w) (p : List Int) (h8 : p.length = 8) : Calls Tryd.prog 33 #[.agg (ints p).toArray] w fun e w' => e = .returned (.bool (mayB p)) ∧ Ok w0 w' := ok_below hk fun _ => six_May_any p h8 w
theorem oRun6 {w0 w : World} (hk : Ok w0 w) (p : List Int) (h8 : p.length = 8) : Calls Tryd.prog 92 #[.agg (ints p).toArray] w fun e w' => e = .returned (.tuple #[.int .i64 (runR p).1, .int .i64 (runR p).2]) ∧ Ok w0 w' := ok_below hk fun _ => (six_Run_any p h8 w).mono fun _ _ ⟨h1, h2⟩ => ⟨h1, by rw [h2]; exact (Below.refl _ _).alloc (Nat.le_refl _) _⟩
theorem oShow6 {w0 w : World} (hk : Ok w0 w) (p : List Int) (h8 : p.length = 8) : Calls Tryd.prog 91 #[.agg (ints p).toArray] w fun e w' => e = .returned (.string ⟨(showSix p).toArray⟩) ∧ Ok w0 w' := ok_below hk fun _ => six_Show_any p h8 w
theorem oParse6 {w0 w : World} (hk : Ok w0 w) (s : ByteArray) (hs : s.size ≤ 1000000) : Calls Tryd.prog 12 #[.string s] w fun e w' => e = .returned (.tuple #[.agg (ints (casts (parseSix s.data.toList).1)).toArray, .bool (parseSix s.data.toList).2]) ∧ Ok w0 w' := ok_below hk fun hG => six_Parse_any s hs w hG
/-- Two arrays are compared. -/
theorem eq8 {p q : List Int} (hp : p.length = 8) (hq : q.length = 8) (w : World) : (Op.equalIn 10000 22 (.agg (ints p).toArray) (.agg (ints q).toArray)).run Tryd.prog w = .ok (p == q) w := run_equalIn_ints Tryd.underlying22 (by kernel_rfl) Tryd.underlying3 (by kernel_rfl) (by kernel_rfl) hp hq

theorem old8 {p : List Int} (h : p.length = 8) : (ints zer).toArray.size = (ints p).toArray.size := by rw [List.size_toArray, ints_length, List.size_toArray, ints_length, h]; rfl
theorem sz8 {p : List Int} (h : p.length = 8) : (Tryd.prog.info? 22).map (·.size) = some (ints p).toArray.size := by rw [List.size_toArray, ints_length, h]; kernel_rfl
theorem IntRow.eight {w : World} {b : Nat} {T : TypeId} {x0 x1 x2 x3 x4 x5 x6 x7 : Int} (h : IntRow w b T [x0, x1, x2, x3, x4, x5, x6, x7]) :
    w.cell? ⟨b, 0, none⟩ = some (.int .i64 x0) ∧ w.cell? ⟨b, 1, none⟩ = some (.int .i64 x1) ∧ w.cell? ⟨b, 2, none⟩ = some (.int .i64 x2) ∧ w.cell? ⟨b, 3, none⟩ = some (.int .i64 x3) ∧
      w.cell? ⟨b, 4, none⟩ = some (.int .i64 x4) ∧ w.cell? ⟨b, 5, none⟩ = some (.int .i64 x5) ∧ w.cell? ⟨b, 6, none⟩ = some (.int .i64 x6) ∧ w.cell? ⟨b, 7, none⟩ = some (.int .i64 x7) :=
  ⟨h.cell rfl, h.cell rfl, h.cell rfl, h.cell rfl, h.cell rfl, h.cell rfl, h.cell rfl, h.cell rfl⟩
theorem wpList_wanted {P : Program} {ops : Array Oper} {Q : Exit → Act → World → Prop} {a : Act} {w : World} {rest : List Oper} {o : Oper} (hg : Region.wanted o (yielded ops a.tmps) = true) (h : ∀ K : Act → World → Prop, (∀ a w, wpList P ops Q rest a w → K a w) → o.wp P a w K Q) : wpList P ops Q (o :: rest) a w :=
  wpList_step fun K hK => by rw [if_pos hg]; exact h K hK
theorem wpList_skip_load {P : Program} {ops : Array Oper} {Q : Exit → Act → World → Prop} {a : Act} {w : World} {rest : List Oper} {o : Oper} (ty : TypeId) (x : Operand) (_ho : o.op = .load ty x) (hg : Region.wanted o (yielded ops a.tmps) = false) (h : wpList P ops Q rest (a.put o.dst undef) w) : wpList P ops Q (o :: rest) a w :=
  wpList_step fun K hK => by rw [if_neg (by rw [hg]; exact Bool.false_ne_true)]; exact hK _ _ h
theorem wpList_load_row_g {P : Program} {ops : Array Oper} {rest : List Oper} {o : Oper} {a : Act} {w : World} {Q : Exit → Act → World → Prop} (hgd : Region.wanted o (yielded ops a.tmps) = true) (ty : TypeId) (x : Operand) (ho : o.op = .load ty x)
    (g : Nat) (hx : a.eval x = .pointer (some ⟨g, 0, none⟩)) (t : TypeId) (cs : Array Value) (fr : Nat × Nat) (d : TypeDesc) (hg : w.heap[g]? = some (.cells cs t fr))
    (hu : P.underlying ty = some d) (hd : (match d with | .struct _ | .array _ _ => true | _ => false) = true) (hi : (P.info? ty).map (·.size) = some cs.size)
    (h : wpList P ops Q rest (a.put o.dst (.agg cs)) w) : wpList P ops Q (o :: rest) a w :=
  wpList_wanted hgd fun _ hK => wp_load_row ty x ho g hx t cs fr d hg hu hd hi (hK _ _ h)

def pEx : List Int := [1, 0, 0, 2, 0, 0, 0, 3]
theorem parse_ex : parseSix [49, 58, 48, 58, 48, 58, 50, 58, 58, 51] = ([1, 0, 0, 2, 0, 0, 0, 3], true) := by decide +kernel
theorem casts_ex : casts [1, 0, 0, 2, 0, 0, 0, 3] = pEx := rfl
theorem parse_zz : parseSix [58, 58] = (no8, true) := by decide +kernel
theorem run_ex : runR pEx = (4, 3) := by decide +kernel
theorem show_ex : showSix pEx = [49, 58, 48, 58, 48, 58, 50, 58, 58, 51] := by decide +kernel
theorem show_zz : showSix zer = [58, 58] := by decide +kernel
theorem may_ex : mayB pEx = true := by decide +kernel

end Go.Proofs.YtcpjonglfnakpaaDoor
