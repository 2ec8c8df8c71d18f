/- Header fields: the lines of a text, handed on by an iterator. -/
import Derived.Test.YtgbjofahmkeapaaDoorIter
import Derived.Test.YtgbjofahmkeapaaDoorLower
import Derived.Test.YtgbjofahmkeapaaDoorShelf
import Derived.Test.YtgbjofahmkeapaaDoorGood
import Derived.Lib.CutLaws
namespace Go.Proofs.YtgbjofahmkeapaaDoor
open Go.RowKit Go.Shelf
attribute [local go_sem] Oper.semAt_some

def crlf : List UInt8 := [13, 10]
def restK (raw : List UInt8) : Nat → List UInt8
  | 0 => raw
  | k + 1 => (Lib.cut (restK raw k) crlf).2.1
def lineAt (raw : List UInt8) (k : Nat) : List UInt8 × Bool := ((Lib.cut (restK raw k) crlf).1, (Lib.cut (restK raw k) crlf).2.2)
theorem cut_ways (l sep : List UInt8) : (Lib.cut l sep = (l, [], false) ∧ Lib.index l sep = -1) ∨ ∃ i : Nat, Lib.index l sep = i ∧ Lib.cut l sep = (l.take i, l.drop (i + sep.length), true) := by
  unfold Lib.cut
  by_cases h : Lib.index l sep = -1
  · left
    exact ⟨by simp [h], h⟩
  · right
    have h0 := Lib.index_ge l sep
    obtain ⟨i, hi⟩ := Int.eq_ofNat_of_zero_le (show 0 ≤ Lib.index l sep by omega)
    exact ⟨i, hi, by simp [hi]⟩
theorem cut_lens (l sep : List UInt8) : (Lib.cut l sep).1.length ≤ l.length ∧ (Lib.cut l sep).2.1.length ≤ l.length := by
  rcases cut_ways l sep with ⟨e, _⟩ | ⟨i, _, e⟩
  · rw [e]; exact ⟨Nat.le_refl _, Nat.zero_le _⟩
  · rw [e]; simp; omega
theorem cut_less {l sep : List UInt8} (hl : l ≠ []) (hs : sep ≠ []) : (Lib.cut l sep).2.1.length < l.length := by
  have h1 : 0 < l.length := List.length_pos_iff.2 hl
  have h2 : 0 < sep.length := List.length_pos_iff.2 hs
  rcases cut_ways l sep with ⟨e, _⟩ | ⟨i, _, e⟩
  · rw [e]; exact h1
  · rw [e]; simp; omega
theorem restK_le (raw : List UInt8) : ∀ k, (restK raw k).length + k ≤ raw.length ∨ restK raw k = []
  | 0 => .inl (Nat.le_refl _)
  | k + 1 => by
    by_cases h : restK raw k = []
    · right
      have := (cut_lens (restK raw k) crlf).2
      rw [h] at this
      show (Lib.cut (restK raw k) crlf).2.1 = []
      rw [h]
      exact List.eq_nil_of_length_eq_zero (Nat.le_zero.1 this)
    · have h1 := cut_less h (show crlf ≠ [] by decide)
      rcases restK_le raw k with h2 | h2
      · left
        show (Lib.cut (restK raw k) crlf).2.1.length + (k + 1) ≤ _
        omega
      · exact absurd h2 h
theorem restK_len (raw : List UInt8) : ∀ k, (restK raw k).length ≤ raw.length
  | 0 => Nat.le_refl _
  | k + 1 => Nat.le_trans (cut_lens _ _).2 (restK_len raw k)
/-- How many lines there are. -/
def nl (raw : List UInt8) : Nat := (List.range (raw.length + 1)).countP fun k => !(restK raw k).isEmpty
theorem restK_stay {raw : List UInt8} {k : Nat} (h : restK raw k = []) : ∀ j, restK raw (k + j) = []
  | 0 => h
  | j + 1 => by
    have h2 := (cut_lens (restK raw (k + j)) crlf).2
    rw [restK_stay h j] at h2
    show (Lib.cut (restK raw (k + j)) crlf).2.1 = []
    rw [restK_stay h j]
    exact List.eq_nil_of_length_eq_zero (Nat.le_zero.1 h2)
theorem countP_first (p : Nat → Bool) (k : Nat) (h1 : ∀ j, j < k → p j = true) (h2 : ∀ j, k ≤ j → p j = false) : ∀ n, (List.range n).countP p = min k n
  | 0 => by simp
  | n + 1 => by
    rw [List.range_succ, List.countP_append, countP_first p k h1 h2 n]
    by_cases h : n < k
    · simp [h1 n h]; omega
    · simp [h2 n (by omega)]; omega
theorem nl_of {raw : List UInt8} {k : Nat} (h1 : ∀ j, j < k → restK raw j ≠ []) (h2 : restK raw k = []) : nl raw = k := by
  unfold nl
  rw [countP_first _ k (fun j hj => by simpa using h1 j hj) (fun j hj => by
    obtain ⟨d, rfl⟩ : ∃ d, j = k + d := ⟨j - k, by omega⟩
    rw [restK_stay h2 d]; rfl)]
  have : k ≤ raw.length := by
    rcases Nat.lt_or_ge k 1 with h | h
    · omega
    · rcases restK_le raw (k - 1) with h3 | h3
      · have := List.length_pos_iff.2 (h1 (k - 1) (by omega)); omega
      · exact absurd h3 (h1 (k - 1) (by omega))
  omega
theorem nl_ex (raw : List UInt8) : ∃ k, (∀ j, j < k → restK raw j ≠ []) ∧ restK raw k = [] := by
  have key : ∀ n, (∀ j, j < n → restK raw j ≠ []) ∨ ∃ k, (∀ j, j < k → restK raw j ≠ []) ∧ restK raw k = [] := by
    intro n
    induction n with
    | zero => exact .inl fun j hj => absurd hj (Nat.not_lt_zero _)
    | succ n ih =>
      rcases ih with h | h
      · by_cases hn : restK raw n = []
        · exact .inr ⟨n, h, hn⟩
        · refine .inl fun j hj => ?_
          rcases Nat.lt_or_ge j n with hlt | hge
          · exact h j hlt
          · obtain rfl : j = n := by omega
            exact hn
      · exact .inr h
  rcases key (raw.length + 1) with h | h
  · exfalso
    rcases restK_le raw raw.length with h1 | h1
    · have := List.length_pos_iff.2 (h raw.length (by omega)); omega
    · exact h raw.length (by omega) h1
  · exact h
theorem nl_ne {raw : List UInt8} {k : Nat} (h : k < nl raw) : restK raw k ≠ [] := by
  obtain ⟨m, h1, h2⟩ := nl_ex raw
  rw [nl_of h1 h2] at h
  exact h1 k h
theorem nl_end (raw : List UInt8) : restK raw (nl raw) = [] := by
  obtain ⟨m, h1, h2⟩ := nl_ex raw
  rw [nl_of h1 h2]; exact h2
theorem nl_lt {raw : List UInt8} {k : Nat} (hk : k ≤ nl raw) (h : restK raw k ≠ []) : k < nl raw := by
  rcases Nat.lt_or_ge k (nl raw) with h1 | h1
  · exact h1
  · obtain rfl : k = nl raw := by omega
    exact absurd (nl_end raw) h

abbrev lencs (x : List UInt8 × Bool) : Array Value := #[.string ⟨(x.1.take 1000000).toArray⟩, .bool x.2]
/-- What a round keeps: the iterator's box, and what lay below. -/
def BoxK (Bs n₀ : Nat) (A B : World) : Prop := B.heap[Bs]? = A.heap[Bs]? ∧ Below n₀ A B
theorem BoxK.trans {Bs n₀ : Nat} {A B C : World} (h : BoxK Bs n₀ A B) (k : BoxK Bs n₀ B C) : BoxK Bs n₀ A C := ⟨k.1.trans h.1, h.2.trans k.2⟩
def boxLen (w : World) (b : Nat) : Nat := match w.cell? ⟨b, 0, none⟩ with | some (.string s) => s.size | _ => 0

theorem cut_world (s sep : ByteArray) (w : World) (hs : s.size ≤ 1000000) (hG : Good w) :
    Calls Tryd.prog 32 #[.string s, .string sep] w fun e w' => e = .returned (.tuple #[.string ⟨(Lib.cut s.data.toList sep.data.toList).1.toArray⟩, .string ⟨(Lib.cut s.data.toList sep.data.toList).2.1.toArray⟩, .bool (Lib.cut s.data.toList sep.data.toList).2.2]) ∧ ∃ n, w' = w.drewN n := by
  obtain ⟨m, hm⟩ := hG.max
  exact Tryd.strings_Cut s sep m w (by omega) hm

set_option maxRecDepth 100000 in
set_option maxHeartbeats 4000000 in
theorem lines1_in (n : Nat) (hn : 1 ≤ n) (lp Bs n₀ : Nat) (hB : n₀ ≤ Bs) (raw : List UInt8) (hl : raw.length ≤ 1000000) (J Jx : List (List UInt8 × Bool) → World → Prop)
    (hJq : ∀ s A B, J s A → QuietT (fun k => k = Bs) A B → J s B)
    (hY : ∀ pre x W, J pre W → pre.length < nl raw → YieldAt Fence.wide (n - 1) Tryd.prog lp (lencs x) W fun e W' =>
      (e = .returned (.bool true) ∧ J (pre ++ [x]) W' ∧ BoxK Bs n₀ W W') ∨ (e = .returned (.bool false) ∧ Jx (pre ++ [x]) W'))
    (W : World) (hBs : W.heap[Bs]? = some (.cells #[.string ⟨raw.toArray⟩] 9 (0, 0))) (hG : ∀ W', Below n₀ W W' → Good W') (h0 : J [] W) :
    CallsIn Fence.wide n Tryd.prog 56 #[.func (.yield lp) #[] #[], .pointer (some ⟨Bs, 0, none⟩)] W fun e W' => (∃ v, e = .returned v) ∧
      ((∃ ys, ys = upto (lineAt raw) (nl raw) ∧ J ys W') ∨ (∃ pre, (∃ k, k ≤ nl raw ∧ pre = upto (lineAt raw) k) ∧ Jx pre W')) := by
  refine callsIn_of_wp Tryd.func56 rfl trivial ?_ rfl
  simp only [Tryd.ntmps56, List.size_toArray, List.length_cons, List.length_nil, Nat.reduceAdd, Nat.reduceSub, Array.replicate_succ, Array.replicate_zero, List.push_toArray, List.append_toArray, List.nil_append, List.cons_append]
  gi_wp2
  gi_loopw [3, 4, 5] (fun _ _ _ wr => ∃ k : Nat, k ≤ nl raw ∧ J (upto (lineAt raw) k) wr ∧ wr.heap[Bs]? = some (.cells #[.string ⟨(restK raw k).toArray⟩] 9 (0, 0)) ∧ Below n₀ W wr) (fun _ _ _ wr => boxLen wr Bs)
  case atStart => exact ⟨0, Nat.zero_le _, h0, hBs, Below.refl _ _⟩
  case round =>
    obtain ⟨k, hk, hJs, hbx, hbl⟩ := hrel
    have hc1 : wr.cell? ⟨Bs, 0, none⟩ = some (.string ⟨(restK raw k).toArray⟩) := by rw [cell_of_row wr Bs 0 _ _ _ hbx]; rfl
    have hemp : (⟨(restK raw k).toArray⟩ : ByteArray).toList.isEmpty = (restK raw k).isEmpty := by rw [ba_toList, mk_toList]
    by_cases hne : restK raw k = []
    · have he : (restK raw k).isEmpty = true := by rw [hne]; rfl
      have hkn : k = nl raw := by
        rcases Nat.lt_or_ge k (nl raw) with h | h
        · exact absurd hne (nl_ne h)
        · omega
      clear hne
      subst hkn
      gi_wp2
      go_end0
      exact ⟨⟨_, rfl⟩, .inl ⟨_, rfl, hJs⟩⟩
    · have hlt := nl_lt hk hne
      have hemp2 : (⟨(restK raw k).toArray⟩ : ByteArray).toList.isEmpty = false := by rw [hemp]; cases h : restK raw k with | nil => exact absurd h hne | cons a t => rfl
      have he : (restK raw k).isEmpty = false := by cases h : restK raw k with | nil => exact absurd h hne | cons a t => rfl
      have hrl := restK_len raw k
      have hcut := cut_world ⟨(restK raw k).toArray⟩ ⟨#[13, 10]⟩ wr (by rw [size_list, mk_toList]; omega) (hG _ hbl)
      rw [mk_toList] at hcut
      have e0 : (⟨#[13, 10]⟩ : ByteArray).data.toList = crlf := rfl
      rw [e0] at hcut
      have hless := cut_less hne (show crlf ≠ [] by decide)
      have hcl := (cut_lens (restK raw k) crlf).1
      have eline : lineAt raw k = ((Lib.cut (restK raw k) crlf).1, (Lib.cut (restK raw k) crlf).2.2) := rfl
      have erest : restK raw (k + 1) = (Lib.cut (restK raw k) crlf).2.1 := rfl
      have HJQ := Lib.hid hJq
      have HY := Lib.hid hY
      have HM := Lib.hid (show boxLen wr Bs = (restK raw k).length by unfold boxLen; rw [hc1]; show (⟨_⟩ : ByteArray).size = _; rw [size_list, mk_toList])
      clear hJq hY hemp e0
      generalize hcu : Lib.cut (restK raw k) crlf = C at *
      obtain ⟨line, rest, is⟩ := C
      dsimp only at hcut hless hcl eline erest
      have hy1 : ∀ W1, J (upto (lineAt raw) k) W1 → YieldAt Fence.wide (n - 1) Tryd.prog lp #[.string ⟨line.toArray⟩, .bool is] W1 fun e W' => ∃ b, e = .returned (.bool b) ∧ ((b = true ∧ J (upto (lineAt raw) k ++ [lineAt raw k]) W' ∧ BoxK Bs n₀ W1 W') ∨ (b = false ∧ Jx (upto (lineAt raw) k ++ [lineAt raw k]) W')) := fun W1 hJ1 => by
        have h := (HY.out _ (lineAt raw k) W1 hJ1 (by rw [upto_length]; exact hlt)).mono (R' := fun e W' => ∃ b, e = .returned (.bool b) ∧ ((b = true ∧ J (upto (lineAt raw) k ++ [lineAt raw k]) W' ∧ BoxK Bs n₀ W1 W') ∨ (b = false ∧ Jx (upto (lineAt raw) k ++ [lineAt raw k]) W'))) (fun e W' h => by
          rcases h with ⟨rfl, h1, h2⟩ | ⟨rfl, h1⟩
          · exact ⟨true, rfl, .inl ⟨rfl, h1, h2⟩⟩
          · exact ⟨false, rfl, .inr ⟨rfl, h1⟩⟩)
        dsimp only [lencs] at h
        rw [eline] at h ⊢
        rw [List.take_of_length_le (by dsimp only; omega)] at h
        exact h
      have hdr : ∀ m, QuietT (fun k => k = Bs) wr (wr.drewN m) := fun m => ⟨rfl, rfl, rfl, Nat.le_refl _, fun _ _ _ => rfl⟩
      gi_wp2_with (first | (refine ⟨trivial, ?_⟩; gi_at_call 32; refine (callsIn_wide.2 hcut).mono ?_; rintro e w' ⟨rfl, n', rfl⟩; obtain ⟨fn, tmps, assign, body, hy, hR⟩ := hy1 _ (HJQ.out _ _ _ hJs (hdr n'))) | (gi_at_call 32; refine (callsIn_wide.2 hcut).mono ?_; rintro e w' ⟨rfl, n', rfl⟩; obtain ⟨fn, tmps, assign, body, hy, hR⟩ := hy1 _ (HJQ.out _ _ _ hJs (hdr n'))))
      refine hR.mono ?_
      rintro e W3 ⟨b, rfl, ⟨rfl, hJ3, hk3⟩ | ⟨rfl, hJx3⟩⟩
      · have hb3 : W3.heap[Bs]? = some (.cells #[.string ⟨(restK raw k).toArray⟩] 9 (0, 0)) := hk3.1.trans hbx
        have d1 : W3.cell? ⟨Bs, 0, none⟩ = some (.string ⟨(restK raw k).toArray⟩) := by rw [cell_of_row W3 Bs 0 _ _ _ hb3]; rfl
        have d2 : W3.frozen? ⟨Bs, 0, none⟩ = false := by simp [World.frozen?, hb3]
        gi_wp2
        go_roundw
        case rel =>
          refine ⟨k + 1, by omega, by rw [upto_succ]; exact HJQ.out _ _ _ hJ3 (QuietT.setCell _ _ _ rfl), ?_, hbl.trans ((show Below n₀ wr W3 from (show Below n₀ wr (wr.drewN n') from ⟨rfl, rfl, rfl, Nat.le_refl _, fun _ _ => rfl⟩).trans hk3.2).setCell (p := ⟨Bs, 0, none⟩) hB _)⟩
          rw [Go.heap_setCell_same W3 Bs 0 _ _ _ hb3, erest]; rfl
        case measure =>
          rw [HM.out]
          have : boxLen (W3.setCell ⟨Bs, 0, none⟩ (.string ⟨rest.toArray⟩)) Bs = rest.length := by
            unfold boxLen
            rw [cell_of_row _ Bs 0 _ _ _ (Go.heap_setCell_same W3 Bs 0 _ _ _ hb3)]
            show (⟨_⟩ : ByteArray).size = _
            rw [size_list, mk_toList]
          rw [this]; exact hless
      · gi_wp2
        refine bodyPost_ret (results_none rfl _ _ _) rfl ?_
        exact ⟨⟨_, rfl⟩, .inr ⟨_, ⟨k + 1, by omega, (upto_succ _ _).symm⟩, hJx3⟩⟩

theorem head_lines_in (n : Nat) (raw : List UInt8) (w : World) :
    CallsIn Fence.wide n Tryd.prog 31 #[.string ⟨raw.toArray⟩] w fun e w' => e = .returned (.func (.func 56) #[] #[.pointer (some ⟨w.heap.size, 0, none⟩)]) ∧ w' = w.alloc (.cells #[.string ⟨raw.toArray⟩] 9) := by
  refine callsIn_of_wp Tryd.func31 rfl trivial ?_ rfl
  simp only [Tryd.ntmps31, List.size_toArray, List.length_cons, List.length_nil, Nat.reduceAdd, Nat.reduceSub, Array.replicate_succ, Array.replicate_zero, List.push_toArray, List.append_toArray, List.nil_append, List.cons_append]
  gi_wp2
  go_ret
  exact ⟨rfl, rfl⟩

theorem lines_stops (n : Nat) (hn : 1 ≤ n) (Bs n₀ : Nat) (hB : n₀ ≤ Bs) (raw : List UInt8) (hl : raw.length ≤ 1000000) (w : World) (hBs : w.heap[Bs]? = some (.cells #[.string ⟨raw.toArray⟩] 9 (0, 0))) (hn₀ : n₀ ≤ w.heap.size) (hG : ∀ W', Below n₀ w W' → Good W') :
    SeqStopsT Fence.wide n Tryd.prog 56 #[.pointer (some ⟨Bs, 0, none⟩)] lencs (BoxK Bs n₀) (fun ys _ => ys = upto (lineAt raw) (nl raw)) (fun pre _ => ∃ k, k ≤ nl raw ∧ pre = upto (lineAt raw) k) (nl raw) (fun k => k = Bs) w := fun lp J Jx W hW hJ hJx hY h0 => by
  refine (lines1_in n hn lp Bs n₀ hB raw hl (J W.heap.size) (Jx W.heap.size) (fun s A B hs hq => hJ _ _ _ _ hs (hq.wider fun k hk => .inl hk)) (fun pre x W1 h hlen => hY _ pre x W1 h hlen) W ((hW.block Bs (lt_of_block hBs)).trans hBs) (fun W' hb => hG W' ((hW.mono hn₀).trans hb)) (h0 _ W (Nat.le_refl _) (QuietT.refl _ _) rfl)).mono ?_
  rintro e W' ⟨hv, ⟨ys, h1, h2⟩ | ⟨pre, h1, h2⟩⟩
  · exact ⟨hv, .inl ⟨_, ys, h1, h2⟩⟩
  · exact ⟨hv, .inr ⟨_, pre, h1, h2⟩⟩

end Go.Proofs.YtgbjofahmkeapaaDoor
