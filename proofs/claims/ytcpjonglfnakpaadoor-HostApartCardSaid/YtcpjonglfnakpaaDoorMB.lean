/- Lists of texts: a block that holds them, a slice that lists them, what is appended to one of one's own. Plain lemmas for proofs over printed functions: bytes of a text by its list, loops by what is left of it. What the package-level variables hold while a call runs. Lists of texts; strings.Split at one byte. What a row's start gives: the variables hold what the walks ask. strings.LastIndexByte in the form of a contract that the print takes; what stands behind a text's last byte of a kind. A block that holds a text's bytes ('[]byte(s)'), stored into, and made a text again. No program in sight. -/
import Derived.Test.YtcpjonglfnakpaaDoorMA
import Derived.Test.YtcpjonglfnakpaaDoorProg
import Derived.Laws.AppendOwnNone
import Derived.Test.YtcpjonglfnakpaaDoorWWords
import Derived.Shelf.Unicode.DecodeLast
import Derived.Test.YtcpjonglfnakpaaDoorShelf
import Derived.Test.YtcpjonglfnakpaaDoorRows
import Derived.SizedLaws
import Derived.LaidMore
import Derived.Lib.LaidU8
import Derived.Laws.IdiomStrings
import Derived.Lib.BufferMore
namespace Go.Proofs.YtcpjonglfnakpaaDoor
open Go.RowKit

def strs (l : List (List UInt8)) : List Value := l.map fun x => .string ⟨x.toArray⟩
theorem strs_append (l m : List (List UInt8)) : strs (l ++ m) = strs l ++ strs m := by simp [strs]
theorem strs_length (l : List (List UInt8)) : (strs l).length = l.length := by simp [strs]
theorem infoStr0 : (Tryd.prog.info? 9).map (fun i => (i.zero, i.size, i.bytes)) = some (some (.string ⟨#[]⟩), 1, 16) := by kernel_rfl
/-- A block of texts. -/
def StrRow (w : World) (b : Nat) (T : TypeId) (l : List (List UInt8)) : Prop := w.heap[b]? = some (.cells (strs l).toArray T (0, 0))
theorem StrRow.cell {w : World} {b : Nat} {T : TypeId} {l : List (List UInt8)} (h : StrRow w b T l) {k : Nat} {x : List UInt8} (hk : l[k]? = some x) : w.cell? ⟨b, k, none⟩ = some (.string ⟨x.toArray⟩) := by
  rw [cell_of_row w b k _ T _ h]; simp [strs, hk]
theorem StrRow.lt {w : World} {b : Nat} {T : TypeId} {l : List (List UInt8)} (h : StrRow w b T l) : b < w.heap.size := lt_of_block h
theorem StrRow.below {w w' : World} {b : Nat} {T : TypeId} {l : List (List UInt8)} (h : StrRow w b T l) {B : Nat} (hb : Below B w w') (hlt : b < B) : StrRow w' b T l := block_below h hb hlt
/-- A slice value that holds texts, in a block below n₀; or there are none. -/
def Texts (n₀ : Nat) (W : World) (sv : Value) (l : List (List UInt8)) : Prop :=
  (sv = .slice none 0 0 ∧ l = []) ∨ ∃ b off cap, sv = .slice (some ⟨b, off, none⟩) l.length cap ∧ b < n₀ ∧ ∀ j x, l[j]? = some x → W.cell? ⟨b, off + j, none⟩ = some (.string ⟨x.toArray⟩)
theorem Texts.below {n₀ : Nat} {A B : World} (h : Below n₀ A B) {sv : Value} {l : List (List UInt8)} : Texts n₀ A sv l → Texts n₀ B sv l
  | .inl e => .inl e
  | .inr ⟨b, off, cap, e, hb, hc⟩ => .inr ⟨b, off, cap, e, hb, fun j x hj => (h.cell (p := ⟨b, off + j, none⟩) hb).trans (hc j x hj)⟩
theorem Texts.mono {n₀ n₁ : Nat} (hn : n₀ ≤ n₁) {A : World} {sv : Value} {l : List (List UInt8)} : Texts n₀ A sv l → Texts n₁ A sv l
  | .inl e => .inl e
  | .inr ⟨b, off, cap, e, hb, hc⟩ => .inr ⟨b, off, cap, e, by omega, hc⟩
theorem ownsRow_mono {w : World} {B B' : Nat} {e : TypeId} {v : Value} {n : Nat} {xs : List Value} (h : w.ownsRow B e 1 v n xs) (hB : B' ≤ B) : w.ownsRow B' e 1 v n xs := by
  refine ⟨h.1, ?_⟩
  rcases h.2 with h | ⟨g, cap, cur, h1, h2, h3⟩
  · exact .inl h
  · exact .inr ⟨g, cap, cur, h1, by omega, h3⟩
theorem texts_row {w : World} {g n₀ : Nat} {L : List (List UInt8)} {cap : Nat} (h : StrRow w g 9 L) (hn : g < n₀) : Texts n₀ w (.slice (some ⟨g, 0, none⟩) L.length cap) L :=
  .inr ⟨g, 0, cap, rfl, hn, fun j x hj => by rw [Nat.zero_add]; exact h.cell hj⟩
theorem texts_own {w : World} {B n₀ : Nat} {v : Value} {L : List (List UInt8)} (h : w.ownsRow B 9 1 v L.length (strs L)) (hn : w.heap.size ≤ n₀) : Texts n₀ w v L ∧ v.oneCell' = true := by
  rcases h.2 with ⟨rfl, h0⟩ | ⟨g, cap, cur, rfl, hg, hc, hr⟩
  · exact ⟨.inl ⟨rfl, List.eq_nil_of_length_eq_zero h0⟩, rfl⟩
  · refine ⟨.inr ⟨g, 0, cap, rfl, Nat.lt_of_lt_of_le (lt_of_block hc) hn, fun j x hj => ?_⟩, rfl⟩
    have hlt : j < L.length := (List.getElem?_eq_some_iff.1 hj).1
    have := h.cellAt j (by omega)
    rw [Nat.zero_add, this]
    simp [strs, hj]
theorem texts_shape {n₀ : Nat} {w : World} {sv : Value} {l : List (List UInt8)} (h : Texts n₀ w sv l) : ∃ ao cap, sv = .slice ao l.length cap := by
  rcases h with ⟨rfl, rfl⟩ | ⟨b, off, cap, rfl, _, _⟩
  · exact ⟨none, 0, rfl⟩
  · exact ⟨_, _, rfl⟩
theorem append_texts {ops : Array Oper} {rest : List Oper} {o : Oper} {a : Act} {Q : Exit → Act → World → Prop} (hgd : o.guard = none) (s x : Operand) (ho : o.op = .call { callee := .builtin .append, args := #[s, x], argTypes := #[55, 55] })
    (w : World) (B n₀ : Nat) (v sv : Value) (L M : List (List UInt8)) (hs : a.eval s = v) (hx : a.eval x = sv) (hown : w.ownsRow B 9 1 v L.length (strs L)) (hT : Texts n₀ w sv M) (hl : L.length + M.length ≤ 3000000) (hB : B ≤ w.heap.size)
    (h : ∀ v' w', w'.ownsRow B 9 1 v' (L ++ M).length (strs (L ++ M)) → w.grownBy w' v.ownBlock → wpList Tryd.prog ops Q rest (a.put o.dst v') w') : wpList Tryd.prog ops Q (o :: rest) a w := by
  obtain ⟨i0, hi, hz0, hz1, hz2⟩ := info_parts infoStr0
  rcases hT with ⟨rfl, rfl⟩ | ⟨b, off, cap, rfl, hb, hc⟩
  · refine wpList_append_own_none hgd s x 55 ho B 9 i0 1 Tryd.underlying55 hi v L.length (strs L) hs hown hx ?_
    exact h v w (by rw [List.append_nil]; exact hown) (World.grownBy.refl _ _)
  · refine wpList_append_own _ hgd s x 55 ho B 9 i0 (.string ⟨#[]⟩) 1 16 Tryd.underlying55 hi hz0 hz1 hz2 rfl (by decide) v L.length (strs L) hs hown ⟨b, off, none⟩ M.length cap (strs M) hx (by rw [strs_length, Nat.mul_one]) (fun j u hj => ?_) (fun u hu => ?_) (by unfold maxLen; omega) (by omega) hB ?_
    · have hadd : (⟨b, off, none⟩ : Addr).add j = ⟨b, off + j, none⟩ := by unfold Addr.add; split <;> simp_all
      rw [hadd]
      unfold strs at hj
      rw [List.getElem?_map] at hj
      obtain ⟨y, hy, rfl⟩ := Option.map_eq_some_iff.1 hj
      exact hc j y hy
    · obtain ⟨y, _, rfl⟩ := List.mem_map.1 hu; rfl
    · intro v' w' h1 h2 _
      exact h v' w' (by rw [List.length_append, strs_append]; exact h1) h2
/-- A list of one's own that is not empty, as a slice. -/
theorem own_some {w : World} {B n : Nat} {v : Value} {xs : List Value} (h : w.ownsRow B 9 1 v (n + 1) xs) : ∃ g cap, v = .slice (some ⟨g, 0, none⟩) (n + 1) cap ∧ n + 1 ≤ cap := by
  rcases h.2 with ⟨_, h0⟩ | ⟨g, cap, cur, hv, _, _, hn, _⟩
  · omega
  · exact ⟨g, cap, hv, hn⟩
theorem own_cell {w : World} {B g cap k : Nat} {L : List (List UInt8)} {x : List UInt8} (h : w.ownsRow B 9 1 (.slice (some ⟨g, 0, none⟩) L.length cap) L.length (strs L)) (hx : L[k]? = some x) : w.cell? ⟨g, k, none⟩ = some (.string ⟨x.toArray⟩) := by
  have hlt : k < L.length := (List.getElem?_eq_some_iff.1 hx).1
  have := h.cellAt k (show k < L.length * 1 by omega)
  rw [this]
  simp [strs, hx]
theorem own_cells {w : World} {B : Nat} {v : Value} {n : Nat} {xs : List Value} {e : TypeId} {k : Nat} (h : w.ownsRow B e 1 v n xs) (hk : v.ownBlock = some k) : ∃ cur, w.heap[k]? = some (.cells cur e (0, 0)) := by
  rcases h.2 with ⟨rfl, _⟩ | ⟨g, cap, cur, rfl, _, hc, _⟩
  · cases hk
  · obtain rfl := Option.some.inj hk
    exact ⟨cur, hc⟩
theorem texts_here {w : World} {B : Nat} {v : Value} {L : List (List UInt8)} (h : w.ownsRow B 9 1 v L.length (strs L)) : Texts w.heap.size w v L := (texts_own h (Nat.le_refl _)).1

end Go.Proofs.YtcpjonglfnakpaaDoor

namespace Go.Proofs.YtcpjonglfnakpaaDoor
open Go.RowKit Go.Proofs.YtcpjonglfnakpaaDoorW.PrintWords

theorem size_list (s : ByteArray) : s.size = s.data.toList.length := (Array.length_toList).symm
theorem bt_cons {s : ByteArray} {i : Nat} {b : UInt8} {l : List UInt8} (h : s.data.toList.drop i = b :: l) : bt s (i : Int) = (b.toNat : Int) ∧ i < s.size ∧ s.data.toList.drop (i + 1) = l := by
  have hlt : i < s.data.toList.length := by
    rcases Nat.lt_or_ge i s.data.toList.length with h' | h'
    · exact h'
    · rw [List.drop_eq_nil_of_le h'] at h; cases h
  have hs : i < s.size := by rw [size_list]; exact hlt
  rw [List.drop_eq_getElem_cons hlt] at h
  injection h with h1 h2
  refine ⟨?_, hs, h2⟩
  rw [← h1]
  unfold bt
  rw [dif_pos (by simpa using hs)]
  rfl
theorem get_cons {s : ByteArray} {i : Nat} {b : UInt8} {l : List UInt8} (h : s.data.toList.drop i = b :: l) (hi : i < s.size) : s[i] = b := by
  have hlt : i < s.data.toList.length := by rw [← size_list]; exact hi
  rw [List.drop_eq_getElem_cons hlt] at h
  injection h
theorem drop_done {s : ByteArray} {i : Nat} (h : s.data.toList.drop i = []) : s.size ≤ i := by
  have := List.drop_eq_nil_iff.1 h
  rw [size_list]; exact this
theorem drop_start (s : ByteArray) : s.data.toList.drop 0 = s.data.toList := rfl
theorem wrap64_id {n : Int} (h0 : -9223372036854775808 ≤ n) (h1 : n < 9223372036854775808) : wrap64 n = n := by unfold wrap64; omega
theorem wrap64_succ {i n : Nat} (h : i < n) (hn : n ≤ 140737488351232) : wrap64 ((i : Int) + 1) = ((i + 1 : Nat) : Int) := by unfold wrap64; omega
theorem mk_toList (l : List UInt8) : (⟨l.toArray⟩ : ByteArray).data.toList = l := by simp
theorem of_toList (s : ByteArray) : (⟨s.data.toList.toArray⟩ : ByteArray) = s := by simp
theorem toList_inj {s t : ByteArray} (h : s.data.toList = t.data.toList) : s = t := by rw [← of_toList s, h, of_toList]
theorem ba_toList (s : ByteArray) : s.toList = s.data.toList := ByteArray.toList_eq s
theorem Ev.some {α : Type} (r : α) : Ev (fun _ => Option.some r) r := Ev.now r

end Go.Proofs.YtcpjonglfnakpaaDoor

namespace Go.Proofs.YtcpjonglfnakpaaDoor
open Go.RowKit Go.Proofs.YtcpjonglfnakpaaDoorW.PrintWords

/-- internal/bytealg.MaxLen holds some int; the two tables of unicode/utf8 hold what their initialisers lay. -/
structure Good (w : World) : Prop where
  max : ∃ m, w.cell? ⟨0, 0, none⟩ = some (.int .i64 m)
  tabs : Go.Lib.Utf8Tabs 1 2 w
theorem Good.below {w w' : World} (h : Good w) (hb : Below w.heap.size w w') : Good w' := by
  obtain ⟨m, hm⟩ := h.max
  exact ⟨⟨m, (hb.cell (World.block_lt_of_cell? w _ hm)).trans hm⟩, Utf8Tabs_below h.tabs hb⟩
theorem Good.drewN {w : World} (h : Good w) (n : Nat) : Good (w.drewN n) := h.below ⟨rfl, rfl, rfl, Nat.le_refl _, fun _ _ => rfl⟩
theorem Good.drew {w : World} (h : Good w) : Good w.drew := h.below ⟨rfl, rfl, rfl, Nat.le_refl _, fun _ _ => rfl⟩
theorem Good.alloc {w : World} (h : Good w) (o : Obj) : Good (w.alloc o) := h.below ((Below.refl _ _).alloc (Nat.le_refl _) o)

/-- What has been done since w0: nothing that lay has turned; the variables hold what they held. -/
structure Ok (w0 w : World) : Prop where
  below : Below w0.heap.size w0 w
  good : Good w
theorem Ok.refl {w : World} (h : Good w) : Ok w w := ⟨Below.refl _ _, h⟩
theorem Ok.step {w0 w w' : World} (h : Ok w0 w) (hb : Below w.heap.size w w') : Ok w0 w' := ⟨below_on h.below h.below.size hb, h.good.below hb⟩
theorem Ok.drewN {w0 w : World} (h : Ok w0 w) (n : Nat) : Ok w0 (w.drewN n) := h.step ⟨rfl, rfl, rfl, Nat.le_refl _, fun _ _ => rfl⟩
theorem Ok.drew {w0 w : World} (h : Ok w0 w) : Ok w0 w.drew := h.step ⟨rfl, rfl, rfl, Nat.le_refl _, fun _ _ => rfl⟩
theorem Ok.alloc {w0 w : World} (h : Ok w0 w) (o : Obj) : Ok w0 (w.alloc o) := h.step ((Below.refl _ _).alloc (Nat.le_refl _) o)

/-- A contract's word in the form of what has been done since w0. -/
theorem ok_below {P : Program} {f : FuncId} {args : Array Value} {r : Value} {w0 w : World} (hk : Ok w0 w) (h : Good w → Calls P f args w fun e w' => e = .returned r ∧ Below w.heap.size w w') :
    Calls P f args w fun e w' => e = .returned r ∧ Ok w0 w' := (h hk.good).mono fun _ _ ⟨he, hb⟩ => ⟨he, hk.step hb⟩
theorem ok_drawn {P : Program} {f : FuncId} {args : Array Value} {r : Value} {w0 w : World} (hk : Ok w0 w) (h : Good w → Calls P f args w fun e w' => e = .returned r ∧ Drawn0 w w') :
    Calls P f args w fun e w' => e = .returned r ∧ Ok w0 w' := (h hk.good).mono fun _ _ ⟨he, hb⟩ => ⟨he, hk.step hb.below⟩

end Go.Proofs.YtcpjonglfnakpaaDoor

namespace Go.Proofs.YtcpjonglfnakpaaDoor
open Go.RowKit

theorem Tryd.infoStr : (Tryd.prog.info? 9).map (fun i => (i.zero, i.size, i.bytes)) = some (some (.string ⟨#[]⟩), 1, 16) := by kernel_rfl

/-- strings.Split at one byte. -/
theorem split_any (c : UInt8) (s : ByteArray) (hs : s.size < 4294967281) (w : World) (hG : Good w) :
    Calls Tryd.prog 24 #[.string s, .string ⟨#[c]⟩] w fun e w' => e = .returned (.slice (some ⟨w.heap.size, 0, none⟩) (splitOn c s.data.toList).length (splitOn c s.data.toList).length) ∧ w' = w.alloc (.cells (strs (splitOn c s.data.toList)).toArray 9) := by
  obtain ⟨m, hm⟩ := hG.max
  have h := Tryd.strings_Split s ⟨#[c]⟩ m w hs hm (by show 1 ≤ 1; decide)
  rw [countB_byte, splitB_bytes, List.map_map] at h
  exact h
end Go.Proofs.YtcpjonglfnakpaaDoor

namespace Go.Proofs.YtcpjonglfnakpaaDoor
open Go.RowKit Go.Lib

theorem first_data : Rows.laid_unicode_utf8_first = firstData := by kernel_rfl
theorem accept_data : (Rows.laid_unicode_utf8_acceptRanges : DataW Unit) = acceptData := by kernel_rfl
theorem good_of {W : World} {laid : List (String × DataW Unit)} (hsh : W.ShapedOpen Tryd.prog) (hL : laidMetH Tryd.prog laid W) (he : laid = [("unicode/utf8.acceptRanges", Rows.laid_unicode_utf8_acceptRanges), ("unicode/utf8.first", Rows.laid_unicode_utf8_first)] := by rfl) : Good W := by
  subst he
  rw [MakeChecks.laidMetH_plain _ _ _ (by kernel_rfl)] at hL
  have h1 := Lib.laidMet.reads hL (.tail _ (.head _))
  have h2 := Lib.laidMet.reads hL (.head _)
  rw [first_data] at h1
  rw [accept_data] at h2
  exact ⟨Tryd.laysM146.s1_3 W hsh, utf8Tabs_of_reads (Tryd.lays260) ⟨by kernel_rfl, by kernel_rfl, by kernel_rfl, by kernel_rfl, by kernel_rfl, by kernel_rfl, by kernel_rfl⟩ h1 h2⟩

end Go.Proofs.YtcpjonglfnakpaaDoor

namespace Go.Proofs.YtcpjonglfnakpaaDoor
open Go.RowKit Go.Proofs.YtcpjonglfnakpaaDoorW.PrintWords

/-- What stands behind the last byte c; all, if there is none. -/
def behind (c : UInt8) (l : List UInt8) : List UInt8 := (l.reverse.takeWhile (· != c)).reverse
theorem behind_none {c : UInt8} {l : List UInt8} (h : c ∉ l) : behind c l = l := by
  have := List.takeWhile_append_of_pos (p := fun x => x != c) (l₁ := l.reverse) (l₂ := []) (fun x hx => by simp; rintro rfl; exact h (by simpa using hx))
  unfold behind
  simp only [List.append_nil, List.takeWhile_nil] at this
  rw [this, List.reverse_reverse]
theorem behind_app {c : UInt8} {a t : List UInt8} (h : c ∉ t) : behind c (a ++ c :: t) = t := by
  unfold behind
  rw [List.reverse_append, List.reverse_cons, List.append_assoc, List.takeWhile_append_of_pos (fun x hx => by simp; rintro rfl; exact h (by simpa using hx))]
  simp
theorem behind_le (c : UInt8) (l : List UInt8) : (behind c l).length ≤ l.length := by
  unfold behind
  have := (List.takeWhile_sublist (fun x => x != c) (l := l.reverse)).length_le
  simpa using this
theorem data_at (s : ByteArray) (j : Nat) (h : j < s.size) : s.data[j]! = s.data.toList[j]'(by rw [← size_list]; exact h) := by
  have h' : j < s.data.size := h
  rw [getElem!_pos s.data j h']; rfl
theorem drop_last (s : ByteArray) (c : UInt8) : s.data.toList.drop (Lib.lastIndexByte s c.toNat + 1).toNat = behind c s.data.toList ∧ -1 ≤ Lib.lastIndexByte s c.toNat ∧ Lib.lastIndexByte s c.toNat < s.size := by
  have hl := size_list s
  rcases Lib.lastIndexByte_spec s c.toNat with ⟨e, hn⟩ | ⟨i, hi, e, hc, hn⟩
  · rw [e]
    refine ⟨?_, by omega, by omega⟩
    rw [behind_none]
    · rfl
    · intro hm
      obtain ⟨j, hj, he⟩ := List.mem_iff_getElem.1 hm
      refine hn j (by omega) ?_
      rw [data_at s j (by omega), he]
  · rw [e]
    refine ⟨?_, by omega, by omega⟩
    have hi' : i < s.data.toList.length := by omega
    have e1 : s.data.toList = s.data.toList.take i ++ c :: s.data.toList.drop (i + 1) := by
      have h0 : s.data.toList[i] = c := by
        rw [data_at s i hi] at hc
        exact UInt8.toNat_inj.1 (by omega)
      conv => lhs; rw [← List.take_append_drop i s.data.toList]
      rw [List.drop_eq_getElem_cons hi', h0]
    have e2 : ((i : Int) + 1).toNat = i + 1 := by omega
    rw [e2]
    conv => rhs; rw [e1]
    rw [behind_app]
    intro hm
    obtain ⟨j, hj, he⟩ := List.mem_iff_getElem.1 hm
    rw [List.length_drop] at hj
    refine hn (i + 1 + j) (by omega) (by omega) ?_
    rw [data_at s (i + 1 + j) (by omega)]
    rw [List.getElem_drop] at he
    rw [he]

def strings_LastIndexByte.f (a0 : ByteArray) (a1 : Int) : Option Int := if a0.size ≤ 140737488351232 then some (Lib.lastIndexByte a0 a1) else none
theorem strings_LastIndexByte.calls (a0 : ByteArray) (a1 : Int) (r : Int) (w : World) (_hG : Good w) (h : strings_LastIndexByte.f a0 a1 = some r) :
    Calls Tryd.prog 29 #[.string a0, .int .u8 a1] w fun e w' => e = .returned (.int .i64 r) ∧ Drawn0 w w' := by
  unfold strings_LastIndexByte.f at h
  split at h
  · obtain rfl := Option.some.inj h
    exact (Tryd.strings_LastIndexByte a0 a1 (by omega) w).mono fun e w' ⟨he, hw⟩ => ⟨he, by rw [hw]; exact Drawn0.refl _⟩
  · cases h

end Go.Proofs.YtcpjonglfnakpaaDoor

namespace Go.Proofs.YtcpjonglfnakpaaDoor
open Go.RowKit

structure ByteBlk (w : World) (g : Nat) (e : TypeId) (l : List UInt8) : Prop where
  blk : ∃ (tail : List Value) (fr : Nat × Nat), w.heap[g]? = some (.cells (u8s l ++ tail).toArray e fr) ∧ l.length + tail.length ≤ fr.1
namespace ByteBlk
variable {w w' : World} {g : Nat} {e : TypeId} {l : List UInt8}
theorem lt (h : ByteBlk w g e l) : g < w.heap.size := by
  obtain ⟨_, _, h, _⟩ := h.blk; exact lt_of_block h
theorem below (h : ByteBlk w g e l) {B : Nat} (hb : Below B w w') (hlt : g < B) : ByteBlk w' g e l := by
  obtain ⟨t, fr, h, hl⟩ := h.blk; exact ⟨t, fr, block_below h hb hlt, hl⟩
theorem cell (h : ByteBlk w g e l) {k : Nat} {c : UInt8} (hk : l[k]? = some c) : w.cell? ⟨g, k, none⟩ = some (.int .u8 c.toNat) := by
  obtain ⟨t, fr, h, _⟩ := h.blk
  obtain ⟨h1, h2⟩ := List.getElem?_eq_some_iff.1 hk
  rw [cell_of_row w g k _ e fr h, List.getElem?_toArray, List.getElem?_append_left (by rw [u8s_length]; exact h1), u8s_get l k h1, h2]
theorem free (h : ByteBlk w g e l) {k : Nat} (hk : k < l.length) : w.frozen? ⟨g, k, none⟩ = false := by
  obtain ⟨t, fr, h, hl⟩ := h.blk
  obtain ⟨lo, hi⟩ := fr
  simp only at hl
  simp only [World.frozen?, h]
  simp; omega
theorem set (h : ByteBlk w g e l) {k : Nat} (hk : k < l.length) (c : UInt8) : ByteBlk (w.setCell ⟨g, k, none⟩ (.int .u8 c.toNat)) g e (l.set k c) := by
  obtain ⟨t, fr, h, hl⟩ := h.blk
  refine ⟨t, fr, ?_, by rw [List.length_set]; exact hl⟩
  rw [Go.Lib.heap_setCell_same h]
  congr 2
  rw [List.setIfInBounds_toArray, List.set_append_left _ _ (by rw [u8s_length]; exact hk), u8s_set]
theorem str {P : Program} {src dst : TypeId} (hs : P.underlying src = some (.slice e)) (he : P.underlying e = some (.int .u8)) (hd : P.underlying dst = some .string) (h : ByteBlk w g e l) {n cap : Nat} (hn : l.length = n) :
    (convert src dst (.slice (some ⟨g, 0, none⟩) n cap)).run P w = .ok (.string ⟨l.toArray⟩) w := by
  rw [run_convert_bytes_arg w src e hs he g 0 n cap (l.map fun c => (c.toNat : Int)) (by simpa using hn) (fun i hi => ?_) dst hd]
  · unfold strOfNums
    rw [List.map_map, List.map_congr_left (g := id) (fun c _ => by simp), List.map_id]
  · rw [Nat.zero_add, h.cell (List.getElem?_eq_getElem (show i < l.length by omega))]
    simp [List.getD_eq_getElem?_getD, List.getElem?_eq_getElem (show i < l.length by omega)]
/-- '[]byte(s)'. -/
theorem made {P : Program} (w : World) (src dst e : TypeId) (s : ByteArray) (hs : P.underlying src = some .string) (hd : P.underlying dst = some (.slice e)) (he : P.underlying e = some (.int .u8)) :
    ∃ (cap : Nat) (w' : World), (convert src dst (.string s)).run P w = .ok (.slice (some ⟨w.heap.size, 0, none⟩) s.size cap) w' ∧ ByteBlk w' w.heap.size e s.data.toList ∧ Below w.heap.size w w' := by
  refine ⟨_, _, run_bytes_of_string w src dst e s hs hd he, ⟨⟨List.replicate (grownCap w s.size 0 e - s.size) (.int .u8 0), ((bytesRow s (grownCap w s.size 0 e)).size, (bytesRow s (grownCap w s.size 0 e)).size + 1), ?_, ?_⟩⟩, ?_⟩
  · have e1 : bytesRow s (grownCap w s.size 0 e) = (u8s s.data.toList ++ List.replicate (grownCap w s.size 0 e - s.size) (Value.int .u8 0)).toArray := by
      apply Array.ext'
      simp [bytesRow, u8s]
    rw [← e1]
    have := heap_alloc_new w.drew (.cells (bytesRow s (grownCap w s.size 0 e)) e ((bytesRow s (grownCap w s.size 0 e)).size, (bytesRow s (grownCap w s.size 0 e)).size + 1))
    exact this
  · simp [bytesRow]
  · exact ((Below.refl _ _).drew).alloc (Nat.le_refl _) _
end ByteBlk

end Go.Proofs.YtcpjonglfnakpaaDoor
