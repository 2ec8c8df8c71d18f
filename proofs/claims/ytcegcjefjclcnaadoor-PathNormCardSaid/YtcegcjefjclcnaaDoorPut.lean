/- pct.put, pct.Encode, pct.Ready. -/
import Derived.Test.YtcegcjefjclcnaaDoorBld
import Derived.Test.YtcegcjefjclcnaaDoorPctIn
import Derived.Deep.RegionWith
namespace Go.Proofs.YtcegcjefjclcnaaDoor
open Go.RowKit Go.Proofs.YtcegcjefjclcnaaDoorW.PrintWords

/-- Where a builder's bytes lie: where they lay, or behind all. -/
def Moved (v v' : Value) (w : World) : Prop := v'.ownBlock = v.ownBlock ∨ ∃ g, v'.ownBlock = some g ∧ w.heap.size ≤ g
theorem But.step {b : Nat} {v v1 : Value} {w w1 w2 : World} (h : But b v w w1) (hm : Moved v v1 w) (k : But b v1 w1 w2) : But b v w w2 :=
  ⟨k.os.trans h.os, k.tape.trans h.tape, k.output.trans h.output, Nat.le_trans h.size k.size, fun i hi h1 h2 => by
    rw [k.block i (Nat.lt_of_lt_of_le hi h.size) h1 (fun e => by
      rcases hm with hm | ⟨g, hm, hg⟩
      · rw [hm] at e; exact h2 e
      · rw [hm] at e; obtain rfl := Option.some.inj e; omega), h.block i hi h1 h2]⟩
theorem Moved.step {v v1 v2 : Value} {w w1 : World} (hm : Moved v v1 w) (hs : w.heap.size ≤ w1.heap.size) (k : v2.ownBlock = v1.ownBlock ∨ ∃ g, v2.ownBlock = some g ∧ w1.heap.size ≤ g) : Moved v v2 w := by
  rcases k with k | ⟨g, k, hg⟩
  · rcases hm with hm | ⟨g, hm, hg⟩
    · exact .inl (k.trans hm)
    · exact .inr ⟨g, k.trans hm, hg⟩
  · exact .inr ⟨g, k, Nat.le_trans hs hg⟩

set_option maxHeartbeats 2000000 in
set_option maxRecDepth 100000 in
theorem put_bld {B b : Nat} {v : Value} {l cs : List UInt8} {g cap : Nat} {w : World} (h : Bld B b v l w) (hcs : ∀ k c, cs[k]? = some c → w.cell? ⟨g, k, none⟩ = some (.int .u8 c.toNat)) (hg : g < w.heap.size) (hgb : g ≠ b) (hgv : v.ownBlock ≠ some g)
    (hl : l.length + cs.length ≤ 140737488355328) (hB : B ≤ w.heap.size) :
    Calls Tryd.prog 32 #[.pointer (some ⟨b, 0, none⟩), .slice (some ⟨g, 0, none⟩) cs.length cap] w fun e w' => e = .returned (.tuple #[]) ∧ ∃ v', Bld B b v' (l ++ cs) w' ∧ But b v w w' ∧ Moved v v' w := by
  go_enter Tryd.func32, Tryd.ntmps32
  go_wp2
  go_loopw [5, 8] (fun _ i wr => ∃ (k : Nat) (v1 : Value), k ≤ cs.length ∧ i = .int .i64 k ∧ Bld B b v1 (l ++ cs.take k) wr ∧ But b v w wr ∧ Moved v v1 w) (fun _ i _ => cs.length - (intOf i).toNat)
  case atStart => exact ⟨0, v, by omega, rfl, by simpa using h, But.refl _ _ _, .inl rfl⟩
  case round =>
    obtain ⟨k, v1, hk, rfl, hb, hbut, hm⟩ := hrel
    by_cases hlt : k < cs.length
    · obtain ⟨c, hc⟩ : ∃ c, cs[k]? = some c := ⟨_, List.getElem?_eq_getElem hlt⟩
      have hblk := hbut.block g hg hgb hgv
      have hcell : wr.cell? ⟨g, k, none⟩ = some (.int .u8 c.toNat) := by rw [World.cell?_of_block (a := ⟨g, k, none⟩) hblk]; exact hcs k c hc
      have hw := WriteByte_bld c hb (by rw [List.length_append, List.length_take]; omega) (by have := hbut.size; omega)
      have e : l ++ cs.take k ++ [c] = l ++ cs.take (k + 1) := by rw [List.take_add_one, hc]; simp
      rw [e] at hw
      clear hblk hc e
      go_wp2_with fail
      refine hw.mono ?_
      rintro e w1 ⟨rfl, v2, hu, hbut2, hm2⟩
      go_wp2
      refine ⟨⟨k + 1, v2, by omega, by go_num, hu.bld, hbut.step hm hbut2, hm.step hbut.size hm2⟩, by simp [intOf]; omega⟩
    · obtain rfl : k = cs.length := by omega
      rw [List.take_length] at hb
      go_wp2
      go_end0
      exact ⟨rfl, v1, hb, hbut, hm⟩

theorem Bld.below {B b : Nat} {v : Value} {l : List UInt8} {w w' : World} (h : Bld B b v l w) (hb : Below w.heap.size w w') : Bld B b v l w' :=
  ⟨h.le, h.blk.elim (fun x => .inl (block_below x hb h.lt)) (fun x => .inr (block_below x hb h.lt)), row_below h.own hb, h.ne⟩
/-- pct.put, of bytes that have just been laid. -/
theorem put_new {B b : Nat} {v : Value} {l cs : List UInt8} {cap : Nat} {w : World} (h : Bld B b v l w) (hl : l.length + cs.length ≤ 140737488355328) (hB : B ≤ w.heap.size) (W : World) (hW : W = w.alloc (.cells (u8s cs).toArray 5)) :
    Calls Tryd.prog 32 #[.pointer (some ⟨b, 0, none⟩), .slice (some ⟨w.heap.size, 0, none⟩) cs.length cap] W fun e w' => e = .returned (.tuple #[]) ∧ ∃ v', Bld B b v' (l ++ cs) w' ∧ Below B w w' := by
  subst hW
  have hlt := h.lt
  have hbw : Below w.heap.size w (w.alloc (.cells (u8s cs).toArray 5)) := (Below.refl _ _).alloc (Nat.le_refl _) _
  have h1 := h.below hbw
  refine (put_bld (g := w.heap.size) (cap := cap) h1 (fun k c hc => ?_) (by simp) (by omega) (fun e => ?_) hl (by simp; omega)).mono ?_
  · obtain ⟨h1, h2⟩ := List.getElem?_eq_some_iff.1 hc
    rw [cell_of_row _ _ k _ _ _ (heap_alloc_new w _), List.getElem?_toArray, u8s_get cs k h1, h2]
  · have := (h.own.lt _ e).2; omega
  · rintro e w' ⟨rfl, v', hb, hbut, _⟩
    exact ⟨rfl, v', hb, ((Below.refl B w).alloc hB _).trans (hbut.below h1 (by simp; omega))⟩
/-- A digit to the base of 16, by a capital letter. -/
def hexU (d : Nat) : UInt8 := if d < 10 then UInt8.ofNat (48 + d) else UInt8.ofNat (55 + d)
/-- A byte without a set's bytes. -/
def enc1 (f : UInt8 → Bool) (c : UInt8) : List UInt8 := if f c = true then [37, hexU (c.toNat / 16), hexU (c.toNat % 16)] else [c]
def encB (f : UInt8 → Bool) (l : List UInt8) : List UInt8 := l.flatMap (enc1 f)
theorem enc1_len (f : UInt8 → Bool) (c : UInt8) : (enc1 f c).length ≤ 3 := by unfold enc1; split <;> simp
theorem encB_len (f : UInt8 → Bool) : ∀ l, (encB f l).length ≤ 3 * l.length
  | [] => Nat.le_refl _
  | c :: l => by
    have h1 := enc1_len f c; have h2 := encB_len f l
    show (enc1 f c ++ encB f l).length ≤ _
    rw [List.length_append, List.length_cons]; omega
theorem encB_snoc (f : UInt8 → Bool) (l : List UInt8) (c : UInt8) : encB f (l ++ [c]) = encB f l ++ enc1 f c := by simp [encB]
def digsU : ByteArray := ⟨#[48, 49, 50, 51, 52, 53, 54, 55, 56, 57, 65, 66, 67, 68, 69, 70]⟩
theorem idx_hexU (d : Nat) (h : d < 16) (i : Int) (hi : i = d) (w : World) : (Instr.index 9 (.string ⟨#[48, 49, 50, 51, 52, 53, 54, 55, 56, 57, 65, 66, 67, 68, 69, 70]⟩) (.int .u8 i)).run Tryd.prog w = .ok (.int .u8 (hexU d).toNat) w := by
  subst hi
  rw [run_index_string _ _ _ _ _ Tryd.underlying9, dif_pos ⟨by omega, by show (d : Int) < 16; omega⟩]
  have key : ∀ (d : Nat) (h : d < 16), (digsU[d]'(show d < digsU.size from h)).toNat = (hexU d).toNat := by decide
  have := key d h
  refine congrArg (fun n : Nat => Result.ok (Value.int .u8 (n : Int)) w) ?_
  exact this
theorem Bld.is {B b : Nat} {v : Value} {l : List UInt8} {w : World} (h : Bld B b v l w) : Lib.IsBuilder 40 5 B b (Lib.byteCells l) w := by
  have e : (Lib.byteCells l).length = l.length := by simp [Lib.byteCells]
  rcases h.blk with hb | hb
  · exact .inl ⟨h.le, v, hb, by rw [e]; exact h.own, h.ne⟩
  · exact .inr ⟨h.le, v, hb, by rw [e]; exact h.own, h.ne⟩

set_option maxHeartbeats 4000000 in
set_option maxRecDepth 100000 in
theorem Encode_of (k0 : Nat) (f : UInt8 → Bool) (hIn : ∀ (c : UInt8) (w : World), Calls Tryd.prog 31 #[.int .i64 k0, .int .u8 c.toNat] w fun e w' => e = .returned (.bool (f c)) ∧ Below w.heap.size w w')
    (s : ByteArray) (hs : s.size ≤ 1000000) (w : World) :
    Calls Tryd.prog 18 #[.string s, .int .i64 k0] w fun e w' => e = .returned (.string ⟨(encB f s.data.toList).toArray⟩) ∧ Below w.heap.size w w' := by
  go_enter Tryd.func18, Tryd.ntmps18
  go_wp2
  go_loopw [6, 7, 10] (fun _ _ i wr => ∃ (k : Nat) (v : Value), k ≤ s.size ∧ i = .int .i64 k ∧ Bld w.heap.size w.heap.size v (encB f (s.data.toList.take k)) wr ∧ Below w.heap.size w wr) (fun _ _ i _ => s.size - (intOf i).toNat)
  case atStart =>
    refine ⟨0, .slice none 0 0, by omega, rfl, ⟨Nat.le_refl _, .inl ?_, World.ownsRow_nil _ _ _ _, by simp [Value.ownBlock]⟩, (Below.refl _ _).alloc (Nat.le_refl _) _⟩
    exact heap_alloc_new w _
  case round =>
    obtain ⟨k, v, hk, rfl, hb, hbl⟩ := hrel
    by_cases hlt : k < s.size
    · have hget : s.data.toList[k]? = some s[k] := by rw [List.getElem?_eq_getElem (by rw [← size_list]; exact hlt)]; rfl
      have hsn : s.data.toList.take (k + 1) = s.data.toList.take k ++ [s[k]] := by rw [List.take_add_one, hget]; rfl
      have hl := encB_len f (s.data.toList.take k)
      rw [List.length_take, ← size_list] at hl
      have hin := hIn s[k] wr
      have c256 := s[k].toNat_lt
      have HN := Lib.hid hsn
      clear hget hsn
      go_wp2_with fail
      refine hin.mono ?_
      rintro e w1 ⟨rfl, hb1⟩
      have hbl1 := below_on hbl hbl.size hb1
      have hb2 := hb.below hb1
      have hB1 : w.heap.size ≤ w1.heap.size := by have := hb1.size; have := hbl.size; omega
      cases hf : f s[k] with
      | true =>
        have he : enc1 f s[k] = [37, hexU (s[k].toNat / 16), hexU (s[k].toNat % 16)] := by unfold enc1; rw [if_pos hf]
        have hx1 := idx_hexU (s[k].toNat / 16) (by omega) ((s[k].toNat : Int) / 16) (by omega)
        have hx2 := idx_hexU (s[k].toNat % 16) (by omega) ((s[k].toNat : Int) % 16) (by omega)
        have hw1 : IntKind.u8.wrap ((s[k].toNat : Int) / 16) = (s[k].toNat : Int) / 16 := by simp [IntKind.wrap, IntKind.signed, IntKind.bits]; omega
        have hw2 : ((s[k].toNat : Int)).tmod 16 = (s[k].toNat : Int) % 16 := Int.tmod_eq_emod_of_nonneg (by omega)
        have HF := Lib.hid hf
        clear hf
        have hb2d := hb2.below ((Below.refl w1.heap.size w1).drew)
        have hput := put_new (cs := [37, hexU (s[k].toNat / 16), hexU (s[k].toNat % 16)]) (cap := 3) hb2d (by simp; omega) hB1 ((w1.alloc (.cells (u8s [37, hexU (s[k].toNat / 16), hexU (s[k].toNat % 16)]).toArray 5)).drew) rfl
        go_wp2_with fail
        go_region_with (go_at_call 32; refine hput.mono ?_; rintro e w2 ⟨rfl, v2, hb3, hbl3⟩)
        all_goals go_wp2
        all_goals refine ⟨⟨k + 1, v2, by omega, by go_num, by rw [HN.out, encB_snoc, he]; exact hb3, hbl1.drew.trans hbl3⟩, by simp [intOf]; omega⟩
      | false =>
        have he : enc1 f s[k] = [s[k]] := by unfold enc1; rw [if_neg (by rw [hf]; exact Bool.false_ne_true)]
        have hput := put_new (cs := [s[k]]) (cap := 1) hb2 (by simp; omega) hB1 _ rfl
        have HF := Lib.hid hf
        clear hf
        go_wp2_with fail
        refine hput.mono ?_
        rintro e w2 ⟨rfl, v2, hb3, hbl3⟩
        go_wp2
        refine ⟨⟨k + 1, v2, by omega, by go_num, by rw [HN.out, encB_snoc, he]; exact hb3, hbl1.trans hbl3⟩, by simp [intOf]; omega⟩
    · obtain rfl : k = s.size := by omega
      rw [List.take_of_length_le (by rw [← size_list]; exact Nat.le_refl _)] at hb
      have hst := Tryd.Builder_String_any w.heap.size w.heap.size _ wr hb.is hbl.size
      go_wp2_with fail
      refine hst.mono ?_
      rintro e w1 ⟨rfl, hb1⟩
      go_wp2
      go_ret
      exact ⟨rfl, hbl.trans hb1⟩

def encode3 (l : List UInt8) : List UInt8 := encB set3 l
theorem pct_Encode3 (s : ByteArray) (hs : s.size ≤ 1000000) (w : World) :
    Calls Tryd.prog 18 #[.string s, .int .i64 3] w fun e w' => e = .returned (.string ⟨(encode3 s.data.toList).toArray⟩) ∧ Below w.heap.size w w' := Encode_of 3 set3 pct_In3 s hs w
theorem pct_Ready3 (s : ByteArray) (hs : s.size ≤ 1000000) (w : World) :
    Calls Tryd.prog 24 #[.string s, .int .i64 3] w fun e w' => e = .returned (.bool (encode3 s.data.toList == s.data.toList)) ∧ Below w.heap.size w w' := by
  obtain ⟨L, rfl⟩ : ∃ L : List UInt8, s = ⟨L.toArray⟩ := ⟨s.data.toList, (of_toList s).symm⟩
  have h := pct_Encode3 ⟨L.toArray⟩ hs w
  rw [mk_toList] at h ⊢
  go_enter Tryd.func24, Tryd.ntmps24
  go_wp2_with fail
  refine h.mono ?_
  rintro e w1 ⟨rfl, hb⟩
  go_wp2
  go_ret
  exact ⟨rfl, hb⟩

end Go.Proofs.YtcegcjefjclcnaaDoor
