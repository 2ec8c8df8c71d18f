/- Header fields: Get of the program and of the reference. -/
import Derived.Test.YtnppnogmpoigkaaDoorHead1
import Derived.Test.YtnppnogmpoigkaaDoorShelf
namespace Go.Proofs.YtnppnogmpoigkaaDoor
open Go.RowKit Go.Proofs.YtnppnogmpoigkaaDoorW.PrintWords

/-- Texts in a row of the call's own are joined. -/
theorem join_own (sep : ByteArray) {w : World} {base : Nat} {v : Value} {t : List (List UInt8)} (ho : w.ownsRow base 9 1 v t.length (strs t)) (hl : t.length ≤ 140737488355328) (hlen : (sep.data.toList.intercalate t).length ≤ 140737488355328) :
    Calls Tryd.prog 52 #[v, .string sep] w fun e w' => e = .returned (.string ⟨(sep.data.toList.intercalate t).toArray⟩) ∧ Below w.heap.size w w' := by
  by_cases h0 : t = []
  · subst h0
    rcases ho.2 with ⟨rfl, _⟩ | ⟨g, c, cur, rfl, _⟩
    · refine (Tryd.strings_Join_none none 0 sep w).mono ?_
      rintro e w' ⟨rfl, rfl⟩
      exact ⟨rfl, Below.refl _ _⟩
    · refine (Tryd.strings_Join_none _ c sep w).mono ?_
      rintro e w' ⟨rfl, rfl⟩
      exact ⟨rfl, Below.refl _ _⟩
  · obtain ⟨g, cap, rfl, hg1, hg2⟩ := ho.form (List.length_pos_iff.2 h0)
    have e : (t.map fun x => (⟨x.toArray⟩ : ByteArray)).map (·.data.toList) = t := by
      rw [List.map_map]
      conv => rhs; rw [← List.map_id t]
      exact List.map_congr_left fun x _ => by simp
    have hj := Tryd.strings_Join g 0 cap (t.map fun x => ⟨x.toArray⟩) sep w (fun j x hx => by
        rw [Nat.zero_add, ho.cellAt j (by have := (List.getElem?_eq_some_iff.1 hx).1; simpa using this)]
        rw [List.getElem?_map, Option.map_eq_some_iff] at hx
        obtain ⟨y, hy, rfl⟩ := hx
        simp [strs, hy]) hg2 (by simpa using hl) (by simpa using row_cap ho) (by rw [e]; exact hlen)
    rw [e, List.length_map] at hj
    exact hj

theorem inter_one {α : Type} (sep a : List α) : sep.intercalate [a] = a := by simp [List.intercalate]
theorem inter_cons {α : Type} (sep a b : List α) (A : List (List α)) : sep.intercalate (a :: b :: A) = a ++ (sep ++ sep.intercalate (b :: A)) := by simp [List.intercalate]
theorem inter_snoc {α : Type} (sep a : List α) : ∀ A : List (List α), A ≠ [] → sep.intercalate (A ++ [a]) = sep.intercalate A ++ sep ++ a
  | [b], _ => by rw [List.singleton_append, inter_cons, inter_one, inter_one, List.append_assoc]
  | b :: c :: A, _ => by
    have ih := inter_snoc sep a (c :: A) (List.cons_ne_nil _ _)
    rw [List.cons_append, List.cons_append, inter_cons, ← List.cons_append, ih, inter_cons]
    simp [List.append_assoc]
theorem inter_le {α : Type} (sep : List α) (m : Nat) : ∀ A : List (List α), (∀ a ∈ A, a.length ≤ m) → (sep.intercalate A).length ≤ A.length * (m + sep.length)
  | [], _ => by simp [List.intercalate]
  | [a], h => by
    have := h a List.mem_cons_self
    rw [inter_one]; simp; omega
  | a :: b :: A, h => by
    have := h a List.mem_cons_self
    have ih := inter_le sep m (b :: A) fun x hx => h x (List.mem_cons_of_mem _ hx)
    rw [inter_cons]
    simp only [List.length_append, List.length_cons, Nat.add_mul, Nat.one_mul] at ih ⊢
    omega
def comma : List UInt8 := [44, 32]
def getL (n : List UInt8) (l : List Fld) : List UInt8 := comma.intercalate (allL n l)
theorem allL_mem {n : List UInt8} {l : List Fld} {x : List UInt8} (h : x ∈ allL n l) : ∃ f ∈ l, f.2 = x := by
  unfold allL at h
  obtain ⟨f, hf, rfl⟩ := List.mem_map.1 h
  exact ⟨f, (List.mem_filter.1 hf).1, rfl⟩
theorem allL_le {n : List UInt8} {l : List Fld} {m : Nat} (h : ∀ f ∈ l, f.1.length ≤ m ∧ f.2.length ≤ m) : ∀ x ∈ allL n l, x.length ≤ m := fun x hx => by
  obtain ⟨f, hf, rfl⟩ := allL_mem hx
  exact (h f hf).2
theorem comma_le {X : List (List UInt8)} (hl : X.length ≤ 1000000) (hx : ∀ x ∈ X, x.length ≤ 1000000) : (comma.intercalate X).length ≤ 1000002000000 := by
  have h := inter_le comma 1000000 X hx
  have h2 : X.length * (1000000 + comma.length) ≤ 1000000 * 1000002 := Nat.mul_le_mul hl (by decide)
  omega

set_option maxHeartbeats 2000000 in
set_option maxRecDepth 100000 in
theorem head_Get_any (ao : Option Addr) (cap : Nat) (L : List Fld) (hL : L.length ≤ 1000000) (hall : ∀ f ∈ L, f.1.length ≤ 1000000 ∧ f.2.length ≤ 1000000) (n : ByteArray) (hn : n.size ≤ 1000000) (w : World) (hc : FldsAt w.heap.size w ao L) :
    Calls Tryd.prog 31 #[.slice ao L.length cap, .string n] w fun e w' => e = .returned (.tuple #[.string ⟨(getL n.data.toList L).toArray⟩, .bool (!(allL n.data.toList L).isEmpty)]) ∧ Below w.heap.size w w' := by
  have cA := head_All_any ao cap L hL hall n hn w hc
  have hl := Nat.le_trans (allL_len n.data.toList L) hL
  have hx := allL_le (n := n.data.toList) hall
  unfold getL
  generalize allL n.data.toList L = X at *
  have hlen := comma_le hl hx
  clear hc hall hx
  go_enter Tryd.func31, Tryd.ntmps31
  go_wp2_with fail
  refine cA.mono ?_
  rintro e w1 ⟨v, rfl, ho, hb1⟩
  have cJ := join_own ⟨#[44, 32]⟩ ho (by omega) (by show (comma.intercalate X).length ≤ _; omega)
  have e1 : (⟨#[44, 32]⟩ : ByteArray).data.toList.intercalate X = comma.intercalate X := rfl
  rw [e1] at cJ
  obtain ⟨a1, c1, rfl⟩ := texts_shape (texts_here ho)
  have e2 : decide (0 < X.length) = !X.isEmpty := by cases X <;> simp
  go_wp2_with fail
  refine cJ.mono ?_
  rintro e w2 ⟨rfl, hb2⟩
  go_wp2
  go_ret2
  exact ⟨by rw [← e2]; rfl, below_on hb1 hb1.size hb2⟩

set_option maxHeartbeats 2000000 in
set_option maxRecDepth 100000 in
theorem ref13_Get_any (ao : Option Addr) (cap : Nat) (L : List Fld) (hL : L.length ≤ 1000000) (hall : ∀ f ∈ L, f.1.length ≤ 1000000 ∧ f.2.length ≤ 1000000) (n : ByteArray) (hn : n.size ≤ 1000000) (w : World) (hc : FldsAt w.heap.size w ao L) :
    Calls Tryd.prog 32 #[.slice ao L.length cap, .string n] w fun e w' => e = .returned (.tuple #[.string ⟨(getL n.data.toList L).toArray⟩, .bool (!(allL n.data.toList L).isEmpty)]) ∧ Below w.heap.size w w' := by
  have cA := ref13_All_any ao cap L hL hall n hn w hc
  have hl := Nat.le_trans (allL_len n.data.toList L) hL
  have hx := allL_le (n := n.data.toList) hall
  unfold getL
  generalize allL n.data.toList L = X at *
  have HX := Lib.hid hx
  clear hc hall hx
  go_enter Tryd.func32, Tryd.ntmps32
  go_wp2_with fail
  refine cA.mono ?_
  rintro e w1 ⟨v, rfl, ho, hb1⟩
  obtain ⟨a1, c1, rfl, hT⟩ := (texts_here ho).at_
  have HT := Lib.hid hT
  clear hT
  go_wp2
  go_loopw [7, 8] (fun s i wr => ∃ k : Nat, k ≤ X.length ∧ i = .int .i64 k ∧ s = .string ⟨(comma.intercalate (X.take k)).toArray⟩ ∧ Below w1.heap.size w1 wr) (fun _ i _ => X.length - (intOf i).toNat)
  case atStart => exact ⟨0, by omega, rfl, rfl, Below.refl _ _⟩
  case round =>
    obtain ⟨k, hk, rfl, rfl, hbl⟩ := hrel
    by_cases hkl : k < X.length
    · obtain ⟨x, hx⟩ : ∃ x, X[k]? = some x := ⟨_, List.getElem?_eq_getElem hkl⟩
      obtain ⟨g, off, rfl, hg, hc1⟩ := HT.out k _ hx
      have hcx := (hbl.cell (p := ⟨g, off + k, none⟩) hg).trans hc1
      have hxl := HX.out x (List.mem_of_getElem? hx)
      have hlen := comma_le (X := X.take k) (by rw [List.length_take]; omega) fun y hy => HX.out y (List.mem_of_mem_take hy)
      have hst : Hid ((k = 0 → (comma.intercalate (X.take (k + 1))) = x) ∧ (k ≠ 0 → comma.intercalate (X.take (k + 1)) = comma.intercalate (X.take k) ++ comma ++ x)) := by
        show _ ∧ _
        rw [List.take_add_one, hx]
        refine ⟨fun h => ?_, fun h => ?_⟩
        · subst h; exact inter_one _ _
        · refine inter_snoc _ _ _ fun e => ?_
          rw [List.take_eq_nil_iff] at e
          rcases e with e | e
          · exact h e
          · rw [e] at hkl; exact absurd hkl (Nat.not_lt_zero _)
      have HX2 := Lib.hid hx
      clear hx hc1
      generalize hX : comma.intercalate (X.take k) = p at *
      have hps := ba_len p
      have hxs := ba_len x
      by_cases h0 : k = 0
      · have hp0 : p = [] := by rw [← hX, h0]; rfl
        subst hp0
        subst h0
        rw [Nat.add_zero] at hcx
        go_wp2
        exact ⟨⟨1, by omega, by go_num, by rw [hst.out.1 rfl]; exact congrArg Value.string (toList_inj (by simp [ByteArray.data_append])), hbl⟩, by simp [intOf]; omega⟩
      · have hq : decide ((0 : Int) < (k : Int)) = true := decide_eq_true (by omega)
        have hs1 : ((⟨p.toArray⟩ : ByteArray) ++ ⟨#[44, 32]⟩).size = p.length + 2 := by simp [ByteArray.size_append, hps]; rfl
        go_wp2
        exact ⟨⟨k + 1, by omega, by go_num, by rw [hst.out.2 h0]; exact congrArg Value.string (toList_inj (by simp [ByteArray.data_append, comma])), hbl⟩, by simp [intOf]; omega⟩
    · obtain rfl : k = X.length := by omega
      rw [List.take_length]
      have e2 : decide (0 < X.length) = !X.isEmpty := by cases X <;> simp
      go_wp2
      go_ret2
      exact ⟨by rw [← e2]; rfl, below_on hb1 hb1.size hbl⟩

end Go.Proofs.YtnppnogmpoigkaaDoor
