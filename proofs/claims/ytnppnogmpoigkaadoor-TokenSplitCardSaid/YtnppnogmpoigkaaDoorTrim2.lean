/- Texts without blanks and tabs at their ends (what Any3, HeadS, HeadT say of them, for seats without these). -/
import Derived.Test.YtnppnogmpoigkaaDoorEv
import Derived.Test.YtnppnogmpoigkaaDoorGood
import Derived.Test.YtnppnogmpoigkaaDoorShelf
import Derived.Test.YtnppnogmpoigkaaDoorHead1
import Derived.Shelf.Strings.SlTrimAscii
namespace Go.Proofs.YtnppnogmpoigkaaDoor
open Go.RowKit Go.Lib Go.Proofs.YtnppnogmpoigkaaDoorW.PrintWords
set_option linter.unusedVariables false

theorem info256 : (Tryd.prog.info? 62).map (fun i => (i.zero, i.size)) = some (some (.agg (Array.replicate 256 (.bool false))), 256) := by kernel_rfl
/-- A text without blanks and tabs at its ends. -/
def blank2 : List UInt8 := [32, 9]
def trim2 (l : List UInt8) : List UInt8 := Lib.trimS l blank2
theorem trim_any (s : ByteArray) (hs : s.size ≤ 1000000) (w : World) :
    Calls Tryd.prog 26 #[.string s, .string ⟨#[32, 9]⟩] w fun e w' => e = .returned (.string ⟨(trim2 s.data.toList).toArray⟩) ∧ Below w.heap.size w w' :=
  Any.strings_Trim_laid Tryd.lays160 info256 s ⟨#[32, 9]⟩ w (by omega) (by decide) (ascii_of_all (by decide))
def blC (c : UInt8) : Bool := blank2.contains c
theorem dw_append {α : Type} (p : α → Bool) : ∀ (a b : List α), (∀ x ∈ a, p x = true) → (a ++ b).dropWhile p = b.dropWhile p
  | [], b, _ => rfl
  | x :: a, b, h => by
    rw [List.cons_append, List.dropWhile_cons, if_pos (h x List.mem_cons_self)]
    exact dw_append p a b fun y hy => h y (List.mem_cons_of_mem _ hy)
theorem dw_stop {α : Type} (p : α → Bool) : ∀ (a : List α) (c : α) (b : List α), p c = false → ∃ a', (a ++ c :: b).dropWhile p = a' ++ c :: b ∧ a'.length ≤ a.length ∧ ∃ d, a = d ++ a' ∧ ∀ x ∈ d, p x = true
  | [], c, b, h => ⟨[], (by rw [List.nil_append, List.dropWhile_cons, if_neg (by rw [h]; decide)]), Nat.le_refl _, [], rfl, (fun _ hx => by cases hx)⟩
  | x :: a, c, b, h => by
    rw [List.cons_append, List.dropWhile_cons]
    by_cases hx : p x = true
    · rw [if_pos hx]
      obtain ⟨a', h1, h2, d, h3, h4⟩ := dw_stop p a c b h
      refine ⟨a', h1, by rw [List.length_cons]; omega, x :: d, by rw [h3]; rfl, fun y hy => ?_⟩
      rcases List.mem_cons.1 hy with rfl | hy
      · exact hx
      · exact h4 y hy
    · rw [if_neg hx]
      exact ⟨x :: a, rfl, Nat.le_refl _, [], rfl, (fun _ hx => by cases hx)⟩
def trimR (p : UInt8 → Bool) (l : List UInt8) : List UInt8 := (l.reverse.dropWhile p).reverse
theorem dw_split (p : UInt8 → Bool) : ∀ l : List UInt8, ∃ a, l = a ++ l.dropWhile p ∧ (∀ x ∈ a, p x = true) ∧ (l.dropWhile p = [] ∨ ∃ c t, l.dropWhile p = c :: t ∧ p c = false)
  | [] => ⟨[], rfl, (fun _ h => by cases h), .inl rfl⟩
  | x :: l => by
    rw [List.dropWhile_cons]
    by_cases hx : p x = true
    · rw [if_pos hx]
      obtain ⟨a, h1, h2, h3⟩ := dw_split p l
      refine ⟨x :: a, by rw [List.cons_append, ← h1], fun y hy => ?_, h3⟩
      rcases List.mem_cons.1 hy with rfl | hy
      · exact hx
      · exact h2 y hy
    · rw [if_neg hx]
      exact ⟨[], rfl, (fun _ h => by cases h), .inr ⟨x, l, rfl, by simpa using hx⟩⟩
theorem trim_swap (p : UInt8 → Bool) (l : List UInt8) : (trimR p l).dropWhile p = trimR p (l.dropWhile p) := by
  obtain ⟨a, h1, h2, h3⟩ := dw_split p l
  rcases h3 with h3 | ⟨c, t, h3, hc⟩
  · rw [h3] at h1 ⊢
    rw [List.append_nil] at h1
    have : trimR p l = [] := by
      unfold trimR
      rw [h1]
      have := dw_append p a.reverse [] (fun x hx => h2 x (List.mem_reverse.1 hx))
      rw [List.append_nil] at this
      rw [this]; rfl
    rw [this]; rfl
  · rw [h3] at h1 ⊢
    have hrev : (c :: t).reverse = t.reverse ++ c :: [] := by simp
    obtain ⟨d, e1, _⟩ := dw_stop p t.reverse c a.reverse hc
    obtain ⟨d', e2, _⟩ := dw_stop p t.reverse c [] hc
    have hd : (t.reverse ++ c :: a.reverse).dropWhile p = (t.reverse ++ c :: []).dropWhile p ++ a.reverse := by
      have key : ∀ (u : List UInt8) (v : List UInt8), (u ++ c :: v).dropWhile p = (u ++ c :: []).dropWhile p ++ v := by
        intro u v
        induction u with
        | nil => rw [List.nil_append, List.nil_append, List.dropWhile_cons, List.dropWhile_cons, if_neg (by rw [hc]; decide), if_neg (by rw [hc]; decide)]; rfl
        | cons x u ih =>
          rw [List.cons_append, List.cons_append, List.dropWhile_cons, List.dropWhile_cons]
          split
          · exact ih
          · simp
      exact key _ _
    have hl : trimR p l = a ++ trimR p (c :: t) := by
      unfold trimR
      rw [h1, List.reverse_append, hrev, List.append_assoc, List.singleton_append, hd, List.reverse_append, List.reverse_reverse]
    rw [hl, dw_append p a _ h2]
    have hh : ∃ t', trimR p (c :: t) = c :: t' := by
      unfold trimR
      rw [hrev, e2, List.reverse_append]
      exact ⟨d'.reverse, by simp⟩
    obtain ⟨t', ht'⟩ := hh
    rw [ht', List.dropWhile_cons, if_neg (by rw [hc]; decide)]
theorem trim2_alt (l : List UInt8) : trim2 l = trimR blC (l.dropWhile blC) := (trim_swap blC l)
theorem trimR_le (p : UInt8 → Bool) (l : List UInt8) : (trimR p l).length ≤ l.length := by
  unfold trimR
  have := (List.dropWhile_suffix (p := p) (l := l.reverse)).length_le
  simp only [List.length_reverse] at this ⊢
  exact this
theorem bl_iff (c : UInt8) : blC c = true ↔ c.toNat = 32 ∨ c.toNat = 9 := by
  have key : ∀ n : Nat, n < 256 → (blC (UInt8.ofNat n) = true ↔ n = 32 ∨ n = 9) := by decide +kernel
  have := key c.toNat c.toNat_lt
  rwa [UInt8.ofNat_toNat] at this
theorem ex_front (x : ByteArray) : (x.extract 1 x.size).data.toList = x.data.toList.drop 1 := by
  rw [ByteArray.data_extract, Array.toList_extract]
  show (x.data.toList.drop 1).take (x.size - 1) = _
  rw [List.take_of_length_le]
  rw [List.length_drop, ← size_list]; omega
theorem ex_back (x : ByteArray) (n : Nat) : (x.extract 0 n).data.toList = x.data.toList.take n := by
  rw [ByteArray.data_extract, Array.toList_extract]; simp
theorem trimR_step {l : List UInt8} {c : UInt8} (h : blC c = true) : trimR blC (l ++ [c]) = trimR blC l := by
  unfold trimR; rw [List.reverse_append, List.reverse_singleton, List.singleton_append, List.dropWhile_cons, if_pos h]
theorem trimR_stay {l : List UInt8} {c : UInt8} (h : blC c = false) : trimR blC (l ++ [c]) = l ++ [c] := by
  unfold trimR; rw [List.reverse_append, List.reverse_singleton, List.singleton_append, List.dropWhile_cons, if_neg (by rw [h]; decide)]; simp
theorem trim2_len (l : List UInt8) : (trim2 l).length ≤ l.length := by
  unfold trim2 Lib.trimS Lib.trimLeftS Lib.trimRightS
  have h1 := (List.dropWhile_suffix (p := fun x => blank2.contains x) (l := (l.reverse.dropWhile fun x => blank2.contains x).reverse)).length_le
  have h2 := (List.dropWhile_suffix (p := fun x => blank2.contains x) (l := l.reverse)).length_le
  simp only [List.length_reverse] at h1 h2
  omega
theorem ex_mid (x : ByteArray) (a b : Nat) (h : a ≤ b) (hb : b ≤ x.size) : (x.extract a b).data.toList = (x.data.toList.drop a).take (b - a) := by
  rw [ByteArray.data_extract, Array.toList_extract]

end Go.Proofs.YtnppnogmpoigkaaDoor
