/- Plain lemmas for proofs over printed functions: bytes of a text by its list, loops by what is left of it. -/
import Derived.Test.YtnppnogmpoigkaaDoorWWords
namespace Go.Proofs.YtnppnogmpoigkaaDoor
open Go.RowKit Go.Proofs.YtnppnogmpoigkaaDoorW.PrintWords

theorem size_list (s : ByteArray) : s.size = s.data.toList.length := (Array.length_toList).symm
theorem bt_cons {s : ByteArray} {i : Nat} {b : UInt8} {l : List UInt8} (h : s.data.toList.drop i = b :: l) : bt s (i : Int) = (b.toNat : Int) ∧ i < s.size ∧ s.data.toList.drop (i + 1) = l := by
  have hlt : i < s.data.toList.length := by
    rcases Nat.lt_or_ge i s.data.toList.length with h' | h'
    · exact h'
    · rw [List.drop_eq_nil_of_le h'] at h; cases h
  have hs : i < s.size := by rw [size_list]; exact hlt
  rw [List.drop_eq_getElem_cons hlt] at h
  injection h with h1 h2
  refine ⟨?_, hs, h2⟩
  rw [← h1]
  unfold bt
  rw [dif_pos (by simpa using hs)]
  rfl
theorem get_cons {s : ByteArray} {i : Nat} {b : UInt8} {l : List UInt8} (h : s.data.toList.drop i = b :: l) (hi : i < s.size) : s[i] = b := by
  have hlt : i < s.data.toList.length := by rw [← size_list]; exact hi
  rw [List.drop_eq_getElem_cons hlt] at h
  injection h
theorem drop_done {s : ByteArray} {i : Nat} (h : s.data.toList.drop i = []) : s.size ≤ i := by
  have := List.drop_eq_nil_iff.1 h
  rw [size_list]; exact this
theorem drop_start (s : ByteArray) : s.data.toList.drop 0 = s.data.toList := rfl
theorem wrap64_id {n : Int} (h0 : -9223372036854775808 ≤ n) (h1 : n < 9223372036854775808) : wrap64 n = n := by unfold wrap64; omega
theorem wrap64_succ {i n : Nat} (h : i < n) (hn : n ≤ 140737488351232) : wrap64 ((i : Int) + 1) = ((i + 1 : Nat) : Int) := by unfold wrap64; omega
theorem mk_toList (l : List UInt8) : (⟨l.toArray⟩ : ByteArray).data.toList = l := by simp
theorem of_toList (s : ByteArray) : (⟨s.data.toList.toArray⟩ : ByteArray) = s := by simp
theorem toList_inj {s t : ByteArray} (h : s.data.toList = t.data.toList) : s = t := by rw [← of_toList s, h, of_toList]
theorem ba_toList (s : ByteArray) : s.toList = s.data.toList := ByteArray.toList_eq s
theorem Ev.some {α : Type} (r : α) : Ev (fun _ => Option.some r) r := Ev.now r

end Go.Proofs.YtnppnogmpoigkaaDoor
