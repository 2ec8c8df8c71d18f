/- strings.LastIndexByte in the form of a contract that the print takes; what stands behind a text's last byte of a kind. -/
import Derived.Test.YtcpnfokpgiigcaaDoorGood
import Derived.Test.YtcpnfokpgiigcaaDoorShelf
import Derived.Test.YtcpnfokpgiigcaaDoorEv
namespace Go.Proofs.YtcpnfokpgiigcaaDoor
open Go.RowKit Go.Proofs.YtcpnfokpgiigcaaDoorW.PrintWords

/-- What stands behind the last byte c; all, if there is none. -/
def behind (c : UInt8) (l : List UInt8) : List UInt8 := (l.reverse.takeWhile (· != c)).reverse
theorem behind_none {c : UInt8} {l : List UInt8} (h : c ∉ l) : behind c l = l := by
  have := List.takeWhile_append_of_pos (p := fun x => x != c) (l₁ := l.reverse) (l₂ := []) (fun x hx => by simp; rintro rfl; exact h (by simpa using hx))
  unfold behind
  simp only [List.append_nil, List.takeWhile_nil] at this
  rw [this, List.reverse_reverse]
theorem behind_app {c : UInt8} {a t : List UInt8} (h : c ∉ t) : behind c (a ++ c :: t) = t := by
  unfold behind
  rw [List.reverse_append, List.reverse_cons, List.append_assoc, List.takeWhile_append_of_pos (fun x hx => by simp; rintro rfl; exact h (by simpa using hx))]
  simp
theorem behind_le (c : UInt8) (l : List UInt8) : (behind c l).length ≤ l.length := by
  unfold behind
  have := (List.takeWhile_sublist (fun x => x != c) (l := l.reverse)).length_le
  simpa using this
theorem data_at (s : ByteArray) (j : Nat) (h : j < s.size) : s.data[j]! = s.data.toList[j]'(by rw [← size_list]; exact h) := by
  have h' : j < s.data.size := h
  rw [getElem!_pos s.data j h']; rfl
theorem drop_last (s : ByteArray) (c : UInt8) : s.data.toList.drop (Lib.lastIndexByte s c.toNat + 1).toNat = behind c s.data.toList ∧ -1 ≤ Lib.lastIndexByte s c.toNat ∧ Lib.lastIndexByte s c.toNat < s.size := by
  have hl := size_list s
  rcases Lib.lastIndexByte_spec s c.toNat with ⟨e, hn⟩ | ⟨i, hi, e, hc, hn⟩
  · rw [e]
    refine ⟨?_, by omega, by omega⟩
    rw [behind_none]
    · rfl
    · intro hm
      obtain ⟨j, hj, he⟩ := List.mem_iff_getElem.1 hm
      refine hn j (by omega) ?_
      rw [data_at s j (by omega), he]
  · rw [e]
    refine ⟨?_, by omega, by omega⟩
    have hi' : i < s.data.toList.length := by omega
    have e1 : s.data.toList = s.data.toList.take i ++ c :: s.data.toList.drop (i + 1) := by
      have h0 : s.data.toList[i] = c := by
        rw [data_at s i hi] at hc
        exact UInt8.toNat_inj.1 (by omega)
      conv => lhs; rw [← List.take_append_drop i s.data.toList]
      rw [List.drop_eq_getElem_cons hi', h0]
    have e2 : ((i : Int) + 1).toNat = i + 1 := by omega
    rw [e2]
    conv => rhs; rw [e1]
    rw [behind_app]
    intro hm
    obtain ⟨j, hj, he⟩ := List.mem_iff_getElem.1 hm
    rw [List.length_drop] at hj
    refine hn (i + 1 + j) (by omega) (by omega) ?_
    rw [data_at s (i + 1 + j) (by omega)]
    rw [List.getElem_drop] at he
    rw [he]

def strings_LastIndexByte.f (a0 : ByteArray) (a1 : Int) : Option Int := if a0.size ≤ 140737488351232 then some (Lib.lastIndexByte a0 a1) else none
theorem strings_LastIndexByte.calls (a0 : ByteArray) (a1 : Int) (r : Int) (w : World) (_hG : Good w) (h : strings_LastIndexByte.f a0 a1 = some r) :
    Calls Tryd.prog 41 #[.string a0, .int .u8 a1] w fun e w' => e = .returned (.int .i64 r) ∧ Drawn0 w w' := by
  unfold strings_LastIndexByte.f at h
  split at h
  · obtain rfl := Option.some.inj h
    exact (Tryd.strings_LastIndexByte a0 a1 (by omega) w).mono fun e w' ⟨he, hw⟩ => ⟨he, by rw [hw]; exact Drawn0.refl _⟩
  · cases h

end Go.Proofs.YtcpnfokpgiigcaaDoor
