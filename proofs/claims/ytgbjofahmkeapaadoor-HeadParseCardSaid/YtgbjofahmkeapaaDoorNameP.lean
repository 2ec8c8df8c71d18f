/- Bytes of names: plain functions; what the library's search for a rune comes to. No program in sight. -/
import Derived.Test.YtgbjofahmkeapaaDoorAlpha
import Derived.Shelf.GgClosure.StringsIndexFunc
import Derived.Lib.TrimUEq
import Derived.Test.YtgbjofahmkeapaaDoorEv
namespace Go.Proofs.YtgbjofahmkeapaaDoor

def nmN (set : List UInt8) (n : Nat) : Bool := decide (n < 128) && (alphaN n || decide (48 ≤ n ∧ n ≤ 57) || set.contains (UInt8.ofNat n))
def nmC (set : List UInt8) (c : UInt8) : Bool := nmN set c.toNat
theorem nm_small {set : List UInt8} {n : Nat} (h : nmN set n = true) : n < 128 := by
  unfold nmN at h
  rw [Bool.and_eq_true] at h
  exact of_decide_eq_true h.1
section
open Go.Lib
set_option maxRecDepth 100000 in
theorem decodeN_nm (n b0 b1 b2 b3 : Nat) (h : 128 ≤ b0) : 128 ≤ (decodeN n b0 b1 b2 b3).1 := by
  unfold decodeN
  repeat' split
  all_goals (simp only; omega)
theorem nm_from (set : List UInt8) (s : ByteArray) : ∀ (f pos : Nat), s.size ≤ pos + f → decide (0 ≤ idxFuncFrom (fun r => !nmN set r) true s f pos) = !((s.data.toList.drop pos).all (nmC set))
  | 0, pos, h => by
    have : s.data.toList.drop pos = [] := List.drop_eq_nil_of_le (by rw [← size_list]; omega)
    rw [this]; rfl
  | f + 1, pos, h => by
    by_cases hp : pos < s.size
    · have hp' : pos < s.data.toList.length := by rw [← size_list]; exact hp
      have hg : s.data.toList.getD pos 0 = s.data.toList[pos] := by rw [List.getD_eq_getElem?_getD, List.getElem?_eq_getElem hp']; rfl
      rw [List.drop_eq_getElem_cons hp', List.all_cons, ← hg]
      unfold idxFuncFrom
      rw [if_pos hp]
      cases hs : nmC set (s.data.toList.getD pos 0) with
      | true =>
        have hlt := nm_small hs
        rw [decode_N, decodeN_ascii _ _ _ _ _ hlt, if_neg (by rw [show nmN set _ = true from hs]; decide), nm_from set s f (pos + 1) (by omega), Bool.true_and]
      | false =>
        have e : (!nmN set (Utf8.decode s pos).1) = true := by
          rw [Bool.not_eq_true', Bool.eq_false_iff]
          intro hk
          by_cases h1 : (s.data.toList.getD pos 0).toNat < 128
          · rw [decode_N, decodeN_ascii _ _ _ _ _ h1] at hk
            rw [show nmC set _ = nmN set _ from rfl, hk] at hs
            exact Bool.noConfusion hs
          · have h2 := nm_small hk
            rw [decode_N] at h2
            have := decodeN_nm (s.data.toList.length - pos) _ (s.data.toList.getD (pos + 1) 0).toNat (s.data.toList.getD (pos + 2) 0).toNat (s.data.toList.getD (pos + 3) 0).toNat (Nat.le_of_not_lt h1)
            omega
        rw [if_pos e, Bool.false_and]
        exact decide_eq_true (by omega)
    · have : s.data.toList.drop pos = [] := List.drop_eq_nil_of_le (by rw [← size_list]; omega)
      rw [this, idxFuncFrom_end _ _ _ _ _ hp]; rfl
theorem nm_any (set : List UInt8) (s : ByteArray) : decide (0 ≤ idxFunc (fun r => !nmN set r) true s) = !(s.data.toList.all (nmC set)) := by
  have h := nm_from set s s.size 0 (by omega)
  rwa [List.drop_zero] at h
end

end Go.Proofs.YtgbjofahmkeapaaDoor
