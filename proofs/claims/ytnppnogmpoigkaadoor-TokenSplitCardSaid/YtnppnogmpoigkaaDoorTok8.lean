/- Token: what a list, and fields, tell. -/
import Derived.Test.YtnppnogmpoigkaaDoorTok7
import Derived.Test.YtnppnogmpoigkaaDoorHead2
namespace Go.Proofs.YtnppnogmpoigkaaDoor
open Go.RowKit Go.Proofs.YtnppnogmpoigkaaDoorW.PrintWords
set_option linter.unusedVariables false
set_option linter.unnecessarySimpa false
set_option linter.unusedSimpArgs false

set_option maxHeartbeats 2000000 in
set_option maxRecDepth 100000 in
theorem tok_Last_any (s : ByteArray) (hs : s.size ≤ 999998) (w : World) (hG : Good w) :
    Calls Tryd.prog 18 #[.string s] w fun e w' => e = .returned (.int .i64 (lastP (splitT s.data.toList))) ∧ Below w.heap.size w w' := by
  have cS := tok_Split_any s (by omega) w hG
  have hsl := size_list s
  have hall : ∀ x ∈ splitT s.data.toList, x.length ≤ 1000000 := fun x hx => Nat.le_trans (splitT_le _ x hx) (by omega)
  have hlen := splitT_len s.data.toList
  have hL : (splitT s.data.toList).length ≤ 1000000 := by omega
  generalize splitT s.data.toList = L at *
  go_enter Tryd.func18, Tryd.ntmps18
  go_wp2_with fail
  refine cS.mono ?_
  rintro e w1 ⟨v1, rfl, ho1, hb1⟩
  have hT := (texts_own ho1 (Nat.le_refl _)).1
  obtain ⟨ao, cap, rfl, hat⟩ := hT.at_
  have cl := tok_last_any ao cap L hL hall w1 (hG.below hb1) hat
  clear hT hat ho1
  go_wp2_with fail
  refine cl.mono ?_
  rintro e w2 ⟨rfl, hb2⟩
  go_wp2
  go_ret
  exact ⟨rfl, below_on hb1 hb1.size hb2⟩

def rpN : List UInt8 := [82, 101, 102, 101, 114, 114, 101, 114, 45, 80, 111, 108, 105, 99, 121]
def toldL (L : List Fld) : Nat := lastP (splitT (getL rpN L))
set_option maxHeartbeats 2000000 in
set_option maxRecDepth 100000 in
theorem tok_Told_any (ao : Option Addr) (cap : Nat) (L : List Fld) (hL : L.length ≤ 1000000) (hall : ∀ f ∈ L, f.1.length ≤ 1000000 ∧ f.2.length ≤ 1000000) (hg : (getL rpN L).length ≤ 999998) (w : World) (hG : Good w) (hc : FldsAt w.heap.size w ao L) :
    Calls Tryd.prog 20 #[.slice ao L.length cap] w fun e w' => e = .returned (.int .i64 (toldL L)) ∧ Below w.heap.size w w' := by
  have cG := head_Get_any ao cap L hL hall ⟨rpN.toArray⟩ (by decide) w hc
  rw [mk_toList] at cG
  have cL := fun w1 (hG : Good w1) => tok_Last_any ⟨(getL rpN L).toArray⟩ (by rw [ba_len]; exact hg) w1 hG
  rw [mk_toList] at cL
  unfold toldL
  clear hg hall hc
  generalize getL rpN L = g at *
  generalize (!(allL rpN L).isEmpty) = ib at *
  unfold rpN at cG
  go_enter Tryd.func20, Tryd.ntmps20
  go_wp2_with fail
  refine cG.mono ?_
  rintro e w1 ⟨rfl, hb1⟩
  go_wp2_with fail
  refine (cL w1 (hG.below hb1)).mono ?_
  rintro e w2 ⟨rfl, hb2⟩
  go_wp2
  go_ret
  exact ⟨rfl, below_on hb1 hb1.size hb2⟩
theorem told_none {L : List Fld} (h : (allL rpN L).isEmpty = true) : toldL L = 0 := by
  unfold toldL getL
  rw [List.isEmpty_iff.1 h]
  decide +kernel
set_option maxHeartbeats 2000000 in
set_option maxRecDepth 100000 in
theorem ref14_Told_any (ao : Option Addr) (cap : Nat) (L : List Fld) (hL : L.length ≤ 1000000) (hall : ∀ f ∈ L, f.1.length ≤ 1000000 ∧ f.2.length ≤ 1000000) (hg : (getL rpN L).length ≤ 999998) (w : World) (hc : FldsAt w.heap.size w ao L) :
    Calls Tryd.prog 21 #[.slice ao L.length cap] w fun e w' => e = .returned (.int .i64 (toldL L)) ∧ Below w.heap.size w w' := by
  have cG := ref13_Get_any ao cap L hL hall ⟨rpN.toArray⟩ (by decide) w hc
  rw [mk_toList] at cG
  have cL := fun w1 => ref14_Last_any ⟨(getL rpN L).toArray⟩ (by rw [ba_len]; exact hg) w1
  rw [mk_toList] at cL
  cases hb : (allL rpN L).isEmpty
  · rw [hb] at cG
    unfold toldL
    clear hg hall hc hb
    generalize getL rpN L = g at *
    unfold rpN at cG
    go_enter Tryd.func21, Tryd.ntmps21
    go_wp2_with fail
    refine cG.mono ?_
    rintro e w1 ⟨rfl, hb1⟩
    go_wp2_with fail
    refine (cL w1).mono ?_
    rintro e w2 ⟨rfl, hb2⟩
    go_wp2
    go_ret
    exact ⟨rfl, below_on hb1 hb1.size hb2⟩
  · rw [hb] at cG
    rw [told_none hb]
    clear hg hall hc hb cL
    generalize getL rpN L = g at *
    unfold rpN at cG
    go_enter Tryd.func21, Tryd.ntmps21
    go_wp2_with fail
    refine cG.mono ?_
    rintro e w1 ⟨rfl, hb1⟩
    go_wp2
    go_ret
    exact ⟨rfl, hb1⟩

end Go.Proofs.YtnppnogmpoigkaaDoor
