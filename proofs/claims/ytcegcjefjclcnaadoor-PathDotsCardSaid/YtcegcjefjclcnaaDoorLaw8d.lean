/- The law PathDots, walked over the contracts. -/
import Derived.Test.YtcegcjefjclcnaaDoorLaw8
import Derived.Test.YtcegcjefjclcnaaDoorDotsP
import Derived.OpenShut
namespace Go.Proofs.YtcegcjefjclcnaaDoor
open Go.RowKit Go.Proofs.YtcegcjefjclcnaaDoorW.PrintWords

theorem oDots {w0 w : World} (hk : Ok w0 w) (l : List UInt8) (hl : l.length ≤ 1000000) : Calls Tryd.prog 16 #[.string ⟨l.toArray⟩] w fun e w' => e = .returned (.int .i64 (dotsN l)) ∧ Ok w0 w' := ok_below hk fun _ => path_Dots_any ⟨l.toArray⟩ (by show l.length ≤ _; omega) w

set_option maxHeartbeats 4000000 in
set_option maxRecDepth 100000 in
theorem law_PathDots (s : ByteArray) (c : Int) (hs : s.size ≤ 140737488351232) (hc : (Lit.int .u8 c).wf = true) (w : World) (hG : Good w) :
    Calls Tryd.prog 7 #[.string s, .int .u8 c] w fun e w' => e = .returned (.bool true) ∧ Below w.heap.size w w' := by
  obtain ⟨L, rfl⟩ : ∃ L : List UInt8, s = ⟨L.toArray⟩ := ⟨s.data.toList, (of_toList s).symm⟩
  have hk := Ok.refl hG
  by_cases hl : L.length ≤ 100
  · go_enter Tryd.func7, Tryd.ntmps7
    go_wp2_with fail
    refine (awake8 hk).mono ?_
    rintro e w1 ⟨rfl, hk1⟩
    have e1 : (⟨L.toArray⟩ : ByteArray) ++ ⟨#[46]⟩ = ⟨(L ++ [46]).toArray⟩ := toList_inj (by simp [ByteArray.data_append])
    have e2 : (⟨L.toArray⟩ : ByteArray) ++ ⟨#[37, 50, 69]⟩ = ⟨(L ++ [37, 50, 69]).toArray⟩ := toList_inj (by simp [ByteArray.data_append])
    go_wp2_with fail
    refine (oDots hk1 L (by omega)).mono ?_
    rintro e w2 ⟨rfl, hk2⟩
    go_wp2_with fail
    refine (oDots hk2 (L ++ [46]) (by simp; omega)).mono ?_
    rintro e w3 ⟨rfl, hk3⟩
    go_wp2_with fail
    refine (oDots hk3 (L ++ [37, 50, 69]) (by simp; omega)).mono ?_
    rintro e w4 ⟨rfl, hk4⟩
    have hcb := bounds_u8 hc
    obtain ⟨cb, rfl⟩ : ∃ cb : UInt8, c = (cb.toNat : Int) := ⟨UInt8.ofNat c.toNat, by rw [UInt8.toNat_ofNat']; omega⟩
    have hcv : (convert 36 9 (.slice (some ⟨w4.heap.size, 0, none⟩) 1 1)).run Tryd.prog (w4.alloc (.cells #[.int .u8 cb.toNat] 5)) = .ok (.string ⟨#[cb]⟩) (w4.alloc (.cells #[.int .u8 cb.toNat] 5)) :=
      ByteRow.str (l := [cb]) (heap_alloc_new w4 (.cells (u8s [cb]).toArray 5)) Tryd.underlying36 Tryd.underlying5 Tryd.underlying9 rfl
    have e3 : (⟨L.toArray⟩ : ByteArray) ++ ⟨#[cb]⟩ = ⟨(L ++ [cb]).toArray⟩ := toList_inj (by simp [ByteArray.data_append])
    have hd := oDots (hk4.alloc (.cells #[.int .u8 cb.toNat] 5)) (L ++ [cb]) (by simp; omega)
    have hways : (L.isEmpty = true ∧ dotsN L = 0 ∧ dotsN (L ++ [46]) = 1 ∧ dotsN (L ++ [37, 50, 69]) = 1) ∨ (L.isEmpty = false ∧ dotsN L = 1 ∧ dotsN (L ++ [46]) = 2 ∧ dotsN (L ++ [37, 50, 69]) = 2) ∨ (L.isEmpty = false ∧ dotsN L = 2 ∧ dotsN (L ++ [46]) = 0) ∨ (L.isEmpty = false ∧ dotsN L = 0) := by
      by_cases h0 : L = []
      · have h := dots_one (l := L) unit_dot (.inl h0)
        have h' := dots_one (l := L) unit_hex (.inl h0)
        have hz : dotsN L = 0 := by rw [h0]; exact dotsFrom_nil 0
        exact .inl ⟨by rw [h0]; rfl, hz, by omega, by omega⟩
      · have he : L.isEmpty = false := by simpa using h0
        have hle := dots_le L
        rcases (by omega : dotsN L = 0 ∨ dotsN L = 1 ∨ dotsN L = 2) with h | h | h
        · exact .inr (.inr (.inr ⟨he, h⟩))
        · have h2 := dots_one unit_dot (.inr h); have h3 := dots_one unit_hex (.inr h)
          exact .inr (.inl ⟨he, h, by omega, by omega⟩)
        · exact .inr (.inr (.inl ⟨he, h, dots_three unit_dot h⟩))
    have hodd := fun h1 h2 h3 => dots_odd (l := L) (c := cb) h1 h2 h3
    have hcw : (cb.toNat = 46) ∨ (cb.toNat = 37) ∨ (cb.toNat = 101) ∨ (cb.toNat = 69) ∨ (cb.toNat ≠ 46 ∧ cb.toNat ≠ 37 ∧ cb.toNat ≠ 101 ∧ cb.toNat ≠ 69) := by omega
    have hodd2 : cb.toNat ≠ 46 ∧ cb.toNat ≠ 37 ∧ cb.toNat ≠ 101 ∧ cb.toNat ≠ 69 → dotsN (L ++ [cb]) = 0 := fun ⟨h1, _, h2, h3⟩ => hodd (fun e => h1 (by rw [e]; rfl)) (fun e => h2 (by rw [e]; rfl)) (fun e => h3 (by rw [e]; rfl))
    clear hodd hcb hc
    generalize dotsN (L ++ [cb]) = d at *
    generalize dotsN (L ++ [46]) = m at *
    generalize dotsN (L ++ [37, 50, 69]) = h at *
    generalize dotsN L = n at *
    have HW := Lib.hid hodd2
    clear hodd2
    rcases hways with ⟨he, rfl, rfl, rfl⟩ | ⟨he, rfl, rfl, rfl⟩ | ⟨he, rfl, rfl⟩ | ⟨he, rfl⟩
    all_goals rcases hcw with hc | hc | hc | hc | hc
    all_goals try (have hd0 := HW.out hc; subst hd0; obtain ⟨hc1, hc2, hc3, hc4⟩ := hc)
    all_goals try (have hq : ((cb.toNat : Nat) : Int) = 101 := (by rw [hc]; rfl); rw [hq] at hcv hd)
    all_goals try (have hq : ((cb.toNat : Nat) : Int) = 69 := (by rw [hc]; rfl); rw [hq] at hcv hd)
    all_goals go_wp2_with (go_at_call 16; refine hd.mono ?_; rintro e w5 ⟨rfl, hk5⟩)
    all_goals (go_ret; first | exact ⟨rfl, hk4.below⟩ | exact ⟨rfl, hk5.below⟩)
  · go_enter Tryd.func7, Tryd.ntmps7
    go_wp2_with fail
    refine (awake8 hk).mono ?_
    rintro e w1 ⟨rfl, hk1⟩
    have hll : (100 : Int) < L.length := by omega
    go_wp2
    go_ret
    exact ⟨rfl, hk1.below⟩

end Go.Proofs.YtcegcjefjclcnaaDoor
