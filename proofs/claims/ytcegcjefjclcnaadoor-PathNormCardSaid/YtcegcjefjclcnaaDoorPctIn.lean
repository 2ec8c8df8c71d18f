/- pct.In: whether a set has a byte. -/
import Derived.Test.YtcegcjefjclcnaaDoorB0
import Derived.Test.YtcegcjefjclcnaaDoorLowP
import Derived.Test.YtcegcjefjclcnaaDoorEv
import Derived.Test.YtcegcjefjclcnaaDoorShelf
import Derived.Lib.IndexLaws
import Derived.Laws.EntriesVeiled
namespace Go.Proofs.YtcegcjefjclcnaaDoor
open Go.RowKit Go.Proofs.YtcegcjefjclcnaaDoorW.PrintWords

def set0 (c : UInt8) : Bool := decide (c.toNat < 32) || decide (126 < c.toNat)
def hasC (l : List UInt8) (c : UInt8) : Bool := decide (0 ≤ Lib.indexByte l c)
def set2 (c : UInt8) : Bool := set0 c || hasC [32, 34, 35, 39, 60, 62] c
def set3 (c : UInt8) : Bool := set2 c || hasC [63, 94, 96, 123, 125] c

theorem In_has (s : ByteArray) (c : UInt8) (b : Nat) (w : World) (hc : w.cell? ⟨b, 0, none⟩ = some (.int .u8 c.toNat)) :
    Calls Tryd.prog 42 #[.string s, .pointer (some ⟨b, 0, none⟩)] w fun e w' => e = .returned (.bool (hasC s.data.toList c)) ∧ Below w.heap.size w w' := by
  have h := Tryd.strings_IndexByte s c.toNat w
  have e : ((c.toNat : Nat) : Int).toNat.toUInt8 = c := by simp
  rw [e] at h
  unfold hasC
  go_enter Tryd.func42, Tryd.ntmps42
  go_wp2_with fail
  refine h.mono ?_
  rintro e w1 ⟨rfl, rfl⟩
  go_wp2
  go_ret
  exact ⟨rfl, Below.refl _ _⟩
theorem In_0 (c : UInt8) (b : Nat) (w : World) (hc : w.cell? ⟨b, 0, none⟩ = some (.int .u8 c.toNat)) :
    Calls Tryd.prog 44 #[.pointer (some ⟨b, 0, none⟩)] w fun e w' => e = .returned (.bool (set0 c)) ∧ Below w.heap.size w w' := by
  by_cases h1 : c.toNat < 32
  · have e : set0 c = true := by unfold set0; simp; omega
    rw [e]
    go_enter Tryd.func44, Tryd.ntmps44
    go_wp2
    go_ret
    exact ⟨rfl, Below.refl _ _⟩
  · by_cases h2 : 126 < c.toNat
    · have e : set0 c = true := by unfold set0; simp; omega
      rw [e]
      have d1 : decide ((c.toNat : Int) < 32) = false := by simp; omega
      have d2 : decide (126 < (c.toNat : Int)) = true := by simp; omega
      go_enter Tryd.func44, Tryd.ntmps44
      go_wp2
      go_ret
      exact ⟨rfl, Below.refl _ _⟩
    · have e : set0 c = false := by unfold set0; simp; omega
      rw [e]
      have d1 : decide ((c.toNat : Int) < 32) = false := by simp; omega
      have d2 : decide (126 < (c.toNat : Int)) = false := by simp; omega
      go_enter Tryd.func44, Tryd.ntmps44
      go_wp2
      go_ret
      exact ⟨rfl, Below.refl _ _⟩

set_option maxHeartbeats 2000000 in
set_option maxRecDepth 100000 in
theorem pct_In0 (c : UInt8) (w : World) : Calls Tryd.prog 31 #[.int .i64 0, .int .u8 c.toNat] w fun e w' => e = .returned (.bool (set0 c)) ∧ Below w.heap.size w w' := by
  have hrow : ∀ o1 o2, (((w.alloc (.cells #[.int .u8 c.toNat] 5)).alloc o1).alloc o2).cell? ⟨w.heap.size, 0, none⟩ = some (.int .u8 c.toNat) := fun o1 o2 => cell_of_row _ _ 0 _ _ _ (block_alloc (block_alloc (heap_alloc_new w _) _) _)
  have hrow2 : ∀ v o2, (((w.alloc (.cells #[.int .u8 c.toNat] 5)).alloc (.cells #[v] 50)).alloc o2).cell? ⟨w.heap.size + 1, 0, none⟩ = some v := fun v o2 => by
    have h := block_alloc (heap_alloc_new (w.alloc (.cells #[.int .u8 c.toNat] 5)) (.cells #[v] 50)) o2
    rw [World.size_alloc] at h
    exact cell_of_row _ _ 0 _ _ _ h
  have hb : ∀ o1 o2, Below w.heap.size w (((w.alloc (.cells #[.int .u8 c.toNat] 5)).alloc o1).alloc o2) := fun o1 o2 => (((Below.refl _ w).alloc (Nat.le_refl _) _).alloc (by simp) _).alloc (by simp; omega) _
  go_enter Tryd.func31, Tryd.ntmps31
  go_wp2_with fail
  refine (In_0 c w.heap.size _ (hrow _ _)).mono ?_
  rintro e w1 ⟨rfl, hb1⟩
  go_wp2
  go_ret
  exact ⟨rfl, below_on (hb _ _) (hb _ _).size hb1⟩
set_option maxHeartbeats 2000000 in
set_option maxRecDepth 100000 in
theorem In_2 (c : UInt8) (b b1 : Nat) (w : World) (hc : w.cell? ⟨b, 0, none⟩ = some (.int .u8 c.toNat)) (hh : w.cell? ⟨b1, 0, none⟩ = some (.func (.func 42) #[] #[.pointer (some ⟨b, 0, none⟩)])) :
    Calls Tryd.prog 46 #[.pointer (some ⟨b, 0, none⟩), .pointer (some ⟨b1, 0, none⟩)] w fun e w' => e = .returned (.bool (set2 c)) ∧ Below w.heap.size w w' := by
  have h0 := pct_In0 c w
  have hlt := World.block_lt_of_cell? w _ hc
  have hlt1 := World.block_lt_of_cell? w _ hh
  cases hs : set0 c with
  | true =>
    have e : set2 c = true := by unfold set2; rw [hs]; rfl
    rw [e]
    rw [hs] at h0
    go_enter Tryd.func46, Tryd.ntmps46
    go_wp2_with fail
    refine h0.mono ?_
    rintro e w1 ⟨rfl, hb1⟩
    go_wp2
    go_ret
    exact ⟨rfl, hb1⟩
  | false =>
    have e : set2 c = hasC [32, 34, 35, 39, 60, 62] c := by unfold set2; rw [hs]; rfl
    rw [e]
    rw [hs] at h0
    go_enter Tryd.func46, Tryd.ntmps46
    go_wp2_with fail
    refine h0.mono ?_
    rintro e w1 ⟨rfl, hb1⟩
    have hc1 : w1.cell? ⟨b, 0, none⟩ = some (.int .u8 c.toNat) := (hb1.cell hlt).trans hc
    have hh1 : w1.cell? ⟨b1, 0, none⟩ = some (.func (.func 42) #[] #[.pointer (some ⟨b, 0, none⟩)]) := (hb1.cell hlt1).trans hh
    go_wp2_with fail
    refine (In_has ⟨#[32, 34, 35, 39, 60, 62]⟩ c b w1 hc1).mono ?_
    rintro e w2 ⟨rfl, hb2⟩
    go_wp2
    go_ret
    exact ⟨rfl, below_on hb1 hb1.size hb2⟩
set_option maxHeartbeats 2000000 in
set_option maxRecDepth 100000 in
theorem pct_In2 (c : UInt8) (w : World) : Calls Tryd.prog 31 #[.int .i64 2, .int .u8 c.toNat] w fun e w' => e = .returned (.bool (set2 c)) ∧ Below w.heap.size w w' := by
  have hrow : ∀ o1 o2, (((w.alloc (.cells #[.int .u8 c.toNat] 5)).alloc o1).alloc o2).cell? ⟨w.heap.size, 0, none⟩ = some (.int .u8 c.toNat) := fun o1 o2 => cell_of_row _ _ 0 _ _ _ (block_alloc (block_alloc (heap_alloc_new w _) _) _)
  have hrow2 : ∀ v o2, (((w.alloc (.cells #[.int .u8 c.toNat] 5)).alloc (.cells #[v] 50)).alloc o2).cell? ⟨w.heap.size + 1, 0, none⟩ = some v := fun v o2 => by
    have h := block_alloc (heap_alloc_new (w.alloc (.cells #[.int .u8 c.toNat] 5)) (.cells #[v] 50)) o2
    rw [World.size_alloc] at h
    exact cell_of_row _ _ 0 _ _ _ h
  have hb : ∀ o1 o2, Below w.heap.size w (((w.alloc (.cells #[.int .u8 c.toNat] 5)).alloc o1).alloc o2) := fun o1 o2 => (((Below.refl _ w).alloc (Nat.le_refl _) _).alloc (by simp) _).alloc (by simp; omega) _
  go_enter Tryd.func31, Tryd.ntmps31
  go_wp2_with fail
  refine (In_2 c w.heap.size (w.heap.size + 1) _ (hrow _ _) (hrow2 _ _)).mono ?_
  rintro e w1 ⟨rfl, hb1⟩
  go_wp2
  go_ret
  exact ⟨rfl, below_on (hb _ _) (hb _ _).size hb1⟩
set_option maxHeartbeats 2000000 in
set_option maxRecDepth 100000 in
theorem In_3 (c : UInt8) (b b1 : Nat) (w : World) (hc : w.cell? ⟨b, 0, none⟩ = some (.int .u8 c.toNat)) (hh : w.cell? ⟨b1, 0, none⟩ = some (.func (.func 42) #[] #[.pointer (some ⟨b, 0, none⟩)])) :
    Calls Tryd.prog 47 #[.pointer (some ⟨b, 0, none⟩), .pointer (some ⟨b1, 0, none⟩)] w fun e w' => e = .returned (.bool (set3 c)) ∧ Below w.heap.size w w' := by
  have h0 := pct_In2 c w
  have hlt := World.block_lt_of_cell? w _ hc
  have hlt1 := World.block_lt_of_cell? w _ hh
  cases hs : set2 c with
  | true =>
    have e : set3 c = true := by unfold set3; rw [hs]; rfl
    rw [e]
    rw [hs] at h0
    go_enter Tryd.func47, Tryd.ntmps47
    go_wp2_with fail
    refine h0.mono ?_
    rintro e w1 ⟨rfl, hb1⟩
    go_wp2
    go_ret
    exact ⟨rfl, hb1⟩
  | false =>
    have e : set3 c = hasC [63, 94, 96, 123, 125] c := by unfold set3; rw [hs]; rfl
    rw [e]
    rw [hs] at h0
    go_enter Tryd.func47, Tryd.ntmps47
    go_wp2_with fail
    refine h0.mono ?_
    rintro e w1 ⟨rfl, hb1⟩
    have hc1 : w1.cell? ⟨b, 0, none⟩ = some (.int .u8 c.toNat) := (hb1.cell hlt).trans hc
    have hh1 : w1.cell? ⟨b1, 0, none⟩ = some (.func (.func 42) #[] #[.pointer (some ⟨b, 0, none⟩)]) := (hb1.cell hlt1).trans hh
    go_wp2_with fail
    refine (In_has ⟨#[63, 94, 96, 123, 125]⟩ c b w1 hc1).mono ?_
    rintro e w2 ⟨rfl, hb2⟩
    go_wp2
    go_ret
    exact ⟨rfl, below_on hb1 hb1.size hb2⟩
set_option maxHeartbeats 2000000 in
set_option maxRecDepth 100000 in
theorem pct_In3 (c : UInt8) (w : World) : Calls Tryd.prog 31 #[.int .i64 3, .int .u8 c.toNat] w fun e w' => e = .returned (.bool (set3 c)) ∧ Below w.heap.size w w' := by
  have hrow : ∀ o1 o2, (((w.alloc (.cells #[.int .u8 c.toNat] 5)).alloc o1).alloc o2).cell? ⟨w.heap.size, 0, none⟩ = some (.int .u8 c.toNat) := fun o1 o2 => cell_of_row _ _ 0 _ _ _ (block_alloc (block_alloc (heap_alloc_new w _) _) _)
  have hrow2 : ∀ v o2, (((w.alloc (.cells #[.int .u8 c.toNat] 5)).alloc (.cells #[v] 50)).alloc o2).cell? ⟨w.heap.size + 1, 0, none⟩ = some v := fun v o2 => by
    have h := block_alloc (heap_alloc_new (w.alloc (.cells #[.int .u8 c.toNat] 5)) (.cells #[v] 50)) o2
    rw [World.size_alloc] at h
    exact cell_of_row _ _ 0 _ _ _ h
  have hb : ∀ o1 o2, Below w.heap.size w (((w.alloc (.cells #[.int .u8 c.toNat] 5)).alloc o1).alloc o2) := fun o1 o2 => (((Below.refl _ w).alloc (Nat.le_refl _) _).alloc (by simp) _).alloc (by simp; omega) _
  go_enter Tryd.func31, Tryd.ntmps31
  go_wp2_with fail
  refine (In_3 c w.heap.size (w.heap.size + 1) _ (hrow _ _) (hrow2 _ _)).mono ?_
  rintro e w1 ⟨rfl, hb1⟩
  go_wp2
  go_ret
  exact ⟨rfl, below_on (hb _ _) (hb _ _).size hb1⟩

end Go.Proofs.YtcegcjefjclcnaaDoor
