/- The laws of layer 6 (six), walked over the contracts. -/
import Derived.Test.YtcpnfokpgiigcaaDoorSixN
import Derived.Test.YtcpnfokpgiigcaaDoorSixJ
import Derived.Test.YtcpnfokpgiigcaaDoorSixO
import Derived.Test.YtcpnfokpgiigcaaDoorRow
import Derived.Deep.RegionWith
namespace Go.Proofs.YtcpnfokpgiigcaaDoor
open Go.RowKit Go.Proofs.YtcpnfokpgiigcaaDoorW.PrintWords

theorem oMay6 {w0 w : World} (hk : Ok w0 w) (p : List Int) (h8 : p.length = 8) : Calls Tryd.prog 31 #[.agg (ints p).toArray] w fun e w' => e = .returned (.bool (mayB p)) ∧ Ok w0 w' := ok_below hk fun _ => six_May_any p h8 w
theorem oRun6 {w0 w : World} (hk : Ok w0 w) (p : List Int) (h8 : p.length = 8) : Calls Tryd.prog 28 #[.agg (ints p).toArray] w fun e w' => e = .returned (.tuple #[.int .i64 (runR p).1, .int .i64 (runR p).2]) ∧ Ok w0 w' := ok_below hk fun _ => (six_Run_any p h8 w).mono fun _ _ ⟨h1, h2⟩ => ⟨h1, by rw [h2]; exact (Below.refl _ _).alloc (Nat.le_refl _) _⟩
theorem oShow6 {w0 w : World} (hk : Ok w0 w) (p : List Int) (h8 : p.length = 8) : Calls Tryd.prog 32 #[.agg (ints p).toArray] w fun e w' => e = .returned (.string ⟨(showSix p).toArray⟩) ∧ Ok w0 w' := ok_below hk fun _ => six_Show_any p h8 w
theorem oParse6 {w0 w : World} (hk : Ok w0 w) (s : ByteArray) (hs : s.size ≤ 1000000) : Calls Tryd.prog 26 #[.string s] w fun e w' => e = .returned (.tuple #[.agg (ints (casts (parseSix s.data.toList).1)).toArray, .bool (parseSix s.data.toList).2]) ∧ Ok w0 w' := ok_below hk fun hG => six_Parse_any s hs w hG
theorem orMay6 {w0 w : World} (hk : Ok w0 w) (p : List Int) (h8 : p.length = 8) : Calls Tryd.prog 30 #[.agg (ints p).toArray] w fun e w' => e = .returned (.bool (mayB p)) ∧ Ok w0 w' := ok_below hk fun _ => ref06_May p h8 w
theorem orRun6 {w0 w : World} (hk : Ok w0 w) (p : List Int) (h8 : p.length = 8) : Calls Tryd.prog 29 #[.agg (ints p).toArray] w fun e w' => e = .returned (.tuple #[.int .i64 (runR p).1, .int .i64 (runR p).2]) ∧ Ok w0 w' := ok_below hk fun _ => ref06_Run p h8 w
theorem orShow6 {w0 w : World} (hk : Ok w0 w) (p : List Int) (h8 : p.length = 8) : Calls Tryd.prog 33 #[.agg (ints p).toArray] w fun e w' => e = .returned (.string ⟨(showSix p).toArray⟩) ∧ Ok w0 w' := ok_below hk fun _ => ref06_Show p h8 w
theorem orParse6 {w0 w : World} (hk : Ok w0 w) (s : ByteArray) (hs : s.size ≤ 1000000) : Calls Tryd.prog 27 #[.string s] w fun e w' => e = .returned (.tuple #[.agg (ints (casts (parseSix s.data.toList).1)).toArray, .bool (parseSix s.data.toList).2]) ∧ Ok w0 w' := ok_below hk fun _ => ref06_Parse s hs w
/-- Two arrays are compared. -/
theorem eq8 {p q : List Int} (hp : p.length = 8) (hq : q.length = 8) (w : World) : (Op.equalIn 10000 33 (.agg (ints p).toArray) (.agg (ints q).toArray)).run Tryd.prog w = .ok (p == q) w := run_equalIn_ints Tryd.underlying33 (by kernel_rfl) Tryd.underlying3 (by kernel_rfl) (by kernel_rfl) hp hq

theorem old8 {p : List Int} (h : p.length = 8) : (ints zer).toArray.size = (ints p).toArray.size := by rw [List.size_toArray, ints_length, List.size_toArray, ints_length, h]; rfl
theorem sz8 {p : List Int} (h : p.length = 8) : (Tryd.prog.info? 33).map (·.size) = some (ints p).toArray.size := by rw [List.size_toArray, ints_length, h]; kernel_rfl
theorem IntRow.eight {w : World} {b : Nat} {T : TypeId} {x0 x1 x2 x3 x4 x5 x6 x7 : Int} (h : IntRow w b T [x0, x1, x2, x3, x4, x5, x6, x7]) :
    w.cell? ⟨b, 0, none⟩ = some (.int .i64 x0) ∧ w.cell? ⟨b, 1, none⟩ = some (.int .i64 x1) ∧ w.cell? ⟨b, 2, none⟩ = some (.int .i64 x2) ∧ w.cell? ⟨b, 3, none⟩ = some (.int .i64 x3) ∧
      w.cell? ⟨b, 4, none⟩ = some (.int .i64 x4) ∧ w.cell? ⟨b, 5, none⟩ = some (.int .i64 x5) ∧ w.cell? ⟨b, 6, none⟩ = some (.int .i64 x6) ∧ w.cell? ⟨b, 7, none⟩ = some (.int .i64 x7) :=
  ⟨h.cell rfl, h.cell rfl, h.cell rfl, h.cell rfl, h.cell rfl, h.cell rfl, h.cell rfl, h.cell rfl⟩
theorem wpList_wanted {P : Program} {ops : Array Oper} {Q : Exit → Act → World → Prop} {a : Act} {w : World} {rest : List Oper} {o : Oper} (hg : Region.wanted o (yielded ops a.tmps) = true) (h : ∀ K : Act → World → Prop, (∀ a w, wpList P ops Q rest a w → K a w) → o.wp P a w K Q) : wpList P ops Q (o :: rest) a w :=
  wpList_step fun K hK => by rw [if_pos hg]; exact h K hK
theorem wpList_skip_load {P : Program} {ops : Array Oper} {Q : Exit → Act → World → Prop} {a : Act} {w : World} {rest : List Oper} {o : Oper} (ty : TypeId) (x : Operand) (_ho : o.op = .load ty x) (hg : Region.wanted o (yielded ops a.tmps) = false) (h : wpList P ops Q rest (a.put o.dst undef) w) : wpList P ops Q (o :: rest) a w :=
  wpList_step fun K hK => by rw [if_neg (by rw [hg]; exact Bool.false_ne_true)]; exact hK _ _ h
theorem wpList_load_row_g {P : Program} {ops : Array Oper} {rest : List Oper} {o : Oper} {a : Act} {w : World} {Q : Exit → Act → World → Prop} (hgd : Region.wanted o (yielded ops a.tmps) = true) (ty : TypeId) (x : Operand) (ho : o.op = .load ty x)
    (g : Nat) (hx : a.eval x = .pointer (some ⟨g, 0, none⟩)) (t : TypeId) (cs : Array Value) (fr : Nat × Nat) (d : TypeDesc) (hg : w.heap[g]? = some (.cells cs t fr))
    (hu : P.underlying ty = some d) (hd : (match d with | .struct _ | .array _ _ => true | _ => false) = true) (hi : (P.info? ty).map (·.size) = some cs.size)
    (h : wpList P ops Q rest (a.put o.dst (.agg cs)) w) : wpList P ops Q (o :: rest) a w :=
  wpList_wanted hgd fun _ hK => wp_load_row ty x ho g hx t cs fr d hg hu hd hi (hK _ _ h)

def pEx : List Int := [1, 0, 0, 2, 0, 0, 0, 3]
theorem parse_ex : parseSix [49, 58, 48, 58, 48, 58, 50, 58, 58, 51] = ([1, 0, 0, 2, 0, 0, 0, 3], true) := by decide +kernel
theorem casts_ex : casts [1, 0, 0, 2, 0, 0, 0, 3] = pEx := rfl
theorem parse_zz : parseSix [58, 58] = (no8, true) := by decide +kernel
theorem run_ex : runR pEx = (4, 3) := by decide +kernel
theorem show_ex : showSix pEx = [49, 58, 48, 58, 48, 58, 50, 58, 58, 51] := by decide +kernel
theorem show_zz : showSix zer = [58, 58] := by decide +kernel
theorem may_ex : mayB pEx = true := by decide +kernel

set_option maxHeartbeats 4000000 in
set_option maxRecDepth 100000 in
theorem awake6 {w0 w : World} (hk : Ok w0 w) : Calls Tryd.prog 25 #[] w fun e w' => e = .returned (.bool true) ∧ Ok w0 w' := by
  have c1 := fun {w : World} (hG : Good w) => oParse6 (Ok.refl hG) ⟨#[49, 58, 48, 58, 48, 58, 50, 58, 58, 51]⟩ (by decide)
  have c2 := fun {w : World} (hG : Good w) => oParse6 (Ok.refl hG) ⟨#[58, 58]⟩ (by decide)
  simp only [parse_ex, parse_zz, casts_ex, casts_no8] at c1 c2
  go_enter Tryd.func25, Tryd.ntmps25
  have hsE : (Tryd.prog.info? 33).map (·.size) = some (ints pEx).toArray.size := by kernel_rfl
  have hsZ : (Tryd.prog.info? 33).map (·.size) = some (ints zer).toArray.size := by kernel_rfl
  go_wp2_with fail
  have hr1 := IntRow.new w 33 pEx
  have hk1 := hk.alloc (.cells (ints pEx).toArray 33)
  refine (c1 hk1.good).mono ?_
  rintro e w1 ⟨rfl, hm1⟩
  have hk2 := hk1.step hm1.below
  have hr2 := hr1.below hm1.below hr1.lt
  clear hr1 hm1
  have hp2 := IntRow.new w1 33 zer
  go_wp2_with (refine wpList_store_row rfl 33 _ _ rfl w1.heap.size (ints pEx).toArray (by rfl) (by rfl) 33 (ints zer).toArray hp2 hsE rfl (ints_one _) ?_)
  have hb3 := below_setRow ((Below.refl w1.heap.size w1).alloc (Nat.le_refl _) (.cells (ints zer).toArray 33)) (Nat.le_refl _) (ints pEx).toArray
  have hk3 := hk2.step hb3
  have hr3 := hr2.below hb3 hr2.lt
  have hq3 := hp2.put pEx
  clear hr2 hp2
  refine (c2 hk3.good).mono ?_
  rintro e w4 ⟨rfl, hm4⟩
  have hk4 := hk3.step hm4.below
  have hr4 := hr3.below hm4.below hr3.lt
  have hq4 := hq3.below hm4.below hq3.lt
  clear hr3 hq3 hb3
  have hp4 := IntRow.new w4 33 zer
  have hb5 := below_setRow ((Below.refl w4.heap.size w4).alloc (Nat.le_refl _) (.cells (ints zer).toArray 33)) (Nat.le_refl _) (ints zer).toArray
  have hk5 := hk4.step hb5
  have hr5 := hr4.below hb5 hr4.lt
  have hq5 := hq4.below hb5 hq4.lt
  have hz5 := hp4.put zer
  go_wp2_with (first
    | (refine wpList_store_row rfl 33 _ _ rfl w4.heap.size (ints zer).toArray (by rfl) (by rfl) 33 (ints zer).toArray hp4 hsZ rfl (ints_one _) ?_)
    | (refine wpList_load_row rfl 33 _ rfl _ rfl 33 (ints pEx).toArray (0, 0) _ hr5 Tryd.underlying33 rfl hsE ?_))
  refine (oRun6 (Ok.refl hk5.good) pEx rfl).mono ?_
  rintro e w6 ⟨rfl, hm6⟩
  rw [run_ex]
  have hk6 := hk5.step hm6.below
  have hr6 := hr5.below hm6.below hr5.lt
  have hq6 := hq5.below hm6.below hq5.lt
  have hz6 := hz5.below hm6.below hz5.lt
  clear hr5 hq5 hz5 hm6
  go_wp2_with (first
    | (refine wpList_load_row rfl 33 _ rfl _ rfl 33 (ints pEx).toArray (0, 0) _ hr6 Tryd.underlying33 rfl hsE ?_)
    | (refine wpList_load_row rfl 33 _ rfl _ rfl 33 (ints pEx).toArray (0, 0) _ hq6 Tryd.underlying33 rfl hsE ?_)
    | (refine wpList_load_row rfl 33 _ rfl _ rfl 33 (ints zer).toArray (0, 0) _ hz6 Tryd.underlying33 rfl hsZ ?_))
  refine (oShow6 (Ok.refl hk6.good) pEx rfl).mono ?_
  rintro e w7 ⟨rfl, hm7⟩
  rw [show_ex]
  have hk7 := hk6.step hm7.below
  have hr7 := hr6.below hm7.below hr6.lt
  have hq7 := hq6.below hm7.below hq6.lt
  have hz7 := hz6.below hm7.below hz6.lt
  clear hr6 hq6 hz6 hm7
  have he1 : ∀ w : World, (Op.equalIn 10000 33 (.agg (ints pEx).toArray) (.agg (ints pEx).toArray)).run Tryd.prog w = .ok true w := fun w => eq8 rfl rfl w
  have he3 : ∀ w : World, (Op.equalIn 10000 33 (.agg (ints zer).toArray) (.agg #[.int .i64 0, .int .i64 0, .int .i64 0, .int .i64 0, .int .i64 0, .int .i64 0, .int .i64 0, .int .i64 0])).run Tryd.prog w = .ok true w := fun w => eq8 (p := zer) (q := zer) rfl rfl w
  have he2 : ∀ w : World, (Op.equalIn 10000 33 (.agg (ints zer).toArray) (.agg (ints zer).toArray)).run Tryd.prog w = .ok true w := fun w => eq8 rfl rfl w
  go_wp2_with (first
    | (refine wpList_load_row_g (by rfl) 33 _ rfl _ rfl 33 (ints pEx).toArray (0, 0) _ hr7 Tryd.underlying33 rfl hsE ?_)
    | (refine wpList_load_row_g (by rfl) 33 _ rfl _ rfl 33 (ints pEx).toArray (0, 0) _ hq7 Tryd.underlying33 rfl hsE ?_)
    | (refine wpList_load_row_g (by rfl) 33 _ rfl _ rfl 33 (ints zer).toArray (0, 0) _ hz7 Tryd.underlying33 rfl hsZ ?_))
  refine (oMay6 (Ok.refl hk7.good) pEx rfl).mono ?_
  rintro e w8 ⟨rfl, hm8⟩
  rw [may_ex]
  have hk8 := hk7.step hm8.below
  have hr8 := hr7.below hm8.below hr7.lt
  have hq8 := hq7.below hm8.below hq7.lt
  have hz8 := hz7.below hm8.below hz7.lt
  clear hr7 hq7 hz7 hm8
  go_wp2_with (first
    | (refine wpList_load_row_g (by rfl) 33 _ rfl _ rfl 33 (ints pEx).toArray (0, 0) _ hr8 Tryd.underlying33 rfl hsE ?_)
    | (refine wpList_load_row_g (by rfl) 33 _ rfl _ rfl 33 (ints pEx).toArray (0, 0) _ hq8 Tryd.underlying33 rfl hsE ?_)
    | (refine wpList_load_row_g (by rfl) 33 _ rfl _ rfl 33 (ints zer).toArray (0, 0) _ hz8 Tryd.underlying33 rfl hsZ ?_))
  refine (oShow6 (Ok.refl hk8.good) zer rfl).mono ?_
  rintro e w9 ⟨rfl, hm9⟩
  rw [show_zz]
  have hk9 := hk8.step hm9.below
  have hr9 := hr8.below hm9.below hr8.lt
  have hq9 := hq8.below hm9.below hq8.lt
  have hz9 := hz8.below hm9.below hz8.lt
  clear hr8 hq8 hz8 hm9
  go_wp2
  go_ret
  exact ⟨rfl, hk9⟩

end Go.Proofs.YtcpnfokpgiigcaaDoor
