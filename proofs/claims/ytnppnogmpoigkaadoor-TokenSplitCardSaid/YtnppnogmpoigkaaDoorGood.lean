/- What the package-level variables hold while a call runs. -/
import Derived.Test.YtnppnogmpoigkaaDoorProg
import Derived.Test.YtnppnogmpoigkaaDoorB0
import Derived.Test.YtnppnogmpoigkaaDoorWWords
import Derived.Shelf.Unicode.DecodeLast
namespace Go.Proofs.YtnppnogmpoigkaaDoor
open Go.RowKit Go.Proofs.YtnppnogmpoigkaaDoorW.PrintWords

/-- The names of policies (token.names). -/
def polN : List (List UInt8) := [[], [110, 111, 45, 114, 101, 102, 101, 114, 114, 101, 114], [110, 111, 45, 114, 101, 102, 101, 114, 114, 101, 114, 45, 119, 104, 101, 110, 45, 100, 111, 119, 110, 103, 114, 97, 100, 101], [115, 97, 109, 101, 45, 111, 114, 105, 103, 105, 110], [111, 114, 105, 103, 105, 110], [115, 116, 114, 105, 99, 116, 45, 111, 114, 105, 103, 105, 110], [111, 114, 105, 103, 105, 110, 45, 119, 104, 101, 110, 45, 99, 114, 111, 115, 115, 45, 111, 114, 105, 103, 105, 110], [115, 116, 114, 105, 99, 116, 45, 111, 114, 105, 103, 105, 110, 45, 119, 104, 101, 110, 45, 99, 114, 111, 115, 115, 45, 111, 114, 105, 103, 105, 110], [117, 110, 115, 97, 102, 101, 45, 117, 114, 108]]
/-- internal/bytealg.MaxLen holds some int; the two tables of unicode/utf8 hold what their initialisers lay. -/
structure Good (w : World) : Prop where
  max : ∃ m, w.cell? ⟨1, 0, none⟩ = some (.int .i64 m)
  tabs : Go.Lib.Utf8Tabs 2 3 w
  names : ∀ (k : Nat) (s : List UInt8), polN[k]? = some s → w.cell? ⟨0, k, none⟩ = some (.string ⟨s.toArray⟩)
theorem Good.below {w w' : World} (h : Good w) (hb : Below w.heap.size w w') : Good w' := by
  obtain ⟨m, hm⟩ := h.max
  exact ⟨⟨m, (hb.cell (World.block_lt_of_cell? w _ hm)).trans hm⟩, Utf8Tabs_below h.tabs hb, fun k s hs => (hb.cell (World.block_lt_of_cell? w _ (h.names k s hs))).trans (h.names k s hs)⟩
theorem Good.drewN {w : World} (h : Good w) (n : Nat) : Good (w.drewN n) := h.below ⟨rfl, rfl, rfl, Nat.le_refl _, fun _ _ => rfl⟩
theorem Good.drew {w : World} (h : Good w) : Good w.drew := h.below ⟨rfl, rfl, rfl, Nat.le_refl _, fun _ _ => rfl⟩
theorem Good.alloc {w : World} (h : Good w) (o : Obj) : Good (w.alloc o) := h.below ((Below.refl _ _).alloc (Nat.le_refl _) o)

/-- What has been done since w0: nothing that lay has turned; the variables hold what they held. -/
structure Ok (w0 w : World) : Prop where
  below : Below w0.heap.size w0 w
  good : Good w
theorem Ok.refl {w : World} (h : Good w) : Ok w w := ⟨Below.refl _ _, h⟩
theorem Ok.step {w0 w w' : World} (h : Ok w0 w) (hb : Below w.heap.size w w') : Ok w0 w' := ⟨below_on h.below h.below.size hb, h.good.below hb⟩
theorem Ok.drewN {w0 w : World} (h : Ok w0 w) (n : Nat) : Ok w0 (w.drewN n) := h.step ⟨rfl, rfl, rfl, Nat.le_refl _, fun _ _ => rfl⟩
theorem Ok.drew {w0 w : World} (h : Ok w0 w) : Ok w0 w.drew := h.step ⟨rfl, rfl, rfl, Nat.le_refl _, fun _ _ => rfl⟩
theorem Ok.alloc {w0 w : World} (h : Ok w0 w) (o : Obj) : Ok w0 (w.alloc o) := h.step ((Below.refl _ _).alloc (Nat.le_refl _) o)

/-- A contract's word in the form of what has been done since w0. -/
theorem ok_below {P : Program} {f : FuncId} {args : Array Value} {r : Value} {w0 w : World} (hk : Ok w0 w) (h : Good w → Calls P f args w fun e w' => e = .returned r ∧ Below w.heap.size w w') :
    Calls P f args w fun e w' => e = .returned r ∧ Ok w0 w' := (h hk.good).mono fun _ _ ⟨he, hb⟩ => ⟨he, hk.step hb⟩
theorem ok_drawn {P : Program} {f : FuncId} {args : Array Value} {r : Value} {w0 w : World} (hk : Ok w0 w) (h : Good w → Calls P f args w fun e w' => e = .returned r ∧ Drawn0 w w') :
    Calls P f args w fun e w' => e = .returned r ∧ Ok w0 w' := (h hk.good).mono fun _ _ ⟨he, hb⟩ => ⟨he, hk.step hb.below⟩

end Go.Proofs.YtnppnogmpoigkaaDoor
