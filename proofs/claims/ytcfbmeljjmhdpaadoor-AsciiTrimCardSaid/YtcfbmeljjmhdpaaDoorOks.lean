/- A region that draws its order, whose calls make memory and turn nothing that lay: one walk of the text's order serves. -/
import Derived.Test.YtcfbmeljjmhdpaaDoorGood
import Derived.Deep.QuietTactic
import Derived.BigQuiet
namespace Go.Proofs.YtcfbmeljjmhdpaaDoor
open Go.RowKit

/-- The worlds that can come up behind w0: nothing that lay in it has turned. -/
structure Oks (w0 : World) where
  W : World
  ok : Ok w0 W
theorem wp_region_oks {P : Program} {id : Nat} {Q : Exit → Act → World → Prop} {a : Act} {w0 w : World} {l : List Oper} (hm : P.follows .mixedOrders = true) (hB : Region.lexB .any l.toArray = true) (hk : Ok w0 w)
    (h : Nonempty (Oks w0) → wpQuiet P l.toArray (fun w' => ∃ x : Oks w0, w' = x.W) (fun a' => ∀ w', (∃ x : Oks w0, w' = x.W) → Q .normal a' w') l a) : (Code.region id l.toArray true).wp P Q a w :=
  wp_region_quiet (C := fun w' => ∃ x : Oks w0, w' = x.W) hm hB ⟨⟨_, hk.drew⟩, rfl⟩ (by simpa using h ⟨⟨_, hk⟩⟩)
theorem quiet_ok {P : Program} {f : FuncId} {args : Array Value} {w0 W : World} {v : Value} (h : Calls P f args W fun e w' => e = .returned v ∧ Ok w0 w') :
    Calls P f args W fun e w'' => e = .returned v ∧ ∃ y : Oks w0, w'' = y.W := h.mono fun _ _ ⟨he, hk⟩ => ⟨he, ⟨_, hk⟩, rfl⟩
theorem quiet_same {P : Program} {f : FuncId} {args : Array Value} {w0 : World} {x : Oks w0} {v : Value} (h : Calls P f args x.W fun e w' => e = .returned v ∧ w' = x.W) :
    Calls P f args x.W fun e w'' => e = .returned v ∧ ∃ y : Oks w0, w'' = y.W := h.mono fun _ _ ⟨he, hk⟩ => ⟨he, x, hk⟩

end Go.Proofs.YtcfbmeljjmhdpaaDoor
