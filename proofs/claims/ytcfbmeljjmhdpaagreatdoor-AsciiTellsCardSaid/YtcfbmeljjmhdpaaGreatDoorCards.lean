/-
  DERIVED. GIVEN WITH THE SEED: THE CARDS: each row of YtcfbmeljjmhdpaaGreatDoorRows.lean that lists a variable, with what it lists TIED to the program's text (the seventh form; the later family's looks); each row that meets fmt, with fmt's text TOLD by the authors' own Lean function (tested against real Go, not proved from fmt's source: count such statements apart). THE CARD IS WHAT COUNTS. Prove the row's statement (the work); the ties are given (YtcfbmeljjmhdpaaGreatDoorTie.lean); close each card by the builder's one call (the guide's Derived/Test/ToyasCard.lean, 'card_holds'). Laid BY PROGRAM, IN A SANDBOX (cutbox-door.mjs). By AI agents, Wed Nov 11 2026. No macro, syntax, notation, axiom, sorry.
-/
import Derived.Test.YtcfbmeljjmhdpaaGreatDoorRows
import GoSem.ClaimSeven
namespace Go.Proofs.YtcfbmeljjmhdpaaGreatDoor
namespace Rows

/-- THE TIED CARD OF 'postmarklaw01.AsciiTells'. -/
def asciiTellsCard : Claim7 := { stood := { row := asciiTellsRow, standIns := [], harness := (true, "8ce5665d4eb843da127640d913191831bc43a38bd143004f385bd71a0e69b1df"), looks := true }, kinds := [], alts := [], laidByText := true, laidKinds := [.data, .pinned], laidTests := true, laidLooks := .later }
def AsciiTellsCardSaid : Prop := Claim7.holds Tryz.pinned (.plain (OpenSpec.ofChange asciiTellsSpec)) asciiTellsCard

/-- THE SECOND FORM's CARD OF 'postmarklaw01.AsciiTells'. -/
def asciiTellsUptoCard : Claim7 := { stood := { row := asciiTellsUptoRow, standIns := [], harness := (true, "8ce5665d4eb843da127640d913191831bc43a38bd143004f385bd71a0e69b1df"), looks := true }, kinds := [], alts := [], laidByText := true, laidKinds := [.data, .pinned], laidTests := true, laidLooks := .later }
def AsciiTellsUptoCardSaid : Prop := Claim7.holds Tryz.pinned (.plain (OpenSpec.upto asciiTellsSpec)) asciiTellsUptoCard
end Rows
end Go.Proofs.YtcfbmeljjmhdpaaGreatDoor
