/-
  DERIVED. GIVEN WITH THE SEED: THE CARDS: each row of YtcfbmeljjmhdpaaDoorRows.lean that lists a variable, with what it lists TIED to the program's text (the seventh form; the later family's looks); each row that meets fmt, with fmt's text TOLD by the authors' own Lean function (tested against real Go, not proved from fmt's source: count such statements apart). THE CARD IS WHAT COUNTS. Prove the row's statement (the work); the ties are given (YtcfbmeljjmhdpaaDoorTie.lean); close each card by the builder's one call (the guide's Derived/Test/ToyasCard.lean, 'card_holds'). Laid BY PROGRAM, IN A SANDBOX (cutbox-door.mjs). By AI agents, Wed Nov 11 2026. No macro, syntax, notation, axiom, sorry.
-/
import Derived.Test.YtcfbmeljjmhdpaaDoorRows
import GoSem.ClaimSeven
namespace Go.Proofs.YtcfbmeljjmhdpaaDoor
namespace Rows

/-- THE TIED CARD OF 'postmarklaw01.AsciiTwice'. -/
def asciiTwiceCard : Claim7 := { stood := { row := asciiTwiceRow, standIns := [], harness := (true, "de8a09edda70253035409e2574ed69c65eb57455cabc85f1c101c548b7c4af2a"), looks := true }, kinds := [], alts := [], laidByText := true, laidKinds := [.data, .pinned], laidTests := true, laidLooks := .later }
def AsciiTwiceCardSaid : Prop := Claim7.holds Tryd.pinned (.plain (OpenSpec.ofChange asciiTwiceSpec)) asciiTwiceCard

/-- THE TIED CARD OF 'postmarklaw01.AsciiLower'. -/
def asciiLowerCard : Claim7 := { stood := { row := asciiLowerRow, standIns := [], harness := (true, "de8a09edda70253035409e2574ed69c65eb57455cabc85f1c101c548b7c4af2a"), looks := true }, kinds := [], alts := [], laidByText := true, laidKinds := [.data, .pinned], laidTests := true, laidLooks := .later }
def AsciiLowerCardSaid : Prop := Claim7.holds Tryd.pinned (.plain (OpenSpec.ofChange asciiLowerSpec)) asciiLowerCard

/-- THE TIED CARD OF 'postmarklaw01.AsciiTrim'. -/
def asciiTrimCard : Claim7 := { stood := { row := asciiTrimRow, standIns := [], harness := (true, "de8a09edda70253035409e2574ed69c65eb57455cabc85f1c101c548b7c4af2a"), looks := true }, kinds := [], alts := [], laidByText := true, laidKinds := [.data, .pinned], laidTests := true, laidLooks := .later }
def AsciiTrimCardSaid : Prop := Claim7.holds Tryd.pinned (.plain (OpenSpec.ofChange asciiTrimSpec)) asciiTrimCard

/-- THE TIED CARD OF 'postmarklaw01.AsciiHex'. -/
def asciiHexCard : Claim7 := { stood := { row := asciiHexRow, standIns := [], harness := (true, "de8a09edda70253035409e2574ed69c65eb57455cabc85f1c101c548b7c4af2a"), looks := true }, kinds := [], alts := [], laidByText := true, laidKinds := [.data, .pinned], laidTests := true, laidLooks := .later }
def AsciiHexCardSaid : Prop := Claim7.holds Tryd.pinned (.plain (OpenSpec.ofChange asciiHexSpec)) asciiHexCard

/-- THE TIED CARD OF 'postmarklaw01.AsciiClean'. -/
def asciiCleanCard : Claim7 := { stood := { row := asciiCleanRow, standIns := [], harness := (true, "de8a09edda70253035409e2574ed69c65eb57455cabc85f1c101c548b7c4af2a"), looks := true }, kinds := [], alts := [], laidByText := true, laidKinds := [.data, .pinned], laidTests := true, laidLooks := .later }
def AsciiCleanCardSaid : Prop := Claim7.holds Tryd.pinned (.plain (OpenSpec.ofChange asciiCleanSpec)) asciiCleanCard

/-- THE SECOND FORM's CARD OF 'postmarklaw01.AsciiTwice'. -/
def asciiTwiceUptoCard : Claim7 := { stood := { row := asciiTwiceUptoRow, standIns := [], harness := (true, "de8a09edda70253035409e2574ed69c65eb57455cabc85f1c101c548b7c4af2a"), looks := true }, kinds := [], alts := [], laidByText := true, laidKinds := [.data, .pinned], laidTests := true, laidLooks := .later }
def AsciiTwiceUptoCardSaid : Prop := Claim7.holds Tryd.pinned (.plain (OpenSpec.upto asciiTwiceSpec)) asciiTwiceUptoCard

/-- THE SECOND FORM's CARD OF 'postmarklaw01.AsciiLower'. -/
def asciiLowerUptoCard : Claim7 := { stood := { row := asciiLowerUptoRow, standIns := [], harness := (true, "de8a09edda70253035409e2574ed69c65eb57455cabc85f1c101c548b7c4af2a"), looks := true }, kinds := [], alts := [], laidByText := true, laidKinds := [.data, .pinned], laidTests := true, laidLooks := .later }
def AsciiLowerUptoCardSaid : Prop := Claim7.holds Tryd.pinned (.plain (OpenSpec.upto asciiLowerSpec)) asciiLowerUptoCard

/-- THE SECOND FORM's CARD OF 'postmarklaw01.AsciiTrim'. -/
def asciiTrimUptoCard : Claim7 := { stood := { row := asciiTrimUptoRow, standIns := [], harness := (true, "de8a09edda70253035409e2574ed69c65eb57455cabc85f1c101c548b7c4af2a"), looks := true }, kinds := [], alts := [], laidByText := true, laidKinds := [.data, .pinned], laidTests := true, laidLooks := .later }
def AsciiTrimUptoCardSaid : Prop := Claim7.holds Tryd.pinned (.plain (OpenSpec.upto asciiTrimSpec)) asciiTrimUptoCard

/-- THE SECOND FORM's CARD OF 'postmarklaw01.AsciiHex'. -/
def asciiHexUptoCard : Claim7 := { stood := { row := asciiHexUptoRow, standIns := [], harness := (true, "de8a09edda70253035409e2574ed69c65eb57455cabc85f1c101c548b7c4af2a"), looks := true }, kinds := [], alts := [], laidByText := true, laidKinds := [.data, .pinned], laidTests := true, laidLooks := .later }
def AsciiHexUptoCardSaid : Prop := Claim7.holds Tryd.pinned (.plain (OpenSpec.upto asciiHexSpec)) asciiHexUptoCard

/-- THE SECOND FORM's CARD OF 'postmarklaw01.AsciiClean'. -/
def asciiCleanUptoCard : Claim7 := { stood := { row := asciiCleanUptoRow, standIns := [], harness := (true, "de8a09edda70253035409e2574ed69c65eb57455cabc85f1c101c548b7c4af2a"), looks := true }, kinds := [], alts := [], laidByText := true, laidKinds := [.data, .pinned], laidTests := true, laidLooks := .later }
def AsciiCleanUptoCardSaid : Prop := Claim7.holds Tryd.pinned (.plain (OpenSpec.upto asciiCleanSpec)) asciiCleanUptoCard
end Rows
end Go.Proofs.YtcfbmeljjmhdpaaDoor
