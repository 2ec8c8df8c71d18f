/-
  DERIVED. GIVEN WITH THE SEED: THE CARDS: each row of YtgbjofahmkeapaaDoorRows.lean that lists a variable, with what it lists TIED to the program's text (the seventh form; the later family's looks); each row that meets fmt, with fmt's text TOLD by the authors' own Lean function (tested against real Go, not proved from fmt's source: count such statements apart). THE CARD IS WHAT COUNTS. Prove the row's statement (the work); the ties are given (YtgbjofahmkeapaaDoorTie.lean); close each card by the builder's one call (the guide's Derived/Test/ToyasCard.lean, 'card_holds'). Laid BY PROGRAM, IN A SANDBOX (cutbox-door.mjs). By AI agents, Wed Nov 11 2026. No macro, syntax, notation, axiom, sorry.
-/
import Derived.Test.YtgbjofahmkeapaaDoorRows
import GoSem.ClaimSeven
namespace Go.Proofs.YtgbjofahmkeapaaDoor
namespace Rows

/-- THE TIED CARD OF 'postmarklaw13.HeadTells'. -/
def headTellsCard : Claim7 := { stood := { row := headTellsRow, standIns := [], harness := (true, "a5f4eefd0981ee446971256ffb5e0cef275e718b64f4d3dd3b99e1aa9dc72556"), looks := false }, kinds := [], alts := [], laidByText := true, laidKinds := [.data, .pinned], laidTests := true, laidLooks := .later }
def HeadTellsCardSaid : Prop := Claim7.holds Tryd.pinned (.plain (OpenSpec.ofChange headTellsSpec)) headTellsCard

/-- THE TIED CARD OF 'postmarklaw13.HeadSet'. -/
def headSetCard : Claim7 := { stood := { row := headSetRow, standIns := [], harness := (true, "a5f4eefd0981ee446971256ffb5e0cef275e718b64f4d3dd3b99e1aa9dc72556"), looks := false }, kinds := [], alts := [], laidByText := true, laidKinds := [.data, .pinned], laidTests := true, laidLooks := .later }
def HeadSetCardSaid : Prop := Claim7.holds Tryd.pinned (.plain (OpenSpec.ofChange headSetSpec)) headSetCard

/-- THE TIED CARD OF 'postmarklaw13.HeadDrop'. -/
def headDropCard : Claim7 := { stood := { row := headDropRow, standIns := [], harness := (true, "a5f4eefd0981ee446971256ffb5e0cef275e718b64f4d3dd3b99e1aa9dc72556"), looks := false }, kinds := [], alts := [], laidByText := true, laidKinds := [.data, .pinned], laidTests := true, laidLooks := .later }
def HeadDropCardSaid : Prop := Claim7.holds Tryd.pinned (.plain (OpenSpec.ofChange headDropSpec)) headDropCard

/-- THE TIED CARD OF 'postmarklaw13.HeadParse'. -/
def headParseCard : Claim7 := { stood := { row := headParseRow, standIns := [], harness := (true, "a5f4eefd0981ee446971256ffb5e0cef275e718b64f4d3dd3b99e1aa9dc72556"), looks := false }, kinds := [], alts := [], laidByText := true, laidKinds := [.data, .pinned], laidTests := true, laidLooks := .later }
def HeadParseCardSaid : Prop := Claim7.holds Tryd.pinned (.plain (OpenSpec.ofChange headParseSpec)) headParseCard

/-- THE TIED CARD OF 'postmarklaw13.HeadGet'. -/
def headGetCard : Claim7 := { stood := { row := headGetRow, standIns := [], harness := (true, "a5f4eefd0981ee446971256ffb5e0cef275e718b64f4d3dd3b99e1aa9dc72556"), looks := false }, kinds := [], alts := [], laidByText := true, laidKinds := [.data, .pinned], laidTests := true, laidLooks := .later }
def HeadGetCardSaid : Prop := Claim7.holds Tryd.pinned (.plain (OpenSpec.ofChange headGetSpec)) headGetCard

/-- THE TIED CARD OF 'postmarklaw13.HeadName'. -/
def headNameCard : Claim7 := { stood := { row := headNameRow, standIns := [], harness := (true, "a5f4eefd0981ee446971256ffb5e0cef275e718b64f4d3dd3b99e1aa9dc72556"), looks := false }, kinds := [], alts := [], laidByText := true, laidKinds := [.data, .pinned], laidTests := true, laidLooks := .later }
def HeadNameCardSaid : Prop := Claim7.holds Tryd.pinned (.plain (OpenSpec.ofChange headNameSpec)) headNameCard

/-- THE TIED CARD OF 'postmarklaw13.HeadSame'. -/
def headSameCard : Claim7 := { stood := { row := headSameRow, standIns := [], harness := (true, "a5f4eefd0981ee446971256ffb5e0cef275e718b64f4d3dd3b99e1aa9dc72556"), looks := false }, kinds := [], alts := [], laidByText := true, laidKinds := [.data, .pinned], laidTests := true, laidLooks := .later }
def HeadSameCardSaid : Prop := Claim7.holds Tryd.pinned (.plain (OpenSpec.ofChange headSameSpec)) headSameCard

/-- THE SECOND FORM's CARD OF 'postmarklaw13.HeadTells'. -/
def headTellsUptoCard : Claim7 := { stood := { row := headTellsUptoRow, standIns := [], harness := (true, "a5f4eefd0981ee446971256ffb5e0cef275e718b64f4d3dd3b99e1aa9dc72556"), looks := false }, kinds := [], alts := [], laidByText := true, laidKinds := [.data, .pinned], laidTests := true, laidLooks := .later }
def HeadTellsUptoCardSaid : Prop := Claim7.holds Tryd.pinned (.plain (OpenSpec.upto headTellsSpec)) headTellsUptoCard

/-- THE SECOND FORM's CARD OF 'postmarklaw13.HeadSet'. -/
def headSetUptoCard : Claim7 := { stood := { row := headSetUptoRow, standIns := [], harness := (true, "a5f4eefd0981ee446971256ffb5e0cef275e718b64f4d3dd3b99e1aa9dc72556"), looks := false }, kinds := [], alts := [], laidByText := true, laidKinds := [.data, .pinned], laidTests := true, laidLooks := .later }
def HeadSetUptoCardSaid : Prop := Claim7.holds Tryd.pinned (.plain (OpenSpec.upto headSetSpec)) headSetUptoCard

/-- THE SECOND FORM's CARD OF 'postmarklaw13.HeadDrop'. -/
def headDropUptoCard : Claim7 := { stood := { row := headDropUptoRow, standIns := [], harness := (true, "a5f4eefd0981ee446971256ffb5e0cef275e718b64f4d3dd3b99e1aa9dc72556"), looks := false }, kinds := [], alts := [], laidByText := true, laidKinds := [.data, .pinned], laidTests := true, laidLooks := .later }
def HeadDropUptoCardSaid : Prop := Claim7.holds Tryd.pinned (.plain (OpenSpec.upto headDropSpec)) headDropUptoCard

/-- THE SECOND FORM's CARD OF 'postmarklaw13.HeadParse'. -/
def headParseUptoCard : Claim7 := { stood := { row := headParseUptoRow, standIns := [], harness := (true, "a5f4eefd0981ee446971256ffb5e0cef275e718b64f4d3dd3b99e1aa9dc72556"), looks := false }, kinds := [], alts := [], laidByText := true, laidKinds := [.data, .pinned], laidTests := true, laidLooks := .later }
def HeadParseUptoCardSaid : Prop := Claim7.holds Tryd.pinned (.plain (OpenSpec.upto headParseSpec)) headParseUptoCard

/-- THE SECOND FORM's CARD OF 'postmarklaw13.HeadGet'. -/
def headGetUptoCard : Claim7 := { stood := { row := headGetUptoRow, standIns := [], harness := (true, "a5f4eefd0981ee446971256ffb5e0cef275e718b64f4d3dd3b99e1aa9dc72556"), looks := false }, kinds := [], alts := [], laidByText := true, laidKinds := [.data, .pinned], laidTests := true, laidLooks := .later }
def HeadGetUptoCardSaid : Prop := Claim7.holds Tryd.pinned (.plain (OpenSpec.upto headGetSpec)) headGetUptoCard

/-- THE SECOND FORM's CARD OF 'postmarklaw13.HeadName'. -/
def headNameUptoCard : Claim7 := { stood := { row := headNameUptoRow, standIns := [], harness := (true, "a5f4eefd0981ee446971256ffb5e0cef275e718b64f4d3dd3b99e1aa9dc72556"), looks := false }, kinds := [], alts := [], laidByText := true, laidKinds := [.data, .pinned], laidTests := true, laidLooks := .later }
def HeadNameUptoCardSaid : Prop := Claim7.holds Tryd.pinned (.plain (OpenSpec.upto headNameSpec)) headNameUptoCard

/-- THE SECOND FORM's CARD OF 'postmarklaw13.HeadSame'. -/
def headSameUptoCard : Claim7 := { stood := { row := headSameUptoRow, standIns := [], harness := (true, "a5f4eefd0981ee446971256ffb5e0cef275e718b64f4d3dd3b99e1aa9dc72556"), looks := false }, kinds := [], alts := [], laidByText := true, laidKinds := [.data, .pinned], laidTests := true, laidLooks := .later }
def HeadSameUptoCardSaid : Prop := Claim7.holds Tryd.pinned (.plain (OpenSpec.upto headSameSpec)) headSameUptoCard
end Rows
end Go.Proofs.YtgbjofahmkeapaaDoor
