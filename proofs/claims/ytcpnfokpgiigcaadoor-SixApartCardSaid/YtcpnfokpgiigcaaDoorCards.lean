/-
  DERIVED. GIVEN WITH THE SEED: THE CARDS: each row of YtcpnfokpgiigcaaDoorRows.lean that lists a variable, with what it lists TIED to the program's text (the seventh form; the later family's looks); each row that meets fmt, with fmt's text TOLD by the authors' own Lean function (tested against real Go, not proved from fmt's source: count such statements apart). THE CARD IS WHAT COUNTS. Prove the row's statement (the work); the ties are given (YtcpnfokpgiigcaaDoorTie.lean); close each card by the builder's one call (the guide's Derived/Test/ToyasCard.lean, 'card_holds'). Laid BY PROGRAM, IN A SANDBOX (cutbox-door.mjs). By AI agents, Wed Nov 11 2026. No macro, syntax, notation, axiom, sorry.
-/
import Derived.Test.YtcpnfokpgiigcaaDoorRows
import GoSem.ClaimSeven
namespace Go.Proofs.YtcpnfokpgiigcaaDoor
namespace Rows

/-- THE TIED CARD OF 'postmarklaw05.FourTells'. -/
def fourTellsCard : Claim7 := { stood := { row := fourTellsRow, standIns := [], harness := (true, "795a26496db17c79071c6a42637dd3922684ae3138d4fffe1953e9a3f40bd7a6"), looks := false }, kinds := [], alts := [], laidByText := true, laidKinds := [.data, .pinned], laidTests := true, laidLooks := .later }
def FourTellsCardSaid : Prop := Claim7.holds Tryd.pinned (.plain (OpenSpec.ofChange fourTellsSpec)) fourTellsCard

/-- THE TIED CARD OF 'postmarklaw05.FourBack'. -/
def fourBackCard : Claim7 := { stood := { row := fourBackRow, standIns := [], harness := (true, "795a26496db17c79071c6a42637dd3922684ae3138d4fffe1953e9a3f40bd7a6"), looks := false }, kinds := [], alts := [], laidByText := true, laidKinds := [.data, .pinned], laidTests := true, laidLooks := .later }
def FourBackCardSaid : Prop := Claim7.holds Tryd.pinned (.plain (OpenSpec.ofChange fourBackSpec)) fourBackCard

/-- THE TIED CARD OF 'postmarklaw05.FourParts'. -/
def fourPartsCard : Claim7 := { stood := { row := fourPartsRow, standIns := [], harness := (true, "795a26496db17c79071c6a42637dd3922684ae3138d4fffe1953e9a3f40bd7a6"), looks := false }, kinds := [], alts := [], laidByText := true, laidKinds := [.data, .pinned], laidTests := true, laidLooks := .later }
def FourPartsCardSaid : Prop := Claim7.holds Tryd.pinned (.plain (OpenSpec.ofChange fourPartsSpec)) fourPartsCard

/-- THE TIED CARD OF 'postmarklaw05.FourLooks'. -/
def fourLooksCard : Claim7 := { stood := { row := fourLooksRow, standIns := [], harness := (true, "795a26496db17c79071c6a42637dd3922684ae3138d4fffe1953e9a3f40bd7a6"), looks := false }, kinds := [], alts := [], laidByText := true, laidKinds := [.data, .pinned], laidTests := true, laidLooks := .later }
def FourLooksCardSaid : Prop := Claim7.holds Tryd.pinned (.plain (OpenSpec.ofChange fourLooksSpec)) fourLooksCard

/-- THE TIED CARD OF 'postmarklaw05.FourOrder'. -/
def fourOrderCard : Claim7 := { stood := { row := fourOrderRow, standIns := [], harness := (true, "795a26496db17c79071c6a42637dd3922684ae3138d4fffe1953e9a3f40bd7a6"), looks := false }, kinds := [], alts := [], laidByText := true, laidKinds := [.data, .pinned], laidTests := true, laidLooks := .later }
def FourOrderCardSaid : Prop := Claim7.holds Tryd.pinned (.plain (OpenSpec.ofChange fourOrderSpec)) fourOrderCard

/-- THE TIED CARD OF 'postmarklaw06.SixTells'. -/
def sixTellsCard : Claim7 := { stood := { row := sixTellsRow, standIns := [], harness := (true, "795a26496db17c79071c6a42637dd3922684ae3138d4fffe1953e9a3f40bd7a6"), looks := false }, kinds := [], alts := [], laidByText := true, laidKinds := [.data, .pinned], laidTests := true, laidLooks := .later }
def SixTellsCardSaid : Prop := Claim7.holds Tryd.pinned (.plain (OpenSpec.ofChange sixTellsSpec)) sixTellsCard

/-- THE TIED CARD OF 'postmarklaw06.SixBack'. -/
def sixBackCard : Claim7 := { stood := { row := sixBackRow, standIns := [], harness := (true, "795a26496db17c79071c6a42637dd3922684ae3138d4fffe1953e9a3f40bd7a6"), looks := false }, kinds := [], alts := [], laidByText := true, laidKinds := [.data, .pinned], laidTests := true, laidLooks := .later }
def SixBackCardSaid : Prop := Claim7.holds Tryd.pinned (.plain (OpenSpec.ofChange sixBackSpec)) sixBackCard

/-- THE TIED CARD OF 'postmarklaw06.SixApart'. -/
def sixApartCard : Claim7 := { stood := { row := sixApartRow, standIns := [], harness := (true, "795a26496db17c79071c6a42637dd3922684ae3138d4fffe1953e9a3f40bd7a6"), looks := false }, kinds := [], alts := [], laidByText := true, laidKinds := [.data, .pinned], laidTests := true, laidLooks := .later }
def SixApartCardSaid : Prop := Claim7.holds Tryd.pinned (.plain (OpenSpec.ofChange sixApartSpec)) sixApartCard

/-- THE TIED CARD OF 'postmarklaw06.SixRun'. -/
def sixRunCard : Claim7 := { stood := { row := sixRunRow, standIns := [], harness := (true, "795a26496db17c79071c6a42637dd3922684ae3138d4fffe1953e9a3f40bd7a6"), looks := false }, kinds := [], alts := [], laidByText := true, laidKinds := [.data, .pinned], laidTests := true, laidLooks := .later }
def SixRunCardSaid : Prop := Claim7.holds Tryd.pinned (.plain (OpenSpec.ofChange sixRunSpec)) sixRunCard

/-- THE TIED CARD OF 'postmarklaw06.SixZeros'. -/
def sixZerosCard : Claim7 := { stood := { row := sixZerosRow, standIns := [], harness := (true, "795a26496db17c79071c6a42637dd3922684ae3138d4fffe1953e9a3f40bd7a6"), looks := false }, kinds := [], alts := [], laidByText := true, laidKinds := [.data, .pinned], laidTests := true, laidLooks := .later }
def SixZerosCardSaid : Prop := Claim7.holds Tryd.pinned (.plain (OpenSpec.ofChange sixZerosSpec)) sixZerosCard

/-- THE TIED CARD OF 'postmarklaw06.SixMay'. -/
def sixMayCard : Claim7 := { stood := { row := sixMayRow, standIns := [], harness := (true, "795a26496db17c79071c6a42637dd3922684ae3138d4fffe1953e9a3f40bd7a6"), looks := false }, kinds := [], alts := [], laidByText := true, laidKinds := [.data, .pinned], laidTests := true, laidLooks := .later }
def SixMayCardSaid : Prop := Claim7.holds Tryd.pinned (.plain (OpenSpec.ofChange sixMaySpec)) sixMayCard

/-- THE SECOND FORM's CARD OF 'postmarklaw05.FourTells'. -/
def fourTellsUptoCard : Claim7 := { stood := { row := fourTellsUptoRow, standIns := [], harness := (true, "795a26496db17c79071c6a42637dd3922684ae3138d4fffe1953e9a3f40bd7a6"), looks := false }, kinds := [], alts := [], laidByText := true, laidKinds := [.data, .pinned], laidTests := true, laidLooks := .later }
def FourTellsUptoCardSaid : Prop := Claim7.holds Tryd.pinned (.plain (OpenSpec.upto fourTellsSpec)) fourTellsUptoCard

/-- THE SECOND FORM's CARD OF 'postmarklaw05.FourBack'. -/
def fourBackUptoCard : Claim7 := { stood := { row := fourBackUptoRow, standIns := [], harness := (true, "795a26496db17c79071c6a42637dd3922684ae3138d4fffe1953e9a3f40bd7a6"), looks := false }, kinds := [], alts := [], laidByText := true, laidKinds := [.data, .pinned], laidTests := true, laidLooks := .later }
def FourBackUptoCardSaid : Prop := Claim7.holds Tryd.pinned (.plain (OpenSpec.upto fourBackSpec)) fourBackUptoCard

/-- THE SECOND FORM's CARD OF 'postmarklaw05.FourParts'. -/
def fourPartsUptoCard : Claim7 := { stood := { row := fourPartsUptoRow, standIns := [], harness := (true, "795a26496db17c79071c6a42637dd3922684ae3138d4fffe1953e9a3f40bd7a6"), looks := false }, kinds := [], alts := [], laidByText := true, laidKinds := [.data, .pinned], laidTests := true, laidLooks := .later }
def FourPartsUptoCardSaid : Prop := Claim7.holds Tryd.pinned (.plain (OpenSpec.upto fourPartsSpec)) fourPartsUptoCard

/-- THE SECOND FORM's CARD OF 'postmarklaw05.FourLooks'. -/
def fourLooksUptoCard : Claim7 := { stood := { row := fourLooksUptoRow, standIns := [], harness := (true, "795a26496db17c79071c6a42637dd3922684ae3138d4fffe1953e9a3f40bd7a6"), looks := false }, kinds := [], alts := [], laidByText := true, laidKinds := [.data, .pinned], laidTests := true, laidLooks := .later }
def FourLooksUptoCardSaid : Prop := Claim7.holds Tryd.pinned (.plain (OpenSpec.upto fourLooksSpec)) fourLooksUptoCard

/-- THE SECOND FORM's CARD OF 'postmarklaw05.FourOrder'. -/
def fourOrderUptoCard : Claim7 := { stood := { row := fourOrderUptoRow, standIns := [], harness := (true, "795a26496db17c79071c6a42637dd3922684ae3138d4fffe1953e9a3f40bd7a6"), looks := false }, kinds := [], alts := [], laidByText := true, laidKinds := [.data, .pinned], laidTests := true, laidLooks := .later }
def FourOrderUptoCardSaid : Prop := Claim7.holds Tryd.pinned (.plain (OpenSpec.upto fourOrderSpec)) fourOrderUptoCard

/-- THE SECOND FORM's CARD OF 'postmarklaw06.SixTells'. -/
def sixTellsUptoCard : Claim7 := { stood := { row := sixTellsUptoRow, standIns := [], harness := (true, "795a26496db17c79071c6a42637dd3922684ae3138d4fffe1953e9a3f40bd7a6"), looks := false }, kinds := [], alts := [], laidByText := true, laidKinds := [.data, .pinned], laidTests := true, laidLooks := .later }
def SixTellsUptoCardSaid : Prop := Claim7.holds Tryd.pinned (.plain (OpenSpec.upto sixTellsSpec)) sixTellsUptoCard

/-- THE SECOND FORM's CARD OF 'postmarklaw06.SixBack'. -/
def sixBackUptoCard : Claim7 := { stood := { row := sixBackUptoRow, standIns := [], harness := (true, "795a26496db17c79071c6a42637dd3922684ae3138d4fffe1953e9a3f40bd7a6"), looks := false }, kinds := [], alts := [], laidByText := true, laidKinds := [.data, .pinned], laidTests := true, laidLooks := .later }
def SixBackUptoCardSaid : Prop := Claim7.holds Tryd.pinned (.plain (OpenSpec.upto sixBackSpec)) sixBackUptoCard

/-- THE SECOND FORM's CARD OF 'postmarklaw06.SixApart'. -/
def sixApartUptoCard : Claim7 := { stood := { row := sixApartUptoRow, standIns := [], harness := (true, "795a26496db17c79071c6a42637dd3922684ae3138d4fffe1953e9a3f40bd7a6"), looks := false }, kinds := [], alts := [], laidByText := true, laidKinds := [.data, .pinned], laidTests := true, laidLooks := .later }
def SixApartUptoCardSaid : Prop := Claim7.holds Tryd.pinned (.plain (OpenSpec.upto sixApartSpec)) sixApartUptoCard

/-- THE SECOND FORM's CARD OF 'postmarklaw06.SixRun'. -/
def sixRunUptoCard : Claim7 := { stood := { row := sixRunUptoRow, standIns := [], harness := (true, "795a26496db17c79071c6a42637dd3922684ae3138d4fffe1953e9a3f40bd7a6"), looks := false }, kinds := [], alts := [], laidByText := true, laidKinds := [.data, .pinned], laidTests := true, laidLooks := .later }
def SixRunUptoCardSaid : Prop := Claim7.holds Tryd.pinned (.plain (OpenSpec.upto sixRunSpec)) sixRunUptoCard

/-- THE SECOND FORM's CARD OF 'postmarklaw06.SixZeros'. -/
def sixZerosUptoCard : Claim7 := { stood := { row := sixZerosUptoRow, standIns := [], harness := (true, "795a26496db17c79071c6a42637dd3922684ae3138d4fffe1953e9a3f40bd7a6"), looks := false }, kinds := [], alts := [], laidByText := true, laidKinds := [.data, .pinned], laidTests := true, laidLooks := .later }
def SixZerosUptoCardSaid : Prop := Claim7.holds Tryd.pinned (.plain (OpenSpec.upto sixZerosSpec)) sixZerosUptoCard

/-- THE SECOND FORM's CARD OF 'postmarklaw06.SixMay'. -/
def sixMayUptoCard : Claim7 := { stood := { row := sixMayUptoRow, standIns := [], harness := (true, "795a26496db17c79071c6a42637dd3922684ae3138d4fffe1953e9a3f40bd7a6"), looks := false }, kinds := [], alts := [], laidByText := true, laidKinds := [.data, .pinned], laidTests := true, laidLooks := .later }
def SixMayUptoCardSaid : Prop := Claim7.holds Tryd.pinned (.plain (OpenSpec.upto sixMaySpec)) sixMayUptoCard
end Rows
end Go.Proofs.YtcpnfokpgiigcaaDoor
