/-
  DERIVED. GIVEN WITH THE SEED: THE CARDS: each row of YtcpjonglfnakpaaDoorRows.lean that lists a variable, with what it lists TIED to the program's text (the seventh form; the later family's looks); each row that meets fmt, with fmt's text TOLD by the authors' own Lean function (tested against real Go, not proved from fmt's source: count such statements apart). THE CARD IS WHAT COUNTS. Prove the row's statement (the work); the ties are given (YtcpjonglfnakpaaDoorTie.lean); close each card by the builder's one call (the guide's Derived/Test/ToyasCard.lean, 'card_holds'). Laid BY PROGRAM, IN A SANDBOX (cutbox-door.mjs). By AI agents, Wed Nov 11 2026. No macro, syntax, notation, axiom, sorry.
-/
import Derived.Test.YtcpjonglfnakpaaDoorRows
import GoSem.ClaimSeven
namespace Go.Proofs.YtcpjonglfnakpaaDoor
namespace Rows

/-- THE TIED CARD OF 'postmarklaw07.HostBack'. -/
def hostBackCard : Claim7 := { stood := { row := hostBackRow, standIns := [], harness := (true, "3984cbed28a8edd8171f22209cc40333da50720a4d42d55a939e1e64249dcd47"), looks := true }, kinds := [], alts := [], laidByText := true, laidKinds := [.data, .pinned], laidTests := true, laidLooks := .later }
def HostBackCardSaid : Prop := Claim7.holds Tryd.pinned (.plain (OpenSpec.ofChange hostBackSpec)) hostBackCard

/-- THE TIED CARD OF 'postmarklaw07.HostApart'. -/
def hostApartCard : Claim7 := { stood := { row := hostApartRow, standIns := [], harness := (true, "3984cbed28a8edd8171f22209cc40333da50720a4d42d55a939e1e64249dcd47"), looks := true }, kinds := [], alts := [], laidByText := true, laidKinds := [.data, .pinned], laidTests := true, laidLooks := .later }
def HostApartCardSaid : Prop := Claim7.holds Tryd.pinned (.plain (OpenSpec.ofChange hostApartSpec)) hostApartCard

/-- THE TIED CARD OF 'postmarklaw07.HostCase'. -/
def hostCaseCard : Claim7 := { stood := { row := hostCaseRow, standIns := [], harness := (true, "3984cbed28a8edd8171f22209cc40333da50720a4d42d55a939e1e64249dcd47"), looks := true }, kinds := [], alts := [], laidByText := true, laidKinds := [.data, .pinned], laidTests := true, laidLooks := .later }
def HostCaseCardSaid : Prop := Claim7.holds Tryd.pinned (.plain (OpenSpec.ofChange hostCaseSpec)) hostCaseCard

/-- THE TIED CARD OF 'postmarklaw07.HostKinds'. -/
def hostKindsCard : Claim7 := { stood := { row := hostKindsRow, standIns := [], harness := (true, "3984cbed28a8edd8171f22209cc40333da50720a4d42d55a939e1e64249dcd47"), looks := true }, kinds := [], alts := [], laidByText := true, laidKinds := [.data, .pinned], laidTests := true, laidLooks := .later }
def HostKindsCardSaid : Prop := Claim7.holds Tryd.pinned (.plain (OpenSpec.ofChange hostKindsSpec)) hostKindsCard

/-- THE TIED CARD OF 'postmarklaw07.HostLocal'. -/
def hostLocalCard : Claim7 := { stood := { row := hostLocalRow, standIns := [], harness := (true, "3984cbed28a8edd8171f22209cc40333da50720a4d42d55a939e1e64249dcd47"), looks := true }, kinds := [], alts := [], laidByText := true, laidKinds := [.data, .pinned], laidTests := true, laidLooks := .later }
def HostLocalCardSaid : Prop := Claim7.holds Tryd.pinned (.plain (OpenSpec.ofChange hostLocalSpec)) hostLocalCard

/-- THE SECOND FORM's CARD OF 'postmarklaw07.HostBack'. -/
def hostBackUptoCard : Claim7 := { stood := { row := hostBackUptoRow, standIns := [], harness := (true, "3984cbed28a8edd8171f22209cc40333da50720a4d42d55a939e1e64249dcd47"), looks := true }, kinds := [], alts := [], laidByText := true, laidKinds := [.data, .pinned], laidTests := true, laidLooks := .later }
def HostBackUptoCardSaid : Prop := Claim7.holds Tryd.pinned (.plain (OpenSpec.upto hostBackSpec)) hostBackUptoCard

/-- THE SECOND FORM's CARD OF 'postmarklaw07.HostApart'. -/
def hostApartUptoCard : Claim7 := { stood := { row := hostApartUptoRow, standIns := [], harness := (true, "3984cbed28a8edd8171f22209cc40333da50720a4d42d55a939e1e64249dcd47"), looks := true }, kinds := [], alts := [], laidByText := true, laidKinds := [.data, .pinned], laidTests := true, laidLooks := .later }
def HostApartUptoCardSaid : Prop := Claim7.holds Tryd.pinned (.plain (OpenSpec.upto hostApartSpec)) hostApartUptoCard

/-- THE SECOND FORM's CARD OF 'postmarklaw07.HostCase'. -/
def hostCaseUptoCard : Claim7 := { stood := { row := hostCaseUptoRow, standIns := [], harness := (true, "3984cbed28a8edd8171f22209cc40333da50720a4d42d55a939e1e64249dcd47"), looks := true }, kinds := [], alts := [], laidByText := true, laidKinds := [.data, .pinned], laidTests := true, laidLooks := .later }
def HostCaseUptoCardSaid : Prop := Claim7.holds Tryd.pinned (.plain (OpenSpec.upto hostCaseSpec)) hostCaseUptoCard

/-- THE SECOND FORM's CARD OF 'postmarklaw07.HostKinds'. -/
def hostKindsUptoCard : Claim7 := { stood := { row := hostKindsUptoRow, standIns := [], harness := (true, "3984cbed28a8edd8171f22209cc40333da50720a4d42d55a939e1e64249dcd47"), looks := true }, kinds := [], alts := [], laidByText := true, laidKinds := [.data, .pinned], laidTests := true, laidLooks := .later }
def HostKindsUptoCardSaid : Prop := Claim7.holds Tryd.pinned (.plain (OpenSpec.upto hostKindsSpec)) hostKindsUptoCard

/-- THE SECOND FORM's CARD OF 'postmarklaw07.HostLocal'. -/
def hostLocalUptoCard : Claim7 := { stood := { row := hostLocalUptoRow, standIns := [], harness := (true, "3984cbed28a8edd8171f22209cc40333da50720a4d42d55a939e1e64249dcd47"), looks := true }, kinds := [], alts := [], laidByText := true, laidKinds := [.data, .pinned], laidTests := true, laidLooks := .later }
def HostLocalUptoCardSaid : Prop := Claim7.holds Tryd.pinned (.plain (OpenSpec.upto hostLocalSpec)) hostLocalUptoCard
end Rows
end Go.Proofs.YtcpjonglfnakpaaDoor
