/-
  NARROWER THAN 'FOR EVERY INPUT', by the rows' own cells (each row's printed sentence says how): FourTells: laid · FourBack: laid · FourParts: laid · FourLooks: laid · FourOrder: laid · SixTells: laid · SixBack: laid · SixApart: laid · SixRun: laid · SixZeros: laid · SixMay: laid.
  DERIVED. THE GIVEN ROWS OF THIS SEAT. 11 by the template 'for every input the law returns true; each argument reads behind the call as it read before'; 0 by the template 'total and deterministic' (their statements: YtcpnfokpgiigcaaDoorTotals.lean).
  GIVEN WITH THE SEED: the statements are not yours to turn. If you find one false, say at which input.
  Laid BY PROGRAM, IN A SANDBOX (cutbox-rows.mjs): the forced cells as the released guide's own fill.sh prints them over the translation 14eff6f6207ee333… (all of the seat's roots in one cut). By AI agents, Wed Nov 11 2026. No macro, syntax, notation, axiom, sorry.
-/
import Derived.Test.YtcpnfokpgiigcaaDoorChecked
import GoSem.PinnedTables
import GoSem.Claim
import GoSem.ClaimJoined
import GoSem.ClaimMapViews
import Derived.JoinedTies
import Derived.KernelRfl
namespace Go.Proofs.YtcpnfokpgiigcaaDoor
/- THE CELL 'sum', in the pinned program and in every row, IS THE sha256 OF THE DUMP (.gsa) THAT YtcpnfokpgiigcaaDoorProg.lean LOADS. Nothing in Lean hashes anything: it is a label: what it is worth is what the hold of that sum in a sandbox is worth. -/
noncomputable def Tryd.pinned : Pinned := { name := "ytcpnfokpgiigcaadoor", sum := "14eff6f6207ee333c1e87cccbe7dea4337b08817dde403ed7b2263f8f2d8b6f5", checked := Tryd.checked }
namespace Rows
def none {H : Type} : Left H := { results := [], args := [] }

/- WHAT THE LISTED PACKAGE-LEVEL VARIABLES READ AS WHEN THE CALL BEGINS. Each datum BY PROGRAM (the guide's laid-datum.mjs) off the statement by which the dump's own 'gosem.cut.vars' lays the variable. In a bare row this is a premise. The card (YtcpnfokpgiigcaaDoorCards.lean) ties it to the program's text. -/
def laid_unicode_utf8_acceptRanges {H : Type} : DataW H := .agg [.agg [.lit (.int .u8 128), .lit (.int .u8 191)], .agg [.lit (.int .u8 160), .lit (.int .u8 191)], .agg [.lit (.int .u8 128), .lit (.int .u8 159)], .agg [.lit (.int .u8 144), .lit (.int .u8 191)], .agg [.lit (.int .u8 128), .lit (.int .u8 143)], .agg [.lit (.int .u8 0), .lit (.int .u8 0)], .agg [.lit (.int .u8 0), .lit (.int .u8 0)], .agg [.lit (.int .u8 0), .lit (.int .u8 0)], .agg [.lit (.int .u8 0), .lit (.int .u8 0)], .agg [.lit (.int .u8 0), .lit (.int .u8 0)], .agg [.lit (.int .u8 0), .lit (.int .u8 0)], .agg [.lit (.int .u8 0), .lit (.int .u8 0)], .agg [.lit (.int .u8 0), .lit (.int .u8 0)], .agg [.lit (.int .u8 0), .lit (.int .u8 0)], .agg [.lit (.int .u8 0), .lit (.int .u8 0)], .agg [.lit (.int .u8 0), .lit (.int .u8 0)]]
/-- One of Go's own tables, pinned by name: the form's constant. -/
def laid_unicode_utf8_first : DataW Unit := Go.Pinned.utf8First

/-- 'postmarklaw05.FourTells': WHATEVER THE INPUT: true; the input reads as it did. -/
def fourTellsSpec : ChangeSpec := { name := "fourTells", fn := fun _ => fun
  | [d1, d2] => { results := [.lit (.bool true)], args := [d1, d2] }
  | _ => none }
def fourTellsRow : OpenClaim := { program := "ytcpnfokpgiigcaadoor", sum := "14eff6f6207ee333c1e87cccbe7dea4337b08817dde403ed7b2263f8f2d8b6f5", func := "postmark/postmarklaw05.FourTells", spec := "fourTells", inPlace := ["internal/bytealg.CountString", "internal/bytealg.IndexByteString", "internal/bytealg.IndexString", "internal/abi.NoEscape", "internal/bytealg.MakeNoZero"], unfollowed := true, recurses := true, named := ["unicode/utf8.first", "unicode/utf8.acceptRanges", "internal/bytealg.MaxLen"], apart := false, laid := [("unicode/utf8.acceptRanges", laid_unicode_utf8_acceptRanges), ("unicode/utf8.first", laid_unicode_utf8_first)] }
def FourTellsSaid : Prop := fourTellsRow.holds Tryd.pinned (OpenSpec.ofChange fourTellsSpec)

/-- ITS FALSE NEIGHBOUR: 'it returns false'. Refute it at one input. -/
def fourTellsWrong : ChangeSpec := { name := "fourTells", fn := fun _ => fun
  | [d1, d2] => { results := [.lit (.bool false)], args := [d1, d2] }
  | _ => none }
def FourTellsWrongFalsely : Prop := fourTellsRow.holds Tryd.pinned (OpenSpec.ofChange fourTellsWrong)

/-- 'postmarklaw05.FourBack': WHATEVER THE INPUT: true; the input reads as it did. -/
def fourBackSpec : ChangeSpec := { name := "fourBack", fn := fun _ => fun
  | [d1, d2, d3] => { results := [.lit (.bool true)], args := [d1, d2, d3] }
  | _ => none }
def fourBackRow : OpenClaim := { program := "ytcpnfokpgiigcaadoor", sum := "14eff6f6207ee333c1e87cccbe7dea4337b08817dde403ed7b2263f8f2d8b6f5", func := "postmark/postmarklaw05.FourBack", spec := "fourBack", inPlace := ["internal/bytealg.CountString", "internal/bytealg.IndexByteString", "internal/bytealg.IndexString", "internal/abi.NoEscape", "internal/bytealg.MakeNoZero"], unfollowed := true, recurses := true, named := ["unicode/utf8.first", "unicode/utf8.acceptRanges", "internal/bytealg.MaxLen"], apart := false, laid := [("unicode/utf8.acceptRanges", laid_unicode_utf8_acceptRanges), ("unicode/utf8.first", laid_unicode_utf8_first)] }
def FourBackSaid : Prop := fourBackRow.holds Tryd.pinned (OpenSpec.ofChange fourBackSpec)

/-- ITS FALSE NEIGHBOUR: 'it returns false'. Refute it at one input. -/
def fourBackWrong : ChangeSpec := { name := "fourBack", fn := fun _ => fun
  | [d1, d2, d3] => { results := [.lit (.bool false)], args := [d1, d2, d3] }
  | _ => none }
def FourBackWrongFalsely : Prop := fourBackRow.holds Tryd.pinned (OpenSpec.ofChange fourBackWrong)

/-- 'postmarklaw05.FourParts': WHATEVER THE INPUT: true; the input reads as it did. -/
def fourPartsSpec : ChangeSpec := { name := "fourParts", fn := fun _ => fun
  | [d1, d2, d3, d4] => { results := [.lit (.bool true)], args := [d1, d2, d3, d4] }
  | _ => none }
def fourPartsRow : OpenClaim := { program := "ytcpnfokpgiigcaadoor", sum := "14eff6f6207ee333c1e87cccbe7dea4337b08817dde403ed7b2263f8f2d8b6f5", func := "postmark/postmarklaw05.FourParts", spec := "fourParts", inPlace := ["internal/bytealg.CountString", "internal/bytealg.IndexByteString", "internal/bytealg.IndexString", "internal/abi.NoEscape", "internal/bytealg.MakeNoZero"], unfollowed := true, recurses := true, named := ["unicode/utf8.first", "unicode/utf8.acceptRanges", "internal/bytealg.MaxLen"], apart := false, laid := [("unicode/utf8.acceptRanges", laid_unicode_utf8_acceptRanges), ("unicode/utf8.first", laid_unicode_utf8_first)] }
def FourPartsSaid : Prop := fourPartsRow.holds Tryd.pinned (OpenSpec.ofChange fourPartsSpec)

/-- ITS FALSE NEIGHBOUR: 'it returns false'. Refute it at one input. -/
def fourPartsWrong : ChangeSpec := { name := "fourParts", fn := fun _ => fun
  | [d1, d2, d3, d4] => { results := [.lit (.bool false)], args := [d1, d2, d3, d4] }
  | _ => none }
def FourPartsWrongFalsely : Prop := fourPartsRow.holds Tryd.pinned (OpenSpec.ofChange fourPartsWrong)

/-- 'postmarklaw05.FourLooks': WHATEVER THE INPUT: true; the input reads as it did. -/
def fourLooksSpec : ChangeSpec := { name := "fourLooks", fn := fun _ => fun
  | [d1, d2] => { results := [.lit (.bool true)], args := [d1, d2] }
  | _ => none }
def fourLooksRow : OpenClaim := { program := "ytcpnfokpgiigcaadoor", sum := "14eff6f6207ee333c1e87cccbe7dea4337b08817dde403ed7b2263f8f2d8b6f5", func := "postmark/postmarklaw05.FourLooks", spec := "fourLooks", inPlace := ["internal/bytealg.CountString", "internal/bytealg.IndexByteString", "internal/bytealg.IndexString", "internal/abi.NoEscape", "internal/bytealg.MakeNoZero"], unfollowed := true, recurses := true, named := ["unicode/utf8.first", "unicode/utf8.acceptRanges", "internal/bytealg.MaxLen"], apart := false, laid := [("unicode/utf8.acceptRanges", laid_unicode_utf8_acceptRanges), ("unicode/utf8.first", laid_unicode_utf8_first)] }
def FourLooksSaid : Prop := fourLooksRow.holds Tryd.pinned (OpenSpec.ofChange fourLooksSpec)

/-- ITS FALSE NEIGHBOUR: 'it returns false'. Refute it at one input. -/
def fourLooksWrong : ChangeSpec := { name := "fourLooks", fn := fun _ => fun
  | [d1, d2] => { results := [.lit (.bool false)], args := [d1, d2] }
  | _ => none }
def FourLooksWrongFalsely : Prop := fourLooksRow.holds Tryd.pinned (OpenSpec.ofChange fourLooksWrong)

/-- 'postmarklaw05.FourOrder': WHATEVER THE INPUT: true; the input reads as it did. -/
def fourOrderSpec : ChangeSpec := { name := "fourOrder", fn := fun _ => fun
  | [d] => { results := [.lit (.bool true)], args := [d] }
  | _ => none }
def fourOrderRow : OpenClaim := { program := "ytcpnfokpgiigcaadoor", sum := "14eff6f6207ee333c1e87cccbe7dea4337b08817dde403ed7b2263f8f2d8b6f5", func := "postmark/postmarklaw05.FourOrder", spec := "fourOrder", inPlace := ["internal/bytealg.CountString", "internal/bytealg.IndexByteString", "internal/bytealg.IndexString", "internal/abi.NoEscape", "internal/bytealg.MakeNoZero"], unfollowed := true, recurses := true, named := ["unicode/utf8.first", "unicode/utf8.acceptRanges", "internal/bytealg.MaxLen"], apart := false, laid := [("unicode/utf8.acceptRanges", laid_unicode_utf8_acceptRanges), ("unicode/utf8.first", laid_unicode_utf8_first)] }
def FourOrderSaid : Prop := fourOrderRow.holds Tryd.pinned (OpenSpec.ofChange fourOrderSpec)

/-- ITS FALSE NEIGHBOUR: 'it returns false'. Refute it at one input. -/
def fourOrderWrong : ChangeSpec := { name := "fourOrder", fn := fun _ => fun
  | [d] => { results := [.lit (.bool false)], args := [d] }
  | _ => none }
def FourOrderWrongFalsely : Prop := fourOrderRow.holds Tryd.pinned (OpenSpec.ofChange fourOrderWrong)

/-- 'postmarklaw06.SixTells': WHATEVER THE INPUT: true; the input reads as it did. -/
def sixTellsSpec : ChangeSpec := { name := "sixTells", fn := fun _ => fun
  | [d1, d2] => { results := [.lit (.bool true)], args := [d1, d2] }
  | _ => none }
def sixTellsRow : OpenClaim := { program := "ytcpnfokpgiigcaadoor", sum := "14eff6f6207ee333c1e87cccbe7dea4337b08817dde403ed7b2263f8f2d8b6f5", func := "postmark/postmarklaw06.SixTells", spec := "sixTells", inPlace := ["internal/bytealg.IndexByteString", "internal/bytealg.IndexString", "internal/bytealg.CountString", "internal/abi.NoEscape", "internal/bytealg.MakeNoZero"], recurses := true, named := ["internal/bytealg.MaxLen", "unicode/utf8.first", "unicode/utf8.acceptRanges"], apart := false, laid := [("unicode/utf8.acceptRanges", laid_unicode_utf8_acceptRanges), ("unicode/utf8.first", laid_unicode_utf8_first)] }
def SixTellsSaid : Prop := sixTellsRow.holds Tryd.pinned (OpenSpec.ofChange sixTellsSpec)

/-- ITS FALSE NEIGHBOUR: 'it returns false'. Refute it at one input. -/
def sixTellsWrong : ChangeSpec := { name := "sixTells", fn := fun _ => fun
  | [d1, d2] => { results := [.lit (.bool false)], args := [d1, d2] }
  | _ => none }
def SixTellsWrongFalsely : Prop := sixTellsRow.holds Tryd.pinned (OpenSpec.ofChange sixTellsWrong)

/-- 'postmarklaw06.SixBack': WHATEVER THE INPUT: true; the input reads as it did. -/
def sixBackSpec : ChangeSpec := { name := "sixBack", fn := fun _ => fun
  | [d1, d2] => { results := [.lit (.bool true)], args := [d1, d2] }
  | _ => none }
def sixBackRow : OpenClaim := { program := "ytcpnfokpgiigcaadoor", sum := "14eff6f6207ee333c1e87cccbe7dea4337b08817dde403ed7b2263f8f2d8b6f5", func := "postmark/postmarklaw06.SixBack", spec := "sixBack", inPlace := ["internal/bytealg.IndexByteString", "internal/bytealg.IndexString", "internal/bytealg.CountString", "internal/abi.NoEscape", "internal/bytealg.MakeNoZero"], recurses := true, named := ["internal/bytealg.MaxLen", "unicode/utf8.first", "unicode/utf8.acceptRanges"], apart := false, laid := [("unicode/utf8.acceptRanges", laid_unicode_utf8_acceptRanges), ("unicode/utf8.first", laid_unicode_utf8_first)] }
def SixBackSaid : Prop := sixBackRow.holds Tryd.pinned (OpenSpec.ofChange sixBackSpec)

/-- ITS FALSE NEIGHBOUR: 'it returns false'. Refute it at one input. -/
def sixBackWrong : ChangeSpec := { name := "sixBack", fn := fun _ => fun
  | [d1, d2] => { results := [.lit (.bool false)], args := [d1, d2] }
  | _ => none }
def SixBackWrongFalsely : Prop := sixBackRow.holds Tryd.pinned (OpenSpec.ofChange sixBackWrong)

/-- 'postmarklaw06.SixApart': WHATEVER THE INPUT: true; the input reads as it did. -/
def sixApartSpec : ChangeSpec := { name := "sixApart", fn := fun _ => fun
  | [d1, d2, d3] => { results := [.lit (.bool true)], args := [d1, d2, d3] }
  | _ => none }
def sixApartRow : OpenClaim := { program := "ytcpnfokpgiigcaadoor", sum := "14eff6f6207ee333c1e87cccbe7dea4337b08817dde403ed7b2263f8f2d8b6f5", func := "postmark/postmarklaw06.SixApart", spec := "sixApart", inPlace := ["internal/bytealg.IndexByteString", "internal/bytealg.IndexString", "internal/bytealg.CountString", "internal/abi.NoEscape", "internal/bytealg.MakeNoZero"], recurses := true, named := ["internal/bytealg.MaxLen", "unicode/utf8.first", "unicode/utf8.acceptRanges"], apart := false, laid := [("unicode/utf8.acceptRanges", laid_unicode_utf8_acceptRanges), ("unicode/utf8.first", laid_unicode_utf8_first)] }
def SixApartSaid : Prop := sixApartRow.holds Tryd.pinned (OpenSpec.ofChange sixApartSpec)

/-- ITS FALSE NEIGHBOUR: 'it returns false'. Refute it at one input. -/
def sixApartWrong : ChangeSpec := { name := "sixApart", fn := fun _ => fun
  | [d1, d2, d3] => { results := [.lit (.bool false)], args := [d1, d2, d3] }
  | _ => none }
def SixApartWrongFalsely : Prop := sixApartRow.holds Tryd.pinned (OpenSpec.ofChange sixApartWrong)

/-- 'postmarklaw06.SixRun': WHATEVER THE INPUT: true; the input reads as it did. -/
def sixRunSpec : ChangeSpec := { name := "sixRun", fn := fun _ => fun
  | [d1, d2, d3] => { results := [.lit (.bool true)], args := [d1, d2, d3] }
  | _ => none }
def sixRunRow : OpenClaim := { program := "ytcpnfokpgiigcaadoor", sum := "14eff6f6207ee333c1e87cccbe7dea4337b08817dde403ed7b2263f8f2d8b6f5", func := "postmark/postmarklaw06.SixRun", spec := "sixRun", inPlace := ["internal/bytealg.IndexByteString", "internal/bytealg.IndexString", "internal/bytealg.CountString", "internal/abi.NoEscape", "internal/bytealg.MakeNoZero"], recurses := true, named := ["internal/bytealg.MaxLen", "unicode/utf8.first", "unicode/utf8.acceptRanges"], apart := false, laid := [("unicode/utf8.acceptRanges", laid_unicode_utf8_acceptRanges), ("unicode/utf8.first", laid_unicode_utf8_first)] }
def SixRunSaid : Prop := sixRunRow.holds Tryd.pinned (OpenSpec.ofChange sixRunSpec)

/-- ITS FALSE NEIGHBOUR: 'it returns false'. Refute it at one input. -/
def sixRunWrong : ChangeSpec := { name := "sixRun", fn := fun _ => fun
  | [d1, d2, d3] => { results := [.lit (.bool false)], args := [d1, d2, d3] }
  | _ => none }
def SixRunWrongFalsely : Prop := sixRunRow.holds Tryd.pinned (OpenSpec.ofChange sixRunWrong)

/-- 'postmarklaw06.SixZeros': WHATEVER THE INPUT: true; the input reads as it did. -/
def sixZerosSpec : ChangeSpec := { name := "sixZeros", fn := fun _ => fun
  | [d1, d2, d3] => { results := [.lit (.bool true)], args := [d1, d2, d3] }
  | _ => none }
def sixZerosRow : OpenClaim := { program := "ytcpnfokpgiigcaadoor", sum := "14eff6f6207ee333c1e87cccbe7dea4337b08817dde403ed7b2263f8f2d8b6f5", func := "postmark/postmarklaw06.SixZeros", spec := "sixZeros", inPlace := ["internal/bytealg.IndexByteString", "internal/bytealg.IndexString", "internal/bytealg.CountString", "internal/abi.NoEscape", "internal/bytealg.MakeNoZero"], recurses := true, named := ["internal/bytealg.MaxLen", "unicode/utf8.first", "unicode/utf8.acceptRanges"], apart := false, laid := [("unicode/utf8.acceptRanges", laid_unicode_utf8_acceptRanges), ("unicode/utf8.first", laid_unicode_utf8_first)] }
def SixZerosSaid : Prop := sixZerosRow.holds Tryd.pinned (OpenSpec.ofChange sixZerosSpec)

/-- ITS FALSE NEIGHBOUR: 'it returns false'. Refute it at one input. -/
def sixZerosWrong : ChangeSpec := { name := "sixZeros", fn := fun _ => fun
  | [d1, d2, d3] => { results := [.lit (.bool false)], args := [d1, d2, d3] }
  | _ => none }
def SixZerosWrongFalsely : Prop := sixZerosRow.holds Tryd.pinned (OpenSpec.ofChange sixZerosWrong)

/-- 'postmarklaw06.SixMay': WHATEVER THE INPUT: true; the input reads as it did. -/
def sixMaySpec : ChangeSpec := { name := "sixMay", fn := fun _ => fun
  | [d1, d2] => { results := [.lit (.bool true)], args := [d1, d2] }
  | _ => none }
def sixMayRow : OpenClaim := { program := "ytcpnfokpgiigcaadoor", sum := "14eff6f6207ee333c1e87cccbe7dea4337b08817dde403ed7b2263f8f2d8b6f5", func := "postmark/postmarklaw06.SixMay", spec := "sixMay", inPlace := ["internal/bytealg.IndexByteString", "internal/bytealg.IndexString", "internal/bytealg.CountString", "internal/abi.NoEscape", "internal/bytealg.MakeNoZero"], recurses := true, named := ["internal/bytealg.MaxLen", "unicode/utf8.first", "unicode/utf8.acceptRanges"], apart := false, laid := [("unicode/utf8.acceptRanges", laid_unicode_utf8_acceptRanges), ("unicode/utf8.first", laid_unicode_utf8_first)] }
def SixMaySaid : Prop := sixMayRow.holds Tryd.pinned (OpenSpec.ofChange sixMaySpec)

/-- ITS FALSE NEIGHBOUR: 'it returns false'. Refute it at one input. -/
def sixMayWrong : ChangeSpec := { name := "sixMay", fn := fun _ => fun
  | [d1, d2] => { results := [.lit (.bool false)], args := [d1, d2] }
  | _ => none }
def SixMayWrongFalsely : Prop := sixMayRow.holds Tryd.pinned (OpenSpec.ofChange sixMayWrong)

/- THE SECOND FORM. 'bulk': how many values and letters a reading holds, each counted each time it is reached (what is shared counts as often as it is met; a slice's spare places count too). A statement '..UptoSaid' is the law's where the arguments, and the package variables that the reading takes, are together of bulk at most 1048576: NARROWER than '..Said'. Prove '..Said' where nothing that the law and all that it calls make is longer than what came in: it says more and counts as full. Else prove '..UptoSaid'. A law counts once. -/
mutual
def uptoBulk {H : Type} : DataW H → Nat
  | .lit (.string bytes) => bytes.length + 1
  | .lit _ => 1
  | .nil => 1
  | .ptr d => uptoBulk d + 1
  | .slice elems spare => uptoBulkAll elems + uptoBulkAll spare + 1
  | .agg parts => uptoBulkAll parts + 1
  | .iface _ d => uptoBulk d + 1
  | .map entries => uptoBulkEntries entries + 1
  | .held _ => 1
def uptoBulkAll {H : Type} : List (DataW H) → Nat
  | [] => 0
  | d :: r => uptoBulk d + uptoBulkAll r
def uptoBulkEntries {H : Type} : List (Lit × DataW H) → Nat
  | [] => 0
  | x :: r => uptoBulkEntry x + uptoBulkEntries r
def uptoBulkEntry {H : Type} : Lit × DataW H → Nat
  | (.string bytes, d) => bytes.length + uptoBulk d + 1
  | (_, d) => uptoBulk d + 1
 end
def uptoSmall : (H : Type) → List (DataW H) → Bool := fun _ ds => decide (uptoBulkAll ds ≤ 1048576)
def OpenSpec.upto (s : _root_.Go.ChangeSpec) : _root_.Go.OpenSpec := { _root_.Go.OpenSpec.ofChange s with cond := some uptoSmall }

/-- 'postmarklaw05.FourTells', WHERE WHAT IT READS IS OF BULK AT MOST 1048576: true; the input reads as it did. -/
def fourTellsUptoRow : OpenClaim := { program := "ytcpnfokpgiigcaadoor", sum := "14eff6f6207ee333c1e87cccbe7dea4337b08817dde403ed7b2263f8f2d8b6f5", func := "postmark/postmarklaw05.FourTells", spec := "fourTells", inPlace := ["internal/bytealg.CountString", "internal/bytealg.IndexByteString", "internal/bytealg.IndexString", "internal/abi.NoEscape", "internal/bytealg.MakeNoZero"], unfollowed := true, recurses := true, named := ["unicode/utf8.first", "unicode/utf8.acceptRanges", "internal/bytealg.MaxLen"], apart := false, laid := [("unicode/utf8.acceptRanges", laid_unicode_utf8_acceptRanges), ("unicode/utf8.first", laid_unicode_utf8_first)], narrowed := true }
def FourTellsUptoSaid : Prop := fourTellsUptoRow.holds Tryd.pinned (OpenSpec.upto fourTellsSpec)

/-- 'postmarklaw05.FourBack', WHERE WHAT IT READS IS OF BULK AT MOST 1048576: true; the input reads as it did. -/
def fourBackUptoRow : OpenClaim := { program := "ytcpnfokpgiigcaadoor", sum := "14eff6f6207ee333c1e87cccbe7dea4337b08817dde403ed7b2263f8f2d8b6f5", func := "postmark/postmarklaw05.FourBack", spec := "fourBack", inPlace := ["internal/bytealg.CountString", "internal/bytealg.IndexByteString", "internal/bytealg.IndexString", "internal/abi.NoEscape", "internal/bytealg.MakeNoZero"], unfollowed := true, recurses := true, named := ["unicode/utf8.first", "unicode/utf8.acceptRanges", "internal/bytealg.MaxLen"], apart := false, laid := [("unicode/utf8.acceptRanges", laid_unicode_utf8_acceptRanges), ("unicode/utf8.first", laid_unicode_utf8_first)], narrowed := true }
def FourBackUptoSaid : Prop := fourBackUptoRow.holds Tryd.pinned (OpenSpec.upto fourBackSpec)

/-- 'postmarklaw05.FourParts', WHERE WHAT IT READS IS OF BULK AT MOST 1048576: true; the input reads as it did. -/
def fourPartsUptoRow : OpenClaim := { program := "ytcpnfokpgiigcaadoor", sum := "14eff6f6207ee333c1e87cccbe7dea4337b08817dde403ed7b2263f8f2d8b6f5", func := "postmark/postmarklaw05.FourParts", spec := "fourParts", inPlace := ["internal/bytealg.CountString", "internal/bytealg.IndexByteString", "internal/bytealg.IndexString", "internal/abi.NoEscape", "internal/bytealg.MakeNoZero"], unfollowed := true, recurses := true, named := ["unicode/utf8.first", "unicode/utf8.acceptRanges", "internal/bytealg.MaxLen"], apart := false, laid := [("unicode/utf8.acceptRanges", laid_unicode_utf8_acceptRanges), ("unicode/utf8.first", laid_unicode_utf8_first)], narrowed := true }
def FourPartsUptoSaid : Prop := fourPartsUptoRow.holds Tryd.pinned (OpenSpec.upto fourPartsSpec)

/-- 'postmarklaw05.FourLooks', WHERE WHAT IT READS IS OF BULK AT MOST 1048576: true; the input reads as it did. -/
def fourLooksUptoRow : OpenClaim := { program := "ytcpnfokpgiigcaadoor", sum := "14eff6f6207ee333c1e87cccbe7dea4337b08817dde403ed7b2263f8f2d8b6f5", func := "postmark/postmarklaw05.FourLooks", spec := "fourLooks", inPlace := ["internal/bytealg.CountString", "internal/bytealg.IndexByteString", "internal/bytealg.IndexString", "internal/abi.NoEscape", "internal/bytealg.MakeNoZero"], unfollowed := true, recurses := true, named := ["unicode/utf8.first", "unicode/utf8.acceptRanges", "internal/bytealg.MaxLen"], apart := false, laid := [("unicode/utf8.acceptRanges", laid_unicode_utf8_acceptRanges), ("unicode/utf8.first", laid_unicode_utf8_first)], narrowed := true }
def FourLooksUptoSaid : Prop := fourLooksUptoRow.holds Tryd.pinned (OpenSpec.upto fourLooksSpec)

/-- 'postmarklaw05.FourOrder', WHERE WHAT IT READS IS OF BULK AT MOST 1048576: true; the input reads as it did. -/
def fourOrderUptoRow : OpenClaim := { program := "ytcpnfokpgiigcaadoor", sum := "14eff6f6207ee333c1e87cccbe7dea4337b08817dde403ed7b2263f8f2d8b6f5", func := "postmark/postmarklaw05.FourOrder", spec := "fourOrder", inPlace := ["internal/bytealg.CountString", "internal/bytealg.IndexByteString", "internal/bytealg.IndexString", "internal/abi.NoEscape", "internal/bytealg.MakeNoZero"], unfollowed := true, recurses := true, named := ["unicode/utf8.first", "unicode/utf8.acceptRanges", "internal/bytealg.MaxLen"], apart := false, laid := [("unicode/utf8.acceptRanges", laid_unicode_utf8_acceptRanges), ("unicode/utf8.first", laid_unicode_utf8_first)], narrowed := true }
def FourOrderUptoSaid : Prop := fourOrderUptoRow.holds Tryd.pinned (OpenSpec.upto fourOrderSpec)

/-- 'postmarklaw06.SixTells', WHERE WHAT IT READS IS OF BULK AT MOST 1048576: true; the input reads as it did. -/
def sixTellsUptoRow : OpenClaim := { program := "ytcpnfokpgiigcaadoor", sum := "14eff6f6207ee333c1e87cccbe7dea4337b08817dde403ed7b2263f8f2d8b6f5", func := "postmark/postmarklaw06.SixTells", spec := "sixTells", inPlace := ["internal/bytealg.IndexByteString", "internal/bytealg.IndexString", "internal/bytealg.CountString", "internal/abi.NoEscape", "internal/bytealg.MakeNoZero"], recurses := true, named := ["internal/bytealg.MaxLen", "unicode/utf8.first", "unicode/utf8.acceptRanges"], apart := false, laid := [("unicode/utf8.acceptRanges", laid_unicode_utf8_acceptRanges), ("unicode/utf8.first", laid_unicode_utf8_first)], narrowed := true }
def SixTellsUptoSaid : Prop := sixTellsUptoRow.holds Tryd.pinned (OpenSpec.upto sixTellsSpec)

/-- 'postmarklaw06.SixBack', WHERE WHAT IT READS IS OF BULK AT MOST 1048576: true; the input reads as it did. -/
def sixBackUptoRow : OpenClaim := { program := "ytcpnfokpgiigcaadoor", sum := "14eff6f6207ee333c1e87cccbe7dea4337b08817dde403ed7b2263f8f2d8b6f5", func := "postmark/postmarklaw06.SixBack", spec := "sixBack", inPlace := ["internal/bytealg.IndexByteString", "internal/bytealg.IndexString", "internal/bytealg.CountString", "internal/abi.NoEscape", "internal/bytealg.MakeNoZero"], recurses := true, named := ["internal/bytealg.MaxLen", "unicode/utf8.first", "unicode/utf8.acceptRanges"], apart := false, laid := [("unicode/utf8.acceptRanges", laid_unicode_utf8_acceptRanges), ("unicode/utf8.first", laid_unicode_utf8_first)], narrowed := true }
def SixBackUptoSaid : Prop := sixBackUptoRow.holds Tryd.pinned (OpenSpec.upto sixBackSpec)

/-- 'postmarklaw06.SixApart', WHERE WHAT IT READS IS OF BULK AT MOST 1048576: true; the input reads as it did. -/
def sixApartUptoRow : OpenClaim := { program := "ytcpnfokpgiigcaadoor", sum := "14eff6f6207ee333c1e87cccbe7dea4337b08817dde403ed7b2263f8f2d8b6f5", func := "postmark/postmarklaw06.SixApart", spec := "sixApart", inPlace := ["internal/bytealg.IndexByteString", "internal/bytealg.IndexString", "internal/bytealg.CountString", "internal/abi.NoEscape", "internal/bytealg.MakeNoZero"], recurses := true, named := ["internal/bytealg.MaxLen", "unicode/utf8.first", "unicode/utf8.acceptRanges"], apart := false, laid := [("unicode/utf8.acceptRanges", laid_unicode_utf8_acceptRanges), ("unicode/utf8.first", laid_unicode_utf8_first)], narrowed := true }
def SixApartUptoSaid : Prop := sixApartUptoRow.holds Tryd.pinned (OpenSpec.upto sixApartSpec)

/-- 'postmarklaw06.SixRun', WHERE WHAT IT READS IS OF BULK AT MOST 1048576: true; the input reads as it did. -/
def sixRunUptoRow : OpenClaim := { program := "ytcpnfokpgiigcaadoor", sum := "14eff6f6207ee333c1e87cccbe7dea4337b08817dde403ed7b2263f8f2d8b6f5", func := "postmark/postmarklaw06.SixRun", spec := "sixRun", inPlace := ["internal/bytealg.IndexByteString", "internal/bytealg.IndexString", "internal/bytealg.CountString", "internal/abi.NoEscape", "internal/bytealg.MakeNoZero"], recurses := true, named := ["internal/bytealg.MaxLen", "unicode/utf8.first", "unicode/utf8.acceptRanges"], apart := false, laid := [("unicode/utf8.acceptRanges", laid_unicode_utf8_acceptRanges), ("unicode/utf8.first", laid_unicode_utf8_first)], narrowed := true }
def SixRunUptoSaid : Prop := sixRunUptoRow.holds Tryd.pinned (OpenSpec.upto sixRunSpec)

/-- 'postmarklaw06.SixZeros', WHERE WHAT IT READS IS OF BULK AT MOST 1048576: true; the input reads as it did. -/
def sixZerosUptoRow : OpenClaim := { program := "ytcpnfokpgiigcaadoor", sum := "14eff6f6207ee333c1e87cccbe7dea4337b08817dde403ed7b2263f8f2d8b6f5", func := "postmark/postmarklaw06.SixZeros", spec := "sixZeros", inPlace := ["internal/bytealg.IndexByteString", "internal/bytealg.IndexString", "internal/bytealg.CountString", "internal/abi.NoEscape", "internal/bytealg.MakeNoZero"], recurses := true, named := ["internal/bytealg.MaxLen", "unicode/utf8.first", "unicode/utf8.acceptRanges"], apart := false, laid := [("unicode/utf8.acceptRanges", laid_unicode_utf8_acceptRanges), ("unicode/utf8.first", laid_unicode_utf8_first)], narrowed := true }
def SixZerosUptoSaid : Prop := sixZerosUptoRow.holds Tryd.pinned (OpenSpec.upto sixZerosSpec)

/-- 'postmarklaw06.SixMay', WHERE WHAT IT READS IS OF BULK AT MOST 1048576: true; the input reads as it did. -/
def sixMayUptoRow : OpenClaim := { program := "ytcpnfokpgiigcaadoor", sum := "14eff6f6207ee333c1e87cccbe7dea4337b08817dde403ed7b2263f8f2d8b6f5", func := "postmark/postmarklaw06.SixMay", spec := "sixMay", inPlace := ["internal/bytealg.IndexByteString", "internal/bytealg.IndexString", "internal/bytealg.CountString", "internal/abi.NoEscape", "internal/bytealg.MakeNoZero"], recurses := true, named := ["internal/bytealg.MaxLen", "unicode/utf8.first", "unicode/utf8.acceptRanges"], apart := false, laid := [("unicode/utf8.acceptRanges", laid_unicode_utf8_acceptRanges), ("unicode/utf8.first", laid_unicode_utf8_first)], narrowed := true }
def SixMayUptoSaid : Prop := sixMayUptoRow.holds Tryd.pinned (OpenSpec.upto sixMaySpec)

end Rows
end Go.Proofs.YtcpnfokpgiigcaaDoor
