/-
  NARROWER THAN 'FOR EVERY INPUT', by the rows' own cells (each row's printed sentence says how): HostBack: laid · HostApart: laid · HostCase: laid · HostKinds: laid · HostLocal: laid.
  DERIVED. THE GIVEN ROWS OF THIS SEAT. 5 by the template 'for every input the law returns true; each argument reads behind the call as it read before'; 0 by the template 'total and deterministic' (their statements: YtcpjonglfnakpaaDoorTotals.lean).
  GIVEN WITH THE SEED: the statements are not yours to turn. If you find one false, say at which input.
  Laid BY PROGRAM, IN A SANDBOX (cutbox-rows.mjs): the forced cells as the released guide's own fill.sh prints them over the translation 2fb4143460cf0591… (all of the seat's roots in one cut). By AI agents, Wed Nov 11 2026. No macro, syntax, notation, axiom, sorry.
-/
import Derived.Test.YtcpjonglfnakpaaDoorChecked
import GoSem.PinnedTables
import GoSem.Claim
import GoSem.ClaimJoined
import GoSem.ClaimMapViews
import Derived.JoinedTies
import Derived.KernelRfl
namespace Go.Proofs.YtcpjonglfnakpaaDoor
/- THE CELL 'sum', in the pinned program and in every row, IS THE sha256 OF THE DUMP (.gsa) THAT YtcpjonglfnakpaaDoorProg.lean LOADS. Nothing in Lean hashes anything: it is a label: what it is worth is what the hold of that sum in a sandbox is worth. -/
noncomputable def Tryd.pinned : Pinned := { name := "ytcpjonglfnakpaadoor", sum := "2fb4143460cf0591f285ce634ee3abd4423b009836d0e94a1a86c454b4829ccf", checked := Tryd.checked }
namespace Rows
def none {H : Type} : Left H := { results := [], args := [] }

/- WHAT THE LISTED PACKAGE-LEVEL VARIABLES READ AS WHEN THE CALL BEGINS. Each datum BY PROGRAM (the guide's laid-datum.mjs) off the statement by which the dump's own 'gosem.cut.vars' lays the variable. In a bare row this is a premise. The card (YtcpjonglfnakpaaDoorCards.lean) ties it to the program's text. -/
def laid_unicode_utf8_acceptRanges {H : Type} : DataW H := .agg [.agg [.lit (.int .u8 128), .lit (.int .u8 191)], .agg [.lit (.int .u8 160), .lit (.int .u8 191)], .agg [.lit (.int .u8 128), .lit (.int .u8 159)], .agg [.lit (.int .u8 144), .lit (.int .u8 191)], .agg [.lit (.int .u8 128), .lit (.int .u8 143)], .agg [.lit (.int .u8 0), .lit (.int .u8 0)], .agg [.lit (.int .u8 0), .lit (.int .u8 0)], .agg [.lit (.int .u8 0), .lit (.int .u8 0)], .agg [.lit (.int .u8 0), .lit (.int .u8 0)], .agg [.lit (.int .u8 0), .lit (.int .u8 0)], .agg [.lit (.int .u8 0), .lit (.int .u8 0)], .agg [.lit (.int .u8 0), .lit (.int .u8 0)], .agg [.lit (.int .u8 0), .lit (.int .u8 0)], .agg [.lit (.int .u8 0), .lit (.int .u8 0)], .agg [.lit (.int .u8 0), .lit (.int .u8 0)], .agg [.lit (.int .u8 0), .lit (.int .u8 0)]]
/-- One of Go's own tables, pinned by name: the form's constant. -/
def laid_unicode_utf8_first : DataW Unit := Go.Pinned.utf8First

/-- 'postmarklaw07.HostBack': WHATEVER THE INPUT: true; the input reads as it did. -/
def hostBackSpec : ChangeSpec := { name := "hostBack", fn := fun _ => fun
  | [d1, d2] => { results := [.lit (.bool true)], args := [d1, d2] }
  | _ => none }
def hostBackRow : OpenClaim := { program := "ytcpjonglfnakpaadoor", sum := "2fb4143460cf0591f285ce634ee3abd4423b009836d0e94a1a86c454b4829ccf", func := "postmark/postmarklaw07.HostBack", spec := "hostBack", inPlace := ["internal/bytealg.IndexByteString", "internal/bytealg.IndexString", "internal/bytealg.CountString", "internal/abi.NoEscape", "internal/bytealg.MakeNoZero"], unfollowed := true, recurses := true, named := ["internal/bytealg.MaxLen", "unicode/utf8.first", "unicode/utf8.acceptRanges"], apart := false, laid := [("unicode/utf8.acceptRanges", laid_unicode_utf8_acceptRanges), ("unicode/utf8.first", laid_unicode_utf8_first)] }
def HostBackSaid : Prop := hostBackRow.holds Tryd.pinned (OpenSpec.ofChange hostBackSpec)

/-- ITS FALSE NEIGHBOUR: 'it returns false'. Refute it at one input. -/
def hostBackWrong : ChangeSpec := { name := "hostBack", fn := fun _ => fun
  | [d1, d2] => { results := [.lit (.bool false)], args := [d1, d2] }
  | _ => none }
def HostBackWrongFalsely : Prop := hostBackRow.holds Tryd.pinned (OpenSpec.ofChange hostBackWrong)

/-- 'postmarklaw07.HostApart': WHATEVER THE INPUT: true; the input reads as it did. -/
def hostApartSpec : ChangeSpec := { name := "hostApart", fn := fun _ => fun
  | [d1, d2, d3] => { results := [.lit (.bool true)], args := [d1, d2, d3] }
  | _ => none }
def hostApartRow : OpenClaim := { program := "ytcpjonglfnakpaadoor", sum := "2fb4143460cf0591f285ce634ee3abd4423b009836d0e94a1a86c454b4829ccf", func := "postmark/postmarklaw07.HostApart", spec := "hostApart", inPlace := ["internal/bytealg.IndexByteString", "internal/bytealg.IndexString", "internal/bytealg.CountString", "internal/abi.NoEscape", "internal/bytealg.MakeNoZero"], unfollowed := true, recurses := true, named := ["internal/bytealg.MaxLen", "unicode/utf8.first", "unicode/utf8.acceptRanges"], apart := false, laid := [("unicode/utf8.acceptRanges", laid_unicode_utf8_acceptRanges), ("unicode/utf8.first", laid_unicode_utf8_first)] }
def HostApartSaid : Prop := hostApartRow.holds Tryd.pinned (OpenSpec.ofChange hostApartSpec)

/-- ITS FALSE NEIGHBOUR: 'it returns false'. Refute it at one input. -/
def hostApartWrong : ChangeSpec := { name := "hostApart", fn := fun _ => fun
  | [d1, d2, d3] => { results := [.lit (.bool false)], args := [d1, d2, d3] }
  | _ => none }
def HostApartWrongFalsely : Prop := hostApartRow.holds Tryd.pinned (OpenSpec.ofChange hostApartWrong)

/-- 'postmarklaw07.HostCase': WHATEVER THE INPUT: true; the input reads as it did. -/
def hostCaseSpec : ChangeSpec := { name := "hostCase", fn := fun _ => fun
  | [d1, d2, d3] => { results := [.lit (.bool true)], args := [d1, d2, d3] }
  | _ => none }
def hostCaseRow : OpenClaim := { program := "ytcpjonglfnakpaadoor", sum := "2fb4143460cf0591f285ce634ee3abd4423b009836d0e94a1a86c454b4829ccf", func := "postmark/postmarklaw07.HostCase", spec := "hostCase", inPlace := ["internal/bytealg.IndexByteString", "internal/bytealg.IndexString", "internal/bytealg.CountString", "internal/abi.NoEscape", "internal/bytealg.MakeNoZero"], unfollowed := true, recurses := true, named := ["internal/bytealg.MaxLen", "unicode/utf8.first", "unicode/utf8.acceptRanges"], apart := false, laid := [("unicode/utf8.acceptRanges", laid_unicode_utf8_acceptRanges), ("unicode/utf8.first", laid_unicode_utf8_first)] }
def HostCaseSaid : Prop := hostCaseRow.holds Tryd.pinned (OpenSpec.ofChange hostCaseSpec)

/-- ITS FALSE NEIGHBOUR: 'it returns false'. Refute it at one input. -/
def hostCaseWrong : ChangeSpec := { name := "hostCase", fn := fun _ => fun
  | [d1, d2, d3] => { results := [.lit (.bool false)], args := [d1, d2, d3] }
  | _ => none }
def HostCaseWrongFalsely : Prop := hostCaseRow.holds Tryd.pinned (OpenSpec.ofChange hostCaseWrong)

/-- 'postmarklaw07.HostKinds': WHATEVER THE INPUT: true; the input reads as it did. -/
def hostKindsSpec : ChangeSpec := { name := "hostKinds", fn := fun _ => fun
  | [d] => { results := [.lit (.bool true)], args := [d] }
  | _ => none }
def hostKindsRow : OpenClaim := { program := "ytcpjonglfnakpaadoor", sum := "2fb4143460cf0591f285ce634ee3abd4423b009836d0e94a1a86c454b4829ccf", func := "postmark/postmarklaw07.HostKinds", spec := "hostKinds", inPlace := ["internal/bytealg.IndexByteString", "internal/bytealg.IndexString", "internal/bytealg.CountString", "internal/abi.NoEscape", "internal/bytealg.MakeNoZero"], unfollowed := true, recurses := true, named := ["internal/bytealg.MaxLen", "unicode/utf8.first", "unicode/utf8.acceptRanges"], apart := false, laid := [("unicode/utf8.acceptRanges", laid_unicode_utf8_acceptRanges), ("unicode/utf8.first", laid_unicode_utf8_first)] }
def HostKindsSaid : Prop := hostKindsRow.holds Tryd.pinned (OpenSpec.ofChange hostKindsSpec)

/-- ITS FALSE NEIGHBOUR: 'it returns false'. Refute it at one input. -/
def hostKindsWrong : ChangeSpec := { name := "hostKinds", fn := fun _ => fun
  | [d] => { results := [.lit (.bool false)], args := [d] }
  | _ => none }
def HostKindsWrongFalsely : Prop := hostKindsRow.holds Tryd.pinned (OpenSpec.ofChange hostKindsWrong)

/-- 'postmarklaw07.HostLocal': WHATEVER THE INPUT: true; the input reads as it did. -/
def hostLocalSpec : ChangeSpec := { name := "hostLocal", fn := fun _ => fun
  | [d] => { results := [.lit (.bool true)], args := [d] }
  | _ => none }
def hostLocalRow : OpenClaim := { program := "ytcpjonglfnakpaadoor", sum := "2fb4143460cf0591f285ce634ee3abd4423b009836d0e94a1a86c454b4829ccf", func := "postmark/postmarklaw07.HostLocal", spec := "hostLocal", inPlace := ["internal/bytealg.IndexByteString", "internal/bytealg.IndexString", "internal/bytealg.CountString", "internal/abi.NoEscape", "internal/bytealg.MakeNoZero"], unfollowed := true, recurses := true, named := ["internal/bytealg.MaxLen", "unicode/utf8.first", "unicode/utf8.acceptRanges"], apart := false, laid := [("unicode/utf8.acceptRanges", laid_unicode_utf8_acceptRanges), ("unicode/utf8.first", laid_unicode_utf8_first)] }
def HostLocalSaid : Prop := hostLocalRow.holds Tryd.pinned (OpenSpec.ofChange hostLocalSpec)

/-- ITS FALSE NEIGHBOUR: 'it returns false'. Refute it at one input. -/
def hostLocalWrong : ChangeSpec := { name := "hostLocal", fn := fun _ => fun
  | [d] => { results := [.lit (.bool false)], args := [d] }
  | _ => none }
def HostLocalWrongFalsely : Prop := hostLocalRow.holds Tryd.pinned (OpenSpec.ofChange hostLocalWrong)

/- THE SECOND FORM. 'bulk': how many values and letters a reading holds, each counted each time it is reached (what is shared counts as often as it is met; a slice's spare places count too). A statement '..UptoSaid' is the law's where the arguments, and the package variables that the reading takes, are together of bulk at most 1048576: NARROWER than '..Said'. Prove '..Said' where nothing that the law and all that it calls make is longer than what came in: it says more and counts as full. Else prove '..UptoSaid'. A law counts once. -/
mutual
def uptoBulk {H : Type} : DataW H → Nat
  | .lit (.string bytes) => bytes.length + 1
  | .lit _ => 1
  | .nil => 1
  | .ptr d => uptoBulk d + 1
  | .slice elems spare => uptoBulkAll elems + uptoBulkAll spare + 1
  | .agg parts => uptoBulkAll parts + 1
  | .iface _ d => uptoBulk d + 1
  | .map entries => uptoBulkEntries entries + 1
  | .held _ => 1
def uptoBulkAll {H : Type} : List (DataW H) → Nat
  | [] => 0
  | d :: r => uptoBulk d + uptoBulkAll r
def uptoBulkEntries {H : Type} : List (Lit × DataW H) → Nat
  | [] => 0
  | x :: r => uptoBulkEntry x + uptoBulkEntries r
def uptoBulkEntry {H : Type} : Lit × DataW H → Nat
  | (.string bytes, d) => bytes.length + uptoBulk d + 1
  | (_, d) => uptoBulk d + 1
 end
def uptoSmall : (H : Type) → List (DataW H) → Bool := fun _ ds => decide (uptoBulkAll ds ≤ 1048576)
def OpenSpec.upto (s : _root_.Go.ChangeSpec) : _root_.Go.OpenSpec := { _root_.Go.OpenSpec.ofChange s with cond := some uptoSmall }

/-- 'postmarklaw07.HostBack', WHERE WHAT IT READS IS OF BULK AT MOST 1048576: true; the input reads as it did. -/
def hostBackUptoRow : OpenClaim := { program := "ytcpjonglfnakpaadoor", sum := "2fb4143460cf0591f285ce634ee3abd4423b009836d0e94a1a86c454b4829ccf", func := "postmark/postmarklaw07.HostBack", spec := "hostBack", inPlace := ["internal/bytealg.IndexByteString", "internal/bytealg.IndexString", "internal/bytealg.CountString", "internal/abi.NoEscape", "internal/bytealg.MakeNoZero"], unfollowed := true, recurses := true, named := ["internal/bytealg.MaxLen", "unicode/utf8.first", "unicode/utf8.acceptRanges"], apart := false, laid := [("unicode/utf8.acceptRanges", laid_unicode_utf8_acceptRanges), ("unicode/utf8.first", laid_unicode_utf8_first)], narrowed := true }
def HostBackUptoSaid : Prop := hostBackUptoRow.holds Tryd.pinned (OpenSpec.upto hostBackSpec)

/-- 'postmarklaw07.HostApart', WHERE WHAT IT READS IS OF BULK AT MOST 1048576: true; the input reads as it did. -/
def hostApartUptoRow : OpenClaim := { program := "ytcpjonglfnakpaadoor", sum := "2fb4143460cf0591f285ce634ee3abd4423b009836d0e94a1a86c454b4829ccf", func := "postmark/postmarklaw07.HostApart", spec := "hostApart", inPlace := ["internal/bytealg.IndexByteString", "internal/bytealg.IndexString", "internal/bytealg.CountString", "internal/abi.NoEscape", "internal/bytealg.MakeNoZero"], unfollowed := true, recurses := true, named := ["internal/bytealg.MaxLen", "unicode/utf8.first", "unicode/utf8.acceptRanges"], apart := false, laid := [("unicode/utf8.acceptRanges", laid_unicode_utf8_acceptRanges), ("unicode/utf8.first", laid_unicode_utf8_first)], narrowed := true }
def HostApartUptoSaid : Prop := hostApartUptoRow.holds Tryd.pinned (OpenSpec.upto hostApartSpec)

/-- 'postmarklaw07.HostCase', WHERE WHAT IT READS IS OF BULK AT MOST 1048576: true; the input reads as it did. -/
def hostCaseUptoRow : OpenClaim := { program := "ytcpjonglfnakpaadoor", sum := "2fb4143460cf0591f285ce634ee3abd4423b009836d0e94a1a86c454b4829ccf", func := "postmark/postmarklaw07.HostCase", spec := "hostCase", inPlace := ["internal/bytealg.IndexByteString", "internal/bytealg.IndexString", "internal/bytealg.CountString", "internal/abi.NoEscape", "internal/bytealg.MakeNoZero"], unfollowed := true, recurses := true, named := ["internal/bytealg.MaxLen", "unicode/utf8.first", "unicode/utf8.acceptRanges"], apart := false, laid := [("unicode/utf8.acceptRanges", laid_unicode_utf8_acceptRanges), ("unicode/utf8.first", laid_unicode_utf8_first)], narrowed := true }
def HostCaseUptoSaid : Prop := hostCaseUptoRow.holds Tryd.pinned (OpenSpec.upto hostCaseSpec)

/-- 'postmarklaw07.HostKinds', WHERE WHAT IT READS IS OF BULK AT MOST 1048576: true; the input reads as it did. -/
def hostKindsUptoRow : OpenClaim := { program := "ytcpjonglfnakpaadoor", sum := "2fb4143460cf0591f285ce634ee3abd4423b009836d0e94a1a86c454b4829ccf", func := "postmark/postmarklaw07.HostKinds", spec := "hostKinds", inPlace := ["internal/bytealg.IndexByteString", "internal/bytealg.IndexString", "internal/bytealg.CountString", "internal/abi.NoEscape", "internal/bytealg.MakeNoZero"], unfollowed := true, recurses := true, named := ["internal/bytealg.MaxLen", "unicode/utf8.first", "unicode/utf8.acceptRanges"], apart := false, laid := [("unicode/utf8.acceptRanges", laid_unicode_utf8_acceptRanges), ("unicode/utf8.first", laid_unicode_utf8_first)], narrowed := true }
def HostKindsUptoSaid : Prop := hostKindsUptoRow.holds Tryd.pinned (OpenSpec.upto hostKindsSpec)

/-- 'postmarklaw07.HostLocal', WHERE WHAT IT READS IS OF BULK AT MOST 1048576: true; the input reads as it did. -/
def hostLocalUptoRow : OpenClaim := { program := "ytcpjonglfnakpaadoor", sum := "2fb4143460cf0591f285ce634ee3abd4423b009836d0e94a1a86c454b4829ccf", func := "postmark/postmarklaw07.HostLocal", spec := "hostLocal", inPlace := ["internal/bytealg.IndexByteString", "internal/bytealg.IndexString", "internal/bytealg.CountString", "internal/abi.NoEscape", "internal/bytealg.MakeNoZero"], unfollowed := true, recurses := true, named := ["internal/bytealg.MaxLen", "unicode/utf8.first", "unicode/utf8.acceptRanges"], apart := false, laid := [("unicode/utf8.acceptRanges", laid_unicode_utf8_acceptRanges), ("unicode/utf8.first", laid_unicode_utf8_first)], narrowed := true }
def HostLocalUptoSaid : Prop := hostLocalUptoRow.holds Tryd.pinned (OpenSpec.upto hostLocalSpec)

end Rows
end Go.Proofs.YtcpjonglfnakpaaDoor
