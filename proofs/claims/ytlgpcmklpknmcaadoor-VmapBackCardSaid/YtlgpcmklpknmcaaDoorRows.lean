/-
  NARROWER THAN 'FOR EVERY INPUT', by the rows' own cells (each row's printed sentence says how): VersionOrder: laid · VmapCores: laid · VmapTranslates: laid · VmapBack: laid · AdepPrints: laid · AdepParses: laid · AdepBack: laid · VmapCompares: laid · VmapOrder: laid.
  DERIVED. THE GIVEN ROWS OF THIS SEAT. 9 by the template 'for every input the law returns true; each argument reads behind the call as it read before'; 0 by the template 'total and deterministic' (their statements: YtlgpcmklpknmcaaDoorTotals.lean).
  GIVEN WITH THE SEED: the statements are not yours to turn. If you find one false, say at which input.
  Laid BY PROGRAM, IN A SANDBOX (cutbox-rows.mjs): the forced cells as the released guide's own fill.sh prints them over the translation 95277aecf698f41e… (all of the seat's roots in one cut). By AI agents, Wed Nov 11 2026. No macro, syntax, notation, axiom, sorry.
-/
import Derived.Test.YtlgpcmklpknmcaaDoorChecked
import GoSem.PinnedTables
import GoSem.Claim
import GoSem.ClaimJoined
import GoSem.ClaimMapViews
import Derived.JoinedTies
import Derived.KernelRfl
namespace Go.Proofs.YtlgpcmklpknmcaaDoor
/- THE CELL 'sum', in the pinned program and in every row, IS THE sha256 OF THE DUMP (.gsa) THAT YtlgpcmklpknmcaaDoorProg.lean LOADS. Nothing in Lean hashes anything: it is a label: what it is worth is what the hold of that sum in a sandbox is worth. -/
noncomputable def Tryd.pinned : Pinned := { name := "ytlgpcmklpknmcaadoor", sum := "95277aecf698f41e7a24e142bf5c7da4f1c5dbedc4188a51701ba3506c7bc4cd", checked := Tryd.checked }
namespace Rows
def none {H : Type} : Left H := { results := [], args := [] }

/- WHAT THE LISTED PACKAGE-LEVEL VARIABLES READ AS WHEN THE CALL BEGINS. Each datum BY PROGRAM (the guide's laid-datum.mjs) off the statement by which the dump's own 'gosem.cut.vars' lays the variable. In a bare row this is a premise. The card (YtlgpcmklpknmcaaDoorCards.lean) ties it to the program's text. -/
def laid_unicode_utf8_acceptRanges {H : Type} : DataW H := .agg [.agg [.lit (.int .u8 128), .lit (.int .u8 191)], .agg [.lit (.int .u8 160), .lit (.int .u8 191)], .agg [.lit (.int .u8 128), .lit (.int .u8 159)], .agg [.lit (.int .u8 144), .lit (.int .u8 191)], .agg [.lit (.int .u8 128), .lit (.int .u8 143)], .agg [.lit (.int .u8 0), .lit (.int .u8 0)], .agg [.lit (.int .u8 0), .lit (.int .u8 0)], .agg [.lit (.int .u8 0), .lit (.int .u8 0)], .agg [.lit (.int .u8 0), .lit (.int .u8 0)], .agg [.lit (.int .u8 0), .lit (.int .u8 0)], .agg [.lit (.int .u8 0), .lit (.int .u8 0)], .agg [.lit (.int .u8 0), .lit (.int .u8 0)], .agg [.lit (.int .u8 0), .lit (.int .u8 0)], .agg [.lit (.int .u8 0), .lit (.int .u8 0)], .agg [.lit (.int .u8 0), .lit (.int .u8 0)], .agg [.lit (.int .u8 0), .lit (.int .u8 0)]]
/-- One of Go's own tables, pinned by name: the form's constant. -/
def laid_unicode_utf8_first : DataW Unit := Go.Pinned.utf8First
def laid_errors_errorType {H : Type} : DataW H := .iface "internal/reflectlite.rtype" (.agg [.ptr (.lit (.string [101, 114, 114, 111, 114]))])

/-- 'drayagelaw12.VersionOrder': WHATEVER THE INPUT: true; the input reads as it did. -/
def versionOrderSpec : ChangeSpec := { name := "versionOrder", fn := fun _ => fun
  | [d1, d2, d3, d4] => { results := [.lit (.bool true)], args := [d1, d2, d3, d4] }
  | _ => none }
def versionOrderRow : OpenClaim := { program := "ytlgpcmklpknmcaadoor", sum := "95277aecf698f41e7a24e142bf5c7da4f1c5dbedc4188a51701ba3506c7bc4cd", func := "drayage/drayagelaw12.VersionOrder", spec := "versionOrder", inPlace := ["internal/bytealg.IndexByteString", "internal/bytealg.IndexString"], unfollowed := true, recurses := true, named := ["internal/bytealg.MaxLen", "unicode/utf8.first", "unicode/utf8.acceptRanges"], apart := false, laid := [("unicode/utf8.acceptRanges", laid_unicode_utf8_acceptRanges), ("unicode/utf8.first", laid_unicode_utf8_first)] }
def VersionOrderSaid : Prop := versionOrderRow.holds Tryd.pinned (OpenSpec.ofChange versionOrderSpec)

/-- ITS FALSE NEIGHBOUR: 'it returns false'. Refute it at one input. -/
def versionOrderWrong : ChangeSpec := { name := "versionOrder", fn := fun _ => fun
  | [d1, d2, d3, d4] => { results := [.lit (.bool false)], args := [d1, d2, d3, d4] }
  | _ => none }
def VersionOrderWrongFalsely : Prop := versionOrderRow.holds Tryd.pinned (OpenSpec.ofChange versionOrderWrong)

/-- 'drayagelaw13.VmapCores': WHATEVER THE INPUT: true; the input reads as it did. -/
def vmapCoresSpec : ChangeSpec := { name := "vmapCores", fn := fun _ => fun
  | [d1, d2, d3] => { results := [.lit (.bool true)], args := [d1, d2, d3] }
  | _ => none }
def vmapCoresRow : OpenClaim := { program := "ytlgpcmklpknmcaadoor", sum := "95277aecf698f41e7a24e142bf5c7da4f1c5dbedc4188a51701ba3506c7bc4cd", func := "drayage/drayagelaw13.VmapCores", spec := "vmapCores", inPlace := ["internal/bytealg.IndexByteString", "internal/bytealg.IndexString", "internal/abi.NoEscape"], unfollowed := true, recurses := true, named := ["internal/bytealg.MaxLen", "unicode/utf8.first", "unicode/utf8.acceptRanges"], apart := false, laid := [("unicode/utf8.acceptRanges", laid_unicode_utf8_acceptRanges), ("unicode/utf8.first", laid_unicode_utf8_first)] }
def VmapCoresSaid : Prop := vmapCoresRow.holds Tryd.pinned (OpenSpec.ofChange vmapCoresSpec)

/-- ITS FALSE NEIGHBOUR: 'it returns false'. Refute it at one input. -/
def vmapCoresWrong : ChangeSpec := { name := "vmapCores", fn := fun _ => fun
  | [d1, d2, d3] => { results := [.lit (.bool false)], args := [d1, d2, d3] }
  | _ => none }
def VmapCoresWrongFalsely : Prop := vmapCoresRow.holds Tryd.pinned (OpenSpec.ofChange vmapCoresWrong)

/-- 'drayagelaw13.VmapTranslates': WHATEVER THE INPUT: true; the input reads as it did. -/
def vmapTranslatesSpec : ChangeSpec := { name := "vmapTranslates", fn := fun _ => fun
  | [d1, d2, d3] => { results := [.lit (.bool true)], args := [d1, d2, d3] }
  | _ => none }
def vmapTranslatesRow : OpenClaim := { program := "ytlgpcmklpknmcaadoor", sum := "95277aecf698f41e7a24e142bf5c7da4f1c5dbedc4188a51701ba3506c7bc4cd", func := "drayage/drayagelaw13.VmapTranslates", spec := "vmapTranslates", inPlace := ["internal/bytealg.IndexByteString", "internal/bytealg.IndexString", "internal/abi.NoEscape"], unfollowed := true, recurses := true, named := ["internal/bytealg.MaxLen", "unicode/utf8.first", "unicode/utf8.acceptRanges"], apart := false, laid := [("unicode/utf8.acceptRanges", laid_unicode_utf8_acceptRanges), ("unicode/utf8.first", laid_unicode_utf8_first)] }
def VmapTranslatesSaid : Prop := vmapTranslatesRow.holds Tryd.pinned (OpenSpec.ofChange vmapTranslatesSpec)

/-- ITS FALSE NEIGHBOUR: 'it returns false'. Refute it at one input. -/
def vmapTranslatesWrong : ChangeSpec := { name := "vmapTranslates", fn := fun _ => fun
  | [d1, d2, d3] => { results := [.lit (.bool false)], args := [d1, d2, d3] }
  | _ => none }
def VmapTranslatesWrongFalsely : Prop := vmapTranslatesRow.holds Tryd.pinned (OpenSpec.ofChange vmapTranslatesWrong)

/-- 'drayagelaw13.VmapBack': WHATEVER THE INPUT: true; the input reads as it did. -/
def vmapBackSpec : ChangeSpec := { name := "vmapBack", fn := fun _ => fun
  | [d1, d2, d3, d4] => { results := [.lit (.bool true)], args := [d1, d2, d3, d4] }
  | _ => none }
def vmapBackRow : OpenClaim := { program := "ytlgpcmklpknmcaadoor", sum := "95277aecf698f41e7a24e142bf5c7da4f1c5dbedc4188a51701ba3506c7bc4cd", func := "drayage/drayagelaw13.VmapBack", spec := "vmapBack", inPlace := ["internal/bytealg.IndexByteString", "internal/bytealg.IndexString", "internal/abi.NoEscape"], unfollowed := true, recurses := true, named := ["internal/bytealg.MaxLen", "unicode/utf8.first", "unicode/utf8.acceptRanges"], apart := false, laid := [("unicode/utf8.acceptRanges", laid_unicode_utf8_acceptRanges), ("unicode/utf8.first", laid_unicode_utf8_first)] }
def VmapBackSaid : Prop := vmapBackRow.holds Tryd.pinned (OpenSpec.ofChange vmapBackSpec)

/-- ITS FALSE NEIGHBOUR: 'it returns false'. Refute it at one input. -/
def vmapBackWrong : ChangeSpec := { name := "vmapBack", fn := fun _ => fun
  | [d1, d2, d3, d4] => { results := [.lit (.bool false)], args := [d1, d2, d3, d4] }
  | _ => none }
def VmapBackWrongFalsely : Prop := vmapBackRow.holds Tryd.pinned (OpenSpec.ofChange vmapBackWrong)

/-- 'drayagelaw16.AdepPrints': WHATEVER THE INPUT: true; the input reads as it did. -/
def adepPrintsSpec : ChangeSpec := { name := "adepPrints", fn := fun _ => fun
  | [d1, d2] => { results := [.lit (.bool true)], args := [d1, d2] }
  | _ => none }
def adepPrintsRow : OpenClaim := { program := "ytlgpcmklpknmcaadoor", sum := "95277aecf698f41e7a24e142bf5c7da4f1c5dbedc4188a51701ba3506c7bc4cd", func := "drayage/drayagelaw16.AdepPrints", spec := "adepPrints", inPlace := ["internal/bytealg.IndexByteString", "internal/bytealg.IndexString", "internal/reflectlite.ValueOf", "(internal/reflectlite.Value).Type", "(internal/reflectlite.Value).IsNil", "internal/reflectlite.TypeOf", "(internal/reflectlite.Value).Elem", "(internal/reflectlite.Value).Set", "internal/abi.NoEscape", "internal/bytealg.MakeNoZero"], unfollowed := true, recurses := true, named := ["internal/bytealg.MaxLen", "errors.errorType"], apart := false, laid := [("errors.errorType", laid_errors_errorType)] }
def AdepPrintsSaid : Prop := adepPrintsRow.holds Tryd.pinned (OpenSpec.ofChange adepPrintsSpec)

/-- ITS FALSE NEIGHBOUR: 'it returns false'. Refute it at one input. -/
def adepPrintsWrong : ChangeSpec := { name := "adepPrints", fn := fun _ => fun
  | [d1, d2] => { results := [.lit (.bool false)], args := [d1, d2] }
  | _ => none }
def AdepPrintsWrongFalsely : Prop := adepPrintsRow.holds Tryd.pinned (OpenSpec.ofChange adepPrintsWrong)

/-- 'drayagelaw16.AdepParses': WHATEVER THE INPUT: true; the input reads as it did. -/
def adepParsesSpec : ChangeSpec := { name := "adepParses", fn := fun _ => fun
  | [d] => { results := [.lit (.bool true)], args := [d] }
  | _ => none }
def adepParsesRow : OpenClaim := { program := "ytlgpcmklpknmcaadoor", sum := "95277aecf698f41e7a24e142bf5c7da4f1c5dbedc4188a51701ba3506c7bc4cd", func := "drayage/drayagelaw16.AdepParses", spec := "adepParses", inPlace := ["internal/bytealg.IndexByteString", "internal/bytealg.IndexString", "internal/reflectlite.ValueOf", "(internal/reflectlite.Value).Type", "(internal/reflectlite.Value).IsNil", "internal/reflectlite.TypeOf", "(internal/reflectlite.Value).Elem", "(internal/reflectlite.Value).Set", "internal/abi.NoEscape", "internal/bytealg.MakeNoZero"], unfollowed := true, recurses := true, named := ["internal/bytealg.MaxLen", "errors.errorType"], apart := false, laid := [("errors.errorType", laid_errors_errorType)] }
def AdepParsesSaid : Prop := adepParsesRow.holds Tryd.pinned (OpenSpec.ofChange adepParsesSpec)

/-- ITS FALSE NEIGHBOUR: 'it returns false'. Refute it at one input. -/
def adepParsesWrong : ChangeSpec := { name := "adepParses", fn := fun _ => fun
  | [d] => { results := [.lit (.bool false)], args := [d] }
  | _ => none }
def AdepParsesWrongFalsely : Prop := adepParsesRow.holds Tryd.pinned (OpenSpec.ofChange adepParsesWrong)

/-- 'drayagelaw16.AdepBack': WHATEVER THE INPUT: true; the input reads as it did. -/
def adepBackSpec : ChangeSpec := { name := "adepBack", fn := fun _ => fun
  | [d1, d2] => { results := [.lit (.bool true)], args := [d1, d2] }
  | _ => none }
def adepBackRow : OpenClaim := { program := "ytlgpcmklpknmcaadoor", sum := "95277aecf698f41e7a24e142bf5c7da4f1c5dbedc4188a51701ba3506c7bc4cd", func := "drayage/drayagelaw16.AdepBack", spec := "adepBack", inPlace := ["internal/bytealg.IndexByteString", "internal/bytealg.IndexString", "internal/reflectlite.ValueOf", "(internal/reflectlite.Value).Type", "(internal/reflectlite.Value).IsNil", "internal/reflectlite.TypeOf", "(internal/reflectlite.Value).Elem", "(internal/reflectlite.Value).Set", "internal/abi.NoEscape", "internal/bytealg.MakeNoZero"], unfollowed := true, recurses := true, named := ["internal/bytealg.MaxLen", "errors.errorType"], apart := false, laid := [("errors.errorType", laid_errors_errorType)] }
def AdepBackSaid : Prop := adepBackRow.holds Tryd.pinned (OpenSpec.ofChange adepBackSpec)

/-- ITS FALSE NEIGHBOUR: 'it returns false'. Refute it at one input. -/
def adepBackWrong : ChangeSpec := { name := "adepBack", fn := fun _ => fun
  | [d1, d2] => { results := [.lit (.bool false)], args := [d1, d2] }
  | _ => none }
def AdepBackWrongFalsely : Prop := adepBackRow.holds Tryd.pinned (OpenSpec.ofChange adepBackWrong)

/-- 'drayagelaw13.VmapCompares': WHATEVER THE INPUT: true; the input reads as it did. -/
def vmapComparesSpec : ChangeSpec := { name := "vmapCompares", fn := fun _ => fun
  | [d1, d2] => { results := [.lit (.bool true)], args := [d1, d2] }
  | _ => none }
def vmapComparesRow : OpenClaim := { program := "ytlgpcmklpknmcaadoor", sum := "95277aecf698f41e7a24e142bf5c7da4f1c5dbedc4188a51701ba3506c7bc4cd", func := "drayage/drayagelaw13.VmapCompares", spec := "vmapCompares", inPlace := ["internal/bytealg.IndexByteString", "internal/bytealg.IndexString", "internal/abi.NoEscape"], unfollowed := true, recurses := true, named := ["internal/bytealg.MaxLen", "unicode/utf8.first", "unicode/utf8.acceptRanges"], apart := false, laid := [("unicode/utf8.acceptRanges", laid_unicode_utf8_acceptRanges), ("unicode/utf8.first", laid_unicode_utf8_first)] }
def VmapComparesSaid : Prop := vmapComparesRow.holds Tryd.pinned (OpenSpec.ofChange vmapComparesSpec)

/-- ITS FALSE NEIGHBOUR: 'it returns false'. Refute it at one input. -/
def vmapComparesWrong : ChangeSpec := { name := "vmapCompares", fn := fun _ => fun
  | [d1, d2] => { results := [.lit (.bool false)], args := [d1, d2] }
  | _ => none }
def VmapComparesWrongFalsely : Prop := vmapComparesRow.holds Tryd.pinned (OpenSpec.ofChange vmapComparesWrong)

/-- 'drayagelaw13.VmapOrder': WHATEVER THE INPUT: true; the input reads as it did. -/
def vmapOrderSpec : ChangeSpec := { name := "vmapOrder", fn := fun _ => fun
  | [d1, d2, d3, d4] => { results := [.lit (.bool true)], args := [d1, d2, d3, d4] }
  | _ => none }
def vmapOrderRow : OpenClaim := { program := "ytlgpcmklpknmcaadoor", sum := "95277aecf698f41e7a24e142bf5c7da4f1c5dbedc4188a51701ba3506c7bc4cd", func := "drayage/drayagelaw13.VmapOrder", spec := "vmapOrder", inPlace := ["internal/bytealg.IndexByteString", "internal/bytealg.IndexString", "internal/abi.NoEscape"], unfollowed := true, recurses := true, named := ["internal/bytealg.MaxLen", "unicode/utf8.first", "unicode/utf8.acceptRanges"], apart := false, laid := [("unicode/utf8.acceptRanges", laid_unicode_utf8_acceptRanges), ("unicode/utf8.first", laid_unicode_utf8_first)] }
def VmapOrderSaid : Prop := vmapOrderRow.holds Tryd.pinned (OpenSpec.ofChange vmapOrderSpec)

/-- ITS FALSE NEIGHBOUR: 'it returns false'. Refute it at one input. -/
def vmapOrderWrong : ChangeSpec := { name := "vmapOrder", fn := fun _ => fun
  | [d1, d2, d3, d4] => { results := [.lit (.bool false)], args := [d1, d2, d3, d4] }
  | _ => none }
def VmapOrderWrongFalsely : Prop := vmapOrderRow.holds Tryd.pinned (OpenSpec.ofChange vmapOrderWrong)

/- THE SECOND FORM. 'bulk': how many values and letters a reading holds, each counted each time it is reached (what is shared counts as often as it is met; a slice's spare places count too). A statement '..UptoSaid' is the law's where the arguments, and the package variables that the reading takes, are together of bulk at most 1048576: NARROWER than '..Said'. Prove '..Said' where nothing that the law and all that it calls make is longer than what came in: it says more and counts as full. Else prove '..UptoSaid'. A law counts once. -/
mutual
def uptoBulk {H : Type} : DataW H → Nat
  | .lit (.string bytes) => bytes.length + 1
  | .lit _ => 1
  | .nil => 1
  | .ptr d => uptoBulk d + 1
  | .slice elems spare => uptoBulkAll elems + uptoBulkAll spare + 1
  | .agg parts => uptoBulkAll parts + 1
  | .iface _ d => uptoBulk d + 1
  | .map entries => uptoBulkEntries entries + 1
  | .held _ => 1
def uptoBulkAll {H : Type} : List (DataW H) → Nat
  | [] => 0
  | d :: r => uptoBulk d + uptoBulkAll r
def uptoBulkEntries {H : Type} : List (Lit × DataW H) → Nat
  | [] => 0
  | x :: r => uptoBulkEntry x + uptoBulkEntries r
def uptoBulkEntry {H : Type} : Lit × DataW H → Nat
  | (.string bytes, d) => bytes.length + uptoBulk d + 1
  | (_, d) => uptoBulk d + 1
 end
def uptoSmall : (H : Type) → List (DataW H) → Bool := fun _ ds => decide (uptoBulkAll ds ≤ 1048576)
def OpenSpec.upto (s : _root_.Go.ChangeSpec) : _root_.Go.OpenSpec := { _root_.Go.OpenSpec.ofChange s with cond := some uptoSmall }

/-- 'drayagelaw12.VersionOrder', WHERE WHAT IT READS IS OF BULK AT MOST 1048576: true; the input reads as it did. -/
def versionOrderUptoRow : OpenClaim := { program := "ytlgpcmklpknmcaadoor", sum := "95277aecf698f41e7a24e142bf5c7da4f1c5dbedc4188a51701ba3506c7bc4cd", func := "drayage/drayagelaw12.VersionOrder", spec := "versionOrder", inPlace := ["internal/bytealg.IndexByteString", "internal/bytealg.IndexString"], unfollowed := true, recurses := true, named := ["internal/bytealg.MaxLen", "unicode/utf8.first", "unicode/utf8.acceptRanges"], apart := false, laid := [("unicode/utf8.acceptRanges", laid_unicode_utf8_acceptRanges), ("unicode/utf8.first", laid_unicode_utf8_first)], narrowed := true }
def VersionOrderUptoSaid : Prop := versionOrderUptoRow.holds Tryd.pinned (OpenSpec.upto versionOrderSpec)

/-- 'drayagelaw13.VmapCores', WHERE WHAT IT READS IS OF BULK AT MOST 1048576: true; the input reads as it did. -/
def vmapCoresUptoRow : OpenClaim := { program := "ytlgpcmklpknmcaadoor", sum := "95277aecf698f41e7a24e142bf5c7da4f1c5dbedc4188a51701ba3506c7bc4cd", func := "drayage/drayagelaw13.VmapCores", spec := "vmapCores", inPlace := ["internal/bytealg.IndexByteString", "internal/bytealg.IndexString", "internal/abi.NoEscape"], unfollowed := true, recurses := true, named := ["internal/bytealg.MaxLen", "unicode/utf8.first", "unicode/utf8.acceptRanges"], apart := false, laid := [("unicode/utf8.acceptRanges", laid_unicode_utf8_acceptRanges), ("unicode/utf8.first", laid_unicode_utf8_first)], narrowed := true }
def VmapCoresUptoSaid : Prop := vmapCoresUptoRow.holds Tryd.pinned (OpenSpec.upto vmapCoresSpec)

/-- 'drayagelaw13.VmapTranslates', WHERE WHAT IT READS IS OF BULK AT MOST 1048576: true; the input reads as it did. -/
def vmapTranslatesUptoRow : OpenClaim := { program := "ytlgpcmklpknmcaadoor", sum := "95277aecf698f41e7a24e142bf5c7da4f1c5dbedc4188a51701ba3506c7bc4cd", func := "drayage/drayagelaw13.VmapTranslates", spec := "vmapTranslates", inPlace := ["internal/bytealg.IndexByteString", "internal/bytealg.IndexString", "internal/abi.NoEscape"], unfollowed := true, recurses := true, named := ["internal/bytealg.MaxLen", "unicode/utf8.first", "unicode/utf8.acceptRanges"], apart := false, laid := [("unicode/utf8.acceptRanges", laid_unicode_utf8_acceptRanges), ("unicode/utf8.first", laid_unicode_utf8_first)], narrowed := true }
def VmapTranslatesUptoSaid : Prop := vmapTranslatesUptoRow.holds Tryd.pinned (OpenSpec.upto vmapTranslatesSpec)

/-- 'drayagelaw13.VmapBack', WHERE WHAT IT READS IS OF BULK AT MOST 1048576: true; the input reads as it did. -/
def vmapBackUptoRow : OpenClaim := { program := "ytlgpcmklpknmcaadoor", sum := "95277aecf698f41e7a24e142bf5c7da4f1c5dbedc4188a51701ba3506c7bc4cd", func := "drayage/drayagelaw13.VmapBack", spec := "vmapBack", inPlace := ["internal/bytealg.IndexByteString", "internal/bytealg.IndexString", "internal/abi.NoEscape"], unfollowed := true, recurses := true, named := ["internal/bytealg.MaxLen", "unicode/utf8.first", "unicode/utf8.acceptRanges"], apart := false, laid := [("unicode/utf8.acceptRanges", laid_unicode_utf8_acceptRanges), ("unicode/utf8.first", laid_unicode_utf8_first)], narrowed := true }
def VmapBackUptoSaid : Prop := vmapBackUptoRow.holds Tryd.pinned (OpenSpec.upto vmapBackSpec)

/-- 'drayagelaw16.AdepPrints', WHERE WHAT IT READS IS OF BULK AT MOST 1048576: true; the input reads as it did. -/
def adepPrintsUptoRow : OpenClaim := { program := "ytlgpcmklpknmcaadoor", sum := "95277aecf698f41e7a24e142bf5c7da4f1c5dbedc4188a51701ba3506c7bc4cd", func := "drayage/drayagelaw16.AdepPrints", spec := "adepPrints", inPlace := ["internal/bytealg.IndexByteString", "internal/bytealg.IndexString", "internal/reflectlite.ValueOf", "(internal/reflectlite.Value).Type", "(internal/reflectlite.Value).IsNil", "internal/reflectlite.TypeOf", "(internal/reflectlite.Value).Elem", "(internal/reflectlite.Value).Set", "internal/abi.NoEscape", "internal/bytealg.MakeNoZero"], unfollowed := true, recurses := true, named := ["internal/bytealg.MaxLen", "errors.errorType"], apart := false, laid := [("errors.errorType", laid_errors_errorType)], narrowed := true }
def AdepPrintsUptoSaid : Prop := adepPrintsUptoRow.holds Tryd.pinned (OpenSpec.upto adepPrintsSpec)

/-- 'drayagelaw16.AdepParses', WHERE WHAT IT READS IS OF BULK AT MOST 1048576: true; the input reads as it did. -/
def adepParsesUptoRow : OpenClaim := { program := "ytlgpcmklpknmcaadoor", sum := "95277aecf698f41e7a24e142bf5c7da4f1c5dbedc4188a51701ba3506c7bc4cd", func := "drayage/drayagelaw16.AdepParses", spec := "adepParses", inPlace := ["internal/bytealg.IndexByteString", "internal/bytealg.IndexString", "internal/reflectlite.ValueOf", "(internal/reflectlite.Value).Type", "(internal/reflectlite.Value).IsNil", "internal/reflectlite.TypeOf", "(internal/reflectlite.Value).Elem", "(internal/reflectlite.Value).Set", "internal/abi.NoEscape", "internal/bytealg.MakeNoZero"], unfollowed := true, recurses := true, named := ["internal/bytealg.MaxLen", "errors.errorType"], apart := false, laid := [("errors.errorType", laid_errors_errorType)], narrowed := true }
def AdepParsesUptoSaid : Prop := adepParsesUptoRow.holds Tryd.pinned (OpenSpec.upto adepParsesSpec)

/-- 'drayagelaw16.AdepBack', WHERE WHAT IT READS IS OF BULK AT MOST 1048576: true; the input reads as it did. -/
def adepBackUptoRow : OpenClaim := { program := "ytlgpcmklpknmcaadoor", sum := "95277aecf698f41e7a24e142bf5c7da4f1c5dbedc4188a51701ba3506c7bc4cd", func := "drayage/drayagelaw16.AdepBack", spec := "adepBack", inPlace := ["internal/bytealg.IndexByteString", "internal/bytealg.IndexString", "internal/reflectlite.ValueOf", "(internal/reflectlite.Value).Type", "(internal/reflectlite.Value).IsNil", "internal/reflectlite.TypeOf", "(internal/reflectlite.Value).Elem", "(internal/reflectlite.Value).Set", "internal/abi.NoEscape", "internal/bytealg.MakeNoZero"], unfollowed := true, recurses := true, named := ["internal/bytealg.MaxLen", "errors.errorType"], apart := false, laid := [("errors.errorType", laid_errors_errorType)], narrowed := true }
def AdepBackUptoSaid : Prop := adepBackUptoRow.holds Tryd.pinned (OpenSpec.upto adepBackSpec)

/-- 'drayagelaw13.VmapCompares', WHERE WHAT IT READS IS OF BULK AT MOST 1048576: true; the input reads as it did. -/
def vmapComparesUptoRow : OpenClaim := { program := "ytlgpcmklpknmcaadoor", sum := "95277aecf698f41e7a24e142bf5c7da4f1c5dbedc4188a51701ba3506c7bc4cd", func := "drayage/drayagelaw13.VmapCompares", spec := "vmapCompares", inPlace := ["internal/bytealg.IndexByteString", "internal/bytealg.IndexString", "internal/abi.NoEscape"], unfollowed := true, recurses := true, named := ["internal/bytealg.MaxLen", "unicode/utf8.first", "unicode/utf8.acceptRanges"], apart := false, laid := [("unicode/utf8.acceptRanges", laid_unicode_utf8_acceptRanges), ("unicode/utf8.first", laid_unicode_utf8_first)], narrowed := true }
def VmapComparesUptoSaid : Prop := vmapComparesUptoRow.holds Tryd.pinned (OpenSpec.upto vmapComparesSpec)

/-- 'drayagelaw13.VmapOrder', WHERE WHAT IT READS IS OF BULK AT MOST 1048576: true; the input reads as it did. -/
def vmapOrderUptoRow : OpenClaim := { program := "ytlgpcmklpknmcaadoor", sum := "95277aecf698f41e7a24e142bf5c7da4f1c5dbedc4188a51701ba3506c7bc4cd", func := "drayage/drayagelaw13.VmapOrder", spec := "vmapOrder", inPlace := ["internal/bytealg.IndexByteString", "internal/bytealg.IndexString", "internal/abi.NoEscape"], unfollowed := true, recurses := true, named := ["internal/bytealg.MaxLen", "unicode/utf8.first", "unicode/utf8.acceptRanges"], apart := false, laid := [("unicode/utf8.acceptRanges", laid_unicode_utf8_acceptRanges), ("unicode/utf8.first", laid_unicode_utf8_first)], narrowed := true }
def VmapOrderUptoSaid : Prop := vmapOrderUptoRow.holds Tryd.pinned (OpenSpec.upto vmapOrderSpec)

end Rows
end Go.Proofs.YtlgpcmklpknmcaaDoor
