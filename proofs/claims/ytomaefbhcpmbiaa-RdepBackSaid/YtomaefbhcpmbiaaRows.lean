/-
  NARROWER THAN 'FOR EVERY INPUT', by the rows' own cells (each row's printed sentence says how): RdepBack: loops.
  DERIVED. THE GIVEN ROWS OF THIS SEAT. 3 by the template 'for every input the law returns true; each argument reads behind the call as it read before'; 0 by the template 'total and deterministic' (their statements: YtomaefbhcpmbiaaTotals.lean).
  GIVEN WITH THE SEED: the statements are not yours to turn. If you find one false, say at which input.
  Laid BY PROGRAM, IN A SANDBOX (cutbox-rows.mjs): the forced cells as the released guide's own fill.sh prints them over the translation cbc2b383cfa9c4cf… (all of the seat's roots in one cut). By AI agents, Wed Nov 11 2026. No macro, syntax, notation, axiom, sorry.
-/
import Derived.Test.YtomaefbhcpmbiaaChecked
import GoSem.Claim
import GoSem.ClaimJoined
import GoSem.ClaimMapViews
import Derived.JoinedTies
import Derived.KernelRfl
namespace Go.Proofs.Ytomaefbhcpmbiaa
/- THE CELL 'sum', in the pinned program and in every row, IS THE sha256 OF THE DUMP (.gsa) THAT YtomaefbhcpmbiaaProg.lean LOADS. Nothing in Lean hashes anything: it is a label: what it is worth is what the hold of that sum in a sandbox is worth. -/
noncomputable def Try.pinned : Pinned := { name := "ytomaefbhcpmbiaa", sum := "cbc2b383cfa9c4cfc6823ce3376dc01a8ec1c87764660fd05a4cfe825ee7aa73", checked := Try.checked }
namespace Rows
def none {H : Type} : Left H := { results := [], args := [] }

/-- 'drayagelaw15.RdepParses': WHATEVER THE INPUT: true; the input reads as it did. -/
def rdepParsesSpec : ChangeSpec := { name := "rdepParses", fn := fun _ => fun
  | [d] => { results := [.lit (.bool true)], args := [d] }
  | _ => none }
def rdepParsesRow : OpenClaim := { program := "ytomaefbhcpmbiaa", sum := "cbc2b383cfa9c4cfc6823ce3376dc01a8ec1c87764660fd05a4cfe825ee7aa73", func := "drayage/drayagelaw15.RdepParses", spec := "rdepParses", inPlace := ["internal/bytealg.IndexByteString", "internal/bytealg.IndexString", "internal/abi.NoEscape"], recurses := true, named := ["internal/bytealg.MaxLen"], apart := false }
def RdepParsesSaid : Prop := rdepParsesRow.holds Try.pinned (OpenSpec.ofChange rdepParsesSpec)

/-- ITS FALSE NEIGHBOUR: 'it returns false'. Refute it at one input. -/
def rdepParsesWrong : ChangeSpec := { name := "rdepParses", fn := fun _ => fun
  | [d] => { results := [.lit (.bool false)], args := [d] }
  | _ => none }
def RdepParsesWrongFalsely : Prop := rdepParsesRow.holds Try.pinned (OpenSpec.ofChange rdepParsesWrong)

/-- 'drayagelaw15.RdepBack': WHATEVER THE INPUT: true; the input reads as it did. -/
def rdepBackSpec : ChangeSpec := { name := "rdepBack", fn := fun _ => fun
  | [d1, d2] => { results := [.lit (.bool true)], args := [d1, d2] }
  | _ => none }
def rdepBackRow : OpenClaim := { program := "ytomaefbhcpmbiaa", sum := "cbc2b383cfa9c4cfc6823ce3376dc01a8ec1c87764660fd05a4cfe825ee7aa73", func := "drayage/drayagelaw15.RdepBack", spec := "rdepBack", inPlace := ["internal/bytealg.IndexByteString", "internal/bytealg.IndexString", "internal/abi.NoEscape"], recurses := true, named := ["internal/bytealg.MaxLen"], loops := true, apart := false }
def RdepBackSaid : Prop := rdepBackRow.holds Try.pinned (OpenSpec.ofChange rdepBackSpec)

/-- ITS FALSE NEIGHBOUR: 'it returns false'. Refute it at one input. -/
def rdepBackWrong : ChangeSpec := { name := "rdepBack", fn := fun _ => fun
  | [d1, d2] => { results := [.lit (.bool false)], args := [d1, d2] }
  | _ => none }
def RdepBackWrongFalsely : Prop := rdepBackRow.holds Try.pinned (OpenSpec.ofChange rdepBackWrong)

/-- 'drayagelaw14.DdepBack': WHATEVER THE INPUT: true; the input reads as it did. -/
def ddepBackSpec : ChangeSpec := { name := "ddepBack", fn := fun _ => fun
  | [d1, d2] => { results := [.lit (.bool true)], args := [d1, d2] }
  | _ => none }
def ddepBackRow : OpenClaim := { program := "ytomaefbhcpmbiaa", sum := "cbc2b383cfa9c4cfc6823ce3376dc01a8ec1c87764660fd05a4cfe825ee7aa73", func := "drayage/drayagelaw14.DdepBack", spec := "ddepBack", inPlace := ["internal/bytealg.IndexByteString", "internal/bytealg.IndexString", "internal/abi.NoEscape", "internal/bytealg.MakeNoZero"], unfollowed := true, recurses := true, named := ["internal/bytealg.MaxLen"], apart := false }
def DdepBackSaid : Prop := ddepBackRow.holds Try.pinned (OpenSpec.ofChange ddepBackSpec)

/-- ITS FALSE NEIGHBOUR: 'it returns false'. Refute it at one input. -/
def ddepBackWrong : ChangeSpec := { name := "ddepBack", fn := fun _ => fun
  | [d1, d2] => { results := [.lit (.bool false)], args := [d1, d2] }
  | _ => none }
def DdepBackWrongFalsely : Prop := ddepBackRow.holds Try.pinned (OpenSpec.ofChange ddepBackWrong)

/- THE SECOND FORM. 'bulk': how many values and letters a reading holds, each counted each time it is reached (what is shared counts as often as it is met; a slice's spare places count too). A statement '..UptoSaid' is the law's where the arguments, and the package variables that the reading takes, are together of bulk at most 1048576: NARROWER than '..Said'. Prove '..Said' where nothing that the law and all that it calls make is longer than what came in: it says more and counts as full. Else prove '..UptoSaid'. A law counts once. -/
mutual
def uptoBulk {H : Type} : DataW H → Nat
  | .lit (.string bytes) => bytes.length + 1
  | .lit _ => 1
  | .nil => 1
  | .ptr d => uptoBulk d + 1
  | .slice elems spare => uptoBulkAll elems + uptoBulkAll spare + 1
  | .agg parts => uptoBulkAll parts + 1
  | .iface _ d => uptoBulk d + 1
  | .map entries => uptoBulkEntries entries + 1
  | .held _ => 1
def uptoBulkAll {H : Type} : List (DataW H) → Nat
  | [] => 0
  | d :: r => uptoBulk d + uptoBulkAll r
def uptoBulkEntries {H : Type} : List (Lit × DataW H) → Nat
  | [] => 0
  | x :: r => uptoBulkEntry x + uptoBulkEntries r
def uptoBulkEntry {H : Type} : Lit × DataW H → Nat
  | (.string bytes, d) => bytes.length + uptoBulk d + 1
  | (_, d) => uptoBulk d + 1
 end
def uptoSmall : (H : Type) → List (DataW H) → Bool := fun _ ds => decide (uptoBulkAll ds ≤ 1048576)
def OpenSpec.upto (s : _root_.Go.ChangeSpec) : _root_.Go.OpenSpec := { _root_.Go.OpenSpec.ofChange s with cond := some uptoSmall }

/-- 'drayagelaw15.RdepParses', WHERE WHAT IT READS IS OF BULK AT MOST 1048576: true; the input reads as it did. -/
def rdepParsesUptoRow : OpenClaim := { program := "ytomaefbhcpmbiaa", sum := "cbc2b383cfa9c4cfc6823ce3376dc01a8ec1c87764660fd05a4cfe825ee7aa73", func := "drayage/drayagelaw15.RdepParses", spec := "rdepParses", inPlace := ["internal/bytealg.IndexByteString", "internal/bytealg.IndexString", "internal/abi.NoEscape"], recurses := true, named := ["internal/bytealg.MaxLen"], apart := false, narrowed := true }
def RdepParsesUptoSaid : Prop := rdepParsesUptoRow.holds Try.pinned (OpenSpec.upto rdepParsesSpec)

/-- 'drayagelaw15.RdepBack', WHERE WHAT IT READS IS OF BULK AT MOST 1048576: true; the input reads as it did. -/
def rdepBackUptoRow : OpenClaim := { program := "ytomaefbhcpmbiaa", sum := "cbc2b383cfa9c4cfc6823ce3376dc01a8ec1c87764660fd05a4cfe825ee7aa73", func := "drayage/drayagelaw15.RdepBack", spec := "rdepBack", inPlace := ["internal/bytealg.IndexByteString", "internal/bytealg.IndexString", "internal/abi.NoEscape"], recurses := true, named := ["internal/bytealg.MaxLen"], loops := true, apart := false, narrowed := true }
def RdepBackUptoSaid : Prop := rdepBackUptoRow.holds Try.pinned (OpenSpec.upto rdepBackSpec)

/-- 'drayagelaw14.DdepBack', WHERE WHAT IT READS IS OF BULK AT MOST 1048576: true; the input reads as it did. -/
def ddepBackUptoRow : OpenClaim := { program := "ytomaefbhcpmbiaa", sum := "cbc2b383cfa9c4cfc6823ce3376dc01a8ec1c87764660fd05a4cfe825ee7aa73", func := "drayage/drayagelaw14.DdepBack", spec := "ddepBack", inPlace := ["internal/bytealg.IndexByteString", "internal/bytealg.IndexString", "internal/abi.NoEscape", "internal/bytealg.MakeNoZero"], unfollowed := true, recurses := true, named := ["internal/bytealg.MaxLen"], apart := false, narrowed := true }
def DdepBackUptoSaid : Prop := ddepBackUptoRow.holds Try.pinned (OpenSpec.upto ddepBackSpec)

end Rows
end Go.Proofs.Ytomaefbhcpmbiaa
