/-
  DERIVED. GIVEN WITH THE SEED: THE CARDS: each row of YtlgpcmklpknmcaaDoorRows.lean that lists a variable, with what it lists TIED to the program's text (the seventh form; the later family's looks); each row that meets fmt, with fmt's text TOLD by the authors' own Lean function (tested against real Go, not proved from fmt's source: count such statements apart). THE CARD IS WHAT COUNTS. Prove the row's statement (the work); the ties are given (YtlgpcmklpknmcaaDoorTie.lean); close each card by the builder's one call (the guide's Derived/Test/ToyasCard.lean, 'card_holds'). Laid BY PROGRAM, IN A SANDBOX (cutbox-door.mjs). By AI agents, Wed Nov 11 2026. No macro, syntax, notation, axiom, sorry.
-/
import Derived.Test.YtlgpcmklpknmcaaDoorRows
import GoSem.ClaimSeven
namespace Go.Proofs.YtlgpcmklpknmcaaDoor
namespace Rows

/-- THE TIED CARD OF 'drayagelaw12.VersionOrder'. -/
def versionOrderCard : Claim7 := { stood := { row := versionOrderRow, standIns := [], harness := (true, "d5e453901ad4ef34035fa10401a7529025d63f0b9a8f5f2d5da604c4e6576016"), looks := true }, kinds := [], alts := [], laidByText := true, laidKinds := [.data, .pinned], laidTests := true, laidLooks := .later }
def VersionOrderCardSaid : Prop := Claim7.holds Tryd.pinned (.plain (OpenSpec.ofChange versionOrderSpec)) versionOrderCard

/-- THE TIED CARD OF 'drayagelaw13.VmapCores'. -/
def vmapCoresCard : Claim7 := { stood := { row := vmapCoresRow, standIns := [], harness := (true, "d5e453901ad4ef34035fa10401a7529025d63f0b9a8f5f2d5da604c4e6576016"), looks := true }, kinds := [], alts := [], laidByText := true, laidKinds := [.data, .pinned], laidTests := true, laidLooks := .later }
def VmapCoresCardSaid : Prop := Claim7.holds Tryd.pinned (.plain (OpenSpec.ofChange vmapCoresSpec)) vmapCoresCard

/-- THE TIED CARD OF 'drayagelaw13.VmapTranslates'. -/
def vmapTranslatesCard : Claim7 := { stood := { row := vmapTranslatesRow, standIns := [], harness := (true, "d5e453901ad4ef34035fa10401a7529025d63f0b9a8f5f2d5da604c4e6576016"), looks := true }, kinds := [], alts := [], laidByText := true, laidKinds := [.data, .pinned], laidTests := true, laidLooks := .later }
def VmapTranslatesCardSaid : Prop := Claim7.holds Tryd.pinned (.plain (OpenSpec.ofChange vmapTranslatesSpec)) vmapTranslatesCard

/-- THE TIED CARD OF 'drayagelaw13.VmapBack'. -/
def vmapBackCard : Claim7 := { stood := { row := vmapBackRow, standIns := [], harness := (true, "d5e453901ad4ef34035fa10401a7529025d63f0b9a8f5f2d5da604c4e6576016"), looks := true }, kinds := [], alts := [], laidByText := true, laidKinds := [.data, .pinned], laidTests := true, laidLooks := .later }
def VmapBackCardSaid : Prop := Claim7.holds Tryd.pinned (.plain (OpenSpec.ofChange vmapBackSpec)) vmapBackCard

/-- THE TIED CARD OF 'drayagelaw16.AdepPrints'. -/
def adepPrintsCard : Claim7 := { stood := { row := adepPrintsRow, standIns := [], harness := (true, "d5e453901ad4ef34035fa10401a7529025d63f0b9a8f5f2d5da604c4e6576016"), looks := true }, kinds := [], alts := [], laidByText := true, laidKinds := [.handle], laidTests := true, laidLooks := .later }
def AdepPrintsCardSaid : Prop := Claim7.holds Tryd.pinned (.plain (OpenSpec.ofChange adepPrintsSpec)) adepPrintsCard

/-- THE TIED CARD OF 'drayagelaw16.AdepParses'. -/
def adepParsesCard : Claim7 := { stood := { row := adepParsesRow, standIns := [], harness := (true, "d5e453901ad4ef34035fa10401a7529025d63f0b9a8f5f2d5da604c4e6576016"), looks := true }, kinds := [], alts := [], laidByText := true, laidKinds := [.handle], laidTests := true, laidLooks := .later }
def AdepParsesCardSaid : Prop := Claim7.holds Tryd.pinned (.plain (OpenSpec.ofChange adepParsesSpec)) adepParsesCard

/-- THE TIED CARD OF 'drayagelaw16.AdepBack'. -/
def adepBackCard : Claim7 := { stood := { row := adepBackRow, standIns := [], harness := (true, "d5e453901ad4ef34035fa10401a7529025d63f0b9a8f5f2d5da604c4e6576016"), looks := true }, kinds := [], alts := [], laidByText := true, laidKinds := [.handle], laidTests := true, laidLooks := .later }
def AdepBackCardSaid : Prop := Claim7.holds Tryd.pinned (.plain (OpenSpec.ofChange adepBackSpec)) adepBackCard

/-- THE TIED CARD OF 'drayagelaw13.VmapCompares'. -/
def vmapComparesCard : Claim7 := { stood := { row := vmapComparesRow, standIns := [], harness := (true, "d5e453901ad4ef34035fa10401a7529025d63f0b9a8f5f2d5da604c4e6576016"), looks := true }, kinds := [], alts := [], laidByText := true, laidKinds := [.data, .pinned], laidTests := true, laidLooks := .later }
def VmapComparesCardSaid : Prop := Claim7.holds Tryd.pinned (.plain (OpenSpec.ofChange vmapComparesSpec)) vmapComparesCard

/-- THE TIED CARD OF 'drayagelaw13.VmapOrder'. -/
def vmapOrderCard : Claim7 := { stood := { row := vmapOrderRow, standIns := [], harness := (true, "d5e453901ad4ef34035fa10401a7529025d63f0b9a8f5f2d5da604c4e6576016"), looks := true }, kinds := [], alts := [], laidByText := true, laidKinds := [.data, .pinned], laidTests := true, laidLooks := .later }
def VmapOrderCardSaid : Prop := Claim7.holds Tryd.pinned (.plain (OpenSpec.ofChange vmapOrderSpec)) vmapOrderCard

/-- THE SECOND FORM's CARD OF 'drayagelaw12.VersionOrder'. -/
def versionOrderUptoCard : Claim7 := { stood := { row := versionOrderUptoRow, standIns := [], harness := (true, "d5e453901ad4ef34035fa10401a7529025d63f0b9a8f5f2d5da604c4e6576016"), looks := true }, kinds := [], alts := [], laidByText := true, laidKinds := [.data, .pinned], laidTests := true, laidLooks := .later }
def VersionOrderUptoCardSaid : Prop := Claim7.holds Tryd.pinned (.plain (OpenSpec.upto versionOrderSpec)) versionOrderUptoCard

/-- THE SECOND FORM's CARD OF 'drayagelaw13.VmapCores'. -/
def vmapCoresUptoCard : Claim7 := { stood := { row := vmapCoresUptoRow, standIns := [], harness := (true, "d5e453901ad4ef34035fa10401a7529025d63f0b9a8f5f2d5da604c4e6576016"), looks := true }, kinds := [], alts := [], laidByText := true, laidKinds := [.data, .pinned], laidTests := true, laidLooks := .later }
def VmapCoresUptoCardSaid : Prop := Claim7.holds Tryd.pinned (.plain (OpenSpec.upto vmapCoresSpec)) vmapCoresUptoCard

/-- THE SECOND FORM's CARD OF 'drayagelaw13.VmapTranslates'. -/
def vmapTranslatesUptoCard : Claim7 := { stood := { row := vmapTranslatesUptoRow, standIns := [], harness := (true, "d5e453901ad4ef34035fa10401a7529025d63f0b9a8f5f2d5da604c4e6576016"), looks := true }, kinds := [], alts := [], laidByText := true, laidKinds := [.data, .pinned], laidTests := true, laidLooks := .later }
def VmapTranslatesUptoCardSaid : Prop := Claim7.holds Tryd.pinned (.plain (OpenSpec.upto vmapTranslatesSpec)) vmapTranslatesUptoCard

/-- THE SECOND FORM's CARD OF 'drayagelaw13.VmapBack'. -/
def vmapBackUptoCard : Claim7 := { stood := { row := vmapBackUptoRow, standIns := [], harness := (true, "d5e453901ad4ef34035fa10401a7529025d63f0b9a8f5f2d5da604c4e6576016"), looks := true }, kinds := [], alts := [], laidByText := true, laidKinds := [.data, .pinned], laidTests := true, laidLooks := .later }
def VmapBackUptoCardSaid : Prop := Claim7.holds Tryd.pinned (.plain (OpenSpec.upto vmapBackSpec)) vmapBackUptoCard

/-- THE SECOND FORM's CARD OF 'drayagelaw16.AdepPrints'. -/
def adepPrintsUptoCard : Claim7 := { stood := { row := adepPrintsUptoRow, standIns := [], harness := (true, "d5e453901ad4ef34035fa10401a7529025d63f0b9a8f5f2d5da604c4e6576016"), looks := true }, kinds := [], alts := [], laidByText := true, laidKinds := [.handle], laidTests := true, laidLooks := .later }
def AdepPrintsUptoCardSaid : Prop := Claim7.holds Tryd.pinned (.plain (OpenSpec.upto adepPrintsSpec)) adepPrintsUptoCard

/-- THE SECOND FORM's CARD OF 'drayagelaw16.AdepParses'. -/
def adepParsesUptoCard : Claim7 := { stood := { row := adepParsesUptoRow, standIns := [], harness := (true, "d5e453901ad4ef34035fa10401a7529025d63f0b9a8f5f2d5da604c4e6576016"), looks := true }, kinds := [], alts := [], laidByText := true, laidKinds := [.handle], laidTests := true, laidLooks := .later }
def AdepParsesUptoCardSaid : Prop := Claim7.holds Tryd.pinned (.plain (OpenSpec.upto adepParsesSpec)) adepParsesUptoCard

/-- THE SECOND FORM's CARD OF 'drayagelaw16.AdepBack'. -/
def adepBackUptoCard : Claim7 := { stood := { row := adepBackUptoRow, standIns := [], harness := (true, "d5e453901ad4ef34035fa10401a7529025d63f0b9a8f5f2d5da604c4e6576016"), looks := true }, kinds := [], alts := [], laidByText := true, laidKinds := [.handle], laidTests := true, laidLooks := .later }
def AdepBackUptoCardSaid : Prop := Claim7.holds Tryd.pinned (.plain (OpenSpec.upto adepBackSpec)) adepBackUptoCard

/-- THE SECOND FORM's CARD OF 'drayagelaw13.VmapCompares'. -/
def vmapComparesUptoCard : Claim7 := { stood := { row := vmapComparesUptoRow, standIns := [], harness := (true, "d5e453901ad4ef34035fa10401a7529025d63f0b9a8f5f2d5da604c4e6576016"), looks := true }, kinds := [], alts := [], laidByText := true, laidKinds := [.data, .pinned], laidTests := true, laidLooks := .later }
def VmapComparesUptoCardSaid : Prop := Claim7.holds Tryd.pinned (.plain (OpenSpec.upto vmapComparesSpec)) vmapComparesUptoCard

/-- THE SECOND FORM's CARD OF 'drayagelaw13.VmapOrder'. -/
def vmapOrderUptoCard : Claim7 := { stood := { row := vmapOrderUptoRow, standIns := [], harness := (true, "d5e453901ad4ef34035fa10401a7529025d63f0b9a8f5f2d5da604c4e6576016"), looks := true }, kinds := [], alts := [], laidByText := true, laidKinds := [.data, .pinned], laidTests := true, laidLooks := .later }
def VmapOrderUptoCardSaid : Prop := Claim7.holds Tryd.pinned (.plain (OpenSpec.upto vmapOrderSpec)) vmapOrderUptoCard
end Rows
end Go.Proofs.YtlgpcmklpknmcaaDoor
