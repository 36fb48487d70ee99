/-
  DERIVED. GIVEN WITH THE SEED: THE CARDS: each row of YtalonkenchcfbaaDoorRows.lean that lists a variable, with what it lists TIED to the program's text (the seventh form; the later family's looks); each row that meets fmt, with fmt's text TOLD by the authors' own Lean function (tested against real Go, not proved from fmt's source: count such statements apart). THE CARD IS WHAT COUNTS. Prove the row's statement (the work); the ties are given (YtalonkenchcfbaaDoorTie.lean); close each card by the builder's one call (the guide's Derived/Test/ToyasCard.lean, 'card_holds'). Laid BY PROGRAM, IN A SANDBOX (cutbox-door.mjs). By AI agents, Wed Nov 11 2026. No macro, syntax, notation, axiom, sorry.
-/
import Derived.Test.YtalonkenchcfbaaDoorRows
import GoSem.ClaimSeven
namespace Go.Proofs.YtalonkenchcfbaaDoor
namespace Rows

/-- THE TIED CARD OF 'stanzakeeplaw03.VfsSynced'. -/
def vfsSyncedCard : Claim7 := { stood := { row := vfsSyncedRow, standIns := [], harness := (true, "2c7c21a8af2a5bb550e1db05b2d5da2164e62858304a4bc0840cb72003a1dd8f"), looks := true }, kinds := [], alts := [], laidByText := true, laidKinds := [.data, .pinned], laidTests := true, laidLooks := .later }
def VfsSyncedCardSaid : Prop := Claim7.holds Tryd.pinned (.plain (OpenSpec.ofChange vfsSyncedSpec)) vfsSyncedCard

/-- THE TIED CARD OF 'stanzakeeplaw03.VfsSwaps'. -/
def vfsSwapsCard : Claim7 := { stood := { row := vfsSwapsRow, standIns := [], harness := (true, "2c7c21a8af2a5bb550e1db05b2d5da2164e62858304a4bc0840cb72003a1dd8f"), looks := true }, kinds := [], alts := [], laidByText := true, laidKinds := [.data, .pinned], laidTests := true, laidLooks := .later }
def VfsSwapsCardSaid : Prop := Claim7.holds Tryd.pinned (.plain (OpenSpec.ofChange vfsSwapsSpec)) vfsSwapsCard

/-- THE TIED CARD OF 'stanzakeeplaw03.VfsArmed'. -/
def vfsArmedCard : Claim7 := { stood := { row := vfsArmedRow, standIns := [], harness := (true, "2c7c21a8af2a5bb550e1db05b2d5da2164e62858304a4bc0840cb72003a1dd8f"), looks := true }, kinds := [], alts := [], laidByText := true, laidKinds := [.data, .pinned], laidTests := true, laidLooks := .later }
def VfsArmedCardSaid : Prop := Claim7.holds Tryd.pinned (.plain (OpenSpec.ofChange vfsArmedSpec)) vfsArmedCard

/-- THE SECOND FORM's CARD OF 'stanzakeeplaw03.VfsSynced'. -/
def vfsSyncedUptoCard : Claim7 := { stood := { row := vfsSyncedUptoRow, standIns := [], harness := (true, "2c7c21a8af2a5bb550e1db05b2d5da2164e62858304a4bc0840cb72003a1dd8f"), looks := true }, kinds := [], alts := [], laidByText := true, laidKinds := [.data, .pinned], laidTests := true, laidLooks := .later }
def VfsSyncedUptoCardSaid : Prop := Claim7.holds Tryd.pinned (.plain (OpenSpec.upto vfsSyncedSpec)) vfsSyncedUptoCard

/-- THE SECOND FORM's CARD OF 'stanzakeeplaw03.VfsSwaps'. -/
def vfsSwapsUptoCard : Claim7 := { stood := { row := vfsSwapsUptoRow, standIns := [], harness := (true, "2c7c21a8af2a5bb550e1db05b2d5da2164e62858304a4bc0840cb72003a1dd8f"), looks := true }, kinds := [], alts := [], laidByText := true, laidKinds := [.data, .pinned], laidTests := true, laidLooks := .later }
def VfsSwapsUptoCardSaid : Prop := Claim7.holds Tryd.pinned (.plain (OpenSpec.upto vfsSwapsSpec)) vfsSwapsUptoCard

/-- THE SECOND FORM's CARD OF 'stanzakeeplaw03.VfsArmed'. -/
def vfsArmedUptoCard : Claim7 := { stood := { row := vfsArmedUptoRow, standIns := [], harness := (true, "2c7c21a8af2a5bb550e1db05b2d5da2164e62858304a4bc0840cb72003a1dd8f"), looks := true }, kinds := [], alts := [], laidByText := true, laidKinds := [.data, .pinned], laidTests := true, laidLooks := .later }
def VfsArmedUptoCardSaid : Prop := Claim7.holds Tryd.pinned (.plain (OpenSpec.upto vfsArmedSpec)) vfsArmedUptoCard
end Rows
end Go.Proofs.YtalonkenchcfbaaDoor
