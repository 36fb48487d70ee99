/-
  DERIVED. GIVEN WITH THE SEED: THE CARDS: each row of YtklbbcemacpimaaGreatDoorRows.lean that lists a variable, with what it lists TIED to the program's text (the seventh form; the later family's looks); each row that meets fmt, with fmt's text TOLD by the authors' own Lean function (tested against real Go, not proved from fmt's source: count such statements apart). THE CARD IS WHAT COUNTS. Prove the row's statement (the work); the ties are given (YtklbbcemacpimaaGreatDoorTie.lean); close each card by the builder's one call (the guide's Derived/Test/ToyasCard.lean, 'card_holds'). Laid BY PROGRAM, IN A SANDBOX (cutbox-door.mjs). By AI agents, Wed Nov 11 2026. No macro, syntax, notation, axiom, sorry.
-/
import Derived.Test.YtklbbcemacpimaaGreatDoorRows
import GoSem.ClaimSeven
namespace Go.Proofs.YtklbbcemacpimaaGreatDoor
namespace Rows

/-- THE TIED CARD OF 'stanzakeeplaw08.IndexWithin'. -/
def indexWithinCard : Claim7 := { stood := { row := indexWithinRow, standIns := [], harness := (true, "d5ad4ebd75d96bf053f6b18d5c8c6f7c8342909d70e6987b40362eba15f808d0"), looks := false }, kinds := [], alts := [], laidByText := true, laidKinds := [.data, .pinned], laidTests := true, laidLooks := .later }
def IndexWithinCardSaid : Prop := Claim7.holds Tryz.pinned (.plain (OpenSpec.ofChange indexWithinSpec)) indexWithinCard

/-- THE TIED CARD OF 'stanzakeeplaw08.IndexFollows'. -/
def indexFollowsCard : Claim7 := { stood := { row := indexFollowsRow, standIns := [], harness := (true, "d5ad4ebd75d96bf053f6b18d5c8c6f7c8342909d70e6987b40362eba15f808d0"), looks := false }, kinds := [], alts := [], laidByText := true, laidKinds := [.data, .pinned], laidTests := true, laidLooks := .later }
def IndexFollowsCardSaid : Prop := Claim7.holds Tryz.pinned (.plain (OpenSpec.ofChange indexFollowsSpec)) indexFollowsCard

/-- THE SECOND FORM's CARD OF 'stanzakeeplaw08.IndexWithin'. -/
def indexWithinUptoCard : Claim7 := { stood := { row := indexWithinUptoRow, standIns := [], harness := (true, "d5ad4ebd75d96bf053f6b18d5c8c6f7c8342909d70e6987b40362eba15f808d0"), looks := false }, kinds := [], alts := [], laidByText := true, laidKinds := [.data, .pinned], laidTests := true, laidLooks := .later }
def IndexWithinUptoCardSaid : Prop := Claim7.holds Tryz.pinned (.plain (OpenSpec.upto indexWithinSpec)) indexWithinUptoCard

/-- THE SECOND FORM's CARD OF 'stanzakeeplaw08.IndexFollows'. -/
def indexFollowsUptoCard : Claim7 := { stood := { row := indexFollowsUptoRow, standIns := [], harness := (true, "d5ad4ebd75d96bf053f6b18d5c8c6f7c8342909d70e6987b40362eba15f808d0"), looks := false }, kinds := [], alts := [], laidByText := true, laidKinds := [.data, .pinned], laidTests := true, laidLooks := .later }
def IndexFollowsUptoCardSaid : Prop := Claim7.holds Tryz.pinned (.plain (OpenSpec.upto indexFollowsSpec)) indexFollowsUptoCard
end Rows
end Go.Proofs.YtklbbcemacpimaaGreatDoor
