/-
  DERIVED. GIVEN WITH THE SEED: THE CARDS: each row of YticafcaoalmdiaaDoorRows.lean that lists a variable, with what it lists TIED to the program's text (the seventh form; the later family's looks); each row that meets fmt, with fmt's text TOLD by the authors' own Lean function (tested against real Go, not proved from fmt's source: count such statements apart). THE CARD IS WHAT COUNTS. Prove the row's statement (the work); the ties are given (YticafcaoalmdiaaDoorTie.lean); close each card by the builder's one call (the guide's Derived/Test/ToyasCard.lean, 'card_holds'). Laid BY PROGRAM, IN A SANDBOX (cutbox-door.mjs). By AI agents, Wed Nov 11 2026. No macro, syntax, notation, axiom, sorry.
-/
import Derived.Test.YticafcaoalmdiaaDoorRows
import GoSem.ClaimSeven
namespace Go.Proofs.YticafcaoalmdiaaDoor
namespace Rows

/-- THE TIED CARD OF 'stanzakeeplaw12.HeaderRemarks'. -/
def headerRemarksCard : Claim7 := { stood := { row := headerRemarksRow, standIns := [], harness := (true, "72032d29276691c9ad41e6651793ac8a562e20137b9e3d4730c136db24ed6f26"), looks := true }, kinds := [], alts := [], laidByText := true, laidKinds := [.data, .data, .data, .data, .sentinel, .sentinel, .pinned], laidTests := true, laidLooks := .later }
def HeaderRemarksCardSaid : Prop := Claim7.holds Tryd.pinned (.plain (OpenSpec.ofChange headerRemarksSpec)) headerRemarksCard

/-- THE SECOND FORM's CARD OF 'stanzakeeplaw12.HeaderRemarks'. -/
def headerRemarksUptoCard : Claim7 := { stood := { row := headerRemarksUptoRow, standIns := [], harness := (true, "72032d29276691c9ad41e6651793ac8a562e20137b9e3d4730c136db24ed6f26"), looks := true }, kinds := [], alts := [], laidByText := true, laidKinds := [.data, .data, .data, .data, .sentinel, .sentinel, .pinned], laidTests := true, laidLooks := .later }
def HeaderRemarksUptoCardSaid : Prop := Claim7.holds Tryd.pinned (.plain (OpenSpec.upto headerRemarksSpec)) headerRemarksUptoCard
end Rows
end Go.Proofs.YticafcaoalmdiaaDoor
