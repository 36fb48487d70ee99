/-
  DERIVED. GIVEN WITH THE SEED: THE CARDS: each row of YtboiaoaephimhaaDoorRows.lean that lists a variable, with what it lists TIED to the program's text (the seventh form; the later family's looks); each row that meets fmt, with fmt's text TOLD by the authors' own Lean function (tested against real Go, not proved from fmt's source: count such statements apart). THE CARD IS WHAT COUNTS. Prove the row's statement (the work); the ties are given (YtboiaoaephimhaaDoorTie.lean); close each card by the builder's one call (the guide's Derived/Test/ToyasCard.lean, 'card_holds'). Laid BY PROGRAM, IN A SANDBOX (cutbox-door.mjs). By AI agents, Wed Nov 11 2026. No macro, syntax, notation, axiom, sorry.
-/
import Derived.Test.YtboiaoaephimhaaDoorRows
import GoSem.ClaimSeven
namespace Go.Proofs.YtboiaoaephimhaaDoor
namespace Rows

/-- THE TIED CARD OF 'stanzakeeplaw25.TableLines'. -/
def tableLinesCard : Claim7 := { stood := { row := tableLinesRow, standIns := [], harness := (true, "d08293cd0c98eff5cf64eb62f11c592b124b134d6c25edb6fd5717a6fed9f683"), looks := false }, kinds := [], alts := [], laidByText := true, laidKinds := [.data, .pinned], laidTests := true, laidLooks := .later }
def TableLinesCardSaid : Prop := Claim7.holds Tryd.pinned (.plain (OpenSpec.ofChange tableLinesSpec)) tableLinesCard

/-- THE TIED CARD OF 'stanzakeeplaw25.TablePlaces'. -/
def tablePlacesCard : Claim7 := { stood := { row := tablePlacesRow, standIns := [], harness := (true, "d08293cd0c98eff5cf64eb62f11c592b124b134d6c25edb6fd5717a6fed9f683"), looks := false }, kinds := [], alts := [], laidByText := true, laidKinds := [.data, .pinned], laidTests := true, laidLooks := .later }
def TablePlacesCardSaid : Prop := Claim7.holds Tryd.pinned (.plain (OpenSpec.ofChange tablePlacesSpec)) tablePlacesCard

/-- THE SECOND FORM's CARD OF 'stanzakeeplaw25.TableLines'. -/
def tableLinesUptoCard : Claim7 := { stood := { row := tableLinesUptoRow, standIns := [], harness := (true, "d08293cd0c98eff5cf64eb62f11c592b124b134d6c25edb6fd5717a6fed9f683"), looks := false }, kinds := [], alts := [], laidByText := true, laidKinds := [.data, .pinned], laidTests := true, laidLooks := .later }
def TableLinesUptoCardSaid : Prop := Claim7.holds Tryd.pinned (.plain (OpenSpec.upto tableLinesSpec)) tableLinesUptoCard

/-- THE SECOND FORM's CARD OF 'stanzakeeplaw25.TablePlaces'. -/
def tablePlacesUptoCard : Claim7 := { stood := { row := tablePlacesUptoRow, standIns := [], harness := (true, "d08293cd0c98eff5cf64eb62f11c592b124b134d6c25edb6fd5717a6fed9f683"), looks := false }, kinds := [], alts := [], laidByText := true, laidKinds := [.data, .pinned], laidTests := true, laidLooks := .later }
def TablePlacesUptoCardSaid : Prop := Claim7.holds Tryd.pinned (.plain (OpenSpec.upto tablePlacesSpec)) tablePlacesUptoCard
end Rows
end Go.Proofs.YtboiaoaephimhaaDoor
