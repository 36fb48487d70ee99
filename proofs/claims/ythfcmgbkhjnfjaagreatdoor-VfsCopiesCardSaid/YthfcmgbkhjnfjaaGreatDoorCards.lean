/-
  DERIVED. GIVEN WITH THE SEED: THE CARDS: each row of YthfcmgbkhjnfjaaGreatDoorRows.lean that lists a variable, with what it lists TIED to the program's text (the seventh form; the later family's looks); each row that meets fmt, with fmt's text TOLD by the authors' own Lean function (tested against real Go, not proved from fmt's source: count such statements apart). THE CARD IS WHAT COUNTS. Prove the row's statement (the work); the ties are given (YthfcmgbkhjnfjaaGreatDoorTie.lean); close each card by the builder's one call (the guide's Derived/Test/ToyasCard.lean, 'card_holds'). Laid BY PROGRAM, IN A SANDBOX (cutbox-door.mjs). By AI agents, Wed Nov 11 2026. No macro, syntax, notation, axiom, sorry.
-/
import Derived.Test.YthfcmgbkhjnfjaaGreatDoorRows
import GoSem.ClaimSeven
namespace Go.Proofs.YthfcmgbkhjnfjaaGreatDoor
namespace Rows

/-- THE TIED CARD OF 'stanzakeeplaw03.VfsPlays'. -/
def vfsPlaysCard : Claim7 := { stood := { row := vfsPlaysRow, standIns := [], harness := (true, "e70a1ec0631f64714f441a082c0dcfe51d263a0a5e47f20c9df3cc2d4b63c55e"), looks := true }, kinds := [], alts := [], laidByText := true, laidKinds := [.data, .pinned], laidTests := true, laidLooks := .later }
def VfsPlaysCardSaid : Prop := Claim7.holds Tryz.pinned (.plain (OpenSpec.ofChange vfsPlaysSpec)) vfsPlaysCard

/-- THE TIED CARD OF 'stanzakeeplaw03.VfsCopies'. -/
def vfsCopiesCard : Claim7 := { stood := { row := vfsCopiesRow, standIns := [], harness := (true, "e70a1ec0631f64714f441a082c0dcfe51d263a0a5e47f20c9df3cc2d4b63c55e"), looks := true }, kinds := [], alts := [], laidByText := true, laidKinds := [.data, .pinned], laidTests := true, laidLooks := .later }
def VfsCopiesCardSaid : Prop := Claim7.holds Tryz.pinned (.plain (OpenSpec.ofChange vfsCopiesSpec)) vfsCopiesCard

/-- THE SECOND FORM's CARD OF 'stanzakeeplaw03.VfsPlays'. -/
def vfsPlaysUptoCard : Claim7 := { stood := { row := vfsPlaysUptoRow, standIns := [], harness := (true, "e70a1ec0631f64714f441a082c0dcfe51d263a0a5e47f20c9df3cc2d4b63c55e"), looks := true }, kinds := [], alts := [], laidByText := true, laidKinds := [.data, .pinned], laidTests := true, laidLooks := .later }
def VfsPlaysUptoCardSaid : Prop := Claim7.holds Tryz.pinned (.plain (OpenSpec.upto vfsPlaysSpec)) vfsPlaysUptoCard

/-- THE SECOND FORM's CARD OF 'stanzakeeplaw03.VfsCopies'. -/
def vfsCopiesUptoCard : Claim7 := { stood := { row := vfsCopiesUptoRow, standIns := [], harness := (true, "e70a1ec0631f64714f441a082c0dcfe51d263a0a5e47f20c9df3cc2d4b63c55e"), looks := true }, kinds := [], alts := [], laidByText := true, laidKinds := [.data, .pinned], laidTests := true, laidLooks := .later }
def VfsCopiesUptoCardSaid : Prop := Claim7.holds Tryz.pinned (.plain (OpenSpec.upto vfsCopiesSpec)) vfsCopiesUptoCard
end Rows
end Go.Proofs.YthfcmgbkhjnfjaaGreatDoor
