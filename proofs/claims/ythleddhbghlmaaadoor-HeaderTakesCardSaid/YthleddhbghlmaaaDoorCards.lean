/-
  DERIVED. GIVEN WITH THE SEED: THE CARDS: each row of YthleddhbghlmaaaDoorRows.lean that lists a variable, with what it lists TIED to the program's text (the seventh form; the later family's looks); each row that meets fmt, with fmt's text TOLD by the authors' own Lean function (tested against real Go, not proved from fmt's source: count such statements apart). THE CARD IS WHAT COUNTS. Prove the row's statement (the work); the ties are given (YthleddhbghlmaaaDoorTie.lean); close each card by the builder's one call (the guide's Derived/Test/ToyasCard.lean, 'card_holds'). Laid BY PROGRAM, IN A SANDBOX (cutbox-door.mjs). By AI agents, Wed Nov 11 2026. No macro, syntax, notation, axiom, sorry.
-/
import Derived.Test.YthleddhbghlmaaaDoorRows
import GoSem.ClaimSeven
namespace Go.Proofs.YthleddhbghlmaaaDoor
namespace Rows

/-- THE TIED CARD OF 'stanzakeeplaw12.HeaderTakes'. -/
def headerTakesCard : Claim7 := { stood := { row := headerTakesRow, standIns := [], harness := (true, "ed2afc99419ce590cdb317112d7f28b68cb2cc7938f6babcd298675694dde61e"), looks := true }, kinds := [], alts := [], laidByText := true, laidKinds := [.data, .data, .data, .sentinel, .sentinel], laidTests := true, laidLooks := .later }
def HeaderTakesCardSaid : Prop := Claim7.holds Tryd.pinned (.plain (OpenSpec.ofChange headerTakesSpec)) headerTakesCard

/-- THE TIED CARD OF 'stanzakeeplaw12.HeaderPuts'. -/
def headerPutsCard : Claim7 := { stood := { row := headerPutsRow, standIns := [], harness := (true, "ed2afc99419ce590cdb317112d7f28b68cb2cc7938f6babcd298675694dde61e"), looks := true }, kinds := [], alts := [], laidByText := true, laidKinds := [.data, .data, .data, .sentinel, .sentinel], laidTests := true, laidLooks := .later }
def HeaderPutsCardSaid : Prop := Claim7.holds Tryd.pinned (.plain (OpenSpec.ofChange headerPutsSpec)) headerPutsCard

/-- THE SECOND FORM's CARD OF 'stanzakeeplaw12.HeaderTakes'. -/
def headerTakesUptoCard : Claim7 := { stood := { row := headerTakesUptoRow, standIns := [], harness := (true, "ed2afc99419ce590cdb317112d7f28b68cb2cc7938f6babcd298675694dde61e"), looks := true }, kinds := [], alts := [], laidByText := true, laidKinds := [.data, .data, .data, .sentinel, .sentinel], laidTests := true, laidLooks := .later }
def HeaderTakesUptoCardSaid : Prop := Claim7.holds Tryd.pinned (.plain (OpenSpec.upto headerTakesSpec)) headerTakesUptoCard

/-- THE SECOND FORM's CARD OF 'stanzakeeplaw12.HeaderPuts'. -/
def headerPutsUptoCard : Claim7 := { stood := { row := headerPutsUptoRow, standIns := [], harness := (true, "ed2afc99419ce590cdb317112d7f28b68cb2cc7938f6babcd298675694dde61e"), looks := true }, kinds := [], alts := [], laidByText := true, laidKinds := [.data, .data, .data, .sentinel, .sentinel], laidTests := true, laidLooks := .later }
def HeaderPutsUptoCardSaid : Prop := Claim7.holds Tryd.pinned (.plain (OpenSpec.upto headerPutsSpec)) headerPutsUptoCard
end Rows
end Go.Proofs.YthleddhbghlmaaaDoor
