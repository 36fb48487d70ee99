/-
  DERIVED. GIVEN WITH THE SEED: THE CARDS: each row of YteaeekhepgjliaaDoorRows.lean that lists a variable, with what it lists TIED to the program's text (the seventh form; the later family's looks); each row that meets fmt, with fmt's text TOLD by the authors' own Lean function (tested against real Go, not proved from fmt's source: count such statements apart). THE CARD IS WHAT COUNTS. Prove the row's statement (the work); the ties are given (YteaeekhepgjliaaDoorTie.lean); close each card by the builder's one call (the guide's Derived/Test/ToyasCard.lean, 'card_holds'). Laid BY PROGRAM, IN A SANDBOX (cutbox-door.mjs). By AI agents, Wed Nov 11 2026. No macro, syntax, notation, axiom, sorry.
-/
import Derived.Test.YteaeekhepgjliaaDoorRows
import GoSem.ClaimSeven
namespace Go.Proofs.YteaeekhepgjliaaDoor
namespace Rows

/-- THE TIED CARD OF 'stanzakeeplaw02.LinesKinds'. -/
def linesKindsCard : Claim7 := { stood := { row := linesKindsRow, standIns := [], harness := (true, "853bbf05e19d5a28c2ffc2af318f1e059db55941af4a0ea9c921f067cdc7fd1c"), looks := false }, kinds := [], alts := [], laidByText := true, laidKinds := [.data, .pinned], laidTests := true, laidLooks := .later }
def LinesKindsCardSaid : Prop := Claim7.holds Tryd.pinned (.plain (OpenSpec.ofChange linesKindsSpec)) linesKindsCard

/-- THE TIED CARD OF 'stanzakeeplaw02.LinesKeys'. -/
def linesKeysCard : Claim7 := { stood := { row := linesKeysRow, standIns := [], harness := (true, "853bbf05e19d5a28c2ffc2af318f1e059db55941af4a0ea9c921f067cdc7fd1c"), looks := false }, kinds := [], alts := [], laidByText := true, laidKinds := [.data, .pinned], laidTests := true, laidLooks := .later }
def LinesKeysCardSaid : Prop := Claim7.holds Tryd.pinned (.plain (OpenSpec.ofChange linesKeysSpec)) linesKeysCard

/-- THE TIED CARD OF 'stanzakeeplaw02.LinesSplits'. -/
def linesSplitsCard : Claim7 := { stood := { row := linesSplitsRow, standIns := [], harness := (true, "853bbf05e19d5a28c2ffc2af318f1e059db55941af4a0ea9c921f067cdc7fd1c"), looks := false }, kinds := [], alts := [], laidByText := true, laidKinds := [.data, .pinned], laidTests := true, laidLooks := .later }
def LinesSplitsCardSaid : Prop := Claim7.holds Tryd.pinned (.plain (OpenSpec.ofChange linesSplitsSpec)) linesSplitsCard

/-- THE TIED CARD OF 'stanzakeeplaw02.LinesWhole'. -/
def linesWholeCard : Claim7 := { stood := { row := linesWholeRow, standIns := [], harness := (true, "853bbf05e19d5a28c2ffc2af318f1e059db55941af4a0ea9c921f067cdc7fd1c"), looks := false }, kinds := [], alts := [], laidByText := true, laidKinds := [.data, .pinned], laidTests := true, laidLooks := .later }
def LinesWholeCardSaid : Prop := Claim7.holds Tryd.pinned (.plain (OpenSpec.ofChange linesWholeSpec)) linesWholeCard

/-- THE TIED CARD OF 'stanzakeeplaw02.LinesIndents'. -/
def linesIndentsCard : Claim7 := { stood := { row := linesIndentsRow, standIns := [], harness := (true, "853bbf05e19d5a28c2ffc2af318f1e059db55941af4a0ea9c921f067cdc7fd1c"), looks := false }, kinds := [], alts := [], laidByText := true, laidKinds := [.data, .pinned], laidTests := true, laidLooks := .later }
def LinesIndentsCardSaid : Prop := Claim7.holds Tryd.pinned (.plain (OpenSpec.ofChange linesIndentsSpec)) linesIndentsCard

/-- THE SECOND FORM's CARD OF 'stanzakeeplaw02.LinesKinds'. -/
def linesKindsUptoCard : Claim7 := { stood := { row := linesKindsUptoRow, standIns := [], harness := (true, "853bbf05e19d5a28c2ffc2af318f1e059db55941af4a0ea9c921f067cdc7fd1c"), looks := false }, kinds := [], alts := [], laidByText := true, laidKinds := [.data, .pinned], laidTests := true, laidLooks := .later }
def LinesKindsUptoCardSaid : Prop := Claim7.holds Tryd.pinned (.plain (OpenSpec.upto linesKindsSpec)) linesKindsUptoCard

/-- THE SECOND FORM's CARD OF 'stanzakeeplaw02.LinesKeys'. -/
def linesKeysUptoCard : Claim7 := { stood := { row := linesKeysUptoRow, standIns := [], harness := (true, "853bbf05e19d5a28c2ffc2af318f1e059db55941af4a0ea9c921f067cdc7fd1c"), looks := false }, kinds := [], alts := [], laidByText := true, laidKinds := [.data, .pinned], laidTests := true, laidLooks := .later }
def LinesKeysUptoCardSaid : Prop := Claim7.holds Tryd.pinned (.plain (OpenSpec.upto linesKeysSpec)) linesKeysUptoCard

/-- THE SECOND FORM's CARD OF 'stanzakeeplaw02.LinesSplits'. -/
def linesSplitsUptoCard : Claim7 := { stood := { row := linesSplitsUptoRow, standIns := [], harness := (true, "853bbf05e19d5a28c2ffc2af318f1e059db55941af4a0ea9c921f067cdc7fd1c"), looks := false }, kinds := [], alts := [], laidByText := true, laidKinds := [.data, .pinned], laidTests := true, laidLooks := .later }
def LinesSplitsUptoCardSaid : Prop := Claim7.holds Tryd.pinned (.plain (OpenSpec.upto linesSplitsSpec)) linesSplitsUptoCard

/-- THE SECOND FORM's CARD OF 'stanzakeeplaw02.LinesWhole'. -/
def linesWholeUptoCard : Claim7 := { stood := { row := linesWholeUptoRow, standIns := [], harness := (true, "853bbf05e19d5a28c2ffc2af318f1e059db55941af4a0ea9c921f067cdc7fd1c"), looks := false }, kinds := [], alts := [], laidByText := true, laidKinds := [.data, .pinned], laidTests := true, laidLooks := .later }
def LinesWholeUptoCardSaid : Prop := Claim7.holds Tryd.pinned (.plain (OpenSpec.upto linesWholeSpec)) linesWholeUptoCard

/-- THE SECOND FORM's CARD OF 'stanzakeeplaw02.LinesIndents'. -/
def linesIndentsUptoCard : Claim7 := { stood := { row := linesIndentsUptoRow, standIns := [], harness := (true, "853bbf05e19d5a28c2ffc2af318f1e059db55941af4a0ea9c921f067cdc7fd1c"), looks := false }, kinds := [], alts := [], laidByText := true, laidKinds := [.data, .pinned], laidTests := true, laidLooks := .later }
def LinesIndentsUptoCardSaid : Prop := Claim7.holds Tryd.pinned (.plain (OpenSpec.upto linesIndentsSpec)) linesIndentsUptoCard
end Rows
end Go.Proofs.YteaeekhepgjliaaDoor
