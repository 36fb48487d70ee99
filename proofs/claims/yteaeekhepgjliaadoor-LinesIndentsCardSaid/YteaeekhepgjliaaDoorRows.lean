/-
  NARROWER THAN 'FOR EVERY INPUT', by the rows' own cells (each row's printed sentence says how): LinesKinds: laid · LinesKeys: laid · LinesSplits: laid · LinesWhole: laid · LinesIndents: laid.
  DERIVED. THE GIVEN ROWS OF THIS SEAT. 5 by the template 'for every input the law returns true; each argument reads behind the call as it read before'; 0 by the template 'total and deterministic' (their statements: YteaeekhepgjliaaDoorTotals.lean).
  GIVEN WITH THE SEED: the statements are not yours to turn. If you find one false, say at which input.
  Laid BY PROGRAM, IN A SANDBOX (cutbox-rows.mjs): the forced cells as the released guide's own fill.sh prints them over the translation 9a55a25da70d9141… (all of the seat's roots in one cut). By AI agents, Wed Nov 11 2026. No macro, syntax, notation, axiom, sorry.
-/
import Derived.Test.YteaeekhepgjliaaDoorChecked
import GoSem.PinnedTables
import GoSem.Claim
import GoSem.ClaimJoined
import GoSem.ClaimMapViews
import Derived.JoinedTies
import Derived.KernelRfl
namespace Go.Proofs.YteaeekhepgjliaaDoor
/- THE CELL 'sum', in the pinned program and in every row, IS THE sha256 OF THE DUMP (.gsa) THAT YteaeekhepgjliaaDoorProg.lean LOADS. Nothing in Lean hashes anything: it is a label: what it is worth is what the hold of that sum in a sandbox is worth. -/
noncomputable def Tryd.pinned : Pinned := { name := "yteaeekhepgjliaadoor", sum := "9a55a25da70d914113a62051c2422c0c1c490639d003b32528c6113db8e6f9b6", checked := Tryd.checked }
namespace Rows
def none {H : Type} : Left H := { results := [], args := [] }

/- WHAT THE LISTED PACKAGE-LEVEL VARIABLES READ AS WHEN THE CALL BEGINS. Each datum BY PROGRAM (the guide's laid-datum.mjs) off the statement by which the dump's own 'gosem.cut.vars' lays the variable. In a bare row this is a premise. The card (YteaeekhepgjliaaDoorCards.lean) ties it to the program's text. -/
def laid_unicode_utf8_acceptRanges {H : Type} : DataW H := .agg [.agg [.lit (.int .u8 128), .lit (.int .u8 191)], .agg [.lit (.int .u8 160), .lit (.int .u8 191)], .agg [.lit (.int .u8 128), .lit (.int .u8 159)], .agg [.lit (.int .u8 144), .lit (.int .u8 191)], .agg [.lit (.int .u8 128), .lit (.int .u8 143)], .agg [.lit (.int .u8 0), .lit (.int .u8 0)], .agg [.lit (.int .u8 0), .lit (.int .u8 0)], .agg [.lit (.int .u8 0), .lit (.int .u8 0)], .agg [.lit (.int .u8 0), .lit (.int .u8 0)], .agg [.lit (.int .u8 0), .lit (.int .u8 0)], .agg [.lit (.int .u8 0), .lit (.int .u8 0)], .agg [.lit (.int .u8 0), .lit (.int .u8 0)], .agg [.lit (.int .u8 0), .lit (.int .u8 0)], .agg [.lit (.int .u8 0), .lit (.int .u8 0)], .agg [.lit (.int .u8 0), .lit (.int .u8 0)], .agg [.lit (.int .u8 0), .lit (.int .u8 0)]]
/-- One of Go's own tables, pinned by name: the form's constant. -/
def laid_unicode_utf8_first : DataW Unit := Go.Pinned.utf8First

/-- 'stanzakeeplaw02.LinesKinds': WHATEVER THE INPUT: true; the input reads as it did. -/
def linesKindsSpec : ChangeSpec := { name := "linesKinds", fn := fun _ => fun
  | [d] => { results := [.lit (.bool true)], args := [d] }
  | _ => none }
def linesKindsRow : OpenClaim := { program := "yteaeekhepgjliaadoor", sum := "9a55a25da70d914113a62051c2422c0c1c490639d003b32528c6113db8e6f9b6", func := "stanzakeep/stanzakeeplaw02.LinesKinds", spec := "linesKinds", inPlace := ["internal/bytealg.IndexByteString", "internal/bytealg.IndexString", "internal/bytealg.CountString"], named := ["internal/bytealg.MaxLen", "unicode/utf8.first", "unicode/utf8.acceptRanges"], apart := false, laid := [("unicode/utf8.acceptRanges", laid_unicode_utf8_acceptRanges), ("unicode/utf8.first", laid_unicode_utf8_first)] }
def LinesKindsSaid : Prop := linesKindsRow.holds Tryd.pinned (OpenSpec.ofChange linesKindsSpec)

/-- ITS FALSE NEIGHBOUR: 'it returns false'. Refute it at one input. -/
def linesKindsWrong : ChangeSpec := { name := "linesKinds", fn := fun _ => fun
  | [d] => { results := [.lit (.bool false)], args := [d] }
  | _ => none }
def LinesKindsWrongFalsely : Prop := linesKindsRow.holds Tryd.pinned (OpenSpec.ofChange linesKindsWrong)

/-- 'stanzakeeplaw02.LinesKeys': WHATEVER THE INPUT: true; the input reads as it did. -/
def linesKeysSpec : ChangeSpec := { name := "linesKeys", fn := fun _ => fun
  | [d1, d2] => { results := [.lit (.bool true)], args := [d1, d2] }
  | _ => none }
def linesKeysRow : OpenClaim := { program := "yteaeekhepgjliaadoor", sum := "9a55a25da70d914113a62051c2422c0c1c490639d003b32528c6113db8e6f9b6", func := "stanzakeep/stanzakeeplaw02.LinesKeys", spec := "linesKeys", inPlace := ["internal/bytealg.IndexByteString", "internal/bytealg.IndexString", "internal/bytealg.CountString"], named := ["internal/bytealg.MaxLen", "unicode/utf8.first", "unicode/utf8.acceptRanges"], apart := false, laid := [("unicode/utf8.acceptRanges", laid_unicode_utf8_acceptRanges), ("unicode/utf8.first", laid_unicode_utf8_first)] }
def LinesKeysSaid : Prop := linesKeysRow.holds Tryd.pinned (OpenSpec.ofChange linesKeysSpec)

/-- ITS FALSE NEIGHBOUR: 'it returns false'. Refute it at one input. -/
def linesKeysWrong : ChangeSpec := { name := "linesKeys", fn := fun _ => fun
  | [d1, d2] => { results := [.lit (.bool false)], args := [d1, d2] }
  | _ => none }
def LinesKeysWrongFalsely : Prop := linesKeysRow.holds Tryd.pinned (OpenSpec.ofChange linesKeysWrong)

/-- 'stanzakeeplaw02.LinesSplits': WHATEVER THE INPUT: true; the input reads as it did. -/
def linesSplitsSpec : ChangeSpec := { name := "linesSplits", fn := fun _ => fun
  | [d1, d2] => { results := [.lit (.bool true)], args := [d1, d2] }
  | _ => none }
def linesSplitsRow : OpenClaim := { program := "yteaeekhepgjliaadoor", sum := "9a55a25da70d914113a62051c2422c0c1c490639d003b32528c6113db8e6f9b6", func := "stanzakeep/stanzakeeplaw02.LinesSplits", spec := "linesSplits", inPlace := ["internal/bytealg.IndexByteString", "internal/bytealg.IndexString", "internal/bytealg.CountString"], unfollowed := true, recurses := true, named := ["internal/bytealg.MaxLen", "unicode/utf8.first", "unicode/utf8.acceptRanges"], apart := false, laid := [("unicode/utf8.acceptRanges", laid_unicode_utf8_acceptRanges), ("unicode/utf8.first", laid_unicode_utf8_first)] }
def LinesSplitsSaid : Prop := linesSplitsRow.holds Tryd.pinned (OpenSpec.ofChange linesSplitsSpec)

/-- ITS FALSE NEIGHBOUR: 'it returns false'. Refute it at one input. -/
def linesSplitsWrong : ChangeSpec := { name := "linesSplits", fn := fun _ => fun
  | [d1, d2] => { results := [.lit (.bool false)], args := [d1, d2] }
  | _ => none }
def LinesSplitsWrongFalsely : Prop := linesSplitsRow.holds Tryd.pinned (OpenSpec.ofChange linesSplitsWrong)

/-- 'stanzakeeplaw02.LinesWhole': WHATEVER THE INPUT: true; the input reads as it did. -/
def linesWholeSpec : ChangeSpec := { name := "linesWhole", fn := fun _ => fun
  | [d1, d2] => { results := [.lit (.bool true)], args := [d1, d2] }
  | _ => none }
def linesWholeRow : OpenClaim := { program := "yteaeekhepgjliaadoor", sum := "9a55a25da70d914113a62051c2422c0c1c490639d003b32528c6113db8e6f9b6", func := "stanzakeep/stanzakeeplaw02.LinesWhole", spec := "linesWhole", inPlace := ["internal/bytealg.IndexByteString", "internal/bytealg.IndexString", "internal/bytealg.CountString"], named := ["internal/bytealg.MaxLen", "unicode/utf8.first", "unicode/utf8.acceptRanges"], apart := false, laid := [("unicode/utf8.acceptRanges", laid_unicode_utf8_acceptRanges), ("unicode/utf8.first", laid_unicode_utf8_first)] }
def LinesWholeSaid : Prop := linesWholeRow.holds Tryd.pinned (OpenSpec.ofChange linesWholeSpec)

/-- ITS FALSE NEIGHBOUR: 'it returns false'. Refute it at one input. -/
def linesWholeWrong : ChangeSpec := { name := "linesWhole", fn := fun _ => fun
  | [d1, d2] => { results := [.lit (.bool false)], args := [d1, d2] }
  | _ => none }
def LinesWholeWrongFalsely : Prop := linesWholeRow.holds Tryd.pinned (OpenSpec.ofChange linesWholeWrong)

/-- 'stanzakeeplaw02.LinesIndents': WHATEVER THE INPUT: true; the input reads as it did. -/
def linesIndentsSpec : ChangeSpec := { name := "linesIndents", fn := fun _ => fun
  | [d1, d2, d3] => { results := [.lit (.bool true)], args := [d1, d2, d3] }
  | _ => none }
def linesIndentsRow : OpenClaim := { program := "yteaeekhepgjliaadoor", sum := "9a55a25da70d914113a62051c2422c0c1c490639d003b32528c6113db8e6f9b6", func := "stanzakeep/stanzakeeplaw02.LinesIndents", spec := "linesIndents", inPlace := ["internal/bytealg.IndexByteString", "internal/bytealg.IndexString", "internal/bytealg.CountString", "internal/abi.NoEscape", "internal/bytealg.MakeNoZero"], unfollowed := true, recurses := true, named := ["internal/bytealg.MaxLen", "unicode/utf8.first", "unicode/utf8.acceptRanges"], apart := false, laid := [("unicode/utf8.acceptRanges", laid_unicode_utf8_acceptRanges), ("unicode/utf8.first", laid_unicode_utf8_first)] }
def LinesIndentsSaid : Prop := linesIndentsRow.holds Tryd.pinned (OpenSpec.ofChange linesIndentsSpec)

/-- ITS FALSE NEIGHBOUR: 'it returns false'. Refute it at one input. -/
def linesIndentsWrong : ChangeSpec := { name := "linesIndents", fn := fun _ => fun
  | [d1, d2, d3] => { results := [.lit (.bool false)], args := [d1, d2, d3] }
  | _ => none }
def LinesIndentsWrongFalsely : Prop := linesIndentsRow.holds Tryd.pinned (OpenSpec.ofChange linesIndentsWrong)

/- THE SECOND FORM. 'bulk': how many values and letters a reading holds, each counted each time it is reached (what is shared counts as often as it is met; a slice's spare places count too). A statement '..UptoSaid' is the law's where the arguments, and the package variables that the reading takes, are together of bulk at most 1048576: NARROWER than '..Said'. Prove '..Said' where nothing that the law and all that it calls make is longer than what came in: it says more and counts as full. Else prove '..UptoSaid'. A law counts once. -/
mutual
def uptoBulk {H : Type} : DataW H → Nat
  | .lit (.string bytes) => bytes.length + 1
  | .lit _ => 1
  | .nil => 1
  | .ptr d => uptoBulk d + 1
  | .slice elems spare => uptoBulkAll elems + uptoBulkAll spare + 1
  | .agg parts => uptoBulkAll parts + 1
  | .iface _ d => uptoBulk d + 1
  | .map entries => uptoBulkEntries entries + 1
  | .held _ => 1
def uptoBulkAll {H : Type} : List (DataW H) → Nat
  | [] => 0
  | d :: r => uptoBulk d + uptoBulkAll r
def uptoBulkEntries {H : Type} : List (Lit × DataW H) → Nat
  | [] => 0
  | x :: r => uptoBulkEntry x + uptoBulkEntries r
def uptoBulkEntry {H : Type} : Lit × DataW H → Nat
  | (.string bytes, d) => bytes.length + uptoBulk d + 1
  | (_, d) => uptoBulk d + 1
 end
def uptoSmall : (H : Type) → List (DataW H) → Bool := fun _ ds => decide (uptoBulkAll ds ≤ 1048576)
def OpenSpec.upto (s : _root_.Go.ChangeSpec) : _root_.Go.OpenSpec := { _root_.Go.OpenSpec.ofChange s with cond := some uptoSmall }

/-- 'stanzakeeplaw02.LinesKinds', WHERE WHAT IT READS IS OF BULK AT MOST 1048576: true; the input reads as it did. -/
def linesKindsUptoRow : OpenClaim := { program := "yteaeekhepgjliaadoor", sum := "9a55a25da70d914113a62051c2422c0c1c490639d003b32528c6113db8e6f9b6", func := "stanzakeep/stanzakeeplaw02.LinesKinds", spec := "linesKinds", inPlace := ["internal/bytealg.IndexByteString", "internal/bytealg.IndexString", "internal/bytealg.CountString"], named := ["internal/bytealg.MaxLen", "unicode/utf8.first", "unicode/utf8.acceptRanges"], apart := false, laid := [("unicode/utf8.acceptRanges", laid_unicode_utf8_acceptRanges), ("unicode/utf8.first", laid_unicode_utf8_first)], narrowed := true }
def LinesKindsUptoSaid : Prop := linesKindsUptoRow.holds Tryd.pinned (OpenSpec.upto linesKindsSpec)

/-- 'stanzakeeplaw02.LinesKeys', WHERE WHAT IT READS IS OF BULK AT MOST 1048576: true; the input reads as it did. -/
def linesKeysUptoRow : OpenClaim := { program := "yteaeekhepgjliaadoor", sum := "9a55a25da70d914113a62051c2422c0c1c490639d003b32528c6113db8e6f9b6", func := "stanzakeep/stanzakeeplaw02.LinesKeys", spec := "linesKeys", inPlace := ["internal/bytealg.IndexByteString", "internal/bytealg.IndexString", "internal/bytealg.CountString"], named := ["internal/bytealg.MaxLen", "unicode/utf8.first", "unicode/utf8.acceptRanges"], apart := false, laid := [("unicode/utf8.acceptRanges", laid_unicode_utf8_acceptRanges), ("unicode/utf8.first", laid_unicode_utf8_first)], narrowed := true }
def LinesKeysUptoSaid : Prop := linesKeysUptoRow.holds Tryd.pinned (OpenSpec.upto linesKeysSpec)

/-- 'stanzakeeplaw02.LinesSplits', WHERE WHAT IT READS IS OF BULK AT MOST 1048576: true; the input reads as it did. -/
def linesSplitsUptoRow : OpenClaim := { program := "yteaeekhepgjliaadoor", sum := "9a55a25da70d914113a62051c2422c0c1c490639d003b32528c6113db8e6f9b6", func := "stanzakeep/stanzakeeplaw02.LinesSplits", spec := "linesSplits", inPlace := ["internal/bytealg.IndexByteString", "internal/bytealg.IndexString", "internal/bytealg.CountString"], unfollowed := true, recurses := true, named := ["internal/bytealg.MaxLen", "unicode/utf8.first", "unicode/utf8.acceptRanges"], apart := false, laid := [("unicode/utf8.acceptRanges", laid_unicode_utf8_acceptRanges), ("unicode/utf8.first", laid_unicode_utf8_first)], narrowed := true }
def LinesSplitsUptoSaid : Prop := linesSplitsUptoRow.holds Tryd.pinned (OpenSpec.upto linesSplitsSpec)

/-- 'stanzakeeplaw02.LinesWhole', WHERE WHAT IT READS IS OF BULK AT MOST 1048576: true; the input reads as it did. -/
def linesWholeUptoRow : OpenClaim := { program := "yteaeekhepgjliaadoor", sum := "9a55a25da70d914113a62051c2422c0c1c490639d003b32528c6113db8e6f9b6", func := "stanzakeep/stanzakeeplaw02.LinesWhole", spec := "linesWhole", inPlace := ["internal/bytealg.IndexByteString", "internal/bytealg.IndexString", "internal/bytealg.CountString"], named := ["internal/bytealg.MaxLen", "unicode/utf8.first", "unicode/utf8.acceptRanges"], apart := false, laid := [("unicode/utf8.acceptRanges", laid_unicode_utf8_acceptRanges), ("unicode/utf8.first", laid_unicode_utf8_first)], narrowed := true }
def LinesWholeUptoSaid : Prop := linesWholeUptoRow.holds Tryd.pinned (OpenSpec.upto linesWholeSpec)

/-- 'stanzakeeplaw02.LinesIndents', WHERE WHAT IT READS IS OF BULK AT MOST 1048576: true; the input reads as it did. -/
def linesIndentsUptoRow : OpenClaim := { program := "yteaeekhepgjliaadoor", sum := "9a55a25da70d914113a62051c2422c0c1c490639d003b32528c6113db8e6f9b6", func := "stanzakeep/stanzakeeplaw02.LinesIndents", spec := "linesIndents", inPlace := ["internal/bytealg.IndexByteString", "internal/bytealg.IndexString", "internal/bytealg.CountString", "internal/abi.NoEscape", "internal/bytealg.MakeNoZero"], unfollowed := true, recurses := true, named := ["internal/bytealg.MaxLen", "unicode/utf8.first", "unicode/utf8.acceptRanges"], apart := false, laid := [("unicode/utf8.acceptRanges", laid_unicode_utf8_acceptRanges), ("unicode/utf8.first", laid_unicode_utf8_first)], narrowed := true }
def LinesIndentsUptoSaid : Prop := linesIndentsUptoRow.holds Tryd.pinned (OpenSpec.upto linesIndentsSpec)

end Rows
end Go.Proofs.YteaeekhepgjliaaDoor
