/-
  NARROWER THAN 'FOR EVERY INPUT', by the rows' own cells (each row's printed sentence says how): LinksOf: laid · TableOf: laid · LinksReach: laid · LinksFar: laid · LinksOrder: laid · LinksBehind: laid · TableCounts: laid · TableSorts: laid.
  DERIVED. THE GIVEN ROWS OF THIS SEAT. 8 by the template 'for every input the law returns true; each argument reads behind the call as it read before'; 0 by the template 'total and deterministic' (their statements: YtjbnjlkoipkpoaaGreatDoorTotals.lean).
  GIVEN WITH THE SEED: the statements are not yours to turn. If you find one false, say at which input.
  Laid BY PROGRAM, IN A SANDBOX (cutbox-rows.mjs): the forced cells as the released guide's own fill.sh prints them over the translation f01587b2961a4ee6… (all of the seat's roots in one cut). By AI agents, Wed Nov 11 2026. No macro, syntax, notation, axiom, sorry.
-/
import Derived.Test.YtjbnjlkoipkpoaaGreatDoorChecked
import GoSem.PinnedTables
import GoSem.Claim
import GoSem.ClaimJoined
import GoSem.ClaimMapViews
import Derived.JoinedTies
import Derived.KernelRfl
namespace Go.Proofs.YtjbnjlkoipkpoaaGreatDoor
/- THE CELL 'sum', in the pinned program and in every row, IS THE sha256 OF THE DUMP (.gsa) THAT YtjbnjlkoipkpoaaGreatDoorProg.lean LOADS. Nothing in Lean hashes anything: it is a label: what it is worth is what the hold of that sum in a sandbox is worth. -/
noncomputable def Tryz.pinned : Pinned := { name := "ytjbnjlkoipkpoaagreatdoor", sum := "f01587b2961a4ee6b679cdff168e699dbaa98811ffde4deacb70b83c912c479f", checked := Tryz.checked }
namespace Rows
def none {H : Type} : Left H := { results := [], args := [] }

/- WHAT THE LISTED PACKAGE-LEVEL VARIABLES READ AS WHEN THE CALL BEGINS. Each datum BY PROGRAM (the guide's laid-datum.mjs) off the statement by which the dump's own 'gosem.cut.vars' lays the variable. In a bare row this is a premise. The card (YtjbnjlkoipkpoaaGreatDoorCards.lean) ties it to the program's text. -/
def laid_unicode_utf8_acceptRanges {H : Type} : DataW H := .agg [.agg [.lit (.int .u8 128), .lit (.int .u8 191)], .agg [.lit (.int .u8 160), .lit (.int .u8 191)], .agg [.lit (.int .u8 128), .lit (.int .u8 159)], .agg [.lit (.int .u8 144), .lit (.int .u8 191)], .agg [.lit (.int .u8 128), .lit (.int .u8 143)], .agg [.lit (.int .u8 0), .lit (.int .u8 0)], .agg [.lit (.int .u8 0), .lit (.int .u8 0)], .agg [.lit (.int .u8 0), .lit (.int .u8 0)], .agg [.lit (.int .u8 0), .lit (.int .u8 0)], .agg [.lit (.int .u8 0), .lit (.int .u8 0)], .agg [.lit (.int .u8 0), .lit (.int .u8 0)], .agg [.lit (.int .u8 0), .lit (.int .u8 0)], .agg [.lit (.int .u8 0), .lit (.int .u8 0)], .agg [.lit (.int .u8 0), .lit (.int .u8 0)], .agg [.lit (.int .u8 0), .lit (.int .u8 0)], .agg [.lit (.int .u8 0), .lit (.int .u8 0)]]
/-- One of Go's own tables, pinned by name: the form's constant. -/
def laid_unicode_utf8_first : DataW Unit := Go.Pinned.utf8First

/-- 'stanzakeeplaw30.LinksOf': WHATEVER THE INPUT: true; the input reads as it did. -/
def linksOfSpec : ChangeSpec := { name := "linksOf", fn := fun _ => fun
  | [d1, d2, d3] => { results := [.lit (.bool true)], args := [d1, d2, d3] }
  | _ => none }
def linksOfRow : OpenClaim := { program := "ytjbnjlkoipkpoaagreatdoor", sum := "f01587b2961a4ee6b679cdff168e699dbaa98811ffde4deacb70b83c912c479f", func := "stanzakeep/stanzakeeplaw30.LinksOf", spec := "linksOf", inPlace := ["internal/bytealg.IndexByteString", "internal/bytealg.IndexString", "internal/abi.NoEscape", "internal/bytealg.MakeNoZero", "internal/bytealg.CountString"], unfollowed := true, recurses := true, named := ["internal/bytealg.MaxLen", "unicode/utf8.first", "unicode/utf8.acceptRanges"], apart := false, laid := [("unicode/utf8.acceptRanges", laid_unicode_utf8_acceptRanges), ("unicode/utf8.first", laid_unicode_utf8_first)] }
def LinksOfSaid : Prop := linksOfRow.holds Tryz.pinned (OpenSpec.ofChange linksOfSpec)

/-- ITS FALSE NEIGHBOUR: 'it returns false'. Refute it at one input. -/
def linksOfWrong : ChangeSpec := { name := "linksOf", fn := fun _ => fun
  | [d1, d2, d3] => { results := [.lit (.bool false)], args := [d1, d2, d3] }
  | _ => none }
def LinksOfWrongFalsely : Prop := linksOfRow.holds Tryz.pinned (OpenSpec.ofChange linksOfWrong)

/-- 'stanzakeeplaw25.TableOf': WHATEVER THE INPUT: true; the input reads as it did. -/
def tableOfSpec : ChangeSpec := { name := "tableOf", fn := fun _ => fun
  | [d1, d2] => { results := [.lit (.bool true)], args := [d1, d2] }
  | _ => none }
def tableOfRow : OpenClaim := { program := "ytjbnjlkoipkpoaagreatdoor", sum := "f01587b2961a4ee6b679cdff168e699dbaa98811ffde4deacb70b83c912c479f", func := "stanzakeep/stanzakeeplaw25.TableOf", spec := "tableOf", inPlace := ["internal/bytealg.IndexByteString", "internal/bytealg.IndexString", "internal/abi.NoEscape", "internal/bytealg.MakeNoZero", "internal/bytealg.CountString"], unfollowed := true, recurses := true, named := ["internal/bytealg.MaxLen", "unicode/utf8.first", "unicode/utf8.acceptRanges"], apart := false, laid := [("unicode/utf8.acceptRanges", laid_unicode_utf8_acceptRanges), ("unicode/utf8.first", laid_unicode_utf8_first)] }
def TableOfSaid : Prop := tableOfRow.holds Tryz.pinned (OpenSpec.ofChange tableOfSpec)

/-- ITS FALSE NEIGHBOUR: 'it returns false'. Refute it at one input. -/
def tableOfWrong : ChangeSpec := { name := "tableOf", fn := fun _ => fun
  | [d1, d2] => { results := [.lit (.bool false)], args := [d1, d2] }
  | _ => none }
def TableOfWrongFalsely : Prop := tableOfRow.holds Tryz.pinned (OpenSpec.ofChange tableOfWrong)

/-- 'stanzakeeplaw30.LinksReach': WHATEVER THE INPUT: true; the input reads as it did. -/
def linksReachSpec : ChangeSpec := { name := "linksReach", fn := fun _ => fun
  | [d1, d2] => { results := [.lit (.bool true)], args := [d1, d2] }
  | _ => none }
def linksReachRow : OpenClaim := { program := "ytjbnjlkoipkpoaagreatdoor", sum := "f01587b2961a4ee6b679cdff168e699dbaa98811ffde4deacb70b83c912c479f", func := "stanzakeep/stanzakeeplaw30.LinksReach", spec := "linksReach", inPlace := ["internal/bytealg.IndexByteString", "internal/bytealg.IndexString", "internal/abi.NoEscape", "internal/bytealg.MakeNoZero", "internal/bytealg.CountString"], unfollowed := true, recurses := true, named := ["internal/bytealg.MaxLen", "unicode/utf8.first", "unicode/utf8.acceptRanges"], apart := false, laid := [("unicode/utf8.acceptRanges", laid_unicode_utf8_acceptRanges), ("unicode/utf8.first", laid_unicode_utf8_first)] }
def LinksReachSaid : Prop := linksReachRow.holds Tryz.pinned (OpenSpec.ofChange linksReachSpec)

/-- ITS FALSE NEIGHBOUR: 'it returns false'. Refute it at one input. -/
def linksReachWrong : ChangeSpec := { name := "linksReach", fn := fun _ => fun
  | [d1, d2] => { results := [.lit (.bool false)], args := [d1, d2] }
  | _ => none }
def LinksReachWrongFalsely : Prop := linksReachRow.holds Tryz.pinned (OpenSpec.ofChange linksReachWrong)

/-- 'stanzakeeplaw30.LinksFar': WHATEVER THE INPUT: true; the input reads as it did. -/
def linksFarSpec : ChangeSpec := { name := "linksFar", fn := fun _ => fun
  | [d1, d2] => { results := [.lit (.bool true)], args := [d1, d2] }
  | _ => none }
def linksFarRow : OpenClaim := { program := "ytjbnjlkoipkpoaagreatdoor", sum := "f01587b2961a4ee6b679cdff168e699dbaa98811ffde4deacb70b83c912c479f", func := "stanzakeep/stanzakeeplaw30.LinksFar", spec := "linksFar", inPlace := ["internal/bytealg.IndexByteString", "internal/bytealg.IndexString", "internal/abi.NoEscape", "internal/bytealg.MakeNoZero", "internal/bytealg.CountString"], unfollowed := true, recurses := true, named := ["internal/bytealg.MaxLen", "unicode/utf8.first", "unicode/utf8.acceptRanges"], apart := false, laid := [("unicode/utf8.acceptRanges", laid_unicode_utf8_acceptRanges), ("unicode/utf8.first", laid_unicode_utf8_first)] }
def LinksFarSaid : Prop := linksFarRow.holds Tryz.pinned (OpenSpec.ofChange linksFarSpec)

/-- ITS FALSE NEIGHBOUR: 'it returns false'. Refute it at one input. -/
def linksFarWrong : ChangeSpec := { name := "linksFar", fn := fun _ => fun
  | [d1, d2] => { results := [.lit (.bool false)], args := [d1, d2] }
  | _ => none }
def LinksFarWrongFalsely : Prop := linksFarRow.holds Tryz.pinned (OpenSpec.ofChange linksFarWrong)

/-- 'stanzakeeplaw30.LinksOrder': WHATEVER THE INPUT: true; the input reads as it did. -/
def linksOrderSpec : ChangeSpec := { name := "linksOrder", fn := fun _ => fun
  | [d1, d2, d3] => { results := [.lit (.bool true)], args := [d1, d2, d3] }
  | _ => none }
def linksOrderRow : OpenClaim := { program := "ytjbnjlkoipkpoaagreatdoor", sum := "f01587b2961a4ee6b679cdff168e699dbaa98811ffde4deacb70b83c912c479f", func := "stanzakeep/stanzakeeplaw30.LinksOrder", spec := "linksOrder", inPlace := ["internal/bytealg.IndexByteString", "internal/bytealg.IndexString", "internal/abi.NoEscape", "internal/bytealg.MakeNoZero", "internal/bytealg.CountString"], unfollowed := true, recurses := true, named := ["internal/bytealg.MaxLen", "unicode/utf8.first", "unicode/utf8.acceptRanges"], apart := false, laid := [("unicode/utf8.acceptRanges", laid_unicode_utf8_acceptRanges), ("unicode/utf8.first", laid_unicode_utf8_first)] }
def LinksOrderSaid : Prop := linksOrderRow.holds Tryz.pinned (OpenSpec.ofChange linksOrderSpec)

/-- ITS FALSE NEIGHBOUR: 'it returns false'. Refute it at one input. -/
def linksOrderWrong : ChangeSpec := { name := "linksOrder", fn := fun _ => fun
  | [d1, d2, d3] => { results := [.lit (.bool false)], args := [d1, d2, d3] }
  | _ => none }
def LinksOrderWrongFalsely : Prop := linksOrderRow.holds Tryz.pinned (OpenSpec.ofChange linksOrderWrong)

/-- 'stanzakeeplaw30.LinksBehind': WHATEVER THE INPUT: true; the input reads as it did. -/
def linksBehindSpec : ChangeSpec := { name := "linksBehind", fn := fun _ => fun
  | [d1, d2, d3] => { results := [.lit (.bool true)], args := [d1, d2, d3] }
  | _ => none }
def linksBehindRow : OpenClaim := { program := "ytjbnjlkoipkpoaagreatdoor", sum := "f01587b2961a4ee6b679cdff168e699dbaa98811ffde4deacb70b83c912c479f", func := "stanzakeep/stanzakeeplaw30.LinksBehind", spec := "linksBehind", inPlace := ["internal/bytealg.IndexByteString", "internal/bytealg.IndexString", "internal/abi.NoEscape", "internal/bytealg.MakeNoZero", "internal/bytealg.CountString"], unfollowed := true, recurses := true, named := ["internal/bytealg.MaxLen", "unicode/utf8.first", "unicode/utf8.acceptRanges"], apart := false, laid := [("unicode/utf8.acceptRanges", laid_unicode_utf8_acceptRanges), ("unicode/utf8.first", laid_unicode_utf8_first)] }
def LinksBehindSaid : Prop := linksBehindRow.holds Tryz.pinned (OpenSpec.ofChange linksBehindSpec)

/-- ITS FALSE NEIGHBOUR: 'it returns false'. Refute it at one input. -/
def linksBehindWrong : ChangeSpec := { name := "linksBehind", fn := fun _ => fun
  | [d1, d2, d3] => { results := [.lit (.bool false)], args := [d1, d2, d3] }
  | _ => none }
def LinksBehindWrongFalsely : Prop := linksBehindRow.holds Tryz.pinned (OpenSpec.ofChange linksBehindWrong)

/-- 'stanzakeeplaw25.TableCounts': WHATEVER THE INPUT: true; the input reads as it did. -/
def tableCountsSpec : ChangeSpec := { name := "tableCounts", fn := fun _ => fun
  | [d1, d2] => { results := [.lit (.bool true)], args := [d1, d2] }
  | _ => none }
def tableCountsRow : OpenClaim := { program := "ytjbnjlkoipkpoaagreatdoor", sum := "f01587b2961a4ee6b679cdff168e699dbaa98811ffde4deacb70b83c912c479f", func := "stanzakeep/stanzakeeplaw25.TableCounts", spec := "tableCounts", inPlace := ["internal/bytealg.IndexByteString", "internal/bytealg.IndexString", "internal/abi.NoEscape", "internal/bytealg.MakeNoZero", "internal/bytealg.CountString", "internal/bytealg.abigen_runtime_cmpstring"], unfollowed := true, recurses := true, named := ["internal/bytealg.MaxLen", "unicode/utf8.first", "unicode/utf8.acceptRanges"], apart := false, laid := [("unicode/utf8.acceptRanges", laid_unicode_utf8_acceptRanges), ("unicode/utf8.first", laid_unicode_utf8_first)] }
def TableCountsSaid : Prop := tableCountsRow.holds Tryz.pinned (OpenSpec.ofChange tableCountsSpec)

/-- ITS FALSE NEIGHBOUR: 'it returns false'. Refute it at one input. -/
def tableCountsWrong : ChangeSpec := { name := "tableCounts", fn := fun _ => fun
  | [d1, d2] => { results := [.lit (.bool false)], args := [d1, d2] }
  | _ => none }
def TableCountsWrongFalsely : Prop := tableCountsRow.holds Tryz.pinned (OpenSpec.ofChange tableCountsWrong)

/-- 'stanzakeeplaw25.TableSorts': WHATEVER THE INPUT: true; the input reads as it did. -/
def tableSortsSpec : ChangeSpec := { name := "tableSorts", fn := fun _ => fun
  | [d1, d2] => { results := [.lit (.bool true)], args := [d1, d2] }
  | _ => none }
def tableSortsRow : OpenClaim := { program := "ytjbnjlkoipkpoaagreatdoor", sum := "f01587b2961a4ee6b679cdff168e699dbaa98811ffde4deacb70b83c912c479f", func := "stanzakeep/stanzakeeplaw25.TableSorts", spec := "tableSorts", inPlace := ["internal/bytealg.IndexByteString", "internal/bytealg.IndexString", "internal/abi.NoEscape", "internal/bytealg.MakeNoZero", "internal/bytealg.CountString", "internal/bytealg.abigen_runtime_cmpstring"], unfollowed := true, recurses := true, named := ["internal/bytealg.MaxLen", "unicode/utf8.first", "unicode/utf8.acceptRanges"], apart := false, laid := [("unicode/utf8.acceptRanges", laid_unicode_utf8_acceptRanges), ("unicode/utf8.first", laid_unicode_utf8_first)] }
def TableSortsSaid : Prop := tableSortsRow.holds Tryz.pinned (OpenSpec.ofChange tableSortsSpec)

/-- ITS FALSE NEIGHBOUR: 'it returns false'. Refute it at one input. -/
def tableSortsWrong : ChangeSpec := { name := "tableSorts", fn := fun _ => fun
  | [d1, d2] => { results := [.lit (.bool false)], args := [d1, d2] }
  | _ => none }
def TableSortsWrongFalsely : Prop := tableSortsRow.holds Tryz.pinned (OpenSpec.ofChange tableSortsWrong)

/- THE SECOND FORM. 'bulk': how many values and letters a reading holds, each counted each time it is reached (what is shared counts as often as it is met; a slice's spare places count too). A statement '..UptoSaid' is the law's where the arguments, and the package variables that the reading takes, are together of bulk at most 1048576: NARROWER than '..Said'. Prove '..Said' where nothing that the law and all that it calls make is longer than what came in: it says more and counts as full. Else prove '..UptoSaid'. A law counts once. -/
mutual
def uptoBulk {H : Type} : DataW H → Nat
  | .lit (.string bytes) => bytes.length + 1
  | .lit _ => 1
  | .nil => 1
  | .ptr d => uptoBulk d + 1
  | .slice elems spare => uptoBulkAll elems + uptoBulkAll spare + 1
  | .agg parts => uptoBulkAll parts + 1
  | .iface _ d => uptoBulk d + 1
  | .map entries => uptoBulkEntries entries + 1
  | .held _ => 1
def uptoBulkAll {H : Type} : List (DataW H) → Nat
  | [] => 0
  | d :: r => uptoBulk d + uptoBulkAll r
def uptoBulkEntries {H : Type} : List (Lit × DataW H) → Nat
  | [] => 0
  | x :: r => uptoBulkEntry x + uptoBulkEntries r
def uptoBulkEntry {H : Type} : Lit × DataW H → Nat
  | (.string bytes, d) => bytes.length + uptoBulk d + 1
  | (_, d) => uptoBulk d + 1
 end
def uptoSmall : (H : Type) → List (DataW H) → Bool := fun _ ds => decide (uptoBulkAll ds ≤ 1048576)
def OpenSpec.upto (s : _root_.Go.ChangeSpec) : _root_.Go.OpenSpec := { _root_.Go.OpenSpec.ofChange s with cond := some uptoSmall }

/-- 'stanzakeeplaw30.LinksOf', WHERE WHAT IT READS IS OF BULK AT MOST 1048576: true; the input reads as it did. -/
def linksOfUptoRow : OpenClaim := { program := "ytjbnjlkoipkpoaagreatdoor", sum := "f01587b2961a4ee6b679cdff168e699dbaa98811ffde4deacb70b83c912c479f", func := "stanzakeep/stanzakeeplaw30.LinksOf", spec := "linksOf", inPlace := ["internal/bytealg.IndexByteString", "internal/bytealg.IndexString", "internal/abi.NoEscape", "internal/bytealg.MakeNoZero", "internal/bytealg.CountString"], unfollowed := true, recurses := true, named := ["internal/bytealg.MaxLen", "unicode/utf8.first", "unicode/utf8.acceptRanges"], apart := false, laid := [("unicode/utf8.acceptRanges", laid_unicode_utf8_acceptRanges), ("unicode/utf8.first", laid_unicode_utf8_first)], narrowed := true }
def LinksOfUptoSaid : Prop := linksOfUptoRow.holds Tryz.pinned (OpenSpec.upto linksOfSpec)

/-- 'stanzakeeplaw25.TableOf', WHERE WHAT IT READS IS OF BULK AT MOST 1048576: true; the input reads as it did. -/
def tableOfUptoRow : OpenClaim := { program := "ytjbnjlkoipkpoaagreatdoor", sum := "f01587b2961a4ee6b679cdff168e699dbaa98811ffde4deacb70b83c912c479f", func := "stanzakeep/stanzakeeplaw25.TableOf", spec := "tableOf", inPlace := ["internal/bytealg.IndexByteString", "internal/bytealg.IndexString", "internal/abi.NoEscape", "internal/bytealg.MakeNoZero", "internal/bytealg.CountString"], unfollowed := true, recurses := true, named := ["internal/bytealg.MaxLen", "unicode/utf8.first", "unicode/utf8.acceptRanges"], apart := false, laid := [("unicode/utf8.acceptRanges", laid_unicode_utf8_acceptRanges), ("unicode/utf8.first", laid_unicode_utf8_first)], narrowed := true }
def TableOfUptoSaid : Prop := tableOfUptoRow.holds Tryz.pinned (OpenSpec.upto tableOfSpec)

/-- 'stanzakeeplaw30.LinksReach', WHERE WHAT IT READS IS OF BULK AT MOST 1048576: true; the input reads as it did. -/
def linksReachUptoRow : OpenClaim := { program := "ytjbnjlkoipkpoaagreatdoor", sum := "f01587b2961a4ee6b679cdff168e699dbaa98811ffde4deacb70b83c912c479f", func := "stanzakeep/stanzakeeplaw30.LinksReach", spec := "linksReach", inPlace := ["internal/bytealg.IndexByteString", "internal/bytealg.IndexString", "internal/abi.NoEscape", "internal/bytealg.MakeNoZero", "internal/bytealg.CountString"], unfollowed := true, recurses := true, named := ["internal/bytealg.MaxLen", "unicode/utf8.first", "unicode/utf8.acceptRanges"], apart := false, laid := [("unicode/utf8.acceptRanges", laid_unicode_utf8_acceptRanges), ("unicode/utf8.first", laid_unicode_utf8_first)], narrowed := true }
def LinksReachUptoSaid : Prop := linksReachUptoRow.holds Tryz.pinned (OpenSpec.upto linksReachSpec)

/-- 'stanzakeeplaw30.LinksFar', WHERE WHAT IT READS IS OF BULK AT MOST 1048576: true; the input reads as it did. -/
def linksFarUptoRow : OpenClaim := { program := "ytjbnjlkoipkpoaagreatdoor", sum := "f01587b2961a4ee6b679cdff168e699dbaa98811ffde4deacb70b83c912c479f", func := "stanzakeep/stanzakeeplaw30.LinksFar", spec := "linksFar", inPlace := ["internal/bytealg.IndexByteString", "internal/bytealg.IndexString", "internal/abi.NoEscape", "internal/bytealg.MakeNoZero", "internal/bytealg.CountString"], unfollowed := true, recurses := true, named := ["internal/bytealg.MaxLen", "unicode/utf8.first", "unicode/utf8.acceptRanges"], apart := false, laid := [("unicode/utf8.acceptRanges", laid_unicode_utf8_acceptRanges), ("unicode/utf8.first", laid_unicode_utf8_first)], narrowed := true }
def LinksFarUptoSaid : Prop := linksFarUptoRow.holds Tryz.pinned (OpenSpec.upto linksFarSpec)

/-- 'stanzakeeplaw30.LinksOrder', WHERE WHAT IT READS IS OF BULK AT MOST 1048576: true; the input reads as it did. -/
def linksOrderUptoRow : OpenClaim := { program := "ytjbnjlkoipkpoaagreatdoor", sum := "f01587b2961a4ee6b679cdff168e699dbaa98811ffde4deacb70b83c912c479f", func := "stanzakeep/stanzakeeplaw30.LinksOrder", spec := "linksOrder", inPlace := ["internal/bytealg.IndexByteString", "internal/bytealg.IndexString", "internal/abi.NoEscape", "internal/bytealg.MakeNoZero", "internal/bytealg.CountString"], unfollowed := true, recurses := true, named := ["internal/bytealg.MaxLen", "unicode/utf8.first", "unicode/utf8.acceptRanges"], apart := false, laid := [("unicode/utf8.acceptRanges", laid_unicode_utf8_acceptRanges), ("unicode/utf8.first", laid_unicode_utf8_first)], narrowed := true }
def LinksOrderUptoSaid : Prop := linksOrderUptoRow.holds Tryz.pinned (OpenSpec.upto linksOrderSpec)

/-- 'stanzakeeplaw30.LinksBehind', WHERE WHAT IT READS IS OF BULK AT MOST 1048576: true; the input reads as it did. -/
def linksBehindUptoRow : OpenClaim := { program := "ytjbnjlkoipkpoaagreatdoor", sum := "f01587b2961a4ee6b679cdff168e699dbaa98811ffde4deacb70b83c912c479f", func := "stanzakeep/stanzakeeplaw30.LinksBehind", spec := "linksBehind", inPlace := ["internal/bytealg.IndexByteString", "internal/bytealg.IndexString", "internal/abi.NoEscape", "internal/bytealg.MakeNoZero", "internal/bytealg.CountString"], unfollowed := true, recurses := true, named := ["internal/bytealg.MaxLen", "unicode/utf8.first", "unicode/utf8.acceptRanges"], apart := false, laid := [("unicode/utf8.acceptRanges", laid_unicode_utf8_acceptRanges), ("unicode/utf8.first", laid_unicode_utf8_first)], narrowed := true }
def LinksBehindUptoSaid : Prop := linksBehindUptoRow.holds Tryz.pinned (OpenSpec.upto linksBehindSpec)

/-- 'stanzakeeplaw25.TableCounts', WHERE WHAT IT READS IS OF BULK AT MOST 1048576: true; the input reads as it did. -/
def tableCountsUptoRow : OpenClaim := { program := "ytjbnjlkoipkpoaagreatdoor", sum := "f01587b2961a4ee6b679cdff168e699dbaa98811ffde4deacb70b83c912c479f", func := "stanzakeep/stanzakeeplaw25.TableCounts", spec := "tableCounts", inPlace := ["internal/bytealg.IndexByteString", "internal/bytealg.IndexString", "internal/abi.NoEscape", "internal/bytealg.MakeNoZero", "internal/bytealg.CountString", "internal/bytealg.abigen_runtime_cmpstring"], unfollowed := true, recurses := true, named := ["internal/bytealg.MaxLen", "unicode/utf8.first", "unicode/utf8.acceptRanges"], apart := false, laid := [("unicode/utf8.acceptRanges", laid_unicode_utf8_acceptRanges), ("unicode/utf8.first", laid_unicode_utf8_first)], narrowed := true }
def TableCountsUptoSaid : Prop := tableCountsUptoRow.holds Tryz.pinned (OpenSpec.upto tableCountsSpec)

/-- 'stanzakeeplaw25.TableSorts', WHERE WHAT IT READS IS OF BULK AT MOST 1048576: true; the input reads as it did. -/
def tableSortsUptoRow : OpenClaim := { program := "ytjbnjlkoipkpoaagreatdoor", sum := "f01587b2961a4ee6b679cdff168e699dbaa98811ffde4deacb70b83c912c479f", func := "stanzakeep/stanzakeeplaw25.TableSorts", spec := "tableSorts", inPlace := ["internal/bytealg.IndexByteString", "internal/bytealg.IndexString", "internal/abi.NoEscape", "internal/bytealg.MakeNoZero", "internal/bytealg.CountString", "internal/bytealg.abigen_runtime_cmpstring"], unfollowed := true, recurses := true, named := ["internal/bytealg.MaxLen", "unicode/utf8.first", "unicode/utf8.acceptRanges"], apart := false, laid := [("unicode/utf8.acceptRanges", laid_unicode_utf8_acceptRanges), ("unicode/utf8.first", laid_unicode_utf8_first)], narrowed := true }
def TableSortsUptoSaid : Prop := tableSortsUptoRow.holds Tryz.pinned (OpenSpec.upto tableSortsSpec)

end Rows
end Go.Proofs.YtjbnjlkoipkpoaaGreatDoor
