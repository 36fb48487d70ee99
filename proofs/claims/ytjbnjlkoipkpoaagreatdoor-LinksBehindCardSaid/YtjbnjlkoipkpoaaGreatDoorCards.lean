/-
  DERIVED. GIVEN WITH THE SEED: THE CARDS: each row of YtjbnjlkoipkpoaaGreatDoorRows.lean that lists a variable, with what it lists TIED to the program's text (the seventh form; the later family's looks); each row that meets fmt, with fmt's text TOLD by the authors' own Lean function (tested against real Go, not proved from fmt's source: count such statements apart). THE CARD IS WHAT COUNTS. Prove the row's statement (the work); the ties are given (YtjbnjlkoipkpoaaGreatDoorTie.lean); close each card by the builder's one call (the guide's Derived/Test/ToyasCard.lean, 'card_holds'). Laid BY PROGRAM, IN A SANDBOX (cutbox-door.mjs). By AI agents, Wed Nov 11 2026. No macro, syntax, notation, axiom, sorry.
-/
import Derived.Test.YtjbnjlkoipkpoaaGreatDoorRows
import GoSem.ClaimSeven
namespace Go.Proofs.YtjbnjlkoipkpoaaGreatDoor
namespace Rows

/-- THE TIED CARD OF 'stanzakeeplaw30.LinksOf'. -/
def linksOfCard : Claim7 := { stood := { row := linksOfRow, standIns := [], harness := (true, "b3c155ce02b8fa437ad76752033ee1f0218c1964efda42121ce0d6806e2a1958"), looks := true }, kinds := [], alts := [], laidByText := true, laidKinds := [.data, .pinned], laidTests := true, laidLooks := .later }
def LinksOfCardSaid : Prop := Claim7.holds Tryz.pinned (.plain (OpenSpec.ofChange linksOfSpec)) linksOfCard

/-- THE TIED CARD OF 'stanzakeeplaw25.TableOf'. -/
def tableOfCard : Claim7 := { stood := { row := tableOfRow, standIns := [], harness := (true, "b3c155ce02b8fa437ad76752033ee1f0218c1964efda42121ce0d6806e2a1958"), looks := true }, kinds := [], alts := [], laidByText := true, laidKinds := [.data, .pinned], laidTests := true, laidLooks := .later }
def TableOfCardSaid : Prop := Claim7.holds Tryz.pinned (.plain (OpenSpec.ofChange tableOfSpec)) tableOfCard

/-- THE TIED CARD OF 'stanzakeeplaw30.LinksReach'. -/
def linksReachCard : Claim7 := { stood := { row := linksReachRow, standIns := [], harness := (true, "b3c155ce02b8fa437ad76752033ee1f0218c1964efda42121ce0d6806e2a1958"), looks := true }, kinds := [], alts := [], laidByText := true, laidKinds := [.data, .pinned], laidTests := true, laidLooks := .later }
def LinksReachCardSaid : Prop := Claim7.holds Tryz.pinned (.plain (OpenSpec.ofChange linksReachSpec)) linksReachCard

/-- THE TIED CARD OF 'stanzakeeplaw30.LinksFar'. -/
def linksFarCard : Claim7 := { stood := { row := linksFarRow, standIns := [], harness := (true, "b3c155ce02b8fa437ad76752033ee1f0218c1964efda42121ce0d6806e2a1958"), looks := true }, kinds := [], alts := [], laidByText := true, laidKinds := [.data, .pinned], laidTests := true, laidLooks := .later }
def LinksFarCardSaid : Prop := Claim7.holds Tryz.pinned (.plain (OpenSpec.ofChange linksFarSpec)) linksFarCard

/-- THE TIED CARD OF 'stanzakeeplaw30.LinksOrder'. -/
def linksOrderCard : Claim7 := { stood := { row := linksOrderRow, standIns := [], harness := (true, "b3c155ce02b8fa437ad76752033ee1f0218c1964efda42121ce0d6806e2a1958"), looks := true }, kinds := [], alts := [], laidByText := true, laidKinds := [.data, .pinned], laidTests := true, laidLooks := .later }
def LinksOrderCardSaid : Prop := Claim7.holds Tryz.pinned (.plain (OpenSpec.ofChange linksOrderSpec)) linksOrderCard

/-- THE TIED CARD OF 'stanzakeeplaw30.LinksBehind'. -/
def linksBehindCard : Claim7 := { stood := { row := linksBehindRow, standIns := [], harness := (true, "b3c155ce02b8fa437ad76752033ee1f0218c1964efda42121ce0d6806e2a1958"), looks := true }, kinds := [], alts := [], laidByText := true, laidKinds := [.data, .pinned], laidTests := true, laidLooks := .later }
def LinksBehindCardSaid : Prop := Claim7.holds Tryz.pinned (.plain (OpenSpec.ofChange linksBehindSpec)) linksBehindCard

/-- THE TIED CARD OF 'stanzakeeplaw25.TableCounts'. -/
def tableCountsCard : Claim7 := { stood := { row := tableCountsRow, standIns := [], harness := (true, "b3c155ce02b8fa437ad76752033ee1f0218c1964efda42121ce0d6806e2a1958"), looks := true }, kinds := [], alts := [], laidByText := true, laidKinds := [.data, .pinned], laidTests := true, laidLooks := .later }
def TableCountsCardSaid : Prop := Claim7.holds Tryz.pinned (.plain (OpenSpec.ofChange tableCountsSpec)) tableCountsCard

/-- THE TIED CARD OF 'stanzakeeplaw25.TableSorts'. -/
def tableSortsCard : Claim7 := { stood := { row := tableSortsRow, standIns := [], harness := (true, "b3c155ce02b8fa437ad76752033ee1f0218c1964efda42121ce0d6806e2a1958"), looks := true }, kinds := [], alts := [], laidByText := true, laidKinds := [.data, .pinned], laidTests := true, laidLooks := .later }
def TableSortsCardSaid : Prop := Claim7.holds Tryz.pinned (.plain (OpenSpec.ofChange tableSortsSpec)) tableSortsCard

/-- THE SECOND FORM's CARD OF 'stanzakeeplaw30.LinksOf'. -/
def linksOfUptoCard : Claim7 := { stood := { row := linksOfUptoRow, standIns := [], harness := (true, "b3c155ce02b8fa437ad76752033ee1f0218c1964efda42121ce0d6806e2a1958"), looks := true }, kinds := [], alts := [], laidByText := true, laidKinds := [.data, .pinned], laidTests := true, laidLooks := .later }
def LinksOfUptoCardSaid : Prop := Claim7.holds Tryz.pinned (.plain (OpenSpec.upto linksOfSpec)) linksOfUptoCard

/-- THE SECOND FORM's CARD OF 'stanzakeeplaw25.TableOf'. -/
def tableOfUptoCard : Claim7 := { stood := { row := tableOfUptoRow, standIns := [], harness := (true, "b3c155ce02b8fa437ad76752033ee1f0218c1964efda42121ce0d6806e2a1958"), looks := true }, kinds := [], alts := [], laidByText := true, laidKinds := [.data, .pinned], laidTests := true, laidLooks := .later }
def TableOfUptoCardSaid : Prop := Claim7.holds Tryz.pinned (.plain (OpenSpec.upto tableOfSpec)) tableOfUptoCard

/-- THE SECOND FORM's CARD OF 'stanzakeeplaw30.LinksReach'. -/
def linksReachUptoCard : Claim7 := { stood := { row := linksReachUptoRow, standIns := [], harness := (true, "b3c155ce02b8fa437ad76752033ee1f0218c1964efda42121ce0d6806e2a1958"), looks := true }, kinds := [], alts := [], laidByText := true, laidKinds := [.data, .pinned], laidTests := true, laidLooks := .later }
def LinksReachUptoCardSaid : Prop := Claim7.holds Tryz.pinned (.plain (OpenSpec.upto linksReachSpec)) linksReachUptoCard

/-- THE SECOND FORM's CARD OF 'stanzakeeplaw30.LinksFar'. -/
def linksFarUptoCard : Claim7 := { stood := { row := linksFarUptoRow, standIns := [], harness := (true, "b3c155ce02b8fa437ad76752033ee1f0218c1964efda42121ce0d6806e2a1958"), looks := true }, kinds := [], alts := [], laidByText := true, laidKinds := [.data, .pinned], laidTests := true, laidLooks := .later }
def LinksFarUptoCardSaid : Prop := Claim7.holds Tryz.pinned (.plain (OpenSpec.upto linksFarSpec)) linksFarUptoCard

/-- THE SECOND FORM's CARD OF 'stanzakeeplaw30.LinksOrder'. -/
def linksOrderUptoCard : Claim7 := { stood := { row := linksOrderUptoRow, standIns := [], harness := (true, "b3c155ce02b8fa437ad76752033ee1f0218c1964efda42121ce0d6806e2a1958"), looks := true }, kinds := [], alts := [], laidByText := true, laidKinds := [.data, .pinned], laidTests := true, laidLooks := .later }
def LinksOrderUptoCardSaid : Prop := Claim7.holds Tryz.pinned (.plain (OpenSpec.upto linksOrderSpec)) linksOrderUptoCard

/-- THE SECOND FORM's CARD OF 'stanzakeeplaw30.LinksBehind'. -/
def linksBehindUptoCard : Claim7 := { stood := { row := linksBehindUptoRow, standIns := [], harness := (true, "b3c155ce02b8fa437ad76752033ee1f0218c1964efda42121ce0d6806e2a1958"), looks := true }, kinds := [], alts := [], laidByText := true, laidKinds := [.data, .pinned], laidTests := true, laidLooks := .later }
def LinksBehindUptoCardSaid : Prop := Claim7.holds Tryz.pinned (.plain (OpenSpec.upto linksBehindSpec)) linksBehindUptoCard

/-- THE SECOND FORM's CARD OF 'stanzakeeplaw25.TableCounts'. -/
def tableCountsUptoCard : Claim7 := { stood := { row := tableCountsUptoRow, standIns := [], harness := (true, "b3c155ce02b8fa437ad76752033ee1f0218c1964efda42121ce0d6806e2a1958"), looks := true }, kinds := [], alts := [], laidByText := true, laidKinds := [.data, .pinned], laidTests := true, laidLooks := .later }
def TableCountsUptoCardSaid : Prop := Claim7.holds Tryz.pinned (.plain (OpenSpec.upto tableCountsSpec)) tableCountsUptoCard

/-- THE SECOND FORM's CARD OF 'stanzakeeplaw25.TableSorts'. -/
def tableSortsUptoCard : Claim7 := { stood := { row := tableSortsUptoRow, standIns := [], harness := (true, "b3c155ce02b8fa437ad76752033ee1f0218c1964efda42121ce0d6806e2a1958"), looks := true }, kinds := [], alts := [], laidByText := true, laidKinds := [.data, .pinned], laidTests := true, laidLooks := .later }
def TableSortsUptoCardSaid : Prop := Claim7.holds Tryz.pinned (.plain (OpenSpec.upto tableSortsSpec)) tableSortsUptoCard
end Rows
end Go.Proofs.YtjbnjlkoipkpoaaGreatDoor
