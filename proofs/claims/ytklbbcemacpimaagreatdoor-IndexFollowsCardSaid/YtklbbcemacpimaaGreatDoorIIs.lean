/- Answers, by what they are. -/
import Derived.Test.YtklbbcemacpimaaGreatDoorIAns
import Derived.Test.YtklbbcemacpimaaGreatDoorINum
namespace Go.Proofs.YtklbbcemacpimaaGreatDoor.I
open Go Go.Maps Go.Proofs Go.RowKit Go.Sort Go.Shelf

/-- Numbers, or texts, as an answer. -/
def AInts (L : List Int) (w : World) (e : Ending) (w' : World) : Prop := ∃ u, e = .returned u ∧ IntsAt w' u L ∧ Below w.heap.size w w'
def AStrs (L : List L8) (w : World) (e : Ending) (w' : World) : Prop := ∃ u, e = .returned u ∧ StrsAt w' u L ∧ Below w.heap.size w w'
theorem IntAns.is {w : World} {p : Int → Prop} {e : Ending} {w' : World} {L : List Int} (h : IntAns w p e w') (hL : ∀ ss : List Int, ss.Pairwise (· < ·) → (∀ i, i ∈ ss ↔ p i) → ss = L) : AInts L w e w' := by
  obtain ⟨v, ss, h1, h2, h3, h4, h5⟩ := h
  have := hL ss h2 h3
  subst this
  exact ⟨v, h1, IntsAt.of h4, h5⟩
theorem StrAns.is {w : World} {p : L8 → Prop} {e : Ending} {w' : World} {L : List L8} (h : StrAns w p e w') (hL : ∀ ss : List L8, ss.Pairwise (· < ·) → (∀ i, i ∈ ss ↔ p i) → ss = L) : AStrs L w e w' := by
  obtain ⟨v, ss, h1, h2, h3, h4, h5⟩ := h
  have := hL ss h2 h3
  subst this
  exact ⟨v, h1, StrsAt.of h4, h5⟩
theorem XAt.rise {own : Nat → Prop} {w : World} {xb n : Nat} {m : Ms} (h : XAt own w xb n m) : Rising m := let ⟨_, _, _, _, _, _, h⟩ := h; h.rise
theorem XAt.fine {own : Nat → Prop} {w : World} {xb n : Nat} {m : Ms} (h : XAt own w xb n m) : ∀ s ∈ m, Fine s := let ⟨_, _, _, _, _, _, h⟩ := h; h.fine
end Go.Proofs.YtklbbcemacpimaaGreatDoor.I
