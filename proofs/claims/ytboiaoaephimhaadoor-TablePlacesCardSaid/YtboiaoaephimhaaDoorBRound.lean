/- A region that draws its order, within a round of a range over a function: by its walk outside of a round. -/
import Derived.Test.YtboiaoaephimhaaDoorBRange
import Derived.OrdersIn
import Derived.Deep.RegionLaw
import Derived.Deep.AppendLies
namespace Go.Proofs.YtboiaoaephimhaaDoor.B
open Go.RowKit Go.Shelf

theorem rowsIn_of {l n : Nat} {P : Program} {row : String} {args : Array Value} {w : World} {R : Value → World → Prop} (h : Rows P row args w R) : RowsIn (Fence.wide.inRound l) n P row args w R :=
  fun c cs _ => let ⟨v, w', r, s⟩ := h c cs; ⟨v, w', r, stepsIn_wide.2 s⟩
theorem opIn_of_wp {P : Program} {l n : Nat} {o : Oper} {a : Act} {K : Act → World → Prop} {Q : Exit → Act → World → Prop} {w : World} (hd : ∀ c, o.op ≠ .defer c) (h : o.wp P a w K Q) : o.wpIn (Fence.wide.inRound l) n P a w K Q := by
  refine ⟨fun _ _ => trivial, ?_⟩
  rw [Oper.semAt_eq _ _ _ hd]
  unfold Oper.wp at h
  generalize (execOp a.eval o).run P w = r at *
  cases r with
  | ok nx w' =>
    cases nx with
    | value v => exact h
    | skip => exact h
    | defer d => exact h
    | enter f args => exact ⟨wideOk, CallsIn.inRound l (callsIn_wide.2 h)⟩
    | row row args => exact ⟨wideOk, rowsIn_of h⟩
    | round a b c d e => exact h.elim
    | _ => exact h
  | halt hh w' =>
    cases hh with
    | panic v => exact h
    | _ => exact h
theorem anyIn_of_any {P : Program} {md : Region.Mode} {ops : Array Oper} {l n : Nat} {Q : Exit → Act → World → Prop} (hd : ∀ (j : Nat) o c, ops[j]? = some o → o.op ≠ .defer c) (hQ : ¬ LetsOut Q) :
    ∀ (fuel : Nat) (listed : Array Bool) (a : Act) (w : World), wpAny P md ops Q fuel listed a w → wpAnyIn (Fence.wide.inRound l) n P md ops Q fuel listed a w
  | 0, _, _, _, h => h
  | fuel + 1, listed, a, w, h => by
    refine ⟨h.1, fun i hi => ?_⟩
    have h2 := h.2 i hi
    unfold wpOp at h2
    unfold wpOpIn
    cases ho : ops[i]? with
    | none =>
      simp only [ho] at h2
      exact anyIn_of_any hd hQ _ _ _ _ h2
    | some o =>
      simp only [ho] at h2
      simp only
      split
      · rename_i hw
        rw [if_pos hw] at h2
        rcases h2 with h2 | ⟨_, h2⟩
        · exact opIn_of_wp (fun c => hd i o c ho) (Oper.wp_mono (anyIn_of_any hd hQ _ _) h2)
        · exact absurd h2 hQ
      · rename_i hw
        rw [if_neg hw] at h2
        exact ⟨fun _ _ => trivial, anyIn_of_any hd hQ _ _ _ _ h2⟩
def noDefer (ops : List Oper) : Bool := ops.all fun o => match o.op with | .defer _ => false | _ => true
theorem noDefer_spec {ops : List Oper} (h : noDefer ops = true) : ∀ (j : Nat) o c, ops.toArray[j]? = some o → o.op ≠ .defer c := by
  intro j o c ho e
  have hm : o ∈ ops := by
    have := List.mem_of_getElem? (l := ops) (i := j) (by simpa using ho)
    exact this
  unfold noDefer at h
  rw [List.all_eq_true] at h
  have := h o hm
  rw [e] at this
  cases this
theorem wpIn_region_round {P : Program} {l n id : Nat} {Q : Exit → Act → World → Prop} {a : Act} {w : World} {ops : List Oper} (hm : P.follows .mixedOrders = true) (hd : noDefer ops = true) (hQ : ¬ LetsOut Q)
    (h : wpAny P .any ops.toArray Q ops.length (Array.replicate ops.length false) a w.drew) : (Code.region id ops.toArray true).wpIn (Fence.wide.inRound l) n P Q a w :=
  wpIn_region_any hm (by
    have := anyIn_of_any (l := l) (n := n) (noDefer_spec hd) hQ _ _ _ _ h
    simpa using this)
end Go.Proofs.YtboiaoaephimhaaDoor.B
