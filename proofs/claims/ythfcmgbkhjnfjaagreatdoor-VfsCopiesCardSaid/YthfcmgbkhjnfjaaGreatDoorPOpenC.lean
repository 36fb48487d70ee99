/- The law's operation by value: out of the condition that it can be read. -/
import Derived.Test.YthfcmgbkhjnfjaaGreatDoorVV
import Derived.Lib.SmallJoins
namespace Go.Proofs.YthfcmgbkhjnfjaaGreatDoor
open Go.RowKit Go.ChangeShapes Go.WideShapes Go.Deep Go.Joins

theorem array5 {α : Type} {cs : Array α} (h : cs.size = 5) : ∃ c0 c1 c2 c3 c4, cs = #[c0, c1, c2, c3, c4] := by
  obtain ⟨l⟩ := cs
  match l, h with
  | [c0, c1, c2, c3, c4], _ => exact ⟨c0, c1, c2, c3, c4, rfl⟩
section
variable {H : Type} {enc : TypeId × Value → H} {w : World}
set_option maxRecDepth 20000 in
theorem opArg_open {v : Value} {d : DataW H} {p : List MemPlace} {base0 : Nat} (hval : Value.okWide Tryz.prog w .any base0 40 v) (h : DataW.Trod enc Tryz.prog w 0 (fun _ => true) true 40 v d p) :
    ∃ pk pn pm pt pA pL pC, v = .agg #[.int .i64 pk, .int .i64 pn, .string pm, .string pt, .slice pA pL pC] ∧ (OpC.mk pk pn pm pt pA pL pC).Fit := by
  obtain ⟨cs, rfl, hsz⟩ := okWide_struct Tryz.underlying40 hval
  obtain ⟨c0, c1, c2, c3, c4, rfl⟩ := array5 (hsz.trans cellsOp)
  obtain ⟨fuel, hf⟩ := h
  obtain ⟨o, ho, hc⟩ := op_open hf
  obtain ⟨pk, pn, pm, pt, pA, pL, pC⟩ := o
  unfold OpC.cells at hc
  simp [Value.cells] at hc
  obtain ⟨rfl, rfl, rfl, rfl, rfl⟩ := hc
  exact ⟨pk, pn, pm, pt, pA, pL, pC, rfl, ho⟩
end
end Go.Proofs.YthfcmgbkhjnfjaaGreatDoor
