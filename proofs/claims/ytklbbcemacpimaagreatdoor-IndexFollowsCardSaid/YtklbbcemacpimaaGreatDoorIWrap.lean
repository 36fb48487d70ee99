/- What every row of this seat wants beside its walk: a world for the witness; the law's struct of a key and two values, out of the condition that it can be read. -/
import Derived.Test.YtklbbcemacpimaaGreatDoorRows
import Derived.WalkKit
import Derived.ProofKit
import Derived.OpenShut
import Derived.ShutString
import Derived.Deep.DeepHandedRow
import Derived.Lib.LaidTab
import Derived.Lib.SmallJoins
import Derived.Carry
import Derived.Deep.Slices
import Derived.Deep.Fields
namespace Go.Proofs.YtklbbcemacpimaaGreatDoor.I
open Go.ChangeShapes Go.WideShapes Go.ChangeAt Go.RowKit Go.Deep Go.Joins

theorem own : ownKnob Tryz.prog.godebug = none := by kernel_rfl
theorem laidOut : laidOutB Tryz.prog = true := by kernel_rfl
/-- A world for the witness. -/
noncomputable def laidWorld (os : Os) : World := World.holding Tryz.prog os ⟨#[], #[], []⟩
section
variable {H : Type} {enc : TypeId × Value → H} {w : World}
theorem maxLen_eq : maxLen = 9223372036854775807 := by kernel_rfl
/-- A number's bounds. -/
theorem i64_lo {n : Int} (h : (Lit.int .i64 n).wf = true) : -9223372036854775808 ≤ n ∧ n ≤ 9223372036854775807 := by
  have e1 : IntKind.i64.min = -9223372036854775808 := rfl
  have e2 : IntKind.i64.max = 9223372036854775807 := rfl
  simp [Lit.wf, e1, e2] at h
  omega
set_option maxRecDepth 20000 in
theorem ask_open {v : Value} {d : DataW H} {p : List MemPlace} {base0 : Nat} (hval : Value.okWide Tryz.prog w .any base0 42 v) (h : DataW.Trod enc Tryz.prog w 0 (fun _ => true) true 42 v d p) :
    ∃ key lo hi, v = .agg #[.string key, .string lo, .string hi] ∧ key.size ≤ 9223372036854775807 ∧ lo.size ≤ 9223372036854775807 ∧ hi.size ≤ 9223372036854775807 := by
  have m0 := maxLen_eq
  obtain ⟨v0, v1, v2, y0, y1, y2, n, rfl, -, -, g0, g1, g2⟩ := open_agg3 Tryz.underlying42 (by kernel_rfl) (by kernel_rfl) hval h
  obtain ⟨s0, k0, -, w0⟩ := DataW.trod_string Tryz.underlying9 g0
  obtain ⟨s1, k1, -, w1⟩ := DataW.trod_string Tryz.underlying9 g1
  obtain ⟨s2, k2, -, w2⟩ := DataW.trod_string Tryz.underlying9 g2
  simp at k0 k1 k2
  subst k0 k1 k2
  exact ⟨s0, s1, s2, rfl, by omega, by omega, by omega⟩
end
end Go.Proofs.YtklbbcemacpimaaGreatDoor.I
