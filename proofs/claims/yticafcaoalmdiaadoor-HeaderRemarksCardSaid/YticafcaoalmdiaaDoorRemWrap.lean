/- What every row of this seat wants beside its walk: a world for the witness, in which the listed variables are laid; and from the row's condition to what the walks read of the library's variables. -/
import Derived.Test.YticafcaoalmdiaaDoorCards
import Derived.Test.YticafcaoalmdiaaDoorTie
import Derived.Test.YticafcaoalmdiaaDoorHTake
import Derived.WalkKit
import Derived.ProofKit
import Derived.OpenShut
import Derived.ShutString
import Derived.Deep.DeepHandedRow
import Derived.Lib.LaidTab
import Derived.LaidSub
import Derived.MakeChecks
import Derived.Stop.LaidErr
import Derived.LaidLaws
namespace Go.Proofs.YticafcaoalmdiaaDoor
open Go.ChangeShapes Go.WideShapes Go.ChangeAt Go.RowKit

theorem own : ownKnob Tryd.prog.godebug = none := by kernel_rfl
theorem laidOut : laidOutB Tryd.prog = true := by kernel_rfl
theorem gSyn : Tryd.prog.globalNamed "strconv.ErrSyntax" = some 2 := by kernel_rfl
theorem gSynType : (Tryd.prog.globals[2]?).map (·.type) = some 24 := by kernel_rfl
theorem gRng : Tryd.prog.globalNamed "strconv.ErrRange" = some 3 := by kernel_rfl
theorem gRngType : (Tryd.prog.globals[3]?).map (·.type) = some 24 := by kernel_rfl
theorem gPowType : (Tryd.prog.globals[0]?).map (·.type) = some 106 := by kernel_rfl
theorem star : "*" ++ "errors.errorString" = "*errors.errorString" := by decide
theorem errRow (u : TypeId) (h : Tryd.prog.typeName? 3 u = some "*errors.errorString") : u = 131 :=
  typeName_ptr_named (nm := "errors.errorString") (by rw [star]; kernel_rfl) (by kernel_rfl) (by decide) u (by rw [star]; exact h)
/-- From a row's condition to what the walks read. -/
theorem ready_of {W : World} {l : List (String × DataW Unit)} (hl : l = Rows.headerRemarksRow.laid) (h : laidMetH Tryd.prog l W) (hs : W.ShapedOpen Tryd.prog) : H.Ready W where
  max := cell_of_shapedOpen_int (zero := #[.int .i64 0]) (t := 3) hs (of_decide_eq_true (by kernel_rfl)) (by kernel_rfl) rfl (by kernel_rfl) (by kernel_rfl) Tryd.underlying3
  tab := by
    have h1 := h.filter (fun x => x.1 == "internal/strconv.uint64pow10")
    have e : l.filter (fun x => x.1 == "internal/strconv.uint64pow10") = [("internal/strconv.uint64pow10", Lib.tabData .u64 Lib.pow10Tab)] := by rw [hl]; kernel_rfl
    rw [e, MakeChecks.laidMetH_plain _ _ _ (by kernel_rfl)] at h1
    exact Lib.tabIs_of_head H.gPow gPowType Tryd.underlying106 Tryd.underlying82 (by kernel_rfl) (by kernel_rfl) h1
  syn := by
    have h1 := h.filter (fun x => x.1 == "strconv.ErrSyntax")
    have e : l.filter (fun x => x.1 == "strconv.ErrSyntax") = [("strconv.ErrSyntax", Rows.laid_strconv_ErrSyntax)] := by rw [hl]; kernel_rfl
    rw [e, MakeChecks.laidMetH_plain _ _ _ (by kernel_rfl)] at h1
    obtain ⟨a, s, hv, -, -, -⟩ := laid_sentinel h1 gSyn gSynType Tryd.underlying24 errRow Tryd.underlying131 Tryd.underlying133 rfl rfl Tryd.underlying9 (by kernel_rfl) (by kernel_rfl)
    exact ⟨_, _, by have h0 := World.var?_cell gSyn hv 0; simpa using h0⟩
  rng := by
    have h1 := h.filter (fun x => x.1 == "strconv.ErrRange")
    have e : l.filter (fun x => x.1 == "strconv.ErrRange") = [("strconv.ErrRange", Rows.laid_strconv_ErrRange)] := by rw [hl]; kernel_rfl
    rw [e, MakeChecks.laidMetH_plain _ _ _ (by kernel_rfl)] at h1
    obtain ⟨a, s, hv, -, -, -⟩ := laid_sentinel h1 gRng gRngType Tryd.underlying24 errRow Tryd.underlying131 Tryd.underlying133 rfl rfl Tryd.underlying9 (by kernel_rfl) (by kernel_rfl)
    exact ⟨_, _, by have h0 := World.var?_cell gRng hv 0; simpa using h0⟩
theorem int_lo {n : Int} (h : (Lit.int .i64 n).wf = true) : -9223372036854775808 ≤ n := by
  have e1 : IntKind.i64.min = -9223372036854775808 := rfl
  have e2 : IntKind.i64.max = 9223372036854775807 := rfl
  simp [Lit.wf, e1, e2] at h
  omega
theorem int_hi {n : Int} (h : (Lit.int .i64 n).wf = true) : n ≤ 9223372036854775807 := by
  have e1 : IntKind.i64.min = -9223372036854775808 := rfl
  have e2 : IntKind.i64.max = 9223372036854775807 := rfl
  simp [Lit.wf, e1, e2] at h
  omega
/-! ### A world for the witness -/
mutual
/-- The cells of a plain datum. -/
def flat : DataW Unit → List Value
  | .lit (.int k n) => [.int k n]
  | .lit (.bool b) => [.bool b]
  | .agg ps => flatAll ps
  | _ => []
def flatAll : List (DataW Unit) → List Value
  | [] => []
  | d :: r => flat d ++ flatAll r
end
/-- A block of cells that holds these. -/
def lay (cs : List Value) : Obj → Obj
  | .cells _ t frozen => .cells cs.toArray t frozen
  | o => o
/-- So many blocks has the settled world. -/
noncomputable def low : Nat := (World.holding Tryd.prog default ⟨#[], #[], []⟩).heap.size
/-- The settled world with two blocks more, each an errors.errorString; the listed variables hold what their initialisers lay. -/
noncomputable def laidWorld (os : Os) : World :=
  let w0 := World.holding Tryd.prog os ⟨#[.cells #[.string ⟨#[118, 97, 108, 117, 101, 32, 111, 117, 116, 32, 111, 102, 32, 114, 97, 110, 103, 101]⟩] 133, .cells #[.string ⟨#[105, 110, 118, 97, 108, 105, 100, 32, 115, 121, 110, 116, 97, 120]⟩] 133], #[], []⟩
  { w0 with heap := ((((((w0.heap.modify 4 (lay (flat Rows.laid_math_bits_deBruijn32tab))).modify 5 (lay (flat Rows.laid_math_bits_deBruijn64tab))).modify 0 (lay (flat Rows.laid_internal_strconv_uint64pow10))).modify 3 (lay [.iface 131 (.pointer (some ⟨low, 0, none⟩))])).modify 2 (lay [.iface 131 (.pointer (some ⟨low + 1, 0, none⟩))])).modify 7 (lay (flat Rows.laid_unicode_utf8_acceptRanges))).modify 6 (lay (flat Rows.laid_unicode_utf8_first)) }
end Go.Proofs.YticafcaoalmdiaaDoor
