/- The reference's unit and did. -/
import Derived.Test.YtalonkenchcfbaaDoorRefs4
namespace Go.Proofs.YtalonkenchcfbaaDoor
open Go.RowKit Go.Maps
attribute [local go_sem ↓] Go.wp_at_zero Go.wp_at_succ

/-- The disk behind one unit. -/
abbrev uDisk : Value := .agg #[.int .i64 0, .slice none 0 0, .slice none 0 0, .slice none 0 0, .int .i64 1, .int .i64 0, .bool false, .bool false, .slice none 0 0]
def UnitPost (w : World) (e : Ending) (w' : World) : Prop := e = .returned (.tuple #[uDisk, .bool true]) ∧ Below w.heap.size w w'
set_option maxRecDepth 20000 in
theorem refUnit (w : World) : Calls Tryd.prog 53 #[zDisk] w (UnitPost w) := by
  go_enter Tryd.func53, Tryd.ntmps53
  go_wp2_with fail
  refine bodyPost_ret (v := .tuple #[uDisk, .bool true]) (by simp [results, Tryd.results53, go_sem]) rfl ⟨rfl, ?_⟩
  repeat first | exact Below.refl _ _ | refine Below.drew ?_ | refine Below.alloc ?_ (by simp <;> omega) _ | refine Below.setCell ?_ (by simp <;> omega) _
def DidPost (f m : Value) (w : World) (e : Ending) (w' : World) : Prop := ∃ (g : Addr) (n c : Nat), e = .returned (.agg #[.int .i64 0, f, .slice none 0 0, m, .int .i64 1, .int .i64 0, .bool false, .bool false, .slice (some g) n c]) ∧ Below w.heap.size w w'
set_option maxRecDepth 20000 in
theorem refDid (fo mo : Option Addr) (fn fc mn mc : Nat) (k : Int) (s : ByteArray) (w : World) : Calls Tryd.prog 55 #[.agg #[.int .i64 0, .slice fo fn fc, .slice none 0 0, .slice mo mn mc, .int .i64 1, .int .i64 0, .bool false, .bool false, .slice none 0 0], .agg #[.int .i64 k, .string s, .string ⟨#[]⟩, .string ⟨#[]⟩, .int .i64 0]] w (DidPost (.slice fo fn fc) (.slice mo mn mc) w) := by
  have hcap : ¬ 281474976710656 < Builtin.nextslicecap 1 0 * Tryd.t114.bytes := by decide +kernel
  go_enter Tryd.func55, Tryd.ntmps55
  go_wp2_with fail
  go_region
  all_goals
    go_wp2_with fail
    refine bodyPost_ret (v := .agg #[.int .i64 0, .slice fo fn fc, .slice none 0 0, .slice mo mn mc, .int .i64 1, .int .i64 0, .bool false, .bool false, .slice (some _) _ _]) (by simp [results, Tryd.results55, go_sem]; exact ⟨rfl, rfl, rfl⟩) rfl ⟨_, _, _, rfl, ?_⟩
    repeat first | exact Below.refl _ _ | refine Below.drew ?_ | refine Below.alloc ?_ (by simp <;> omega) _ | refine Below.setCell ?_ (by simp <;> omega) _
end Go.Proofs.YtalonkenchcfbaaDoor
