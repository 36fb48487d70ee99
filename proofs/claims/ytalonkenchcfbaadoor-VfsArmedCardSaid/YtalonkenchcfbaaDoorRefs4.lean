/- The reference's moved and did. -/
import Derived.Test.YtalonkenchcfbaaDoorRefs3
import Derived.Deep.DrawnRows
namespace Go.Proofs.YtalonkenchcfbaaDoor
open Go.RowKit Go.Maps
attribute [local go_sem ↓] Go.wp_at_zero Go.wp_at_succ

def MovedPost (w : World) (e : Ending) (w' : World) : Prop := ∃ (g : Addr) (n c : Nat), e = .returned (.agg #[.int .i64 0, .slice none 0 0, .slice none 0 0, .slice (some g) n c, .int .i64 1, .int .i64 0, .bool false, .bool false, .slice none 0 0]) ∧ Below w.heap.size w w'
set_option maxRecDepth 20000 in
theorem refMoved (s : ByteArray) (w : World) : Calls Tryd.prog 54 #[.agg #[.int .i64 0, .slice none 0 0, .slice none 0 0, .slice none 0 0, .int .i64 1, .int .i64 0, .bool false, .bool false, .slice none 0 0], .agg #[.string s, .string ⟨#[]⟩, .int .i64 0]] w (MovedPost w) := by
  have hcap : ¬ 281474976710656 < Builtin.nextslicecap 1 0 * Tryd.t109.bytes := by decide +kernel
  go_enter Tryd.func54, Tryd.ntmps54
  go_wp2_with fail
  go_region
  all_goals
    go_wp2_with fail
    refine bodyPost_ret (v := .agg #[.int .i64 0, .slice none 0 0, .slice none 0 0, .slice (some _) _ _, .int .i64 1, .int .i64 0, .bool false, .bool false, .slice none 0 0]) (by simp [results, Tryd.results54, go_sem]; exact ⟨rfl, rfl, rfl⟩) rfl ⟨_, _, _, rfl, ?_⟩
    repeat first | exact Below.refl _ _ | refine Below.drew ?_ | refine Below.alloc ?_ (by simp <;> omega) _ | refine Below.setCell ?_ (by simp <;> omega) _
end Go.Proofs.YtalonkenchcfbaaDoor
