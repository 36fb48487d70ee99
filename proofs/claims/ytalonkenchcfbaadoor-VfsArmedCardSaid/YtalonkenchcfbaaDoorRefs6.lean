/- The reference's SyncDir at a disk on which there is nothing. -/
import Derived.Test.YtalonkenchcfbaaDoorRefs5
namespace Go.Proofs.YtalonkenchcfbaaDoor
open Go.RowKit Go.Maps

theorem set_one {w : World} {x i : Nat} {c c' : Array Value} {T : TypeId} (h : w.heap[x]? = some (.cells c T (0, 0))) (v : Value) (e : c.setIfInBounds i v = c') : (w.setCell ⟨x, i, none⟩ v).heap[x]? = some (.cells c' T (0, 0)) := by
  subst e
  simp [World.setCell, Array.getElem?_modify, h]
/-- A whole disk is stored into a box. -/
theorem set_all {w : World} {x : Nat} {a0 a1 a2 a3 a4 a5 a6 a7 a8 : Value} {T : TypeId} (h : w.heap[x]? = some (.cells #[a0, a1, a2, a3, a4, a5, a6, a7, a8] T (0, 0))) (v0 v1 v2 v3 v4 v5 v6 v7 v8 : Value) :
    (((((((((w.setCell ⟨x, 0, none⟩ v0).setCell ⟨x, 1, none⟩ v1).setCell ⟨x, 2, none⟩ v2).setCell ⟨x, 3, none⟩ v3).setCell ⟨x, 4, none⟩ v4).setCell ⟨x, 5, none⟩ v5).setCell ⟨x, 6, none⟩ v6).setCell ⟨x, 7, none⟩ v7).setCell ⟨x, 8, none⟩ v8).heap[x]? = some (.cells #[v0, v1, v2, v3, v4, v5, v6, v7, v8] T (0, 0)) := by
  have h9 := set_one (i := 8) (set_one (i := 7) (set_one (i := 6) (set_one (i := 5) (set_one (i := 4) (set_one (i := 3) (set_one (i := 2) (set_one (i := 1) (set_one (i := 0) h v0 rfl) v1 rfl) v2 rfl) v3 rfl) v4 rfl) v5 rfl) v6 rfl) v7 rfl) v8 rfl
  simpa using h9
theorem refDirU (w : World) : Calls Tryd.prog 61 #[uDisk] w (DirPost w) := by
  go_enter Tryd.func61, Tryd.ntmps61
  go_wp2
  go_loopw [3, 4] (fun l i wr => l = .slice none 0 0 ∧ i = .int .i64 0 ∧ wr.cell? ⟨w.heap.size, 2, none⟩ = some (.slice none 0 0) ∧ wr.cell? ⟨w.heap.size, 3, none⟩ = some (.slice none 0 0) ∧ Hid (Below w.heap.size w wr)) (fun _ _ _ => 0)
  case atStart => exact ⟨rfl, rfl, World.cell?_alloc_new _ _ _ _, World.cell?_alloc_new _ _ _ _, (Below.refl _ _).alloc (Nat.le_refl _) _⟩
  case round =>
    obtain ⟨rfl, rfl, c2, c3, hw⟩ := hrel
    go_wp2
    go_ret
    exact ⟨rfl, hw.out⟩
end Go.Proofs.YtalonkenchcfbaaDoor
