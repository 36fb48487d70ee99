/- The reference's SyncDir at a disk on which there is nothing. -/
import Derived.Test.YtalonkenchcfbaaDoorRefs6
namespace Go.Proofs.YtalonkenchcfbaaDoor
open Go.RowKit Go.Maps

theorem keep_all {w : World} {x y : Nat} (h : y ≠ x) (v0 v1 v2 v3 v4 v5 v6 v7 v8 : Value) :
    (((((((((w.setCell ⟨x, 0, none⟩ v0).setCell ⟨x, 1, none⟩ v1).setCell ⟨x, 2, none⟩ v2).setCell ⟨x, 3, none⟩ v3).setCell ⟨x, 4, none⟩ v4).setCell ⟨x, 5, none⟩ v5).setCell ⟨x, 6, none⟩ v6).setCell ⟨x, 7, none⟩ v7).setCell ⟨x, 8, none⟩ v8).heap[y]? = w.heap[y]? := by
  rw [Below.heap_setCell _ _ _ _ h, Below.heap_setCell _ _ _ _ h, Below.heap_setCell _ _ _ _ h, Below.heap_setCell _ _ _ _ h, Below.heap_setCell _ _ _ _ h, Below.heap_setCell _ _ _ _ h, Below.heap_setCell _ _ _ _ h, Below.heap_setCell _ _ _ _ h, Below.heap_setCell _ _ _ _ h]
/-- Some disk, and an error's number. -/
def SomePost (w : World) (e : Ending) (w' : World) : Prop := ∃ (fo mo ao : Option Addr) (fn fc mn mc an ac : Nat) (u : Int) (k : Nat), k ≤ 12 ∧ e = .returned (.tuple #[.agg #[.int .i64 0, .slice fo fn fc, .slice none 0 0, .slice mo mn mc, .int .i64 u, .int .i64 0, .bool false, .bool false, .slice ao an ac], .int .i64 k]) ∧ Below w.heap.size w w'
set_option maxRecDepth 20000 in
set_option maxHeartbeats 1600000 in
theorem refSyncDir (w : World) : Calls Tryd.prog 41 #[zDisk] w (SomePost w) := by
  have U := Lib.hid refUnit
  have Dr := Lib.hid refDirU
  go_enter Tryd.func41, Tryd.ntmps41
  go_wp2_with fail
  refine (U.out _).mono ?_
  rintro e w1 ⟨rfl, b1⟩
  have B1 := boxes b1
  have hx := Lib.hid B1.x
  have hy := Lib.hid B1.y
  have hw1 := Lib.hid ((below_alloc_two w _ _).trans (b1.mono (by simp; omega)))
  have xc0 : w1.cell? ⟨w.heap.size, 0, none⟩ = some (.int .i64 0) := by simp [World.cell?, B1.x]
  have xf0 : w1.frozen? ⟨w.heap.size, 0, none⟩ = false := by simp [World.frozen?, B1.x]
  have xc1 : w1.cell? ⟨w.heap.size, 1, none⟩ = some (.slice none 0 0) := by simp [World.cell?, B1.x]
  have xf1 : w1.frozen? ⟨w.heap.size, 1, none⟩ = false := by simp [World.frozen?, B1.x]
  have xc2 : w1.cell? ⟨w.heap.size, 2, none⟩ = some (.slice none 0 0) := by simp [World.cell?, B1.x]
  have xf2 : w1.frozen? ⟨w.heap.size, 2, none⟩ = false := by simp [World.frozen?, B1.x]
  have xc3 : w1.cell? ⟨w.heap.size, 3, none⟩ = some (.slice none 0 0) := by simp [World.cell?, B1.x]
  have xf3 : w1.frozen? ⟨w.heap.size, 3, none⟩ = false := by simp [World.frozen?, B1.x]
  have xc4 : w1.cell? ⟨w.heap.size, 4, none⟩ = some (.int .i64 0) := by simp [World.cell?, B1.x]
  have xf4 : w1.frozen? ⟨w.heap.size, 4, none⟩ = false := by simp [World.frozen?, B1.x]
  have xc5 : w1.cell? ⟨w.heap.size, 5, none⟩ = some (.int .i64 0) := by simp [World.cell?, B1.x]
  have xf5 : w1.frozen? ⟨w.heap.size, 5, none⟩ = false := by simp [World.frozen?, B1.x]
  have xc6 : w1.cell? ⟨w.heap.size, 6, none⟩ = some (.bool false) := by simp [World.cell?, B1.x]
  have xf6 : w1.frozen? ⟨w.heap.size, 6, none⟩ = false := by simp [World.frozen?, B1.x]
  have xc7 : w1.cell? ⟨w.heap.size, 7, none⟩ = some (.bool false) := by simp [World.cell?, B1.x]
  have xf7 : w1.frozen? ⟨w.heap.size, 7, none⟩ = false := by simp [World.frozen?, B1.x]
  have xc8 : w1.cell? ⟨w.heap.size, 8, none⟩ = some (.slice none 0 0) := by simp [World.cell?, B1.x]
  have xf8 : w1.frozen? ⟨w.heap.size, 8, none⟩ = false := by simp [World.frozen?, B1.x]
  clear b1 B1
  go_wp2_with fail
  refine (Dr.out _).mono ?_
  rintro e w2 ⟨rfl, b2⟩
  have sx := set_all hx.out (.int .i64 0) (.slice none 0 0) (.slice none 0 0) (.slice none 0 0) (.int .i64 1) (.int .i64 0) (.bool false) (.bool false) (.slice none 0 0)
  have sy := (keep_all (w := w1) (x := w.heap.size) (y := w.heap.size + 1) (by omega) (.int .i64 0) (.slice none 0 0) (.slice none 0 0) (.slice none 0 0) (.int .i64 1) (.int .i64 0) (.bool false) (.bool false) (.slice none 0 0)).trans hy.out
  have hx2 := (b2.block _ (Array.getElem?_eq_some_iff.1 sx).1).trans sx
  have hy2 := Lib.hid ((b2.block _ (Array.getElem?_eq_some_iff.1 sy).1).trans sy)
  have hw2 : Hid (Below w.heap.size w w2) := Lib.hid (((((((((((hw1.out).setCell (p := ⟨w.heap.size, 0, none⟩) (Nat.le_refl _) _).setCell (p := ⟨w.heap.size, 1, none⟩) (Nat.le_refl _) _).setCell (p := ⟨w.heap.size, 2, none⟩) (Nat.le_refl _) _).setCell (p := ⟨w.heap.size, 3, none⟩) (Nat.le_refl _) _).setCell (p := ⟨w.heap.size, 4, none⟩) (Nat.le_refl _) _).setCell (p := ⟨w.heap.size, 5, none⟩) (Nat.le_refl _) _).setCell (p := ⟨w.heap.size, 6, none⟩) (Nat.le_refl _) _).setCell (p := ⟨w.heap.size, 7, none⟩) (Nat.le_refl _) _).setCell (p := ⟨w.heap.size, 8, none⟩) (Nat.le_refl _) _).trans (b2.mono (by simp [World.setCell]; exact hw1.out.size)))
  clear sx sy b2 hx hy hw1 xc0 xc1 xc2 xc3 xc4 xc5 xc6 xc7 xc8 xf0 xf1 xf2 xf3 xf4 xf5 xf6 xf7 xf8
  have xc0 : w2.cell? ⟨w.heap.size, 0, none⟩ = some (.int .i64 0) := by simp [World.cell?, hx2]
  have xf0 : w2.frozen? ⟨w.heap.size, 0, none⟩ = false := by simp [World.frozen?, hx2]
  have xc1 : w2.cell? ⟨w.heap.size, 1, none⟩ = some (.slice none 0 0) := by simp [World.cell?, hx2]
  have xf1 : w2.frozen? ⟨w.heap.size, 1, none⟩ = false := by simp [World.frozen?, hx2]
  have xc2 : w2.cell? ⟨w.heap.size, 2, none⟩ = some (.slice none 0 0) := by simp [World.cell?, hx2]
  have xf2 : w2.frozen? ⟨w.heap.size, 2, none⟩ = false := by simp [World.frozen?, hx2]
  have xc3 : w2.cell? ⟨w.heap.size, 3, none⟩ = some (.slice none 0 0) := by simp [World.cell?, hx2]
  have xf3 : w2.frozen? ⟨w.heap.size, 3, none⟩ = false := by simp [World.frozen?, hx2]
  have xc4 : w2.cell? ⟨w.heap.size, 4, none⟩ = some (.int .i64 1) := by simp [World.cell?, hx2]
  have xf4 : w2.frozen? ⟨w.heap.size, 4, none⟩ = false := by simp [World.frozen?, hx2]
  have xc5 : w2.cell? ⟨w.heap.size, 5, none⟩ = some (.int .i64 0) := by simp [World.cell?, hx2]
  have xf5 : w2.frozen? ⟨w.heap.size, 5, none⟩ = false := by simp [World.frozen?, hx2]
  have xc6 : w2.cell? ⟨w.heap.size, 6, none⟩ = some (.bool false) := by simp [World.cell?, hx2]
  have xf6 : w2.frozen? ⟨w.heap.size, 6, none⟩ = false := by simp [World.frozen?, hx2]
  have xc7 : w2.cell? ⟨w.heap.size, 7, none⟩ = some (.bool false) := by simp [World.cell?, hx2]
  have xf7 : w2.frozen? ⟨w.heap.size, 7, none⟩ = false := by simp [World.frozen?, hx2]
  have xc8 : w2.cell? ⟨w.heap.size, 8, none⟩ = some (.slice none 0 0) := by simp [World.cell?, hx2]
  have xf8 : w2.frozen? ⟨w.heap.size, 8, none⟩ = false := by simp [World.frozen?, hx2]
  have DD := Lib.hid (refDid none none 0 0 0 0 7 ⟨#[]⟩)
  have hl := (Array.getElem?_eq_some_iff.1 hx2).1
  go_wp2_with fail
  refine (DD.out _).mono ?_
  rintro e w3 ⟨vg, vn, vc, rfl, b3⟩
  have sy : ((w2.setCell ⟨w.heap.size, 2, none⟩ (.slice none 0 0)).setCell ⟨w.heap.size, 3, none⟩ (.slice none 0 0)).heap[w.heap.size + 1]? = some (.cells zCells 51 (0, 0)) := by
    rw [Below.heap_setCell _ _ _ _ (by simp), Below.heap_setCell _ _ _ _ (by simp)]; exact hy2.out
  have hy3 := (b3.block _ (Array.getElem?_eq_some_iff.1 sy).1).trans sy
  have hw3 : Hid (Below w.heap.size w w3) := Lib.hid (((hw2.out.setCell (p := ⟨w.heap.size, 2, none⟩) (Nat.le_refl _) _).setCell (p := ⟨w.heap.size, 3, none⟩) (Nat.le_refl _) _).trans (b3.mono (by simp [World.setCell]; exact hw2.out.size)))
  clear sy b3 hx2 hy2 hw2 hl xc0 xc1 xc2 xc3 xc4 xc5 xc6 xc7 xc8 xf0 xf1 xf2 xf3 xf4 xf5 xf6 xf7 xf8
  have yc0 : w3.cell? ⟨w.heap.size + 1, 0, none⟩ = some (.int .i64 0) := by simp [World.cell?, hy3]
  have yf0 : w3.frozen? ⟨w.heap.size + 1, 0, none⟩ = false := by simp [World.frozen?, hy3]
  have yc1 : w3.cell? ⟨w.heap.size + 1, 1, none⟩ = some (.slice none 0 0) := by simp [World.cell?, hy3]
  have yf1 : w3.frozen? ⟨w.heap.size + 1, 1, none⟩ = false := by simp [World.frozen?, hy3]
  have yc2 : w3.cell? ⟨w.heap.size + 1, 2, none⟩ = some (.slice none 0 0) := by simp [World.cell?, hy3]
  have yf2 : w3.frozen? ⟨w.heap.size + 1, 2, none⟩ = false := by simp [World.frozen?, hy3]
  have yc3 : w3.cell? ⟨w.heap.size + 1, 3, none⟩ = some (.slice none 0 0) := by simp [World.cell?, hy3]
  have yf3 : w3.frozen? ⟨w.heap.size + 1, 3, none⟩ = false := by simp [World.frozen?, hy3]
  have yc4 : w3.cell? ⟨w.heap.size + 1, 4, none⟩ = some (.int .i64 0) := by simp [World.cell?, hy3]
  have yf4 : w3.frozen? ⟨w.heap.size + 1, 4, none⟩ = false := by simp [World.frozen?, hy3]
  have yc5 : w3.cell? ⟨w.heap.size + 1, 5, none⟩ = some (.int .i64 0) := by simp [World.cell?, hy3]
  have yf5 : w3.frozen? ⟨w.heap.size + 1, 5, none⟩ = false := by simp [World.frozen?, hy3]
  have yc6 : w3.cell? ⟨w.heap.size + 1, 6, none⟩ = some (.bool false) := by simp [World.cell?, hy3]
  have yf6 : w3.frozen? ⟨w.heap.size + 1, 6, none⟩ = false := by simp [World.frozen?, hy3]
  have yc7 : w3.cell? ⟨w.heap.size + 1, 7, none⟩ = some (.bool false) := by simp [World.cell?, hy3]
  have yf7 : w3.frozen? ⟨w.heap.size + 1, 7, none⟩ = false := by simp [World.frozen?, hy3]
  have yc8 : w3.cell? ⟨w.heap.size + 1, 8, none⟩ = some (.slice none 0 0) := by simp [World.cell?, hy3]
  have yf8 : w3.frozen? ⟨w.heap.size + 1, 8, none⟩ = false := by simp [World.frozen?, hy3]
  go_wp2_with fail
  refine bodyPost_ret (v := .tuple #[.agg #[.int .i64 0, .slice none 0 0, .slice none 0 0, .slice none 0 0, .int .i64 1, .int .i64 0, .bool false, .bool false, .slice (some vg) vn vc], .int .i64 0]) (by simp [results, Tryd.results41, go_sem, yc0, yc1, yc2, yc3, yc4, yc5, yc6, yc7, yc8]) rfl ⟨none, none, some vg, 0, 0, 0, 0, vn, vc, 1, 0, by decide, rfl, ?_⟩
  exact (((((((((hw3.out).setCell (p := ⟨w.heap.size + 1, 0, none⟩) (Nat.le_succ _) _).setCell (p := ⟨w.heap.size + 1, 1, none⟩) (Nat.le_succ _) _).setCell (p := ⟨w.heap.size + 1, 2, none⟩) (Nat.le_succ _) _).setCell (p := ⟨w.heap.size + 1, 3, none⟩) (Nat.le_succ _) _).setCell (p := ⟨w.heap.size + 1, 4, none⟩) (Nat.le_succ _) _).setCell (p := ⟨w.heap.size + 1, 5, none⟩) (Nat.le_succ _) _).setCell (p := ⟨w.heap.size + 1, 6, none⟩) (Nat.le_succ _) _).setCell (p := ⟨w.heap.size + 1, 7, none⟩) (Nat.le_succ _) _).setCell (p := ⟨w.heap.size + 1, 8, none⟩) (Nat.le_succ _) _
theorem SamePost.some {w : World} {e : Ending} {w' : World} (h : SamePost w e w') : SomePost w e w' := by
  obtain ⟨k, hk, rfl, b⟩ := h
  exact ⟨none, none, none, 0, 0, 0, 0, 0, 0, 0, k, hk, rfl, b⟩
end Go.Proofs.YtalonkenchcfbaaDoor
