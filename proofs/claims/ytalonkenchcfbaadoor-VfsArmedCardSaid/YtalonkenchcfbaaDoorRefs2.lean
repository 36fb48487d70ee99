/- The reference's methods at a disk on which there is nothing: those that ask for a file. -/
import Derived.Test.YtalonkenchcfbaaDoorRefs
namespace Go.Proofs.YtalonkenchcfbaaDoor
open Go.RowKit Go.Maps

/-- The disk as it was, and an error. -/
def SamePost (w : World) (e : Ending) (w' : World) : Prop := ∃ k : Nat, k ≤ 12 ∧ e = .returned (.tuple #[zDisk, .int .i64 k]) ∧ Below w.heap.size w w'
abbrev zCells : Array Value := #[.int .i64 0, .slice none 0 0, .slice none 0 0, .slice none 0 0, .int .i64 0, .int .i64 0, .bool false, .bool false, .slice none 0 0]
theorem below_alloc_two (w : World) (o1 o2 : Obj) : Below w.heap.size w ((w.alloc o1).alloc o2) := ((Below.refl _ _).alloc (Nat.le_refl _) _).alloc (by simp) _
/-- The two boxes of such a method, where they lie. -/
structure Boxes (w w1 : World) : Prop where
  x : w1.heap[w.heap.size]? = some (.cells zCells 51 (0, 0))
  y : w1.heap[w.heap.size + 1]? = some (.cells zCells 51 (0, 0))
theorem boxes {w w1 : World} (hb : Below ((w.alloc (.cells zCells 51)).alloc (.cells zCells 51)).heap.size ((w.alloc (.cells zCells 51)).alloc (.cells zCells 51)) w1) : Boxes w w1 where
  x := (hb.block _ (by simp; omega)).trans (heap_one w _ _)
  y := (hb.block _ (by simp)).trans (heap_two w _ _)
theorem Boxes.cx {w w1 : World} (h : Boxes w w1) (j : Nat) : w1.cell? ⟨w.heap.size, j, none⟩ = zCells[j]? := by simp [World.cell?, h.x]
theorem Boxes.cy {w w1 : World} (h : Boxes w w1) (j : Nat) : w1.cell? ⟨w.heap.size + 1, j, none⟩ = zCells[j]? := by simp [World.cell?, h.y]
theorem Boxes.fy {w w1 : World} (h : Boxes w w1) (j : Nat) : w1.frozen? ⟨w.heap.size + 1, j, none⟩ = false := by simp [World.frozen?, h.y]
set_option maxRecDepth 20000 in
theorem refSync (s : ByteArray) (hs : s.size ≤ 1000000) (w : World) : Calls Tryd.prog 37 #[zDisk, .string s] w (SamePost w) := by
  have A := Lib.hid (fun w => refAsked s hs w)
  go_enter Tryd.func37, Tryd.ntmps37
  go_wp2_with fail
  refine (A.out _).mono ?_
  rintro e w1 ⟨k, hk, rfl, b1⟩
  have B := boxes b1
  have c0 := B.cx 0
  have c1 := B.cx 1
  have c2 := B.cx 2
  have c3 := B.cx 3
  have c4 := B.cx 4
  have c5 := B.cx 5
  have c6 := B.cx 6
  have c7 := B.cx 7
  have c8 := B.cx 8
  have d0 := B.cy 0
  have d1 := B.cy 1
  have d2 := B.cy 2
  have d3 := B.cy 3
  have d4 := B.cy 4
  have d5 := B.cy 5
  have d6 := B.cy 6
  have d7 := B.cy 7
  have d8 := B.cy 8
  have f0 := B.fy 0
  have f1 := B.fy 1
  have f2 := B.fy 2
  have f3 := B.fy 3
  have f4 := B.fy 4
  have f5 := B.fy 5
  have f6 := B.fy 6
  have f7 := B.fy 7
  have f8 := B.fy 8
  simp [zCells] at c0 c1 c2 c3 c4 c5 c6 c7 c8 d0 d1 d2 d3 d4 d5 d6 d7 d8
  have B1 := Lib.hid b1
  have hk' := Lib.hid hk
  have hk0 : (k : Int) ≠ 0 := by omega
  clear b1 B hk
  go_wp2_with fail
  refine bodyPost_ret (v := .tuple #[zDisk, .int .i64 k]) (by simp [results, Tryd.results37, go_sem, d0, d1, d2, d3, d4, d5, d6, d7, d8]) rfl ⟨k, by rcases hk'.out with h | h <;> omega, rfl, ?_⟩
  have B2 := ((below_alloc_two w _ _).trans (B1.out.mono (by simp; omega)))
  exact ((((((((B2.setCell (p := ⟨w.heap.size + 1, 0, none⟩) (Nat.le_succ _) _).setCell (p := ⟨w.heap.size + 1, 1, none⟩) (Nat.le_succ _) _).setCell (p := ⟨w.heap.size + 1, 2, none⟩) (Nat.le_succ _) _).setCell (p := ⟨w.heap.size + 1, 3, none⟩) (Nat.le_succ _) _).setCell (p := ⟨w.heap.size + 1, 4, none⟩) (Nat.le_succ _) _).setCell (p := ⟨w.heap.size + 1, 5, none⟩) (Nat.le_succ _) _).setCell (p := ⟨w.heap.size + 1, 6, none⟩) (Nat.le_succ _) _).setCell (p := ⟨w.heap.size + 1, 7, none⟩) (Nat.le_succ _) _).setCell (p := ⟨w.heap.size + 1, 8, none⟩) (Nat.le_succ _) _
set_option maxRecDepth 20000 in
theorem refRemove (s : ByteArray) (hs : s.size ≤ 1000000) (w : World) : Calls Tryd.prog 40 #[zDisk, .string s] w (SamePost w) := by
  have A := Lib.hid (fun w => refAsked s hs w)
  go_enter Tryd.func40, Tryd.ntmps40
  go_wp2_with fail
  refine (A.out _).mono ?_
  rintro e w1 ⟨k, hk, rfl, b1⟩
  have B := boxes b1
  have c0 := B.cx 0
  have c1 := B.cx 1
  have c2 := B.cx 2
  have c3 := B.cx 3
  have c4 := B.cx 4
  have c5 := B.cx 5
  have c6 := B.cx 6
  have c7 := B.cx 7
  have c8 := B.cx 8
  have d0 := B.cy 0
  have d1 := B.cy 1
  have d2 := B.cy 2
  have d3 := B.cy 3
  have d4 := B.cy 4
  have d5 := B.cy 5
  have d6 := B.cy 6
  have d7 := B.cy 7
  have d8 := B.cy 8
  have f0 := B.fy 0
  have f1 := B.fy 1
  have f2 := B.fy 2
  have f3 := B.fy 3
  have f4 := B.fy 4
  have f5 := B.fy 5
  have f6 := B.fy 6
  have f7 := B.fy 7
  have f8 := B.fy 8
  simp [zCells] at c0 c1 c2 c3 c4 c5 c6 c7 c8 d0 d1 d2 d3 d4 d5 d6 d7 d8
  have B1 := Lib.hid b1
  have hk' := Lib.hid hk
  have hk0 : (k : Int) ≠ 0 := by omega
  clear b1 B hk
  go_wp2_with fail
  refine bodyPost_ret (v := .tuple #[zDisk, .int .i64 k]) (by simp [results, Tryd.results40, go_sem, d0, d1, d2, d3, d4, d5, d6, d7, d8]) rfl ⟨k, by rcases hk'.out with h | h <;> omega, rfl, ?_⟩
  have B2 := ((below_alloc_two w _ _).trans (B1.out.mono (by simp; omega)))
  exact ((((((((B2.setCell (p := ⟨w.heap.size + 1, 0, none⟩) (Nat.le_succ _) _).setCell (p := ⟨w.heap.size + 1, 1, none⟩) (Nat.le_succ _) _).setCell (p := ⟨w.heap.size + 1, 2, none⟩) (Nat.le_succ _) _).setCell (p := ⟨w.heap.size + 1, 3, none⟩) (Nat.le_succ _) _).setCell (p := ⟨w.heap.size + 1, 4, none⟩) (Nat.le_succ _) _).setCell (p := ⟨w.heap.size + 1, 5, none⟩) (Nat.le_succ _) _).setCell (p := ⟨w.heap.size + 1, 6, none⟩) (Nat.le_succ _) _).setCell (p := ⟨w.heap.size + 1, 7, none⟩) (Nat.le_succ _) _).setCell (p := ⟨w.heap.size + 1, 8, none⟩) (Nat.le_succ _) _
set_option maxRecDepth 20000 in
theorem refCut (s : ByteArray) (n : Int) (hs : s.size ≤ 1000000) (w : World) : Calls Tryd.prog 36 #[zDisk, .string s, .int .i64 n] w (SamePost w) := by
  have A := Lib.hid (fun w => refAsked s hs w)
  go_enter Tryd.func36, Tryd.ntmps36
  go_wp2_with fail
  refine (A.out _).mono ?_
  rintro e w1 ⟨k, hk, rfl, b1⟩
  have B := boxes b1
  have c0 := B.cx 0
  have c1 := B.cx 1
  have c2 := B.cx 2
  have c3 := B.cx 3
  have c4 := B.cx 4
  have c5 := B.cx 5
  have c6 := B.cx 6
  have c7 := B.cx 7
  have c8 := B.cx 8
  have d0 := B.cy 0
  have d1 := B.cy 1
  have d2 := B.cy 2
  have d3 := B.cy 3
  have d4 := B.cy 4
  have d5 := B.cy 5
  have d6 := B.cy 6
  have d7 := B.cy 7
  have d8 := B.cy 8
  have f0 := B.fy 0
  have f1 := B.fy 1
  have f2 := B.fy 2
  have f3 := B.fy 3
  have f4 := B.fy 4
  have f5 := B.fy 5
  have f6 := B.fy 6
  have f7 := B.fy 7
  have f8 := B.fy 8
  simp [zCells] at c0 c1 c2 c3 c4 c5 c6 c7 c8 d0 d1 d2 d3 d4 d5 d6 d7 d8
  have B1 := Lib.hid b1
  have hk' := Lib.hid hk
  have hk0 : (k : Int) ≠ 0 := by omega
  clear b1 B hk
  go_wp2_with fail
  refine bodyPost_ret (v := .tuple #[zDisk, .int .i64 k]) (by simp [results, Tryd.results36, go_sem, d0, d1, d2, d3, d4, d5, d6, d7, d8]) rfl ⟨k, by rcases hk'.out with h | h <;> omega, rfl, ?_⟩
  have B2 := ((below_alloc_two w _ _).trans (B1.out.mono (by simp; omega)))
  exact ((((((((B2.setCell (p := ⟨w.heap.size + 1, 0, none⟩) (Nat.le_succ _) _).setCell (p := ⟨w.heap.size + 1, 1, none⟩) (Nat.le_succ _) _).setCell (p := ⟨w.heap.size + 1, 2, none⟩) (Nat.le_succ _) _).setCell (p := ⟨w.heap.size + 1, 3, none⟩) (Nat.le_succ _) _).setCell (p := ⟨w.heap.size + 1, 4, none⟩) (Nat.le_succ _) _).setCell (p := ⟨w.heap.size + 1, 5, none⟩) (Nat.le_succ _) _).setCell (p := ⟨w.heap.size + 1, 6, none⟩) (Nat.le_succ _) _).setCell (p := ⟨w.heap.size + 1, 7, none⟩) (Nat.le_succ _) _).setCell (p := ⟨w.heap.size + 1, 8, none⟩) (Nat.le_succ _) _
set_option maxRecDepth 20000 in
theorem refWrite (s : ByteArray) (t : ByteArray) (hs : s.size ≤ 1000000) (w : World) : Calls Tryd.prog 34 #[zDisk, .string s, .string t] w (SamePost w) := by
  have A := Lib.hid (fun w => refAsked s hs w)
  go_enter Tryd.func34, Tryd.ntmps34
  go_wp2_with fail
  refine (A.out _).mono ?_
  rintro e w1 ⟨k, hk, rfl, b1⟩
  have B := boxes b1
  have c0 := B.cx 0
  have c1 := B.cx 1
  have c2 := B.cx 2
  have c3 := B.cx 3
  have c4 := B.cx 4
  have c5 := B.cx 5
  have c6 := B.cx 6
  have c7 := B.cx 7
  have c8 := B.cx 8
  have d0 := B.cy 0
  have d1 := B.cy 1
  have d2 := B.cy 2
  have d3 := B.cy 3
  have d4 := B.cy 4
  have d5 := B.cy 5
  have d6 := B.cy 6
  have d7 := B.cy 7
  have d8 := B.cy 8
  have f0 := B.fy 0
  have f1 := B.fy 1
  have f2 := B.fy 2
  have f3 := B.fy 3
  have f4 := B.fy 4
  have f5 := B.fy 5
  have f6 := B.fy 6
  have f7 := B.fy 7
  have f8 := B.fy 8
  simp [zCells] at c0 c1 c2 c3 c4 c5 c6 c7 c8 d0 d1 d2 d3 d4 d5 d6 d7 d8
  have B1 := Lib.hid b1
  have hk' := Lib.hid hk
  have hk0 : (k : Int) ≠ 0 := by omega
  clear b1 B hk
  go_wp2_with fail
  refine bodyPost_ret (v := .tuple #[zDisk, .int .i64 k]) (by simp [results, Tryd.results34, go_sem, d0, d1, d2, d3, d4, d5, d6, d7, d8]) rfl ⟨k, by rcases hk'.out with h | h <;> omega, rfl, ?_⟩
  have B2 := ((below_alloc_two w _ _).trans (B1.out.mono (by simp; omega)))
  exact ((((((((B2.setCell (p := ⟨w.heap.size + 1, 0, none⟩) (Nat.le_succ _) _).setCell (p := ⟨w.heap.size + 1, 1, none⟩) (Nat.le_succ _) _).setCell (p := ⟨w.heap.size + 1, 2, none⟩) (Nat.le_succ _) _).setCell (p := ⟨w.heap.size + 1, 3, none⟩) (Nat.le_succ _) _).setCell (p := ⟨w.heap.size + 1, 4, none⟩) (Nat.le_succ _) _).setCell (p := ⟨w.heap.size + 1, 5, none⟩) (Nat.le_succ _) _).setCell (p := ⟨w.heap.size + 1, 6, none⟩) (Nat.le_succ _) _).setCell (p := ⟨w.heap.size + 1, 7, none⟩) (Nat.le_succ _) _).setCell (p := ⟨w.heap.size + 1, 8, none⟩) (Nat.le_succ _) _
set_option maxRecDepth 20000 in
theorem refRead (s : ByteArray) (hs : s.size ≤ 1000000) (w : World) : Calls Tryd.prog 43 #[zDisk, .string s] w fun e w' => ∃ k : Nat, k ≤ 12 ∧ e = .returned (.tuple #[.string ⟨#[]⟩, .int .i64 k]) ∧ Below w.heap.size w w' := by
  have A := Lib.hid (fun w => refAsked s hs w)
  have hb : Hid (Below w.heap.size w (w.alloc (.cells zCells 51))) := Lib.hid ((Below.refl _ _).alloc (Nat.le_refl _) _)
  go_enter Tryd.func43, Tryd.ntmps43
  go_wp2_with fail
  refine (A.out _).mono ?_
  rintro e w1 ⟨k, hk, rfl, b1⟩
  have hk' := Lib.hid hk
  have hk0 : (k : Int) ≠ 0 := by omega
  clear hk
  go_wp2_with fail
  go_ret2
  exact ⟨k, by rcases hk'.out with h | h <;> omega, rfl, hb.out.trans (b1.mono hb.out.size)⟩
end Go.Proofs.YtalonkenchcfbaaDoor
