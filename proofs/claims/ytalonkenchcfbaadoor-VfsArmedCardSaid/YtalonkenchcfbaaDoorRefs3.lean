/- The reference's Rename, Create and SyncDir at a disk on which there is nothing; an error's number. -/
import Derived.Test.YtalonkenchcfbaaDoorRefs2
namespace Go.Proofs.YtalonkenchcfbaaDoor
open Go.RowKit Go.Maps

theorem num_err (k : Nat) (h0 : 1 ≤ k) (h1 : k ≤ 12) (w : World) :
    Calls Tryd.prog 44 #[.iface 57 (.int .i64 k)] w fun e w' => e = .returned (.int .i64 k) ∧ w = w' := by
  have E := assert_errno (.int .i64 k)
  have hk0 : (k : Int) ≠ 0 := by omega
  go_enter Tryd.func44, Tryd.ntmps44
  go_wp2_with fail
  refine wp_loop_rounds 1 ?_
  rw [rounds_succ]
  go_wp2_with fail
  go_ret
  exact ⟨rfl, rfl⟩
theorem num_nil (w : World) :
    Calls Tryd.prog 44 #[.nilIface] w fun e w' => e = .returned (.int .i64 0) ∧ w = w' := by
  go_enter Tryd.func44, Tryd.ntmps44
  go_wp2_with fail
  refine wp_loop_rounds 1 ?_
  rw [rounds_succ]
  go_wp2_with fail
  go_ret
  exact ⟨rfl, rfl⟩
theorem num_any (k : Nat) (h1 : k ≤ 12) (w : World) :
    Calls Tryd.prog 44 #[errV k] w fun e w' => e = .returned (.int .i64 k) ∧ w = w' := by
  by_cases h0 : k = 0
  · subst h0; exact num_nil w
  · rw [errV_pos h0]; exact num_err k (by omega) h1 w
theorem Boxes.stays {w w1 w2 : World} (h : Boxes w w1) (hb : Below w1.heap.size w1 w2) : Boxes w w2 where
  x := (hb.block _ (Array.getElem?_eq_some_iff.1 h.x).1).trans h.x
  y := (hb.block _ (Array.getElem?_eq_some_iff.1 h.y).1).trans h.y
set_option maxRecDepth 20000 in
set_option maxHeartbeats 1600000 in
theorem refRename (s t : ByteArray) (hs : s.size ≤ 1000000) (ht : t.size ≤ 1000000) (w : World) : Calls Tryd.prog 38 #[zDisk, .string s, .string t] w (SamePost w) := by
  have A := Lib.hid (fun w => refAsked s hs w)
  have G1 := Lib.hid (fun w => refGood s hs w)
  have G2 := Lib.hid (fun w => refGood t ht w)
  obtain ⟨wx, hwx⟩ : ∃ wx, (w.alloc (.cells zCells 51)).alloc (.cells zCells 51) = wx := ⟨_, rfl⟩
  have hbx : Hid (Below w.heap.size w wx) := Lib.hid (by rw [← hwx]; exact below_alloc_two w _ _)
  have HBX : Hid (Boxes w wx) := Lib.hid (by rw [← hwx]; exact boxes (Below.refl _ _))
  go_enter Tryd.func38, Tryd.ntmps38
  go_wp2_with fail
  refine (G1.out _).mono ?_
  rintro e w1 ⟨⟨r, rfl⟩, rfl⟩
  cases r
  · have B := HBX.out
    have c0 := B.cx 0
    have c1 := B.cx 1
    have c2 := B.cx 2
    have c3 := B.cx 3
    have c4 := B.cx 4
    have c5 := B.cx 5
    have c6 := B.cx 6
    have c7 := B.cx 7
    have c8 := B.cx 8
    have d0 := B.cy 0
    have d1 := B.cy 1
    have d2 := B.cy 2
    have d3 := B.cy 3
    have d4 := B.cy 4
    have d5 := B.cy 5
    have d6 := B.cy 6
    have d7 := B.cy 7
    have d8 := B.cy 8
    have f0 := B.fy 0
    have f1 := B.fy 1
    have f2 := B.fy 2
    have f3 := B.fy 3
    have f4 := B.fy 4
    have f5 := B.fy 5
    have f6 := B.fy 6
    have f7 := B.fy 7
    have f8 := B.fy 8
    simp [zCells] at c0 c1 c2 c3 c4 c5 c6 c7 c8 d0 d1 d2 d3 d4 d5 d6 d7 d8
    clear B
    go_wp2_with fail
    refine bodyPost_ret (v := .tuple #[zDisk, .int .i64 1]) (by simp [results, Tryd.results38, go_sem, d0, d1, d2, d3, d4, d5, d6, d7, d8]) rfl ⟨1, (by decide), rfl, ?_⟩
    exact (((((((((hbx.out).setCell (p := ⟨w.heap.size + 1, 0, none⟩) (Nat.le_succ _) _).setCell (p := ⟨w.heap.size + 1, 1, none⟩) (Nat.le_succ _) _).setCell (p := ⟨w.heap.size + 1, 2, none⟩) (Nat.le_succ _) _).setCell (p := ⟨w.heap.size + 1, 3, none⟩) (Nat.le_succ _) _).setCell (p := ⟨w.heap.size + 1, 4, none⟩) (Nat.le_succ _) _).setCell (p := ⟨w.heap.size + 1, 5, none⟩) (Nat.le_succ _) _).setCell (p := ⟨w.heap.size + 1, 6, none⟩) (Nat.le_succ _) _).setCell (p := ⟨w.heap.size + 1, 7, none⟩) (Nat.le_succ _) _).setCell (p := ⟨w.heap.size + 1, 8, none⟩) (Nat.le_succ _) _
  · go_wp2_with fail
    refine (G2.out _).mono ?_
    rintro e w1 ⟨⟨r, rfl⟩, rfl⟩
    cases r
    · have B := HBX.out
      have c0 := B.cx 0
      have c1 := B.cx 1
      have c2 := B.cx 2
      have c3 := B.cx 3
      have c4 := B.cx 4
      have c5 := B.cx 5
      have c6 := B.cx 6
      have c7 := B.cx 7
      have c8 := B.cx 8
      have d0 := B.cy 0
      have d1 := B.cy 1
      have d2 := B.cy 2
      have d3 := B.cy 3
      have d4 := B.cy 4
      have d5 := B.cy 5
      have d6 := B.cy 6
      have d7 := B.cy 7
      have d8 := B.cy 8
      have f0 := B.fy 0
      have f1 := B.fy 1
      have f2 := B.fy 2
      have f3 := B.fy 3
      have f4 := B.fy 4
      have f5 := B.fy 5
      have f6 := B.fy 6
      have f7 := B.fy 7
      have f8 := B.fy 8
      simp [zCells] at c0 c1 c2 c3 c4 c5 c6 c7 c8 d0 d1 d2 d3 d4 d5 d6 d7 d8
      clear B
      go_wp2_with fail
      refine bodyPost_ret (v := .tuple #[zDisk, .int .i64 1]) (by simp [results, Tryd.results38, go_sem, d0, d1, d2, d3, d4, d5, d6, d7, d8]) rfl ⟨1, (by decide), rfl, ?_⟩
      exact (((((((((hbx.out).setCell (p := ⟨w.heap.size + 1, 0, none⟩) (Nat.le_succ _) _).setCell (p := ⟨w.heap.size + 1, 1, none⟩) (Nat.le_succ _) _).setCell (p := ⟨w.heap.size + 1, 2, none⟩) (Nat.le_succ _) _).setCell (p := ⟨w.heap.size + 1, 3, none⟩) (Nat.le_succ _) _).setCell (p := ⟨w.heap.size + 1, 4, none⟩) (Nat.le_succ _) _).setCell (p := ⟨w.heap.size + 1, 5, none⟩) (Nat.le_succ _) _).setCell (p := ⟨w.heap.size + 1, 6, none⟩) (Nat.le_succ _) _).setCell (p := ⟨w.heap.size + 1, 7, none⟩) (Nat.le_succ _) _).setCell (p := ⟨w.heap.size + 1, 8, none⟩) (Nat.le_succ _) _
    · have B := HBX.out
      have c0 := B.cx 0
      have c1 := B.cx 1
      have c2 := B.cx 2
      have c3 := B.cx 3
      have c4 := B.cx 4
      have c5 := B.cx 5
      have c6 := B.cx 6
      have c7 := B.cx 7
      have c8 := B.cx 8
      have d0 := B.cy 0
      have d1 := B.cy 1
      have d2 := B.cy 2
      have d3 := B.cy 3
      have d4 := B.cy 4
      have d5 := B.cy 5
      have d6 := B.cy 6
      have d7 := B.cy 7
      have d8 := B.cy 8
      have f0 := B.fy 0
      have f1 := B.fy 1
      have f2 := B.fy 2
      have f3 := B.fy 3
      have f4 := B.fy 4
      have f5 := B.fy 5
      have f6 := B.fy 6
      have f7 := B.fy 7
      have f8 := B.fy 8
      simp [zCells] at c0 c1 c2 c3 c4 c5 c6 c7 c8 d0 d1 d2 d3 d4 d5 d6 d7 d8
      clear B
      go_wp2_with fail
      refine (A.out _).mono ?_
      rintro e w1 ⟨k, hk, rfl, b1⟩
      clear c0 c1 c2 c3 c4 c5 c6 c7 c8 d0 d1 d2 d3 d4 d5 d6 d7 d8 f0 f1 f2 f3 f4 f5 f6 f7 f8
      have B := HBX.out.stays b1
      have hb2 := Lib.hid (hbx.out.trans (b1.mono hbx.out.size))
      have hk' := Lib.hid hk
      have hk0 : (k : Int) ≠ 0 := by omega
      clear hk b1
      have c0 := B.cx 0
      have c1 := B.cx 1
      have c2 := B.cx 2
      have c3 := B.cx 3
      have c4 := B.cx 4
      have c5 := B.cx 5
      have c6 := B.cx 6
      have c7 := B.cx 7
      have c8 := B.cx 8
      have d0 := B.cy 0
      have d1 := B.cy 1
      have d2 := B.cy 2
      have d3 := B.cy 3
      have d4 := B.cy 4
      have d5 := B.cy 5
      have d6 := B.cy 6
      have d7 := B.cy 7
      have d8 := B.cy 8
      have f0 := B.fy 0
      have f1 := B.fy 1
      have f2 := B.fy 2
      have f3 := B.fy 3
      have f4 := B.fy 4
      have f5 := B.fy 5
      have f6 := B.fy 6
      have f7 := B.fy 7
      have f8 := B.fy 8
      simp [zCells] at c0 c1 c2 c3 c4 c5 c6 c7 c8 d0 d1 d2 d3 d4 d5 d6 d7 d8
      clear B
      go_wp2_with fail
      refine bodyPost_ret (v := .tuple #[zDisk, .int .i64 k]) (by simp [results, Tryd.results38, go_sem, d0, d1, d2, d3, d4, d5, d6, d7, d8]) rfl ⟨k, by rcases hk'.out with h | h <;> omega, rfl, ?_⟩
      exact (((((((((hb2.out).setCell (p := ⟨w.heap.size + 1, 0, none⟩) (Nat.le_succ _) _).setCell (p := ⟨w.heap.size + 1, 1, none⟩) (Nat.le_succ _) _).setCell (p := ⟨w.heap.size + 1, 2, none⟩) (Nat.le_succ _) _).setCell (p := ⟨w.heap.size + 1, 3, none⟩) (Nat.le_succ _) _).setCell (p := ⟨w.heap.size + 1, 4, none⟩) (Nat.le_succ _) _).setCell (p := ⟨w.heap.size + 1, 5, none⟩) (Nat.le_succ _) _).setCell (p := ⟨w.heap.size + 1, 6, none⟩) (Nat.le_succ _) _).setCell (p := ⟨w.heap.size + 1, 7, none⟩) (Nat.le_succ _) _).setCell (p := ⟨w.heap.size + 1, 8, none⟩) (Nat.le_succ _) _
end Go.Proofs.YtalonkenchcfbaaDoor
