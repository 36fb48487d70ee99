/- The reference's Create at a disk on which there is nothing. -/
import Derived.Test.YtalonkenchcfbaaDoorRefs7
namespace Go.Proofs.YtalonkenchcfbaaDoor
open Go.RowKit Go.Maps

set_option maxRecDepth 20000 in
set_option maxHeartbeats 3200000 in
theorem refCreate (s : ByteArray) (hs : s.size ≤ 1000000) (w : World) : Calls Tryd.prog 33 #[zDisk, .string s] w (SomePost w) := by
  have A := Lib.hid (fun w => refAsked s hs w)
  have U := Lib.hid refUnit
  have M := Lib.hid (refMoved s)
  have hcap : ¬ 281474976710656 < Builtin.nextslicecap 1 0 * Tryd.t112.bytes := by decide +kernel
  go_enter Tryd.func33, Tryd.ntmps33
  go_wp2_with fail
  refine (A.out _).mono ?_
  rintro e w1 ⟨k, hk, rfl, b1⟩
  have B1 := boxes b1
  have hx := Lib.hid B1.x
  have hy := Lib.hid B1.y
  have hw1 := Lib.hid ((below_alloc_two w _ _).trans (b1.mono (by simp; omega)))
  have xc0 : w1.cell? ⟨w.heap.size, 0, none⟩ = some (.int .i64 0) := by simp [World.cell?, B1.x]
  have xf0 : w1.frozen? ⟨w.heap.size, 0, none⟩ = false := by simp [World.frozen?, B1.x]
  have xc1 : w1.cell? ⟨w.heap.size, 1, none⟩ = some (.slice none 0 0) := by simp [World.cell?, B1.x]
  have xf1 : w1.frozen? ⟨w.heap.size, 1, none⟩ = false := by simp [World.frozen?, B1.x]
  have xc2 : w1.cell? ⟨w.heap.size, 2, none⟩ = some (.slice none 0 0) := by simp [World.cell?, B1.x]
  have xf2 : w1.frozen? ⟨w.heap.size, 2, none⟩ = false := by simp [World.frozen?, B1.x]
  have xc3 : w1.cell? ⟨w.heap.size, 3, none⟩ = some (.slice none 0 0) := by simp [World.cell?, B1.x]
  have xf3 : w1.frozen? ⟨w.heap.size, 3, none⟩ = false := by simp [World.frozen?, B1.x]
  have xc4 : w1.cell? ⟨w.heap.size, 4, none⟩ = some (.int .i64 0) := by simp [World.cell?, B1.x]
  have xf4 : w1.frozen? ⟨w.heap.size, 4, none⟩ = false := by simp [World.frozen?, B1.x]
  have xc5 : w1.cell? ⟨w.heap.size, 5, none⟩ = some (.int .i64 0) := by simp [World.cell?, B1.x]
  have xf5 : w1.frozen? ⟨w.heap.size, 5, none⟩ = false := by simp [World.frozen?, B1.x]
  have xc6 : w1.cell? ⟨w.heap.size, 6, none⟩ = some (.bool false) := by simp [World.cell?, B1.x]
  have xf6 : w1.frozen? ⟨w.heap.size, 6, none⟩ = false := by simp [World.frozen?, B1.x]
  have xc7 : w1.cell? ⟨w.heap.size, 7, none⟩ = some (.bool false) := by simp [World.cell?, B1.x]
  have xf7 : w1.frozen? ⟨w.heap.size, 7, none⟩ = false := by simp [World.frozen?, B1.x]
  have xc8 : w1.cell? ⟨w.heap.size, 8, none⟩ = some (.slice none 0 0) := by simp [World.cell?, B1.x]
  have xf8 : w1.frozen? ⟨w.heap.size, 8, none⟩ = false := by simp [World.frozen?, B1.x]
  rcases hk with rfl | rfl
  · have hy' := hy.out
    have yc0 : w1.cell? ⟨w.heap.size + 1, 0, none⟩ = some (.int .i64 0) := by simp [World.cell?, hy']
    have yf0 : w1.frozen? ⟨w.heap.size + 1, 0, none⟩ = false := by simp [World.frozen?, hy']
    have yc1 : w1.cell? ⟨w.heap.size + 1, 1, none⟩ = some (.slice none 0 0) := by simp [World.cell?, hy']
    have yf1 : w1.frozen? ⟨w.heap.size + 1, 1, none⟩ = false := by simp [World.frozen?, hy']
    have yc2 : w1.cell? ⟨w.heap.size + 1, 2, none⟩ = some (.slice none 0 0) := by simp [World.cell?, hy']
    have yf2 : w1.frozen? ⟨w.heap.size + 1, 2, none⟩ = false := by simp [World.frozen?, hy']
    have yc3 : w1.cell? ⟨w.heap.size + 1, 3, none⟩ = some (.slice none 0 0) := by simp [World.cell?, hy']
    have yf3 : w1.frozen? ⟨w.heap.size + 1, 3, none⟩ = false := by simp [World.frozen?, hy']
    have yc4 : w1.cell? ⟨w.heap.size + 1, 4, none⟩ = some (.int .i64 0) := by simp [World.cell?, hy']
    have yf4 : w1.frozen? ⟨w.heap.size + 1, 4, none⟩ = false := by simp [World.frozen?, hy']
    have yc5 : w1.cell? ⟨w.heap.size + 1, 5, none⟩ = some (.int .i64 0) := by simp [World.cell?, hy']
    have yf5 : w1.frozen? ⟨w.heap.size + 1, 5, none⟩ = false := by simp [World.frozen?, hy']
    have yc6 : w1.cell? ⟨w.heap.size + 1, 6, none⟩ = some (.bool false) := by simp [World.cell?, hy']
    have yf6 : w1.frozen? ⟨w.heap.size + 1, 6, none⟩ = false := by simp [World.frozen?, hy']
    have yc7 : w1.cell? ⟨w.heap.size + 1, 7, none⟩ = some (.bool false) := by simp [World.cell?, hy']
    have yf7 : w1.frozen? ⟨w.heap.size + 1, 7, none⟩ = false := by simp [World.frozen?, hy']
    have yc8 : w1.cell? ⟨w.heap.size + 1, 8, none⟩ = some (.slice none 0 0) := by simp [World.cell?, hy']
    have yf8 : w1.frozen? ⟨w.heap.size + 1, 8, none⟩ = false := by simp [World.frozen?, hy']
    clear b1 B1 hy'
    go_wp2_with fail
    refine bodyPost_ret (v := .tuple #[zDisk, .int .i64 1]) (by simp [results, Tryd.results33, go_sem, yc0, yc1, yc2, yc3, yc4, yc5, yc6, yc7, yc8]) rfl ⟨none, none, none, 0, 0, 0, 0, 0, 0, 0, 1, by decide, rfl, ?_⟩
    exact (((((((((hw1.out).setCell (p := ⟨w.heap.size + 1, 0, none⟩) (Nat.le_succ _) _).setCell (p := ⟨w.heap.size + 1, 1, none⟩) (Nat.le_succ _) _).setCell (p := ⟨w.heap.size + 1, 2, none⟩) (Nat.le_succ _) _).setCell (p := ⟨w.heap.size + 1, 3, none⟩) (Nat.le_succ _) _).setCell (p := ⟨w.heap.size + 1, 4, none⟩) (Nat.le_succ _) _).setCell (p := ⟨w.heap.size + 1, 5, none⟩) (Nat.le_succ _) _).setCell (p := ⟨w.heap.size + 1, 6, none⟩) (Nat.le_succ _) _).setCell (p := ⟨w.heap.size + 1, 7, none⟩) (Nat.le_succ _) _).setCell (p := ⟨w.heap.size + 1, 8, none⟩) (Nat.le_succ _) _
  · clear b1 B1
    go_wp2_with fail
    refine (U.out _).mono ?_
    rintro e w2 ⟨rfl, b2⟩
    have hx2 := (b2.block _ (Array.getElem?_eq_some_iff.1 hx.out).1).trans hx.out
    have hy2 := Lib.hid ((b2.block _ (Array.getElem?_eq_some_iff.1 hy.out).1).trans hy.out)
    have hw2 := Lib.hid (hw1.out.trans (b2.mono hw1.out.size))
    clear xc0 xf0 xc1 xf1 xc2 xf2 xc3 xf3 xc4 xf4 xc5 xf5 xc6 xf6 xc7 xf7 xc8 xf8
    have xc0 : w2.cell? ⟨w.heap.size, 0, none⟩ = some (.int .i64 0) := by simp [World.cell?, hx2]
    have xf0 : w2.frozen? ⟨w.heap.size, 0, none⟩ = false := by simp [World.frozen?, hx2]
    have xc1 : w2.cell? ⟨w.heap.size, 1, none⟩ = some (.slice none 0 0) := by simp [World.cell?, hx2]
    have xf1 : w2.frozen? ⟨w.heap.size, 1, none⟩ = false := by simp [World.frozen?, hx2]
    have xc2 : w2.cell? ⟨w.heap.size, 2, none⟩ = some (.slice none 0 0) := by simp [World.cell?, hx2]
    have xf2 : w2.frozen? ⟨w.heap.size, 2, none⟩ = false := by simp [World.frozen?, hx2]
    have xc3 : w2.cell? ⟨w.heap.size, 3, none⟩ = some (.slice none 0 0) := by simp [World.cell?, hx2]
    have xf3 : w2.frozen? ⟨w.heap.size, 3, none⟩ = false := by simp [World.frozen?, hx2]
    have xc4 : w2.cell? ⟨w.heap.size, 4, none⟩ = some (.int .i64 0) := by simp [World.cell?, hx2]
    have xf4 : w2.frozen? ⟨w.heap.size, 4, none⟩ = false := by simp [World.frozen?, hx2]
    have xc5 : w2.cell? ⟨w.heap.size, 5, none⟩ = some (.int .i64 0) := by simp [World.cell?, hx2]
    have xf5 : w2.frozen? ⟨w.heap.size, 5, none⟩ = false := by simp [World.frozen?, hx2]
    have xc6 : w2.cell? ⟨w.heap.size, 6, none⟩ = some (.bool false) := by simp [World.cell?, hx2]
    have xf6 : w2.frozen? ⟨w.heap.size, 6, none⟩ = false := by simp [World.frozen?, hx2]
    have xc7 : w2.cell? ⟨w.heap.size, 7, none⟩ = some (.bool false) := by simp [World.cell?, hx2]
    have xf7 : w2.frozen? ⟨w.heap.size, 7, none⟩ = false := by simp [World.frozen?, hx2]
    have xc8 : w2.cell? ⟨w.heap.size, 8, none⟩ = some (.slice none 0 0) := by simp [World.cell?, hx2]
    have xf8 : w2.frozen? ⟨w.heap.size, 8, none⟩ = false := by simp [World.frozen?, hx2]
    have hx2' := Lib.hid hx2
    clear b2 hx hy hw1 hx2
    go_wp2_with fail
    refine (M.out _).mono ?_
    rintro e w3 ⟨mg, mn, mc, rfl, b3⟩
    have sx := set_all hx2'.out (.int .i64 0) (.slice none 0 0) (.slice none 0 0) (.slice none 0 0) (.int .i64 1) (.int .i64 0) (.bool false) (.bool false) (.slice none 0 0)
    have sy := (keep_all (w := w2) (x := w.heap.size) (y := w.heap.size + 1) (by omega) (.int .i64 0) (.slice none 0 0) (.slice none 0 0) (.slice none 0 0) (.int .i64 1) (.int .i64 0) (.bool false) (.bool false) (.slice none 0 0)).trans hy2.out
    have hx3 := (b3.block _ (Array.getElem?_eq_some_iff.1 sx).1).trans sx
    have hy3 := Lib.hid ((b3.block _ (Array.getElem?_eq_some_iff.1 sy).1).trans sy)
    have hw3 : Hid (Below w.heap.size w w3) := Lib.hid (((((((((((hw2.out).setCell (p := ⟨w.heap.size, 0, none⟩) (Nat.le_refl _) _).setCell (p := ⟨w.heap.size, 1, none⟩) (Nat.le_refl _) _).setCell (p := ⟨w.heap.size, 2, none⟩) (Nat.le_refl _) _).setCell (p := ⟨w.heap.size, 3, none⟩) (Nat.le_refl _) _).setCell (p := ⟨w.heap.size, 4, none⟩) (Nat.le_refl _) _).setCell (p := ⟨w.heap.size, 5, none⟩) (Nat.le_refl _) _).setCell (p := ⟨w.heap.size, 6, none⟩) (Nat.le_refl _) _).setCell (p := ⟨w.heap.size, 7, none⟩) (Nat.le_refl _) _).setCell (p := ⟨w.heap.size, 8, none⟩) (Nat.le_refl _) _).trans (b3.mono (by simp [World.setCell]; exact hw2.out.size)))
    clear xc0 xf0 xc1 xf1 xc2 xf2 xc3 xf3 xc4 xf4 xc5 xf5 xc6 xf6 xc7 xf7 xc8 xf8
    have xc0 : w3.cell? ⟨w.heap.size, 0, none⟩ = some (.int .i64 0) := by simp [World.cell?, hx3]
    have xf0 : w3.frozen? ⟨w.heap.size, 0, none⟩ = false := by simp [World.frozen?, hx3]
    have xc1 : w3.cell? ⟨w.heap.size, 1, none⟩ = some (.slice none 0 0) := by simp [World.cell?, hx3]
    have xf1 : w3.frozen? ⟨w.heap.size, 1, none⟩ = false := by simp [World.frozen?, hx3]
    have xc2 : w3.cell? ⟨w.heap.size, 2, none⟩ = some (.slice none 0 0) := by simp [World.cell?, hx3]
    have xf2 : w3.frozen? ⟨w.heap.size, 2, none⟩ = false := by simp [World.frozen?, hx3]
    have xc3 : w3.cell? ⟨w.heap.size, 3, none⟩ = some (.slice none 0 0) := by simp [World.cell?, hx3]
    have xf3 : w3.frozen? ⟨w.heap.size, 3, none⟩ = false := by simp [World.frozen?, hx3]
    have xc4 : w3.cell? ⟨w.heap.size, 4, none⟩ = some (.int .i64 1) := by simp [World.cell?, hx3]
    have xf4 : w3.frozen? ⟨w.heap.size, 4, none⟩ = false := by simp [World.frozen?, hx3]
    have xc5 : w3.cell? ⟨w.heap.size, 5, none⟩ = some (.int .i64 0) := by simp [World.cell?, hx3]
    have xf5 : w3.frozen? ⟨w.heap.size, 5, none⟩ = false := by simp [World.frozen?, hx3]
    have xc6 : w3.cell? ⟨w.heap.size, 6, none⟩ = some (.bool false) := by simp [World.cell?, hx3]
    have xf6 : w3.frozen? ⟨w.heap.size, 6, none⟩ = false := by simp [World.frozen?, hx3]
    have xc7 : w3.cell? ⟨w.heap.size, 7, none⟩ = some (.bool false) := by simp [World.cell?, hx3]
    have xf7 : w3.frozen? ⟨w.heap.size, 7, none⟩ = false := by simp [World.frozen?, hx3]
    have xc8 : w3.cell? ⟨w.heap.size, 8, none⟩ = some (.slice none 0 0) := by simp [World.cell?, hx3]
    have xf8 : w3.frozen? ⟨w.heap.size, 8, none⟩ = false := by simp [World.frozen?, hx3]
    have hx3' := Lib.hid hx3
    clear b3 hx2' hy2 hw2 hx3 sx sy
    go_upto_region 10 with fail
    have sx4 := set_all hx3'.out (.int .i64 0) (.slice none 0 0) (.slice none 0 0) (.slice (some mg) mn mc) (.int .i64 1) (.int .i64 0) (.bool false) (.bool false) (.slice none 0 0)
    have sy4 := (keep_all (w := w3) (x := w.heap.size) (y := w.heap.size + 1) (by omega) (.int .i64 0) (.slice none 0 0) (.slice none 0 0) (.slice (some mg) mn mc) (.int .i64 1) (.int .i64 0) (.bool false) (.bool false) (.slice none 0 0)).trans hy3.out
    have hw4 := (((((((((hw3.out).setCell (p := ⟨w.heap.size, 0, none⟩) (Nat.le_refl _) (.int .i64 0)).setCell (p := ⟨w.heap.size, 1, none⟩) (Nat.le_refl _) (.slice none 0 0)).setCell (p := ⟨w.heap.size, 2, none⟩) (Nat.le_refl _) (.slice none 0 0)).setCell (p := ⟨w.heap.size, 3, none⟩) (Nat.le_refl _) (.slice (some mg) mn mc)).setCell (p := ⟨w.heap.size, 4, none⟩) (Nat.le_refl _) (.int .i64 1)).setCell (p := ⟨w.heap.size, 5, none⟩) (Nat.le_refl _) (.int .i64 0)).setCell (p := ⟨w.heap.size, 6, none⟩) (Nat.le_refl _) (.bool false)).setCell (p := ⟨w.heap.size, 7, none⟩) (Nat.le_refl _) (.bool false)).setCell (p := ⟨w.heap.size, 8, none⟩) (Nat.le_refl _) (.slice none 0 0)
    generalize (((((((((w3).setCell ⟨w.heap.size, 0, none⟩ (.int .i64 0)).setCell ⟨w.heap.size, 1, none⟩ (.slice none 0 0)).setCell ⟨w.heap.size, 2, none⟩ (.slice none 0 0)).setCell ⟨w.heap.size, 3, none⟩ (.slice (some mg) mn mc)).setCell ⟨w.heap.size, 4, none⟩ (.int .i64 1)).setCell ⟨w.heap.size, 5, none⟩ (.int .i64 0)).setCell ⟨w.heap.size, 6, none⟩ (.bool false)).setCell ⟨w.heap.size, 7, none⟩ (.bool false)).setCell ⟨w.heap.size, 8, none⟩ (.slice none 0 0) = w4 at *
    clear xc0 xf0 xc1 xf1 xc2 xf2 xc3 xf3 xc4 xf4 xc5 xf5 xc6 xf6 xc7 xf7 xc8 xf8
    have xc0 : w4.cell? ⟨w.heap.size, 0, none⟩ = some (.int .i64 0) := by simp [World.cell?, sx4]
    have xf0 : w4.frozen? ⟨w.heap.size, 0, none⟩ = false := by simp [World.frozen?, sx4]
    have xc1 : w4.cell? ⟨w.heap.size, 1, none⟩ = some (.slice none 0 0) := by simp [World.cell?, sx4]
    have xf1 : w4.frozen? ⟨w.heap.size, 1, none⟩ = false := by simp [World.frozen?, sx4]
    have xc2 : w4.cell? ⟨w.heap.size, 2, none⟩ = some (.slice none 0 0) := by simp [World.cell?, sx4]
    have xf2 : w4.frozen? ⟨w.heap.size, 2, none⟩ = false := by simp [World.frozen?, sx4]
    have xc3 : w4.cell? ⟨w.heap.size, 3, none⟩ = some (.slice (some mg) mn mc) := by simp [World.cell?, sx4]
    have xf3 : w4.frozen? ⟨w.heap.size, 3, none⟩ = false := by simp [World.frozen?, sx4]
    have xc4 : w4.cell? ⟨w.heap.size, 4, none⟩ = some (.int .i64 1) := by simp [World.cell?, sx4]
    have xf4 : w4.frozen? ⟨w.heap.size, 4, none⟩ = false := by simp [World.frozen?, sx4]
    have xc5 : w4.cell? ⟨w.heap.size, 5, none⟩ = some (.int .i64 0) := by simp [World.cell?, sx4]
    have xf5 : w4.frozen? ⟨w.heap.size, 5, none⟩ = false := by simp [World.frozen?, sx4]
    have xc6 : w4.cell? ⟨w.heap.size, 6, none⟩ = some (.bool false) := by simp [World.cell?, sx4]
    have xf6 : w4.frozen? ⟨w.heap.size, 6, none⟩ = false := by simp [World.frozen?, sx4]
    have xc7 : w4.cell? ⟨w.heap.size, 7, none⟩ = some (.bool false) := by simp [World.cell?, sx4]
    have xf7 : w4.frozen? ⟨w.heap.size, 7, none⟩ = false := by simp [World.frozen?, sx4]
    have xc8 : w4.cell? ⟨w.heap.size, 8, none⟩ = some (.slice none 0 0) := by simp [World.cell?, sx4]
    have xf8 : w4.frozen? ⟨w.heap.size, 8, none⟩ = false := by simp [World.frozen?, sx4]
    have hl4 := (Array.getElem?_eq_some_iff.1 sx4).1
    have hl5 := (Array.getElem?_eq_some_iff.1 sy4).1
    have hx4 := Lib.hid sx4
    have hy4 := Lib.hid sy4
    have hW4 := Lib.hid hw4
    clear sx4 sy4 hw4 hx3' hy3 hw3
    have hfz : ∀ o1 o2 o3 : Obj, (((w4.alloc o1).alloc o2).alloc o3).drew.frozen? ⟨w.heap.size, 1, none⟩ = false := fun o1 o2 o3 => ((((((Below.refl w4.heap.size w4).alloc (Nat.le_refl _) o1).alloc (by simp) o2).alloc (by simp <;> omega) o3).drew).frozen (p := ⟨w.heap.size, 1, none⟩) hl4).trans xf1
    have xg0 : ∀ o1 o2 o3 : Obj, (((w4.alloc o1).alloc o2).alloc o3).cell? ⟨w.heap.size, 0, none⟩ = some (.int .i64 0) := fun o1 o2 o3 => (((((Below.refl w4.heap.size w4).alloc (Nat.le_refl _) o1).alloc (by simp) o2).alloc (by simp <;> omega) o3).cell (p := ⟨w.heap.size, 0, none⟩) hl4).trans xc0
    have xg1 : ∀ o1 o2 o3 : Obj, (((w4.alloc o1).alloc o2).alloc o3).cell? ⟨w.heap.size, 1, none⟩ = some (.slice none 0 0) := fun o1 o2 o3 => (((((Below.refl w4.heap.size w4).alloc (Nat.le_refl _) o1).alloc (by simp) o2).alloc (by simp <;> omega) o3).cell (p := ⟨w.heap.size, 1, none⟩) hl4).trans xc1
    have xg2 : ∀ o1 o2 o3 : Obj, (((w4.alloc o1).alloc o2).alloc o3).cell? ⟨w.heap.size, 2, none⟩ = some (.slice none 0 0) := fun o1 o2 o3 => (((((Below.refl w4.heap.size w4).alloc (Nat.le_refl _) o1).alloc (by simp) o2).alloc (by simp <;> omega) o3).cell (p := ⟨w.heap.size, 2, none⟩) hl4).trans xc2
    have xg3 : ∀ o1 o2 o3 : Obj, (((w4.alloc o1).alloc o2).alloc o3).cell? ⟨w.heap.size, 3, none⟩ = some (.slice (some mg) mn mc) := fun o1 o2 o3 => (((((Below.refl w4.heap.size w4).alloc (Nat.le_refl _) o1).alloc (by simp) o2).alloc (by simp <;> omega) o3).cell (p := ⟨w.heap.size, 3, none⟩) hl4).trans xc3
    have xg4 : ∀ o1 o2 o3 : Obj, (((w4.alloc o1).alloc o2).alloc o3).cell? ⟨w.heap.size, 4, none⟩ = some (.int .i64 1) := fun o1 o2 o3 => (((((Below.refl w4.heap.size w4).alloc (Nat.le_refl _) o1).alloc (by simp) o2).alloc (by simp <;> omega) o3).cell (p := ⟨w.heap.size, 4, none⟩) hl4).trans xc4
    have xg5 : ∀ o1 o2 o3 : Obj, (((w4.alloc o1).alloc o2).alloc o3).cell? ⟨w.heap.size, 5, none⟩ = some (.int .i64 0) := fun o1 o2 o3 => (((((Below.refl w4.heap.size w4).alloc (Nat.le_refl _) o1).alloc (by simp) o2).alloc (by simp <;> omega) o3).cell (p := ⟨w.heap.size, 5, none⟩) hl4).trans xc5
    have xg6 : ∀ o1 o2 o3 : Obj, (((w4.alloc o1).alloc o2).alloc o3).cell? ⟨w.heap.size, 6, none⟩ = some (.bool false) := fun o1 o2 o3 => (((((Below.refl w4.heap.size w4).alloc (Nat.le_refl _) o1).alloc (by simp) o2).alloc (by simp <;> omega) o3).cell (p := ⟨w.heap.size, 6, none⟩) hl4).trans xc6
    have xg7 : ∀ o1 o2 o3 : Obj, (((w4.alloc o1).alloc o2).alloc o3).cell? ⟨w.heap.size, 7, none⟩ = some (.bool false) := fun o1 o2 o3 => (((((Below.refl w4.heap.size w4).alloc (Nat.le_refl _) o1).alloc (by simp) o2).alloc (by simp <;> omega) o3).cell (p := ⟨w.heap.size, 7, none⟩) hl4).trans xc7
    have xg8 : ∀ o1 o2 o3 : Obj, (((w4.alloc o1).alloc o2).alloc o3).cell? ⟨w.heap.size, 8, none⟩ = some (.slice none 0 0) := fun o1 o2 o3 => (((((Below.refl w4.heap.size w4).alloc (Nat.le_refl _) o1).alloc (by simp) o2).alloc (by simp <;> omega) o3).cell (p := ⟨w.heap.size, 8, none⟩) hl4).trans xc8
    have hall : ∀ (o1 o2 o3 : Obj) (v : Value), (((((w4.alloc o1).alloc o2).alloc o3).setCell ⟨w.heap.size, 1, none⟩ v).drew).heap[w.heap.size]? = some (.cells #[.int .i64 0, v, .slice none 0 0, .slice (some mg) mn mc, .int .i64 1, .int .i64 0, .bool false, .bool false, .slice none 0 0] 51 (0, 0)) ∧ (((((w4.alloc o1).alloc o2).alloc o3).setCell ⟨w.heap.size, 1, none⟩ v).drew).heap[w.heap.size + 1]? = some (.cells zCells 51 (0, 0)) ∧ Below w.heap.size w (((((w4.alloc o1).alloc o2).alloc o3).setCell ⟨w.heap.size, 1, none⟩ v).drew) := by
      intro o1 o2 o3 v
      have b : Below w4.heap.size w4 (((w4.alloc o1).alloc o2).alloc o3) := (((Below.refl w4.heap.size w4).alloc (Nat.le_refl _) o1).alloc (by simp) o2).alloc (by simp <;> omega) o3
      refine ⟨?_, ?_, ?_⟩
      · exact set_one ((b.block _ hl4).trans hx4.out) v rfl
      · show (((((w4.alloc o1).alloc o2).alloc o3).setCell ⟨w.heap.size, 1, none⟩ v)).heap[w.heap.size + 1]? = _
        rw [Below.heap_setCell _ _ _ _ (by simp)]; exact (b.block _ hl5).trans hy4.out
      · exact ((hW4.out.trans (b.mono hW4.out.size)).setCell (p := ⟨w.heap.size, 1, none⟩) (Nat.le_refl _) _).drew
    have hall' := Lib.hid hall
    clear hall
    go_upto_region 11 with fail
    generalize (Question.appendCap 1 0 112).cut (w4.tape w4.drawn (Question.appendCap 1 0 112)) = cp
    obtain ⟨hx5, hy5, hw5⟩ := hall'.out (Obj.cells #[] 112) (Obj.cells #[Value.string ⟨#[]⟩, Value.slice none 0 0] 112) (Obj.cells (#[Value.string ⟨#[]⟩, Value.slice none 0 0] ++ Builtin.zeroCells #[Value.string ⟨#[]⟩, Value.slice none 0 0] (cp - 1)) 112) (.slice (some ⟨w4.heap.size + 1 + 1, 0, none⟩) 1 cp)
    generalize ((((w4.alloc (Obj.cells #[] 112)).alloc (Obj.cells #[Value.string ⟨#[]⟩, Value.slice none 0 0] 112)).alloc (Obj.cells (#[Value.string ⟨#[]⟩, Value.slice none 0 0] ++ Builtin.zeroCells #[Value.string ⟨#[]⟩, Value.slice none 0 0] (cp - 1)) 112)).setCell ⟨w.heap.size, 1, none⟩ (.slice (some ⟨w4.heap.size + 1 + 1, 0, none⟩) 1 cp)).drew = w5 at *
    generalize (⟨w4.heap.size + 1 + 1, 0, none⟩ : Addr) = fg at *
    clear hall' hfz xg0 xg1 xg2 xg3 xg4 xg5 xg6 xg7 xg8 hW4 hx4 hy4 hl4 hl5 hcap
    clear xc0 xf0 xc1 xf1 xc2 xf2 xc3 xf3 xc4 xf4 xc5 xf5 xc6 xf6 xc7 xf7 xc8 xf8
    have xc0 : w5.cell? ⟨w.heap.size, 0, none⟩ = some (.int .i64 0) := by simp [World.cell?, hx5]
    have xf0 : w5.frozen? ⟨w.heap.size, 0, none⟩ = false := by simp [World.frozen?, hx5]
    have xc1 : w5.cell? ⟨w.heap.size, 1, none⟩ = some (.slice (some fg) 1 cp) := by simp [World.cell?, hx5]
    have xf1 : w5.frozen? ⟨w.heap.size, 1, none⟩ = false := by simp [World.frozen?, hx5]
    have xc2 : w5.cell? ⟨w.heap.size, 2, none⟩ = some (.slice none 0 0) := by simp [World.cell?, hx5]
    have xf2 : w5.frozen? ⟨w.heap.size, 2, none⟩ = false := by simp [World.frozen?, hx5]
    have xc3 : w5.cell? ⟨w.heap.size, 3, none⟩ = some (.slice (some mg) mn mc) := by simp [World.cell?, hx5]
    have xf3 : w5.frozen? ⟨w.heap.size, 3, none⟩ = false := by simp [World.frozen?, hx5]
    have xc4 : w5.cell? ⟨w.heap.size, 4, none⟩ = some (.int .i64 1) := by simp [World.cell?, hx5]
    have xf4 : w5.frozen? ⟨w.heap.size, 4, none⟩ = false := by simp [World.frozen?, hx5]
    have xc5 : w5.cell? ⟨w.heap.size, 5, none⟩ = some (.int .i64 0) := by simp [World.cell?, hx5]
    have xf5 : w5.frozen? ⟨w.heap.size, 5, none⟩ = false := by simp [World.frozen?, hx5]
    have xc6 : w5.cell? ⟨w.heap.size, 6, none⟩ = some (.bool false) := by simp [World.cell?, hx5]
    have xf6 : w5.frozen? ⟨w.heap.size, 6, none⟩ = false := by simp [World.frozen?, hx5]
    have xc7 : w5.cell? ⟨w.heap.size, 7, none⟩ = some (.bool false) := by simp [World.cell?, hx5]
    have xf7 : w5.frozen? ⟨w.heap.size, 7, none⟩ = false := by simp [World.frozen?, hx5]
    have xc8 : w5.cell? ⟨w.heap.size, 8, none⟩ = some (.slice none 0 0) := by simp [World.cell?, hx5]
    have xf8 : w5.frozen? ⟨w.heap.size, 8, none⟩ = false := by simp [World.frozen?, hx5]
    have hl5 := (Array.getElem?_eq_some_iff.1 hx5).1
    have hy5' := Lib.hid hy5
    have hw5' := Lib.hid hw5
    have DD := Lib.hid (refDid (some fg) (some mg) 1 cp mn mc 1 s)
    clear hx5 hy5 hw5
    go_wp2_with fail
    refine (DD.out _).mono ?_
    rintro e w6 ⟨vg, vn, vc, rfl, b6⟩
    have hy6 := Lib.hid ((b6.block _ (Array.getElem?_eq_some_iff.1 hy5'.out).1).trans hy5'.out)
    have hw6 := Lib.hid (hw5'.out.trans (b6.mono hw5'.out.size))
    have hy6' := hy6.out
    clear b6 hy5' hw5' hl5
    clear xc0 xf0 xc1 xf1 xc2 xf2 xc3 xf3 xc4 xf4 xc5 xf5 xc6 xf6 xc7 xf7 xc8 xf8
    have yc0 : w6.cell? ⟨w.heap.size + 1, 0, none⟩ = some (.int .i64 0) := by simp [World.cell?, hy6']
    have yf0 : w6.frozen? ⟨w.heap.size + 1, 0, none⟩ = false := by simp [World.frozen?, hy6']
    have yc1 : w6.cell? ⟨w.heap.size + 1, 1, none⟩ = some (.slice none 0 0) := by simp [World.cell?, hy6']
    have yf1 : w6.frozen? ⟨w.heap.size + 1, 1, none⟩ = false := by simp [World.frozen?, hy6']
    have yc2 : w6.cell? ⟨w.heap.size + 1, 2, none⟩ = some (.slice none 0 0) := by simp [World.cell?, hy6']
    have yf2 : w6.frozen? ⟨w.heap.size + 1, 2, none⟩ = false := by simp [World.frozen?, hy6']
    have yc3 : w6.cell? ⟨w.heap.size + 1, 3, none⟩ = some (.slice none 0 0) := by simp [World.cell?, hy6']
    have yf3 : w6.frozen? ⟨w.heap.size + 1, 3, none⟩ = false := by simp [World.frozen?, hy6']
    have yc4 : w6.cell? ⟨w.heap.size + 1, 4, none⟩ = some (.int .i64 0) := by simp [World.cell?, hy6']
    have yf4 : w6.frozen? ⟨w.heap.size + 1, 4, none⟩ = false := by simp [World.frozen?, hy6']
    have yc5 : w6.cell? ⟨w.heap.size + 1, 5, none⟩ = some (.int .i64 0) := by simp [World.cell?, hy6']
    have yf5 : w6.frozen? ⟨w.heap.size + 1, 5, none⟩ = false := by simp [World.frozen?, hy6']
    have yc6 : w6.cell? ⟨w.heap.size + 1, 6, none⟩ = some (.bool false) := by simp [World.cell?, hy6']
    have yf6 : w6.frozen? ⟨w.heap.size + 1, 6, none⟩ = false := by simp [World.frozen?, hy6']
    have yc7 : w6.cell? ⟨w.heap.size + 1, 7, none⟩ = some (.bool false) := by simp [World.cell?, hy6']
    have yf7 : w6.frozen? ⟨w.heap.size + 1, 7, none⟩ = false := by simp [World.frozen?, hy6']
    have yc8 : w6.cell? ⟨w.heap.size + 1, 8, none⟩ = some (.slice none 0 0) := by simp [World.cell?, hy6']
    have yf8 : w6.frozen? ⟨w.heap.size + 1, 8, none⟩ = false := by simp [World.frozen?, hy6']
    clear hy6'
    go_wp2_with fail
    refine bodyPost_ret (v := .tuple #[.agg #[.int .i64 0, .slice (some fg) 1 cp, .slice none 0 0, .slice (some mg) mn mc, .int .i64 1, .int .i64 0, .bool false, .bool false, .slice (some vg) vn vc], .int .i64 0]) (by simp [results, Tryd.results33, go_sem, yc0, yc1, yc2, yc3, yc4, yc5, yc6, yc7, yc8]) rfl ⟨some fg, some mg, some vg, 1, cp, mn, mc, vn, vc, 1, 0, by decide, rfl, ?_⟩
    exact (((((((((hw6.out).setCell (p := ⟨w.heap.size + 1, 0, none⟩) (Nat.le_succ _) _).setCell (p := ⟨w.heap.size + 1, 1, none⟩) (Nat.le_succ _) _).setCell (p := ⟨w.heap.size + 1, 2, none⟩) (Nat.le_succ _) _).setCell (p := ⟨w.heap.size + 1, 3, none⟩) (Nat.le_succ _) _).setCell (p := ⟨w.heap.size + 1, 4, none⟩) (Nat.le_succ _) _).setCell (p := ⟨w.heap.size + 1, 5, none⟩) (Nat.le_succ _) _).setCell (p := ⟨w.heap.size + 1, 6, none⟩) (Nat.le_succ _) _).setCell (p := ⟨w.heap.size + 1, 7, none⟩) (Nat.le_succ _) _).setCell (p := ⟨w.heap.size + 1, 8, none⟩) (Nat.le_succ _) _
end Go.Proofs.YtalonkenchcfbaaDoor
