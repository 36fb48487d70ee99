/- The law's do at the kinds that are neither Arm nor Crash. -/
import Derived.Test.YtalonkenchcfbaaDoorDoParts
import Derived.Deep.CutBlock
import Derived.Deep.RegionWith
namespace Go.Proofs.YtalonkenchcfbaaDoor
open Go.RowKit Go.Maps

/-- Behind the switch. -/
def SwRel (w : World) (ρ : Col) (b : Nat) (D' : Dk) (s8 s9 s10 : Value) (wx : World) : Prop :=
  ∃ (k k2 : Nat) (c : Bool) (fo mo ao : Option Addr) (fn fc mn mc an ac : Nat) (u : Int), k ≤ 12 ∧ k2 ≤ 12 ∧ s8 = errV k ∧ s9 = .int .i64 k2 ∧ s10 = .bool c ∧
    Hid (wx.heap[w.heap.size]? = some (.cells #[.int .i64 0, .slice fo fn fc, .slice none 0 0, .slice mo mn mc, .int .i64 u, .int .i64 0, .bool false, .bool false, .slice ao an ac] 51 (0, 0))) ∧ Hid (wx.heap[w.heap.size + 1 + 1]? = some (.cells zCells 51 (0, 0))) ∧ Hid (TurnX w ρ b D' w.heap.size (w.heap.size + 1 + 1) wx)
set_option maxRecDepth 20000 in
set_option maxHeartbeats 8000000 in
theorem do_any (kd n : Int) (nm tx : ByteArray) (ko : Option Addr) (kn kc : Nat) (hnm : nm.size ≤ 1000) (htx : tx.size ≤ 1000) (h8 : kd ≠ 8) (h9 : kd ≠ 9) (w : World) (ρ : Col) (b : Nat) (D : Dk) (h : IsDisk w ρ b D) (ok : D.Ok) (hr0 : 0 ≤ D.room) (hr1 : D.room ≤ 9223372036854775807) :
    Calls Tryd.prog 20 #[.pointer (some ⟨b, 0, none⟩), zDisk, .agg #[.int .i64 kd, .int .i64 n, .string nm, .string tx, .slice ko kn kc]] w (DoPost w ρ b (D.act kd n nm tx)) := by
  obtain ⟨w0, hw0⟩ : ∃ w0, ((w.alloc (.cells zCells 51)).alloc (.cells (opCells kd n nm tx (.slice ko kn kc)) 34)).alloc (.cells zCells 51) = w0 := ⟨_, rfl⟩
  have b0 : Hid (Below w.heap.size w w0) := Lib.hid (by rw [← hw0]; exact below_alloc3 w _ _ _)
  have B0 : Hid (Box3 w zCells (opCells kd n nm tx (.slice ko kn kc)) w0) := Lib.hid (by rw [← hw0]; exact box3 w _)
  have hz0 : w.heap.size + 1 + 1 < w0.heap.size := (Array.getElem?_eq_some_iff.1 B0.out.z).1
  have F := Lib.hid h.fits
  have hb := h.size
  have H0 := Lib.hid (h.below b0.out)
  have OK := Lib.hid ok
  clear h ok
  have ho := B0.out.o
  have oc0 : w0.cell? ⟨w.heap.size + 1, 0, none⟩ = some (.int .i64 kd) := by simp [World.cell?, ho]
  have of0 : w0.frozen? ⟨w.heap.size + 1, 0, none⟩ = false := by simp [World.frozen?, ho]
  have oc1 : w0.cell? ⟨w.heap.size + 1, 1, none⟩ = some (.int .i64 n) := by simp [World.cell?, ho]
  have of1 : w0.frozen? ⟨w.heap.size + 1, 1, none⟩ = false := by simp [World.frozen?, ho]
  have oc2 : w0.cell? ⟨w.heap.size + 1, 2, none⟩ = some (.string nm) := by simp [World.cell?, ho]
  have of2 : w0.frozen? ⟨w.heap.size + 1, 2, none⟩ = false := by simp [World.frozen?, ho]
  have oc3 : w0.cell? ⟨w.heap.size + 1, 3, none⟩ = some (.string tx) := by simp [World.cell?, ho]
  have of3 : w0.frozen? ⟨w.heap.size + 1, 3, none⟩ = false := by simp [World.frozen?, ho]
  have oc4 : w0.cell? ⟨w.heap.size + 1, 4, none⟩ = some (.slice ko kn kc) := by simp [World.cell?, ho]
  have of4 : w0.frozen? ⟨w.heap.size + 1, 4, none⟩ = false := by simp [World.frozen?, ho]
  clear ho
  go_enter Tryd.func20, Tryd.ntmps20
  go_upto_block 0 with fail
  clear hw0
  go_cut [8, 9, 10] from 11 to 169 (fun s8 s9 s10 wx => SwRel w ρ b (D.act kd n nm tx) s8 s9 s10 wx)
  case first =>
    go_wp2_with fail
    · have T : Hid (kd = 1) := Lib.hid (by simpa using (by assumption : (kd == 1) = true))
      have hact : Hid (D.act kd n nm tx = (D.create nm).2) := Lib.hid (by rw [T.out]; rfl)
      have R := Lib.hid (fun w => refCreate nm (by omega) w)
      refine (create_m w0 ρ b D H0.out OK.out nm hnm).mono ?_
      rintro e w1 ⟨k, hk, rfl, T1⟩
      have B1 : Hid (Box3 w zCells (opCells kd n nm tx (.slice ko kn kc)) w1) := Lib.hid (by obtain ⟨ρ1, -, -, k1⟩ := T1; exact B0.out.kept F.out k1)
      have TX : Hid (TurnX w ρ b (D.act kd n nm tx) w.heap.size (w.heap.size + 1 + 1) w1) := Lib.hid (by rw [hact.out]; exact TurnX.of F.out b0.out (Nat.le_refl _) (by omega) (by omega) hz0 T1)
      have hx1 := B1.out.x
      have ho1 := B1.out.o
      have hl1 := (Array.getElem?_eq_some_iff.1 hx1).1
      clear oc0 of0 oc1 of1 oc2 of2 oc3 of3 oc4 of4
      have xc0 : w1.cell? ⟨w.heap.size, 0, none⟩ = some (.int .i64 0) := by simp [World.cell?, hx1]
      have xf0 : w1.frozen? ⟨w.heap.size, 0, none⟩ = false := by simp [World.frozen?, hx1]
      have xc1 : w1.cell? ⟨w.heap.size, 1, none⟩ = some (.slice none 0 0) := by simp [World.cell?, hx1]
      have xf1 : w1.frozen? ⟨w.heap.size, 1, none⟩ = false := by simp [World.frozen?, hx1]
      have xc2 : w1.cell? ⟨w.heap.size, 2, none⟩ = some (.slice none 0 0) := by simp [World.cell?, hx1]
      have xf2 : w1.frozen? ⟨w.heap.size, 2, none⟩ = false := by simp [World.frozen?, hx1]
      have xc3 : w1.cell? ⟨w.heap.size, 3, none⟩ = some (.slice none 0 0) := by simp [World.cell?, hx1]
      have xf3 : w1.frozen? ⟨w.heap.size, 3, none⟩ = false := by simp [World.frozen?, hx1]
      have xc4 : w1.cell? ⟨w.heap.size, 4, none⟩ = some (.int .i64 0) := by simp [World.cell?, hx1]
      have xf4 : w1.frozen? ⟨w.heap.size, 4, none⟩ = false := by simp [World.frozen?, hx1]
      have xc5 : w1.cell? ⟨w.heap.size, 5, none⟩ = some (.int .i64 0) := by simp [World.cell?, hx1]
      have xf5 : w1.frozen? ⟨w.heap.size, 5, none⟩ = false := by simp [World.frozen?, hx1]
      have xc6 : w1.cell? ⟨w.heap.size, 6, none⟩ = some (.bool false) := by simp [World.cell?, hx1]
      have xf6 : w1.frozen? ⟨w.heap.size, 6, none⟩ = false := by simp [World.frozen?, hx1]
      have xc7 : w1.cell? ⟨w.heap.size, 7, none⟩ = some (.bool false) := by simp [World.cell?, hx1]
      have xf7 : w1.frozen? ⟨w.heap.size, 7, none⟩ = false := by simp [World.frozen?, hx1]
      have xc8 : w1.cell? ⟨w.heap.size, 8, none⟩ = some (.slice none 0 0) := by simp [World.cell?, hx1]
      have xf8 : w1.frozen? ⟨w.heap.size, 8, none⟩ = false := by simp [World.frozen?, hx1]
      have oc0 : w1.cell? ⟨w.heap.size + 1, 0, none⟩ = some (.int .i64 kd) := by simp [World.cell?, ho1]
      have of0 : w1.frozen? ⟨w.heap.size + 1, 0, none⟩ = false := by simp [World.frozen?, ho1]
      have oc1 : w1.cell? ⟨w.heap.size + 1, 1, none⟩ = some (.int .i64 n) := by simp [World.cell?, ho1]
      have of1 : w1.frozen? ⟨w.heap.size + 1, 1, none⟩ = false := by simp [World.frozen?, ho1]
      have oc2 : w1.cell? ⟨w.heap.size + 1, 2, none⟩ = some (.string nm) := by simp [World.cell?, ho1]
      have of2 : w1.frozen? ⟨w.heap.size + 1, 2, none⟩ = false := by simp [World.frozen?, ho1]
      have oc3 : w1.cell? ⟨w.heap.size + 1, 3, none⟩ = some (.string tx) := by simp [World.cell?, ho1]
      have of3 : w1.frozen? ⟨w.heap.size + 1, 3, none⟩ = false := by simp [World.frozen?, ho1]
      have oc4 : w1.cell? ⟨w.heap.size + 1, 4, none⟩ = some (.slice ko kn kc) := by simp [World.cell?, ho1]
      have of4 : w1.frozen? ⟨w.heap.size + 1, 4, none⟩ = false := by simp [World.frozen?, ho1]
      clear hx1 ho1 T1
      go_wp2_with fail
      refine (R.out _).mono ?_
      rintro e w2 ⟨fo, mo, ao, fn, fc, mn, mc, an, ac, u, k2, hk2, rfl, b2⟩
      have B2 := B1.out.below b2
      have TX2 := Lib.hid (TX.out.below b2)
      have hx2 := B2.x
      have hX2 := Lib.hid B2.x
      have hZ2 := Lib.hid B2.z
      clear xc0 xf0 xc1 xf1 xc2 xf2 xc3 xf3 xc4 xf4 xc5 xf5 xc6 xf6 xc7 xf7 xc8 xf8
      clear oc0 of0 oc1 of1 oc2 of2 oc3 of3 oc4 of4
      have xc0 : w2.cell? ⟨w.heap.size, 0, none⟩ = some (.int .i64 0) := by simp [World.cell?, hx2]
      have xf0 : w2.frozen? ⟨w.heap.size, 0, none⟩ = false := by simp [World.frozen?, hx2]
      have xc1 : w2.cell? ⟨w.heap.size, 1, none⟩ = some (.slice none 0 0) := by simp [World.cell?, hx2]
      have xf1 : w2.frozen? ⟨w.heap.size, 1, none⟩ = false := by simp [World.frozen?, hx2]
      have xc2 : w2.cell? ⟨w.heap.size, 2, none⟩ = some (.slice none 0 0) := by simp [World.cell?, hx2]
      have xf2 : w2.frozen? ⟨w.heap.size, 2, none⟩ = false := by simp [World.frozen?, hx2]
      have xc3 : w2.cell? ⟨w.heap.size, 3, none⟩ = some (.slice none 0 0) := by simp [World.cell?, hx2]
      have xf3 : w2.frozen? ⟨w.heap.size, 3, none⟩ = false := by simp [World.frozen?, hx2]
      have xc4 : w2.cell? ⟨w.heap.size, 4, none⟩ = some (.int .i64 0) := by simp [World.cell?, hx2]
      have xf4 : w2.frozen? ⟨w.heap.size, 4, none⟩ = false := by simp [World.frozen?, hx2]
      have xc5 : w2.cell? ⟨w.heap.size, 5, none⟩ = some (.int .i64 0) := by simp [World.cell?, hx2]
      have xf5 : w2.frozen? ⟨w.heap.size, 5, none⟩ = false := by simp [World.frozen?, hx2]
      have xc6 : w2.cell? ⟨w.heap.size, 6, none⟩ = some (.bool false) := by simp [World.cell?, hx2]
      have xf6 : w2.frozen? ⟨w.heap.size, 6, none⟩ = false := by simp [World.frozen?, hx2]
      have xc7 : w2.cell? ⟨w.heap.size, 7, none⟩ = some (.bool false) := by simp [World.cell?, hx2]
      have xf7 : w2.frozen? ⟨w.heap.size, 7, none⟩ = false := by simp [World.frozen?, hx2]
      have xc8 : w2.cell? ⟨w.heap.size, 8, none⟩ = some (.slice none 0 0) := by simp [World.cell?, hx2]
      have xf8 : w2.frozen? ⟨w.heap.size, 8, none⟩ = false := by simp [World.frozen?, hx2]
      clear hx2 B2 b2
      go_wp2_with fail
      go_meet
      refine ⟨k, k2, true, fo, mo, ao, fn, fc, mn, mc, an, ac, u, hk, hk2, rfl, rfl, rfl, Lib.hid (set_all hX2.out (.int .i64 0) (.slice fo fn fc) (.slice none 0 0) (.slice mo mn mc) (.int .i64 u) (.int .i64 0) (.bool false) (.bool false) (.slice ao an ac)), Lib.hid ((keep_all (w := w2) (x := w.heap.size) (y := w.heap.size + 1 + 1) (by omega) (.int .i64 0) (.slice fo fn fc) (.slice none 0 0) (.slice mo mn mc) (.int .i64 u) (.int .i64 0) (.bool false) (.bool false) (.slice ao an ac)).trans hZ2.out), Lib.hid ?_⟩
      exact (((((((((TX2.out.set (w.heap.size) 0 (.int .i64 0) (.inl rfl) (Nat.le_refl _)).set (w.heap.size) 1 (.slice fo fn fc) (.inl rfl) (Nat.le_refl _)).set (w.heap.size) 2 (.slice none 0 0) (.inl rfl) (Nat.le_refl _)).set (w.heap.size) 3 (.slice mo mn mc) (.inl rfl) (Nat.le_refl _)).set (w.heap.size) 4 (.int .i64 u) (.inl rfl) (Nat.le_refl _)).set (w.heap.size) 5 (.int .i64 0) (.inl rfl) (Nat.le_refl _)).set (w.heap.size) 6 (.bool false) (.inl rfl) (Nat.le_refl _)).set (w.heap.size) 7 (.bool false) (.inl rfl) (Nat.le_refl _)).set (w.heap.size) 8 (.slice ao an ac) (.inl rfl) (Nat.le_refl _))
    · have T : Hid (kd = 2) := Lib.hid (by simpa using (by assumption : (kd == 2) = true))
      have hact : Hid (D.act kd n nm tx = (D.write nm tx).2) := Lib.hid (by rw [T.out]; rfl)
      have R := Lib.hid (fun w => (refWrite nm tx (by omega) w).mono fun _ _ p => p.some)
      refine (write_m w0 ρ b D H0.out OK.out nm tx hnm htx hr0 hr1).mono ?_
      rintro e w1 ⟨k, hk, rfl, T1⟩
      have B1 : Hid (Box3 w zCells (opCells kd n nm tx (.slice ko kn kc)) w1) := Lib.hid (by obtain ⟨ρ1, -, -, k1⟩ := T1; exact B0.out.kept F.out k1)
      have TX : Hid (TurnX w ρ b (D.act kd n nm tx) w.heap.size (w.heap.size + 1 + 1) w1) := Lib.hid (by rw [hact.out]; exact TurnX.of F.out b0.out (Nat.le_refl _) (by omega) (by omega) hz0 T1)
      have hx1 := B1.out.x
      have ho1 := B1.out.o
      have hl1 := (Array.getElem?_eq_some_iff.1 hx1).1
      clear oc0 of0 oc1 of1 oc2 of2 oc3 of3 oc4 of4
      have xc0 : w1.cell? ⟨w.heap.size, 0, none⟩ = some (.int .i64 0) := by simp [World.cell?, hx1]
      have xf0 : w1.frozen? ⟨w.heap.size, 0, none⟩ = false := by simp [World.frozen?, hx1]
      have xc1 : w1.cell? ⟨w.heap.size, 1, none⟩ = some (.slice none 0 0) := by simp [World.cell?, hx1]
      have xf1 : w1.frozen? ⟨w.heap.size, 1, none⟩ = false := by simp [World.frozen?, hx1]
      have xc2 : w1.cell? ⟨w.heap.size, 2, none⟩ = some (.slice none 0 0) := by simp [World.cell?, hx1]
      have xf2 : w1.frozen? ⟨w.heap.size, 2, none⟩ = false := by simp [World.frozen?, hx1]
      have xc3 : w1.cell? ⟨w.heap.size, 3, none⟩ = some (.slice none 0 0) := by simp [World.cell?, hx1]
      have xf3 : w1.frozen? ⟨w.heap.size, 3, none⟩ = false := by simp [World.frozen?, hx1]
      have xc4 : w1.cell? ⟨w.heap.size, 4, none⟩ = some (.int .i64 0) := by simp [World.cell?, hx1]
      have xf4 : w1.frozen? ⟨w.heap.size, 4, none⟩ = false := by simp [World.frozen?, hx1]
      have xc5 : w1.cell? ⟨w.heap.size, 5, none⟩ = some (.int .i64 0) := by simp [World.cell?, hx1]
      have xf5 : w1.frozen? ⟨w.heap.size, 5, none⟩ = false := by simp [World.frozen?, hx1]
      have xc6 : w1.cell? ⟨w.heap.size, 6, none⟩ = some (.bool false) := by simp [World.cell?, hx1]
      have xf6 : w1.frozen? ⟨w.heap.size, 6, none⟩ = false := by simp [World.frozen?, hx1]
      have xc7 : w1.cell? ⟨w.heap.size, 7, none⟩ = some (.bool false) := by simp [World.cell?, hx1]
      have xf7 : w1.frozen? ⟨w.heap.size, 7, none⟩ = false := by simp [World.frozen?, hx1]
      have xc8 : w1.cell? ⟨w.heap.size, 8, none⟩ = some (.slice none 0 0) := by simp [World.cell?, hx1]
      have xf8 : w1.frozen? ⟨w.heap.size, 8, none⟩ = false := by simp [World.frozen?, hx1]
      have oc0 : w1.cell? ⟨w.heap.size + 1, 0, none⟩ = some (.int .i64 kd) := by simp [World.cell?, ho1]
      have of0 : w1.frozen? ⟨w.heap.size + 1, 0, none⟩ = false := by simp [World.frozen?, ho1]
      have oc1 : w1.cell? ⟨w.heap.size + 1, 1, none⟩ = some (.int .i64 n) := by simp [World.cell?, ho1]
      have of1 : w1.frozen? ⟨w.heap.size + 1, 1, none⟩ = false := by simp [World.frozen?, ho1]
      have oc2 : w1.cell? ⟨w.heap.size + 1, 2, none⟩ = some (.string nm) := by simp [World.cell?, ho1]
      have of2 : w1.frozen? ⟨w.heap.size + 1, 2, none⟩ = false := by simp [World.frozen?, ho1]
      have oc3 : w1.cell? ⟨w.heap.size + 1, 3, none⟩ = some (.string tx) := by simp [World.cell?, ho1]
      have of3 : w1.frozen? ⟨w.heap.size + 1, 3, none⟩ = false := by simp [World.frozen?, ho1]
      have oc4 : w1.cell? ⟨w.heap.size + 1, 4, none⟩ = some (.slice ko kn kc) := by simp [World.cell?, ho1]
      have of4 : w1.frozen? ⟨w.heap.size + 1, 4, none⟩ = false := by simp [World.frozen?, ho1]
      clear hx1 ho1 T1
      go_wp2_with fail
      refine (R.out _).mono ?_
      rintro e w2 ⟨fo, mo, ao, fn, fc, mn, mc, an, ac, u, k2, hk2, rfl, b2⟩
      have B2 := B1.out.below b2
      have TX2 := Lib.hid (TX.out.below b2)
      have hx2 := B2.x
      have hX2 := Lib.hid B2.x
      have hZ2 := Lib.hid B2.z
      clear xc0 xf0 xc1 xf1 xc2 xf2 xc3 xf3 xc4 xf4 xc5 xf5 xc6 xf6 xc7 xf7 xc8 xf8
      clear oc0 of0 oc1 of1 oc2 of2 oc3 of3 oc4 of4
      have xc0 : w2.cell? ⟨w.heap.size, 0, none⟩ = some (.int .i64 0) := by simp [World.cell?, hx2]
      have xf0 : w2.frozen? ⟨w.heap.size, 0, none⟩ = false := by simp [World.frozen?, hx2]
      have xc1 : w2.cell? ⟨w.heap.size, 1, none⟩ = some (.slice none 0 0) := by simp [World.cell?, hx2]
      have xf1 : w2.frozen? ⟨w.heap.size, 1, none⟩ = false := by simp [World.frozen?, hx2]
      have xc2 : w2.cell? ⟨w.heap.size, 2, none⟩ = some (.slice none 0 0) := by simp [World.cell?, hx2]
      have xf2 : w2.frozen? ⟨w.heap.size, 2, none⟩ = false := by simp [World.frozen?, hx2]
      have xc3 : w2.cell? ⟨w.heap.size, 3, none⟩ = some (.slice none 0 0) := by simp [World.cell?, hx2]
      have xf3 : w2.frozen? ⟨w.heap.size, 3, none⟩ = false := by simp [World.frozen?, hx2]
      have xc4 : w2.cell? ⟨w.heap.size, 4, none⟩ = some (.int .i64 0) := by simp [World.cell?, hx2]
      have xf4 : w2.frozen? ⟨w.heap.size, 4, none⟩ = false := by simp [World.frozen?, hx2]
      have xc5 : w2.cell? ⟨w.heap.size, 5, none⟩ = some (.int .i64 0) := by simp [World.cell?, hx2]
      have xf5 : w2.frozen? ⟨w.heap.size, 5, none⟩ = false := by simp [World.frozen?, hx2]
      have xc6 : w2.cell? ⟨w.heap.size, 6, none⟩ = some (.bool false) := by simp [World.cell?, hx2]
      have xf6 : w2.frozen? ⟨w.heap.size, 6, none⟩ = false := by simp [World.frozen?, hx2]
      have xc7 : w2.cell? ⟨w.heap.size, 7, none⟩ = some (.bool false) := by simp [World.cell?, hx2]
      have xf7 : w2.frozen? ⟨w.heap.size, 7, none⟩ = false := by simp [World.frozen?, hx2]
      have xc8 : w2.cell? ⟨w.heap.size, 8, none⟩ = some (.slice none 0 0) := by simp [World.cell?, hx2]
      have xf8 : w2.frozen? ⟨w.heap.size, 8, none⟩ = false := by simp [World.frozen?, hx2]
      clear hx2 B2 b2
      go_wp2_with fail
      go_meet
      refine ⟨k, k2, true, fo, mo, ao, fn, fc, mn, mc, an, ac, u, hk, hk2, rfl, rfl, rfl, Lib.hid (set_all hX2.out (.int .i64 0) (.slice fo fn fc) (.slice none 0 0) (.slice mo mn mc) (.int .i64 u) (.int .i64 0) (.bool false) (.bool false) (.slice ao an ac)), Lib.hid ((keep_all (w := w2) (x := w.heap.size) (y := w.heap.size + 1 + 1) (by omega) (.int .i64 0) (.slice fo fn fc) (.slice none 0 0) (.slice mo mn mc) (.int .i64 u) (.int .i64 0) (.bool false) (.bool false) (.slice ao an ac)).trans hZ2.out), Lib.hid ?_⟩
      exact (((((((((TX2.out.set (w.heap.size) 0 (.int .i64 0) (.inl rfl) (Nat.le_refl _)).set (w.heap.size) 1 (.slice fo fn fc) (.inl rfl) (Nat.le_refl _)).set (w.heap.size) 2 (.slice none 0 0) (.inl rfl) (Nat.le_refl _)).set (w.heap.size) 3 (.slice mo mn mc) (.inl rfl) (Nat.le_refl _)).set (w.heap.size) 4 (.int .i64 u) (.inl rfl) (Nat.le_refl _)).set (w.heap.size) 5 (.int .i64 0) (.inl rfl) (Nat.le_refl _)).set (w.heap.size) 6 (.bool false) (.inl rfl) (Nat.le_refl _)).set (w.heap.size) 7 (.bool false) (.inl rfl) (Nat.le_refl _)).set (w.heap.size) 8 (.slice ao an ac) (.inl rfl) (Nat.le_refl _))
    · have T : Hid (kd = 3) := Lib.hid (by simpa using (by assumption : (kd == 3) = true))
      have hact : Hid (D.act kd n nm tx = (D.cutFile nm n).2) := Lib.hid (by rw [T.out]; rfl)
      have R := Lib.hid (fun w => (refCut nm n (by omega) w).mono fun _ _ p => p.some)
      refine (cut_m w0 ρ b D H0.out OK.out nm n hnm).mono ?_
      rintro e w1 ⟨k, hk, rfl, T1⟩
      have B1 : Hid (Box3 w zCells (opCells kd n nm tx (.slice ko kn kc)) w1) := Lib.hid (by obtain ⟨ρ1, -, -, k1⟩ := T1; exact B0.out.kept F.out k1)
      have TX : Hid (TurnX w ρ b (D.act kd n nm tx) w.heap.size (w.heap.size + 1 + 1) w1) := Lib.hid (by rw [hact.out]; exact TurnX.of F.out b0.out (Nat.le_refl _) (by omega) (by omega) hz0 T1)
      have hx1 := B1.out.x
      have ho1 := B1.out.o
      have hl1 := (Array.getElem?_eq_some_iff.1 hx1).1
      clear oc0 of0 oc1 of1 oc2 of2 oc3 of3 oc4 of4
      have xc0 : w1.cell? ⟨w.heap.size, 0, none⟩ = some (.int .i64 0) := by simp [World.cell?, hx1]
      have xf0 : w1.frozen? ⟨w.heap.size, 0, none⟩ = false := by simp [World.frozen?, hx1]
      have xc1 : w1.cell? ⟨w.heap.size, 1, none⟩ = some (.slice none 0 0) := by simp [World.cell?, hx1]
      have xf1 : w1.frozen? ⟨w.heap.size, 1, none⟩ = false := by simp [World.frozen?, hx1]
      have xc2 : w1.cell? ⟨w.heap.size, 2, none⟩ = some (.slice none 0 0) := by simp [World.cell?, hx1]
      have xf2 : w1.frozen? ⟨w.heap.size, 2, none⟩ = false := by simp [World.frozen?, hx1]
      have xc3 : w1.cell? ⟨w.heap.size, 3, none⟩ = some (.slice none 0 0) := by simp [World.cell?, hx1]
      have xf3 : w1.frozen? ⟨w.heap.size, 3, none⟩ = false := by simp [World.frozen?, hx1]
      have xc4 : w1.cell? ⟨w.heap.size, 4, none⟩ = some (.int .i64 0) := by simp [World.cell?, hx1]
      have xf4 : w1.frozen? ⟨w.heap.size, 4, none⟩ = false := by simp [World.frozen?, hx1]
      have xc5 : w1.cell? ⟨w.heap.size, 5, none⟩ = some (.int .i64 0) := by simp [World.cell?, hx1]
      have xf5 : w1.frozen? ⟨w.heap.size, 5, none⟩ = false := by simp [World.frozen?, hx1]
      have xc6 : w1.cell? ⟨w.heap.size, 6, none⟩ = some (.bool false) := by simp [World.cell?, hx1]
      have xf6 : w1.frozen? ⟨w.heap.size, 6, none⟩ = false := by simp [World.frozen?, hx1]
      have xc7 : w1.cell? ⟨w.heap.size, 7, none⟩ = some (.bool false) := by simp [World.cell?, hx1]
      have xf7 : w1.frozen? ⟨w.heap.size, 7, none⟩ = false := by simp [World.frozen?, hx1]
      have xc8 : w1.cell? ⟨w.heap.size, 8, none⟩ = some (.slice none 0 0) := by simp [World.cell?, hx1]
      have xf8 : w1.frozen? ⟨w.heap.size, 8, none⟩ = false := by simp [World.frozen?, hx1]
      have oc0 : w1.cell? ⟨w.heap.size + 1, 0, none⟩ = some (.int .i64 kd) := by simp [World.cell?, ho1]
      have of0 : w1.frozen? ⟨w.heap.size + 1, 0, none⟩ = false := by simp [World.frozen?, ho1]
      have oc1 : w1.cell? ⟨w.heap.size + 1, 1, none⟩ = some (.int .i64 n) := by simp [World.cell?, ho1]
      have of1 : w1.frozen? ⟨w.heap.size + 1, 1, none⟩ = false := by simp [World.frozen?, ho1]
      have oc2 : w1.cell? ⟨w.heap.size + 1, 2, none⟩ = some (.string nm) := by simp [World.cell?, ho1]
      have of2 : w1.frozen? ⟨w.heap.size + 1, 2, none⟩ = false := by simp [World.frozen?, ho1]
      have oc3 : w1.cell? ⟨w.heap.size + 1, 3, none⟩ = some (.string tx) := by simp [World.cell?, ho1]
      have of3 : w1.frozen? ⟨w.heap.size + 1, 3, none⟩ = false := by simp [World.frozen?, ho1]
      have oc4 : w1.cell? ⟨w.heap.size + 1, 4, none⟩ = some (.slice ko kn kc) := by simp [World.cell?, ho1]
      have of4 : w1.frozen? ⟨w.heap.size + 1, 4, none⟩ = false := by simp [World.frozen?, ho1]
      clear hx1 ho1 T1
      go_wp2_with fail
      refine (R.out _).mono ?_
      rintro e w2 ⟨fo, mo, ao, fn, fc, mn, mc, an, ac, u, k2, hk2, rfl, b2⟩
      have B2 := B1.out.below b2
      have TX2 := Lib.hid (TX.out.below b2)
      have hx2 := B2.x
      have hX2 := Lib.hid B2.x
      have hZ2 := Lib.hid B2.z
      clear xc0 xf0 xc1 xf1 xc2 xf2 xc3 xf3 xc4 xf4 xc5 xf5 xc6 xf6 xc7 xf7 xc8 xf8
      clear oc0 of0 oc1 of1 oc2 of2 oc3 of3 oc4 of4
      have xc0 : w2.cell? ⟨w.heap.size, 0, none⟩ = some (.int .i64 0) := by simp [World.cell?, hx2]
      have xf0 : w2.frozen? ⟨w.heap.size, 0, none⟩ = false := by simp [World.frozen?, hx2]
      have xc1 : w2.cell? ⟨w.heap.size, 1, none⟩ = some (.slice none 0 0) := by simp [World.cell?, hx2]
      have xf1 : w2.frozen? ⟨w.heap.size, 1, none⟩ = false := by simp [World.frozen?, hx2]
      have xc2 : w2.cell? ⟨w.heap.size, 2, none⟩ = some (.slice none 0 0) := by simp [World.cell?, hx2]
      have xf2 : w2.frozen? ⟨w.heap.size, 2, none⟩ = false := by simp [World.frozen?, hx2]
      have xc3 : w2.cell? ⟨w.heap.size, 3, none⟩ = some (.slice none 0 0) := by simp [World.cell?, hx2]
      have xf3 : w2.frozen? ⟨w.heap.size, 3, none⟩ = false := by simp [World.frozen?, hx2]
      have xc4 : w2.cell? ⟨w.heap.size, 4, none⟩ = some (.int .i64 0) := by simp [World.cell?, hx2]
      have xf4 : w2.frozen? ⟨w.heap.size, 4, none⟩ = false := by simp [World.frozen?, hx2]
      have xc5 : w2.cell? ⟨w.heap.size, 5, none⟩ = some (.int .i64 0) := by simp [World.cell?, hx2]
      have xf5 : w2.frozen? ⟨w.heap.size, 5, none⟩ = false := by simp [World.frozen?, hx2]
      have xc6 : w2.cell? ⟨w.heap.size, 6, none⟩ = some (.bool false) := by simp [World.cell?, hx2]
      have xf6 : w2.frozen? ⟨w.heap.size, 6, none⟩ = false := by simp [World.frozen?, hx2]
      have xc7 : w2.cell? ⟨w.heap.size, 7, none⟩ = some (.bool false) := by simp [World.cell?, hx2]
      have xf7 : w2.frozen? ⟨w.heap.size, 7, none⟩ = false := by simp [World.frozen?, hx2]
      have xc8 : w2.cell? ⟨w.heap.size, 8, none⟩ = some (.slice none 0 0) := by simp [World.cell?, hx2]
      have xf8 : w2.frozen? ⟨w.heap.size, 8, none⟩ = false := by simp [World.frozen?, hx2]
      clear hx2 B2 b2
      go_wp2_with fail
      go_meet
      refine ⟨k, k2, true, fo, mo, ao, fn, fc, mn, mc, an, ac, u, hk, hk2, rfl, rfl, rfl, Lib.hid (set_all hX2.out (.int .i64 0) (.slice fo fn fc) (.slice none 0 0) (.slice mo mn mc) (.int .i64 u) (.int .i64 0) (.bool false) (.bool false) (.slice ao an ac)), Lib.hid ((keep_all (w := w2) (x := w.heap.size) (y := w.heap.size + 1 + 1) (by omega) (.int .i64 0) (.slice fo fn fc) (.slice none 0 0) (.slice mo mn mc) (.int .i64 u) (.int .i64 0) (.bool false) (.bool false) (.slice ao an ac)).trans hZ2.out), Lib.hid ?_⟩
      exact (((((((((TX2.out.set (w.heap.size) 0 (.int .i64 0) (.inl rfl) (Nat.le_refl _)).set (w.heap.size) 1 (.slice fo fn fc) (.inl rfl) (Nat.le_refl _)).set (w.heap.size) 2 (.slice none 0 0) (.inl rfl) (Nat.le_refl _)).set (w.heap.size) 3 (.slice mo mn mc) (.inl rfl) (Nat.le_refl _)).set (w.heap.size) 4 (.int .i64 u) (.inl rfl) (Nat.le_refl _)).set (w.heap.size) 5 (.int .i64 0) (.inl rfl) (Nat.le_refl _)).set (w.heap.size) 6 (.bool false) (.inl rfl) (Nat.le_refl _)).set (w.heap.size) 7 (.bool false) (.inl rfl) (Nat.le_refl _)).set (w.heap.size) 8 (.slice ao an ac) (.inl rfl) (Nat.le_refl _))
    · have T : Hid (kd = 4) := Lib.hid (by simpa using (by assumption : (kd == 4) = true))
      have hact : Hid (D.act kd n nm tx = (D.sync nm).2) := Lib.hid (by rw [T.out]; rfl)
      have R := Lib.hid (fun w => (refSync nm (by omega) w).mono fun _ _ p => p.some)
      refine (sync_m w0 ρ b D H0.out OK.out nm hnm).mono ?_
      rintro e w1 ⟨k, hk, rfl, T1⟩
      have B1 : Hid (Box3 w zCells (opCells kd n nm tx (.slice ko kn kc)) w1) := Lib.hid (by obtain ⟨ρ1, -, -, k1⟩ := T1; exact B0.out.kept F.out k1)
      have TX : Hid (TurnX w ρ b (D.act kd n nm tx) w.heap.size (w.heap.size + 1 + 1) w1) := Lib.hid (by rw [hact.out]; exact TurnX.of F.out b0.out (Nat.le_refl _) (by omega) (by omega) hz0 T1)
      have hx1 := B1.out.x
      have ho1 := B1.out.o
      have hl1 := (Array.getElem?_eq_some_iff.1 hx1).1
      clear oc0 of0 oc1 of1 oc2 of2 oc3 of3 oc4 of4
      have xc0 : w1.cell? ⟨w.heap.size, 0, none⟩ = some (.int .i64 0) := by simp [World.cell?, hx1]
      have xf0 : w1.frozen? ⟨w.heap.size, 0, none⟩ = false := by simp [World.frozen?, hx1]
      have xc1 : w1.cell? ⟨w.heap.size, 1, none⟩ = some (.slice none 0 0) := by simp [World.cell?, hx1]
      have xf1 : w1.frozen? ⟨w.heap.size, 1, none⟩ = false := by simp [World.frozen?, hx1]
      have xc2 : w1.cell? ⟨w.heap.size, 2, none⟩ = some (.slice none 0 0) := by simp [World.cell?, hx1]
      have xf2 : w1.frozen? ⟨w.heap.size, 2, none⟩ = false := by simp [World.frozen?, hx1]
      have xc3 : w1.cell? ⟨w.heap.size, 3, none⟩ = some (.slice none 0 0) := by simp [World.cell?, hx1]
      have xf3 : w1.frozen? ⟨w.heap.size, 3, none⟩ = false := by simp [World.frozen?, hx1]
      have xc4 : w1.cell? ⟨w.heap.size, 4, none⟩ = some (.int .i64 0) := by simp [World.cell?, hx1]
      have xf4 : w1.frozen? ⟨w.heap.size, 4, none⟩ = false := by simp [World.frozen?, hx1]
      have xc5 : w1.cell? ⟨w.heap.size, 5, none⟩ = some (.int .i64 0) := by simp [World.cell?, hx1]
      have xf5 : w1.frozen? ⟨w.heap.size, 5, none⟩ = false := by simp [World.frozen?, hx1]
      have xc6 : w1.cell? ⟨w.heap.size, 6, none⟩ = some (.bool false) := by simp [World.cell?, hx1]
      have xf6 : w1.frozen? ⟨w.heap.size, 6, none⟩ = false := by simp [World.frozen?, hx1]
      have xc7 : w1.cell? ⟨w.heap.size, 7, none⟩ = some (.bool false) := by simp [World.cell?, hx1]
      have xf7 : w1.frozen? ⟨w.heap.size, 7, none⟩ = false := by simp [World.frozen?, hx1]
      have xc8 : w1.cell? ⟨w.heap.size, 8, none⟩ = some (.slice none 0 0) := by simp [World.cell?, hx1]
      have xf8 : w1.frozen? ⟨w.heap.size, 8, none⟩ = false := by simp [World.frozen?, hx1]
      have oc0 : w1.cell? ⟨w.heap.size + 1, 0, none⟩ = some (.int .i64 kd) := by simp [World.cell?, ho1]
      have of0 : w1.frozen? ⟨w.heap.size + 1, 0, none⟩ = false := by simp [World.frozen?, ho1]
      have oc1 : w1.cell? ⟨w.heap.size + 1, 1, none⟩ = some (.int .i64 n) := by simp [World.cell?, ho1]
      have of1 : w1.frozen? ⟨w.heap.size + 1, 1, none⟩ = false := by simp [World.frozen?, ho1]
      have oc2 : w1.cell? ⟨w.heap.size + 1, 2, none⟩ = some (.string nm) := by simp [World.cell?, ho1]
      have of2 : w1.frozen? ⟨w.heap.size + 1, 2, none⟩ = false := by simp [World.frozen?, ho1]
      have oc3 : w1.cell? ⟨w.heap.size + 1, 3, none⟩ = some (.string tx) := by simp [World.cell?, ho1]
      have of3 : w1.frozen? ⟨w.heap.size + 1, 3, none⟩ = false := by simp [World.frozen?, ho1]
      have oc4 : w1.cell? ⟨w.heap.size + 1, 4, none⟩ = some (.slice ko kn kc) := by simp [World.cell?, ho1]
      have of4 : w1.frozen? ⟨w.heap.size + 1, 4, none⟩ = false := by simp [World.frozen?, ho1]
      clear hx1 ho1 T1
      go_wp2_with fail
      refine (R.out _).mono ?_
      rintro e w2 ⟨fo, mo, ao, fn, fc, mn, mc, an, ac, u, k2, hk2, rfl, b2⟩
      have B2 := B1.out.below b2
      have TX2 := Lib.hid (TX.out.below b2)
      have hx2 := B2.x
      have hX2 := Lib.hid B2.x
      have hZ2 := Lib.hid B2.z
      clear xc0 xf0 xc1 xf1 xc2 xf2 xc3 xf3 xc4 xf4 xc5 xf5 xc6 xf6 xc7 xf7 xc8 xf8
      clear oc0 of0 oc1 of1 oc2 of2 oc3 of3 oc4 of4
      have xc0 : w2.cell? ⟨w.heap.size, 0, none⟩ = some (.int .i64 0) := by simp [World.cell?, hx2]
      have xf0 : w2.frozen? ⟨w.heap.size, 0, none⟩ = false := by simp [World.frozen?, hx2]
      have xc1 : w2.cell? ⟨w.heap.size, 1, none⟩ = some (.slice none 0 0) := by simp [World.cell?, hx2]
      have xf1 : w2.frozen? ⟨w.heap.size, 1, none⟩ = false := by simp [World.frozen?, hx2]
      have xc2 : w2.cell? ⟨w.heap.size, 2, none⟩ = some (.slice none 0 0) := by simp [World.cell?, hx2]
      have xf2 : w2.frozen? ⟨w.heap.size, 2, none⟩ = false := by simp [World.frozen?, hx2]
      have xc3 : w2.cell? ⟨w.heap.size, 3, none⟩ = some (.slice none 0 0) := by simp [World.cell?, hx2]
      have xf3 : w2.frozen? ⟨w.heap.size, 3, none⟩ = false := by simp [World.frozen?, hx2]
      have xc4 : w2.cell? ⟨w.heap.size, 4, none⟩ = some (.int .i64 0) := by simp [World.cell?, hx2]
      have xf4 : w2.frozen? ⟨w.heap.size, 4, none⟩ = false := by simp [World.frozen?, hx2]
      have xc5 : w2.cell? ⟨w.heap.size, 5, none⟩ = some (.int .i64 0) := by simp [World.cell?, hx2]
      have xf5 : w2.frozen? ⟨w.heap.size, 5, none⟩ = false := by simp [World.frozen?, hx2]
      have xc6 : w2.cell? ⟨w.heap.size, 6, none⟩ = some (.bool false) := by simp [World.cell?, hx2]
      have xf6 : w2.frozen? ⟨w.heap.size, 6, none⟩ = false := by simp [World.frozen?, hx2]
      have xc7 : w2.cell? ⟨w.heap.size, 7, none⟩ = some (.bool false) := by simp [World.cell?, hx2]
      have xf7 : w2.frozen? ⟨w.heap.size, 7, none⟩ = false := by simp [World.frozen?, hx2]
      have xc8 : w2.cell? ⟨w.heap.size, 8, none⟩ = some (.slice none 0 0) := by simp [World.cell?, hx2]
      have xf8 : w2.frozen? ⟨w.heap.size, 8, none⟩ = false := by simp [World.frozen?, hx2]
      clear hx2 B2 b2
      go_wp2_with fail
      go_meet
      refine ⟨k, k2, true, fo, mo, ao, fn, fc, mn, mc, an, ac, u, hk, hk2, rfl, rfl, rfl, Lib.hid (set_all hX2.out (.int .i64 0) (.slice fo fn fc) (.slice none 0 0) (.slice mo mn mc) (.int .i64 u) (.int .i64 0) (.bool false) (.bool false) (.slice ao an ac)), Lib.hid ((keep_all (w := w2) (x := w.heap.size) (y := w.heap.size + 1 + 1) (by omega) (.int .i64 0) (.slice fo fn fc) (.slice none 0 0) (.slice mo mn mc) (.int .i64 u) (.int .i64 0) (.bool false) (.bool false) (.slice ao an ac)).trans hZ2.out), Lib.hid ?_⟩
      exact (((((((((TX2.out.set (w.heap.size) 0 (.int .i64 0) (.inl rfl) (Nat.le_refl _)).set (w.heap.size) 1 (.slice fo fn fc) (.inl rfl) (Nat.le_refl _)).set (w.heap.size) 2 (.slice none 0 0) (.inl rfl) (Nat.le_refl _)).set (w.heap.size) 3 (.slice mo mn mc) (.inl rfl) (Nat.le_refl _)).set (w.heap.size) 4 (.int .i64 u) (.inl rfl) (Nat.le_refl _)).set (w.heap.size) 5 (.int .i64 0) (.inl rfl) (Nat.le_refl _)).set (w.heap.size) 6 (.bool false) (.inl rfl) (Nat.le_refl _)).set (w.heap.size) 7 (.bool false) (.inl rfl) (Nat.le_refl _)).set (w.heap.size) 8 (.slice ao an ac) (.inl rfl) (Nat.le_refl _))
    · have T : Hid (kd = 5) := Lib.hid (by simpa using (by assumption : (kd == 5) = true))
      have hact : Hid (D.act kd n nm tx = (D.rename nm tx).2) := Lib.hid (by rw [T.out]; rfl)
      have R := Lib.hid (fun w => (refRename nm tx (by omega) (by omega) w).mono fun _ _ p => p.some)
      refine (rename_m w0 ρ b D H0.out OK.out nm tx hnm htx).mono ?_
      rintro e w1 ⟨k, hk, rfl, T1⟩
      have B1 : Hid (Box3 w zCells (opCells kd n nm tx (.slice ko kn kc)) w1) := Lib.hid (by obtain ⟨ρ1, -, -, k1⟩ := T1; exact B0.out.kept F.out k1)
      have TX : Hid (TurnX w ρ b (D.act kd n nm tx) w.heap.size (w.heap.size + 1 + 1) w1) := Lib.hid (by rw [hact.out]; exact TurnX.of F.out b0.out (Nat.le_refl _) (by omega) (by omega) hz0 T1)
      have hx1 := B1.out.x
      have ho1 := B1.out.o
      have hl1 := (Array.getElem?_eq_some_iff.1 hx1).1
      clear oc0 of0 oc1 of1 oc2 of2 oc3 of3 oc4 of4
      have xc0 : w1.cell? ⟨w.heap.size, 0, none⟩ = some (.int .i64 0) := by simp [World.cell?, hx1]
      have xf0 : w1.frozen? ⟨w.heap.size, 0, none⟩ = false := by simp [World.frozen?, hx1]
      have xc1 : w1.cell? ⟨w.heap.size, 1, none⟩ = some (.slice none 0 0) := by simp [World.cell?, hx1]
      have xf1 : w1.frozen? ⟨w.heap.size, 1, none⟩ = false := by simp [World.frozen?, hx1]
      have xc2 : w1.cell? ⟨w.heap.size, 2, none⟩ = some (.slice none 0 0) := by simp [World.cell?, hx1]
      have xf2 : w1.frozen? ⟨w.heap.size, 2, none⟩ = false := by simp [World.frozen?, hx1]
      have xc3 : w1.cell? ⟨w.heap.size, 3, none⟩ = some (.slice none 0 0) := by simp [World.cell?, hx1]
      have xf3 : w1.frozen? ⟨w.heap.size, 3, none⟩ = false := by simp [World.frozen?, hx1]
      have xc4 : w1.cell? ⟨w.heap.size, 4, none⟩ = some (.int .i64 0) := by simp [World.cell?, hx1]
      have xf4 : w1.frozen? ⟨w.heap.size, 4, none⟩ = false := by simp [World.frozen?, hx1]
      have xc5 : w1.cell? ⟨w.heap.size, 5, none⟩ = some (.int .i64 0) := by simp [World.cell?, hx1]
      have xf5 : w1.frozen? ⟨w.heap.size, 5, none⟩ = false := by simp [World.frozen?, hx1]
      have xc6 : w1.cell? ⟨w.heap.size, 6, none⟩ = some (.bool false) := by simp [World.cell?, hx1]
      have xf6 : w1.frozen? ⟨w.heap.size, 6, none⟩ = false := by simp [World.frozen?, hx1]
      have xc7 : w1.cell? ⟨w.heap.size, 7, none⟩ = some (.bool false) := by simp [World.cell?, hx1]
      have xf7 : w1.frozen? ⟨w.heap.size, 7, none⟩ = false := by simp [World.frozen?, hx1]
      have xc8 : w1.cell? ⟨w.heap.size, 8, none⟩ = some (.slice none 0 0) := by simp [World.cell?, hx1]
      have xf8 : w1.frozen? ⟨w.heap.size, 8, none⟩ = false := by simp [World.frozen?, hx1]
      have oc0 : w1.cell? ⟨w.heap.size + 1, 0, none⟩ = some (.int .i64 kd) := by simp [World.cell?, ho1]
      have of0 : w1.frozen? ⟨w.heap.size + 1, 0, none⟩ = false := by simp [World.frozen?, ho1]
      have oc1 : w1.cell? ⟨w.heap.size + 1, 1, none⟩ = some (.int .i64 n) := by simp [World.cell?, ho1]
      have of1 : w1.frozen? ⟨w.heap.size + 1, 1, none⟩ = false := by simp [World.frozen?, ho1]
      have oc2 : w1.cell? ⟨w.heap.size + 1, 2, none⟩ = some (.string nm) := by simp [World.cell?, ho1]
      have of2 : w1.frozen? ⟨w.heap.size + 1, 2, none⟩ = false := by simp [World.frozen?, ho1]
      have oc3 : w1.cell? ⟨w.heap.size + 1, 3, none⟩ = some (.string tx) := by simp [World.cell?, ho1]
      have of3 : w1.frozen? ⟨w.heap.size + 1, 3, none⟩ = false := by simp [World.frozen?, ho1]
      have oc4 : w1.cell? ⟨w.heap.size + 1, 4, none⟩ = some (.slice ko kn kc) := by simp [World.cell?, ho1]
      have of4 : w1.frozen? ⟨w.heap.size + 1, 4, none⟩ = false := by simp [World.frozen?, ho1]
      clear hx1 ho1 T1
      go_wp2_with fail
      refine (R.out _).mono ?_
      rintro e w2 ⟨fo, mo, ao, fn, fc, mn, mc, an, ac, u, k2, hk2, rfl, b2⟩
      have B2 := B1.out.below b2
      have TX2 := Lib.hid (TX.out.below b2)
      have hx2 := B2.x
      have hX2 := Lib.hid B2.x
      have hZ2 := Lib.hid B2.z
      clear xc0 xf0 xc1 xf1 xc2 xf2 xc3 xf3 xc4 xf4 xc5 xf5 xc6 xf6 xc7 xf7 xc8 xf8
      clear oc0 of0 oc1 of1 oc2 of2 oc3 of3 oc4 of4
      have xc0 : w2.cell? ⟨w.heap.size, 0, none⟩ = some (.int .i64 0) := by simp [World.cell?, hx2]
      have xf0 : w2.frozen? ⟨w.heap.size, 0, none⟩ = false := by simp [World.frozen?, hx2]
      have xc1 : w2.cell? ⟨w.heap.size, 1, none⟩ = some (.slice none 0 0) := by simp [World.cell?, hx2]
      have xf1 : w2.frozen? ⟨w.heap.size, 1, none⟩ = false := by simp [World.frozen?, hx2]
      have xc2 : w2.cell? ⟨w.heap.size, 2, none⟩ = some (.slice none 0 0) := by simp [World.cell?, hx2]
      have xf2 : w2.frozen? ⟨w.heap.size, 2, none⟩ = false := by simp [World.frozen?, hx2]
      have xc3 : w2.cell? ⟨w.heap.size, 3, none⟩ = some (.slice none 0 0) := by simp [World.cell?, hx2]
      have xf3 : w2.frozen? ⟨w.heap.size, 3, none⟩ = false := by simp [World.frozen?, hx2]
      have xc4 : w2.cell? ⟨w.heap.size, 4, none⟩ = some (.int .i64 0) := by simp [World.cell?, hx2]
      have xf4 : w2.frozen? ⟨w.heap.size, 4, none⟩ = false := by simp [World.frozen?, hx2]
      have xc5 : w2.cell? ⟨w.heap.size, 5, none⟩ = some (.int .i64 0) := by simp [World.cell?, hx2]
      have xf5 : w2.frozen? ⟨w.heap.size, 5, none⟩ = false := by simp [World.frozen?, hx2]
      have xc6 : w2.cell? ⟨w.heap.size, 6, none⟩ = some (.bool false) := by simp [World.cell?, hx2]
      have xf6 : w2.frozen? ⟨w.heap.size, 6, none⟩ = false := by simp [World.frozen?, hx2]
      have xc7 : w2.cell? ⟨w.heap.size, 7, none⟩ = some (.bool false) := by simp [World.cell?, hx2]
      have xf7 : w2.frozen? ⟨w.heap.size, 7, none⟩ = false := by simp [World.frozen?, hx2]
      have xc8 : w2.cell? ⟨w.heap.size, 8, none⟩ = some (.slice none 0 0) := by simp [World.cell?, hx2]
      have xf8 : w2.frozen? ⟨w.heap.size, 8, none⟩ = false := by simp [World.frozen?, hx2]
      clear hx2 B2 b2
      go_wp2_with fail
      go_meet
      refine ⟨k, k2, true, fo, mo, ao, fn, fc, mn, mc, an, ac, u, hk, hk2, rfl, rfl, rfl, Lib.hid (set_all hX2.out (.int .i64 0) (.slice fo fn fc) (.slice none 0 0) (.slice mo mn mc) (.int .i64 u) (.int .i64 0) (.bool false) (.bool false) (.slice ao an ac)), Lib.hid ((keep_all (w := w2) (x := w.heap.size) (y := w.heap.size + 1 + 1) (by omega) (.int .i64 0) (.slice fo fn fc) (.slice none 0 0) (.slice mo mn mc) (.int .i64 u) (.int .i64 0) (.bool false) (.bool false) (.slice ao an ac)).trans hZ2.out), Lib.hid ?_⟩
      exact (((((((((TX2.out.set (w.heap.size) 0 (.int .i64 0) (.inl rfl) (Nat.le_refl _)).set (w.heap.size) 1 (.slice fo fn fc) (.inl rfl) (Nat.le_refl _)).set (w.heap.size) 2 (.slice none 0 0) (.inl rfl) (Nat.le_refl _)).set (w.heap.size) 3 (.slice mo mn mc) (.inl rfl) (Nat.le_refl _)).set (w.heap.size) 4 (.int .i64 u) (.inl rfl) (Nat.le_refl _)).set (w.heap.size) 5 (.int .i64 0) (.inl rfl) (Nat.le_refl _)).set (w.heap.size) 6 (.bool false) (.inl rfl) (Nat.le_refl _)).set (w.heap.size) 7 (.bool false) (.inl rfl) (Nat.le_refl _)).set (w.heap.size) 8 (.slice ao an ac) (.inl rfl) (Nat.le_refl _))
    · have T : Hid (kd = 6) := Lib.hid (by simpa using (by assumption : (kd == 6) = true))
      have hact : Hid (D.act kd n nm tx = (D.remove nm).2) := Lib.hid (by rw [T.out]; rfl)
      have R := Lib.hid (fun w => (refRemove nm (by omega) w).mono fun _ _ p => p.some)
      refine (remove_m w0 ρ b D H0.out OK.out nm hnm).mono ?_
      rintro e w1 ⟨k, hk, rfl, T1⟩
      have B1 : Hid (Box3 w zCells (opCells kd n nm tx (.slice ko kn kc)) w1) := Lib.hid (by obtain ⟨ρ1, -, -, k1⟩ := T1; exact B0.out.kept F.out k1)
      have TX : Hid (TurnX w ρ b (D.act kd n nm tx) w.heap.size (w.heap.size + 1 + 1) w1) := Lib.hid (by rw [hact.out]; exact TurnX.of F.out b0.out (Nat.le_refl _) (by omega) (by omega) hz0 T1)
      have hx1 := B1.out.x
      have ho1 := B1.out.o
      have hl1 := (Array.getElem?_eq_some_iff.1 hx1).1
      clear oc0 of0 oc1 of1 oc2 of2 oc3 of3 oc4 of4
      have xc0 : w1.cell? ⟨w.heap.size, 0, none⟩ = some (.int .i64 0) := by simp [World.cell?, hx1]
      have xf0 : w1.frozen? ⟨w.heap.size, 0, none⟩ = false := by simp [World.frozen?, hx1]
      have xc1 : w1.cell? ⟨w.heap.size, 1, none⟩ = some (.slice none 0 0) := by simp [World.cell?, hx1]
      have xf1 : w1.frozen? ⟨w.heap.size, 1, none⟩ = false := by simp [World.frozen?, hx1]
      have xc2 : w1.cell? ⟨w.heap.size, 2, none⟩ = some (.slice none 0 0) := by simp [World.cell?, hx1]
      have xf2 : w1.frozen? ⟨w.heap.size, 2, none⟩ = false := by simp [World.frozen?, hx1]
      have xc3 : w1.cell? ⟨w.heap.size, 3, none⟩ = some (.slice none 0 0) := by simp [World.cell?, hx1]
      have xf3 : w1.frozen? ⟨w.heap.size, 3, none⟩ = false := by simp [World.frozen?, hx1]
      have xc4 : w1.cell? ⟨w.heap.size, 4, none⟩ = some (.int .i64 0) := by simp [World.cell?, hx1]
      have xf4 : w1.frozen? ⟨w.heap.size, 4, none⟩ = false := by simp [World.frozen?, hx1]
      have xc5 : w1.cell? ⟨w.heap.size, 5, none⟩ = some (.int .i64 0) := by simp [World.cell?, hx1]
      have xf5 : w1.frozen? ⟨w.heap.size, 5, none⟩ = false := by simp [World.frozen?, hx1]
      have xc6 : w1.cell? ⟨w.heap.size, 6, none⟩ = some (.bool false) := by simp [World.cell?, hx1]
      have xf6 : w1.frozen? ⟨w.heap.size, 6, none⟩ = false := by simp [World.frozen?, hx1]
      have xc7 : w1.cell? ⟨w.heap.size, 7, none⟩ = some (.bool false) := by simp [World.cell?, hx1]
      have xf7 : w1.frozen? ⟨w.heap.size, 7, none⟩ = false := by simp [World.frozen?, hx1]
      have xc8 : w1.cell? ⟨w.heap.size, 8, none⟩ = some (.slice none 0 0) := by simp [World.cell?, hx1]
      have xf8 : w1.frozen? ⟨w.heap.size, 8, none⟩ = false := by simp [World.frozen?, hx1]
      have oc0 : w1.cell? ⟨w.heap.size + 1, 0, none⟩ = some (.int .i64 kd) := by simp [World.cell?, ho1]
      have of0 : w1.frozen? ⟨w.heap.size + 1, 0, none⟩ = false := by simp [World.frozen?, ho1]
      have oc1 : w1.cell? ⟨w.heap.size + 1, 1, none⟩ = some (.int .i64 n) := by simp [World.cell?, ho1]
      have of1 : w1.frozen? ⟨w.heap.size + 1, 1, none⟩ = false := by simp [World.frozen?, ho1]
      have oc2 : w1.cell? ⟨w.heap.size + 1, 2, none⟩ = some (.string nm) := by simp [World.cell?, ho1]
      have of2 : w1.frozen? ⟨w.heap.size + 1, 2, none⟩ = false := by simp [World.frozen?, ho1]
      have oc3 : w1.cell? ⟨w.heap.size + 1, 3, none⟩ = some (.string tx) := by simp [World.cell?, ho1]
      have of3 : w1.frozen? ⟨w.heap.size + 1, 3, none⟩ = false := by simp [World.frozen?, ho1]
      have oc4 : w1.cell? ⟨w.heap.size + 1, 4, none⟩ = some (.slice ko kn kc) := by simp [World.cell?, ho1]
      have of4 : w1.frozen? ⟨w.heap.size + 1, 4, none⟩ = false := by simp [World.frozen?, ho1]
      clear hx1 ho1 T1
      go_wp2_with fail
      refine (R.out _).mono ?_
      rintro e w2 ⟨fo, mo, ao, fn, fc, mn, mc, an, ac, u, k2, hk2, rfl, b2⟩
      have B2 := B1.out.below b2
      have TX2 := Lib.hid (TX.out.below b2)
      have hx2 := B2.x
      have hX2 := Lib.hid B2.x
      have hZ2 := Lib.hid B2.z
      clear xc0 xf0 xc1 xf1 xc2 xf2 xc3 xf3 xc4 xf4 xc5 xf5 xc6 xf6 xc7 xf7 xc8 xf8
      clear oc0 of0 oc1 of1 oc2 of2 oc3 of3 oc4 of4
      have xc0 : w2.cell? ⟨w.heap.size, 0, none⟩ = some (.int .i64 0) := by simp [World.cell?, hx2]
      have xf0 : w2.frozen? ⟨w.heap.size, 0, none⟩ = false := by simp [World.frozen?, hx2]
      have xc1 : w2.cell? ⟨w.heap.size, 1, none⟩ = some (.slice none 0 0) := by simp [World.cell?, hx2]
      have xf1 : w2.frozen? ⟨w.heap.size, 1, none⟩ = false := by simp [World.frozen?, hx2]
      have xc2 : w2.cell? ⟨w.heap.size, 2, none⟩ = some (.slice none 0 0) := by simp [World.cell?, hx2]
      have xf2 : w2.frozen? ⟨w.heap.size, 2, none⟩ = false := by simp [World.frozen?, hx2]
      have xc3 : w2.cell? ⟨w.heap.size, 3, none⟩ = some (.slice none 0 0) := by simp [World.cell?, hx2]
      have xf3 : w2.frozen? ⟨w.heap.size, 3, none⟩ = false := by simp [World.frozen?, hx2]
      have xc4 : w2.cell? ⟨w.heap.size, 4, none⟩ = some (.int .i64 0) := by simp [World.cell?, hx2]
      have xf4 : w2.frozen? ⟨w.heap.size, 4, none⟩ = false := by simp [World.frozen?, hx2]
      have xc5 : w2.cell? ⟨w.heap.size, 5, none⟩ = some (.int .i64 0) := by simp [World.cell?, hx2]
      have xf5 : w2.frozen? ⟨w.heap.size, 5, none⟩ = false := by simp [World.frozen?, hx2]
      have xc6 : w2.cell? ⟨w.heap.size, 6, none⟩ = some (.bool false) := by simp [World.cell?, hx2]
      have xf6 : w2.frozen? ⟨w.heap.size, 6, none⟩ = false := by simp [World.frozen?, hx2]
      have xc7 : w2.cell? ⟨w.heap.size, 7, none⟩ = some (.bool false) := by simp [World.cell?, hx2]
      have xf7 : w2.frozen? ⟨w.heap.size, 7, none⟩ = false := by simp [World.frozen?, hx2]
      have xc8 : w2.cell? ⟨w.heap.size, 8, none⟩ = some (.slice none 0 0) := by simp [World.cell?, hx2]
      have xf8 : w2.frozen? ⟨w.heap.size, 8, none⟩ = false := by simp [World.frozen?, hx2]
      clear hx2 B2 b2
      go_wp2_with fail
      go_meet
      refine ⟨k, k2, true, fo, mo, ao, fn, fc, mn, mc, an, ac, u, hk, hk2, rfl, rfl, rfl, Lib.hid (set_all hX2.out (.int .i64 0) (.slice fo fn fc) (.slice none 0 0) (.slice mo mn mc) (.int .i64 u) (.int .i64 0) (.bool false) (.bool false) (.slice ao an ac)), Lib.hid ((keep_all (w := w2) (x := w.heap.size) (y := w.heap.size + 1 + 1) (by omega) (.int .i64 0) (.slice fo fn fc) (.slice none 0 0) (.slice mo mn mc) (.int .i64 u) (.int .i64 0) (.bool false) (.bool false) (.slice ao an ac)).trans hZ2.out), Lib.hid ?_⟩
      exact (((((((((TX2.out.set (w.heap.size) 0 (.int .i64 0) (.inl rfl) (Nat.le_refl _)).set (w.heap.size) 1 (.slice fo fn fc) (.inl rfl) (Nat.le_refl _)).set (w.heap.size) 2 (.slice none 0 0) (.inl rfl) (Nat.le_refl _)).set (w.heap.size) 3 (.slice mo mn mc) (.inl rfl) (Nat.le_refl _)).set (w.heap.size) 4 (.int .i64 u) (.inl rfl) (Nat.le_refl _)).set (w.heap.size) 5 (.int .i64 0) (.inl rfl) (Nat.le_refl _)).set (w.heap.size) 6 (.bool false) (.inl rfl) (Nat.le_refl _)).set (w.heap.size) 7 (.bool false) (.inl rfl) (Nat.le_refl _)).set (w.heap.size) 8 (.slice ao an ac) (.inl rfl) (Nat.le_refl _))
    · have T : Hid (kd = 7) := Lib.hid (by simpa using (by assumption : (kd == 7) = true))
      have hact : Hid (D.act kd n nm tx = D.syncDir.2) := Lib.hid (by rw [T.out]; rfl)
      have R := Lib.hid (fun w => refSyncDir w)
      refine (syncDir_m w0 ρ b D H0.out OK.out).mono ?_
      rintro e w1 ⟨k, hk, rfl, T1⟩
      have B1 : Hid (Box3 w zCells (opCells kd n nm tx (.slice ko kn kc)) w1) := Lib.hid (by obtain ⟨ρ1, -, -, k1⟩ := T1; exact B0.out.kept F.out k1)
      have TX : Hid (TurnX w ρ b (D.act kd n nm tx) w.heap.size (w.heap.size + 1 + 1) w1) := Lib.hid (by rw [hact.out]; exact TurnX.of F.out b0.out (Nat.le_refl _) (by omega) (by omega) hz0 T1)
      have hx1 := B1.out.x
      have ho1 := B1.out.o
      have hl1 := (Array.getElem?_eq_some_iff.1 hx1).1
      clear oc0 of0 oc1 of1 oc2 of2 oc3 of3 oc4 of4
      have xc0 : w1.cell? ⟨w.heap.size, 0, none⟩ = some (.int .i64 0) := by simp [World.cell?, hx1]
      have xf0 : w1.frozen? ⟨w.heap.size, 0, none⟩ = false := by simp [World.frozen?, hx1]
      have xc1 : w1.cell? ⟨w.heap.size, 1, none⟩ = some (.slice none 0 0) := by simp [World.cell?, hx1]
      have xf1 : w1.frozen? ⟨w.heap.size, 1, none⟩ = false := by simp [World.frozen?, hx1]
      have xc2 : w1.cell? ⟨w.heap.size, 2, none⟩ = some (.slice none 0 0) := by simp [World.cell?, hx1]
      have xf2 : w1.frozen? ⟨w.heap.size, 2, none⟩ = false := by simp [World.frozen?, hx1]
      have xc3 : w1.cell? ⟨w.heap.size, 3, none⟩ = some (.slice none 0 0) := by simp [World.cell?, hx1]
      have xf3 : w1.frozen? ⟨w.heap.size, 3, none⟩ = false := by simp [World.frozen?, hx1]
      have xc4 : w1.cell? ⟨w.heap.size, 4, none⟩ = some (.int .i64 0) := by simp [World.cell?, hx1]
      have xf4 : w1.frozen? ⟨w.heap.size, 4, none⟩ = false := by simp [World.frozen?, hx1]
      have xc5 : w1.cell? ⟨w.heap.size, 5, none⟩ = some (.int .i64 0) := by simp [World.cell?, hx1]
      have xf5 : w1.frozen? ⟨w.heap.size, 5, none⟩ = false := by simp [World.frozen?, hx1]
      have xc6 : w1.cell? ⟨w.heap.size, 6, none⟩ = some (.bool false) := by simp [World.cell?, hx1]
      have xf6 : w1.frozen? ⟨w.heap.size, 6, none⟩ = false := by simp [World.frozen?, hx1]
      have xc7 : w1.cell? ⟨w.heap.size, 7, none⟩ = some (.bool false) := by simp [World.cell?, hx1]
      have xf7 : w1.frozen? ⟨w.heap.size, 7, none⟩ = false := by simp [World.frozen?, hx1]
      have xc8 : w1.cell? ⟨w.heap.size, 8, none⟩ = some (.slice none 0 0) := by simp [World.cell?, hx1]
      have xf8 : w1.frozen? ⟨w.heap.size, 8, none⟩ = false := by simp [World.frozen?, hx1]
      have oc0 : w1.cell? ⟨w.heap.size + 1, 0, none⟩ = some (.int .i64 kd) := by simp [World.cell?, ho1]
      have of0 : w1.frozen? ⟨w.heap.size + 1, 0, none⟩ = false := by simp [World.frozen?, ho1]
      have oc1 : w1.cell? ⟨w.heap.size + 1, 1, none⟩ = some (.int .i64 n) := by simp [World.cell?, ho1]
      have of1 : w1.frozen? ⟨w.heap.size + 1, 1, none⟩ = false := by simp [World.frozen?, ho1]
      have oc2 : w1.cell? ⟨w.heap.size + 1, 2, none⟩ = some (.string nm) := by simp [World.cell?, ho1]
      have of2 : w1.frozen? ⟨w.heap.size + 1, 2, none⟩ = false := by simp [World.frozen?, ho1]
      have oc3 : w1.cell? ⟨w.heap.size + 1, 3, none⟩ = some (.string tx) := by simp [World.cell?, ho1]
      have of3 : w1.frozen? ⟨w.heap.size + 1, 3, none⟩ = false := by simp [World.frozen?, ho1]
      have oc4 : w1.cell? ⟨w.heap.size + 1, 4, none⟩ = some (.slice ko kn kc) := by simp [World.cell?, ho1]
      have of4 : w1.frozen? ⟨w.heap.size + 1, 4, none⟩ = false := by simp [World.frozen?, ho1]
      clear hx1 ho1 T1
      go_wp2_with fail
      refine (R.out _).mono ?_
      rintro e w2 ⟨fo, mo, ao, fn, fc, mn, mc, an, ac, u, k2, hk2, rfl, b2⟩
      have B2 := B1.out.below b2
      have TX2 := Lib.hid (TX.out.below b2)
      have hx2 := B2.x
      have hX2 := Lib.hid B2.x
      have hZ2 := Lib.hid B2.z
      clear xc0 xf0 xc1 xf1 xc2 xf2 xc3 xf3 xc4 xf4 xc5 xf5 xc6 xf6 xc7 xf7 xc8 xf8
      clear oc0 of0 oc1 of1 oc2 of2 oc3 of3 oc4 of4
      have xc0 : w2.cell? ⟨w.heap.size, 0, none⟩ = some (.int .i64 0) := by simp [World.cell?, hx2]
      have xf0 : w2.frozen? ⟨w.heap.size, 0, none⟩ = false := by simp [World.frozen?, hx2]
      have xc1 : w2.cell? ⟨w.heap.size, 1, none⟩ = some (.slice none 0 0) := by simp [World.cell?, hx2]
      have xf1 : w2.frozen? ⟨w.heap.size, 1, none⟩ = false := by simp [World.frozen?, hx2]
      have xc2 : w2.cell? ⟨w.heap.size, 2, none⟩ = some (.slice none 0 0) := by simp [World.cell?, hx2]
      have xf2 : w2.frozen? ⟨w.heap.size, 2, none⟩ = false := by simp [World.frozen?, hx2]
      have xc3 : w2.cell? ⟨w.heap.size, 3, none⟩ = some (.slice none 0 0) := by simp [World.cell?, hx2]
      have xf3 : w2.frozen? ⟨w.heap.size, 3, none⟩ = false := by simp [World.frozen?, hx2]
      have xc4 : w2.cell? ⟨w.heap.size, 4, none⟩ = some (.int .i64 0) := by simp [World.cell?, hx2]
      have xf4 : w2.frozen? ⟨w.heap.size, 4, none⟩ = false := by simp [World.frozen?, hx2]
      have xc5 : w2.cell? ⟨w.heap.size, 5, none⟩ = some (.int .i64 0) := by simp [World.cell?, hx2]
      have xf5 : w2.frozen? ⟨w.heap.size, 5, none⟩ = false := by simp [World.frozen?, hx2]
      have xc6 : w2.cell? ⟨w.heap.size, 6, none⟩ = some (.bool false) := by simp [World.cell?, hx2]
      have xf6 : w2.frozen? ⟨w.heap.size, 6, none⟩ = false := by simp [World.frozen?, hx2]
      have xc7 : w2.cell? ⟨w.heap.size, 7, none⟩ = some (.bool false) := by simp [World.cell?, hx2]
      have xf7 : w2.frozen? ⟨w.heap.size, 7, none⟩ = false := by simp [World.frozen?, hx2]
      have xc8 : w2.cell? ⟨w.heap.size, 8, none⟩ = some (.slice none 0 0) := by simp [World.cell?, hx2]
      have xf8 : w2.frozen? ⟨w.heap.size, 8, none⟩ = false := by simp [World.frozen?, hx2]
      clear hx2 B2 b2
      go_wp2_with fail
      go_meet
      refine ⟨k, k2, true, fo, mo, ao, fn, fc, mn, mc, an, ac, u, hk, hk2, rfl, rfl, rfl, Lib.hid (set_all hX2.out (.int .i64 0) (.slice fo fn fc) (.slice none 0 0) (.slice mo mn mc) (.int .i64 u) (.int .i64 0) (.bool false) (.bool false) (.slice ao an ac)), Lib.hid ((keep_all (w := w2) (x := w.heap.size) (y := w.heap.size + 1 + 1) (by omega) (.int .i64 0) (.slice fo fn fc) (.slice none 0 0) (.slice mo mn mc) (.int .i64 u) (.int .i64 0) (.bool false) (.bool false) (.slice ao an ac)).trans hZ2.out), Lib.hid ?_⟩
      exact (((((((((TX2.out.set (w.heap.size) 0 (.int .i64 0) (.inl rfl) (Nat.le_refl _)).set (w.heap.size) 1 (.slice fo fn fc) (.inl rfl) (Nat.le_refl _)).set (w.heap.size) 2 (.slice none 0 0) (.inl rfl) (Nat.le_refl _)).set (w.heap.size) 3 (.slice mo mn mc) (.inl rfl) (Nat.le_refl _)).set (w.heap.size) 4 (.int .i64 u) (.inl rfl) (Nat.le_refl _)).set (w.heap.size) 5 (.int .i64 0) (.inl rfl) (Nat.le_refl _)).set (w.heap.size) 6 (.bool false) (.inl rfl) (Nat.le_refl _)).set (w.heap.size) 7 (.bool false) (.inl rfl) (Nat.le_refl _)).set (w.heap.size) 8 (.slice ao an ac) (.inl rfl) (Nat.le_refl _))
    · have n1 : kd ≠ 1 := by simpa using (by assumption : (kd == 1) = false)
      have n2 : kd ≠ 2 := by simpa using (by assumption : (kd == 2) = false)
      have n3 : kd ≠ 3 := by simpa using (by assumption : (kd == 3) = false)
      have n4 : kd ≠ 4 := by simpa using (by assumption : (kd == 4) = false)
      have n5 : kd ≠ 5 := by simpa using (by assumption : (kd == 5) = false)
      have n6 : kd ≠ 6 := by simpa using (by assumption : (kd == 6) = false)
      have n7 : kd ≠ 7 := by simpa using (by assumption : (kd == 7) = false)
      have hact : Hid (D.act kd n nm tx = D) := Lib.hid (by unfold Dk.act; rw [if_neg n1, if_neg n2, if_neg n3, if_neg n4, if_neg n5, if_neg n6, if_neg n7])
      have R := Lib.hid (fun w => refRead nm (by omega) w)
      refine (read_m w0 ρ b D H0.out OK.out nm hnm).mono ?_
      rintro e w1 ⟨s1, k, hk, rfl, b1⟩
      have B1 := B0.out.below b1
      have TX : Hid (TurnX w ρ b (D.act kd n nm tx) w.heap.size (w.heap.size + 1 + 1) w1) := Lib.hid (by rw [hact.out]; exact TurnX.of F.out b0.out (Nat.le_refl _) (by omega) (by omega) hz0 (let ⟨_, hL⟩ := H0.out; Turned.same ⟨_, hL⟩ b1))
      have hx1 := B1.x
      have ho1 := B1.o
      have HB1 := Lib.hid B1
      clear oc0 of0 oc1 of1 oc2 of2 oc3 of3 oc4 of4
      have xc0 : w1.cell? ⟨w.heap.size, 0, none⟩ = some (.int .i64 0) := by simp [World.cell?, hx1]
      have xf0 : w1.frozen? ⟨w.heap.size, 0, none⟩ = false := by simp [World.frozen?, hx1]
      have xc1 : w1.cell? ⟨w.heap.size, 1, none⟩ = some (.slice none 0 0) := by simp [World.cell?, hx1]
      have xf1 : w1.frozen? ⟨w.heap.size, 1, none⟩ = false := by simp [World.frozen?, hx1]
      have xc2 : w1.cell? ⟨w.heap.size, 2, none⟩ = some (.slice none 0 0) := by simp [World.cell?, hx1]
      have xf2 : w1.frozen? ⟨w.heap.size, 2, none⟩ = false := by simp [World.frozen?, hx1]
      have xc3 : w1.cell? ⟨w.heap.size, 3, none⟩ = some (.slice none 0 0) := by simp [World.cell?, hx1]
      have xf3 : w1.frozen? ⟨w.heap.size, 3, none⟩ = false := by simp [World.frozen?, hx1]
      have xc4 : w1.cell? ⟨w.heap.size, 4, none⟩ = some (.int .i64 0) := by simp [World.cell?, hx1]
      have xf4 : w1.frozen? ⟨w.heap.size, 4, none⟩ = false := by simp [World.frozen?, hx1]
      have xc5 : w1.cell? ⟨w.heap.size, 5, none⟩ = some (.int .i64 0) := by simp [World.cell?, hx1]
      have xf5 : w1.frozen? ⟨w.heap.size, 5, none⟩ = false := by simp [World.frozen?, hx1]
      have xc6 : w1.cell? ⟨w.heap.size, 6, none⟩ = some (.bool false) := by simp [World.cell?, hx1]
      have xf6 : w1.frozen? ⟨w.heap.size, 6, none⟩ = false := by simp [World.frozen?, hx1]
      have xc7 : w1.cell? ⟨w.heap.size, 7, none⟩ = some (.bool false) := by simp [World.cell?, hx1]
      have xf7 : w1.frozen? ⟨w.heap.size, 7, none⟩ = false := by simp [World.frozen?, hx1]
      have xc8 : w1.cell? ⟨w.heap.size, 8, none⟩ = some (.slice none 0 0) := by simp [World.cell?, hx1]
      have xf8 : w1.frozen? ⟨w.heap.size, 8, none⟩ = false := by simp [World.frozen?, hx1]
      have oc0 : w1.cell? ⟨w.heap.size + 1, 0, none⟩ = some (.int .i64 kd) := by simp [World.cell?, ho1]
      have of0 : w1.frozen? ⟨w.heap.size + 1, 0, none⟩ = false := by simp [World.frozen?, ho1]
      have oc1 : w1.cell? ⟨w.heap.size + 1, 1, none⟩ = some (.int .i64 n) := by simp [World.cell?, ho1]
      have of1 : w1.frozen? ⟨w.heap.size + 1, 1, none⟩ = false := by simp [World.frozen?, ho1]
      have oc2 : w1.cell? ⟨w.heap.size + 1, 2, none⟩ = some (.string nm) := by simp [World.cell?, ho1]
      have of2 : w1.frozen? ⟨w.heap.size + 1, 2, none⟩ = false := by simp [World.frozen?, ho1]
      have oc3 : w1.cell? ⟨w.heap.size + 1, 3, none⟩ = some (.string tx) := by simp [World.cell?, ho1]
      have of3 : w1.frozen? ⟨w.heap.size + 1, 3, none⟩ = false := by simp [World.frozen?, ho1]
      have oc4 : w1.cell? ⟨w.heap.size + 1, 4, none⟩ = some (.slice ko kn kc) := by simp [World.cell?, ho1]
      have of4 : w1.frozen? ⟨w.heap.size + 1, 4, none⟩ = false := by simp [World.frozen?, ho1]
      clear hx1 ho1 b1 B1
      go_wp2_with fail
      refine (R.out _).mono ?_
      rintro e w2 ⟨k2, hk2, rfl, b2⟩
      have B2 := HB1.out.below b2
      have TX2 := Lib.hid (TX.out.below b2)
      have hX2 := Lib.hid B2.x
      have hZ2 := Lib.hid B2.z
      clear B2 b2
      go_wp2_with fail
      go_meet
      exact ⟨k, k2, _, none, none, none, 0, 0, 0, 0, 0, 0, 0, hk, hk2, rfl, rfl, rfl, hX2, hZ2, TX2⟩
  case rest =>
    obtain ⟨k, k2, c, fo, mo, ao, fn, fc, mn, mc, an, ac, u, hk, hk2, rfl, rfl, rfl, hx, hz, hT⟩ := hcut
    clear oc0 of0 oc1 of1 oc2 of2 oc3 of3 oc4 of4
    have hx1 := hx.out
    have hz1 := hz.out
    have xc0 : wc.cell? ⟨w.heap.size, 0, none⟩ = some (.int .i64 0) := by simp [World.cell?, hx1]
    have xf0 : wc.frozen? ⟨w.heap.size, 0, none⟩ = false := by simp [World.frozen?, hx1]
    have xc1 : wc.cell? ⟨w.heap.size, 1, none⟩ = some (.slice fo fn fc) := by simp [World.cell?, hx1]
    have xf1 : wc.frozen? ⟨w.heap.size, 1, none⟩ = false := by simp [World.frozen?, hx1]
    have xc2 : wc.cell? ⟨w.heap.size, 2, none⟩ = some (.slice none 0 0) := by simp [World.cell?, hx1]
    have xf2 : wc.frozen? ⟨w.heap.size, 2, none⟩ = false := by simp [World.frozen?, hx1]
    have xc3 : wc.cell? ⟨w.heap.size, 3, none⟩ = some (.slice mo mn mc) := by simp [World.cell?, hx1]
    have xf3 : wc.frozen? ⟨w.heap.size, 3, none⟩ = false := by simp [World.frozen?, hx1]
    have xc4 : wc.cell? ⟨w.heap.size, 4, none⟩ = some (.int .i64 u) := by simp [World.cell?, hx1]
    have xf4 : wc.frozen? ⟨w.heap.size, 4, none⟩ = false := by simp [World.frozen?, hx1]
    have xc5 : wc.cell? ⟨w.heap.size, 5, none⟩ = some (.int .i64 0) := by simp [World.cell?, hx1]
    have xf5 : wc.frozen? ⟨w.heap.size, 5, none⟩ = false := by simp [World.frozen?, hx1]
    have xc6 : wc.cell? ⟨w.heap.size, 6, none⟩ = some (.bool false) := by simp [World.cell?, hx1]
    have xf6 : wc.frozen? ⟨w.heap.size, 6, none⟩ = false := by simp [World.frozen?, hx1]
    have xc7 : wc.cell? ⟨w.heap.size, 7, none⟩ = some (.bool false) := by simp [World.cell?, hx1]
    have xf7 : wc.frozen? ⟨w.heap.size, 7, none⟩ = false := by simp [World.frozen?, hx1]
    have xc8 : wc.cell? ⟨w.heap.size, 8, none⟩ = some (.slice ao an ac) := by simp [World.cell?, hx1]
    have xf8 : wc.frozen? ⟨w.heap.size, 8, none⟩ = false := by simp [World.frozen?, hx1]
    have zc0 : wc.cell? ⟨w.heap.size + 1 + 1, 0, none⟩ = some (.int .i64 0) := by simp [World.cell?, hz1]
    have zf0 : wc.frozen? ⟨w.heap.size + 1 + 1, 0, none⟩ = false := by simp [World.frozen?, hz1]
    have zc1 : wc.cell? ⟨w.heap.size + 1 + 1, 1, none⟩ = some (.slice none 0 0) := by simp [World.cell?, hz1]
    have zf1 : wc.frozen? ⟨w.heap.size + 1 + 1, 1, none⟩ = false := by simp [World.frozen?, hz1]
    have zc2 : wc.cell? ⟨w.heap.size + 1 + 1, 2, none⟩ = some (.slice none 0 0) := by simp [World.cell?, hz1]
    have zf2 : wc.frozen? ⟨w.heap.size + 1 + 1, 2, none⟩ = false := by simp [World.frozen?, hz1]
    have zc3 : wc.cell? ⟨w.heap.size + 1 + 1, 3, none⟩ = some (.slice none 0 0) := by simp [World.cell?, hz1]
    have zf3 : wc.frozen? ⟨w.heap.size + 1 + 1, 3, none⟩ = false := by simp [World.frozen?, hz1]
    have zc4 : wc.cell? ⟨w.heap.size + 1 + 1, 4, none⟩ = some (.int .i64 0) := by simp [World.cell?, hz1]
    have zf4 : wc.frozen? ⟨w.heap.size + 1 + 1, 4, none⟩ = false := by simp [World.frozen?, hz1]
    have zc5 : wc.cell? ⟨w.heap.size + 1 + 1, 5, none⟩ = some (.int .i64 0) := by simp [World.cell?, hz1]
    have zf5 : wc.frozen? ⟨w.heap.size + 1 + 1, 5, none⟩ = false := by simp [World.frozen?, hz1]
    have zc6 : wc.cell? ⟨w.heap.size + 1 + 1, 6, none⟩ = some (.bool false) := by simp [World.cell?, hz1]
    have zf6 : wc.frozen? ⟨w.heap.size + 1 + 1, 6, none⟩ = false := by simp [World.frozen?, hz1]
    have zc7 : wc.cell? ⟨w.heap.size + 1 + 1, 7, none⟩ = some (.bool false) := by simp [World.cell?, hz1]
    have zf7 : wc.frozen? ⟨w.heap.size + 1 + 1, 7, none⟩ = false := by simp [World.frozen?, hz1]
    have zc8 : wc.cell? ⟨w.heap.size + 1 + 1, 8, none⟩ = some (.slice none 0 0) := by simp [World.cell?, hz1]
    have zf8 : wc.frozen? ⟨w.heap.size + 1 + 1, 8, none⟩ = false := by simp [World.frozen?, hz1]
    clear hx1 hz1
    have N := Lib.hid (num_any k hk)
    go_wp2_with fail
    obtain ⟨q, hq⟩ : ∃ q, ((k : Int) == (k2 : Int)) = q := ⟨_, rfl⟩
    cases q
    · first | go_region_with (go_at_call 44; refine (N.out _).mono ?_; rintro e w' ⟨rfl, rfl⟩) | fail
      all_goals
        go_wp2_with fail
        refine bodyPost_ret (v := .tuple #[.agg #[.int .i64 0, .slice fo fn fc, .slice none 0 0, .slice mo mn mc, .int .i64 u, .int .i64 0, .bool false, .bool false, .slice ao an ac], .bool false]) (by simp [results, Tryd.results20, go_sem, zc0, zc1, zc2, zc3, zc4, zc5, zc6, zc7, zc8]) rfl ⟨⟨_, _, rfl⟩, TurnX.turned (x := w.heap.size) (z := w.heap.size + 1 + 1) ?_⟩
        repeat first | with_reducible exact hT.out | with_reducible refine TurnX.set ?_ _ _ _ (.inr rfl) (by omega) | with_reducible refine TurnX.drewn ?_
    · first | go_region_with (go_at_call 44; refine (N.out _).mono ?_; rintro e w' ⟨rfl, rfl⟩) | fail
      all_goals
        go_wp2_with fail
        refine bodyPost_ret (v := .tuple #[.agg #[.int .i64 0, .slice fo fn fc, .slice none 0 0, .slice mo mn mc, .int .i64 u, .int .i64 0, .bool false, .bool false, .slice ao an ac], .bool c]) (by simp [results, Tryd.results20, go_sem, zc0, zc1, zc2, zc3, zc4, zc5, zc6, zc7, zc8]) rfl ⟨⟨_, _, rfl⟩, TurnX.turned (x := w.heap.size) (z := w.heap.size + 1 + 1) ?_⟩
        repeat first | with_reducible exact hT.out | with_reducible refine TurnX.set ?_ _ _ _ (.inr rfl) (by omega) | with_reducible refine TurnX.drewn ?_
end Go.Proofs.YtalonkenchcfbaaDoor
