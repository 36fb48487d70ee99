/- The reference's move more: moved. The reference's wait more: wait. -/
import Derived.Test.YthfcmgbkhjnfjaaGreatDoorVG
import Derived.Deep.DeepCutAuto
import Derived.Lib.SmallJoins
namespace Go.Proofs.YthfcmgbkhjnfjaaGreatDoor
open Go.RowKit Go.Maps

theorem infoPMoved : (Tryz.prog.info? 128).map (fun i => (i.zero, i.size, i.bytes)) = some (some (.agg #[.string ⟨#[]⟩, .string ⟨#[]⟩, .int .i64 0]), 3, 40) := by kernel_rfl
theorem oneMoved (l : List En) : ∀ u ∈ l.flatMap En.cells, u.oneCell' = true := by
  intro u hu
  obtain ⟨a, -, ha⟩ := List.mem_flatMap.1 hu
  simp [En.cells] at ha
  rcases ha with rfl | rfl | rfl <;> rfl
/-- Behind the region. -/
def PWMoved (w0 : World) (N : Nat) (o1 o3 : Obj) (ys : List Value) (n y z : Nat) (wx : World) : Prop := wx.heap[N]? = some o1 ∧ wx.heap[N + 1 + 1]? = some o3 ∧ Below N w0 wx ∧ wx.ownsRow (N + 1 + 1 + 1) 128 3 (.slice (some ⟨y, 0, none⟩) (n + 1) z) (n + 1) ys
set_option maxRecDepth 20000 in
set_option maxHeartbeats 12800000 in
theorem moved_ref (room units left : Int) (armed gone : Bool) (fo so wo ao : Option Addr) (fn fk sn sk wn wk an ak : Nat) (ms : List En) (a : En) (w : World) (h : MovesAt w (.slice wo wn wk) ms) (hn : ms.length ≤ 10000000) :
    Calls Tryz.prog 59 #[.agg #[.int .i64 room, .slice fo fn fk, .slice so sn sk, .slice wo wn wk, .int .i64 units, .int .i64 left, .bool armed, .bool gone, .slice ao an ak], .agg #[.string a.put, .string a.take, .int .i64 a.file]] w fun e w' =>
      ∃ v, e = .returned (.agg #[.int .i64 room, .slice fo fn fk, .slice so sn sk, v, .int .i64 units, .int .i64 left, .bool armed, .bool gone, .slice ao an ak]) ∧ MovesAt w' v (ms ++ [a]) ∧ Below w.heap.size w w' := by
  obtain ⟨i0, hi0, hz0, hz1, hz2⟩ := info_parts infoPMoved
  obtain ⟨N, hN⟩ : ∃ N, w.heap.size = N := ⟨_, rfl⟩
  obtain ⟨W0, hW0⟩ : ∃ W0, ((w.alloc (.cells #[.int .i64 room, .slice fo fn fk, .slice so sn sk, .slice wo wn wk, .int .i64 units, .int .i64 left, .bool armed, .bool gone, .slice ao an ak] 37)).alloc (.cells #[.string a.put, .string a.take, .int .i64 a.file] 128)).alloc (.cells #[.int .i64 0, .slice none 0 0, .slice none 0 0, .slice none 0 0, .int .i64 0, .int .i64 0, .bool false, .bool false, .slice none 0 0] 37) = W0 := ⟨_, rfl⟩
  obtain ⟨B0, B1, B2, BB, hsz⟩ := box_three hW0 hN
  have hva := own0_below h (by rw [hN]; exact BB)
  obtain ⟨⟨v1, w1, v2, w2, r1, b1, r2, p2⟩, ⟨v3, w3, v4, w4, r3, b3, r4, p4⟩, ⟨v5, w5, v6, w6, r5, b5, r6, p6⟩⟩ := push_runs Tryz.underlying34 hi0 hz0 hz1 hz2 rfl (by omega) W0.drew (N + 1 + 1 + 1) hsz (.slice wo wn wk) ms.length (ms.flatMap En.cells) (En.cells a) (ownsRow_of_block hva fun _ _ => rfl) (flat_len (c := En.cells) (n := 3) (fun _ => rfl) ms) (oneMoved _) rfl (by intro u hu; simp [En.cells] at hu; rcases hu with rfl | rfl | rfl <;> rfl) (by omega) (by omega)
  obtain ⟨y2, z2, hy2, -, -⟩ := p2.1.form (by omega)
  obtain ⟨y4, z4, hy4, -, -⟩ := p4.1.form (by omega)
  obtain ⟨y6, z6, hy6, -, -⟩ := p6.1.form (by omega)
  subst hy2 hy4 hy6
  have R1 : Hid ((Builtin.append_ #[34, 34] 34 #[.slice (some ⟨N + 1 + 1 + 1, 0, none⟩) 0 0, (.slice wo wn wk)]).run Tryz.prog (W0.alloc (.cells #[] 128)).drew = .ok v1 w1) := Lib.hid r1
  have R2 : Hid ((Builtin.append_ #[34, 34] 34 #[v1, .slice (some ⟨w1.heap.size, 0, none⟩) 1 1]).run Tryz.prog (w1.alloc (.cells #[.string a.put, .string a.take, .int .i64 a.file] 128)) = .ok (.slice (some ⟨y2, 0, none⟩) (ms.length + 1) z2) w2) := Lib.hid r2
  have R3 : Hid ((Builtin.append_ #[34, 34] 34 #[.slice (some ⟨N + 1 + 1 + 1, 0, none⟩) 0 0, (.slice wo wn wk)]).run Tryz.prog ((W0.alloc (.cells #[] 128)).alloc (.cells #[.string a.put, .string a.take, .int .i64 a.file] 128)).drew = .ok v3 w3) := Lib.hid r3
  have R4 : Hid ((Builtin.append_ #[34, 34] 34 #[v3, .slice (some ⟨N + 1 + 1 + 1 + 1, 0, none⟩) 1 1]).run Tryz.prog w3 = .ok (.slice (some ⟨y4, 0, none⟩) (ms.length + 1) z4) w4) := Lib.hid r4
  have R5 : Hid ((Builtin.append_ #[34, 34] 34 #[.slice (some ⟨N + 1 + 1 + 1 + 1, 0, none⟩) 0 0, (.slice wo wn wk)]).run Tryz.prog ((W0.alloc (.cells #[.string a.put, .string a.take, .int .i64 a.file] 128)).alloc (.cells #[] 128)).drew = .ok v5 w5) := Lib.hid r5
  have R6 : Hid ((Builtin.append_ #[34, 34] 34 #[v5, .slice (some ⟨N + 1 + 1 + 1, 0, none⟩) 1 1]).run Tryz.prog w5 = .ok (.slice (some ⟨y6, 0, none⟩) (ms.length + 1) z6) w6) := Lib.hid r6
  have D2 := (p2.2.block N (by omega)).trans B0
  have Z2 := (p2.2.block (N + 1 + 1) (by omega)).trans B2
  have D4 := (p4.2.block N (by omega)).trans B0
  have Z4 := (p4.2.block (N + 1 + 1) (by omega)).trans B2
  have D6 := (p6.2.block N (by omega)).trans B0
  have Z6 := (p6.2.block (N + 1 + 1) (by omega)).trans B2
  have A1 := (b1.block (N + 1) (by omega)).trans B1
  have A3 := (b3.block (N + 1) (by omega)).trans B1
  have A5 := (b5.block (N + 1) (by omega)).trans B1
  have qc0 : W0.cell? ⟨N, 0, none⟩ = some (.int .i64 room) := by simp [World.cell?, B0]
  have qc1 : W0.cell? ⟨N, 1, none⟩ = some (.slice fo fn fk) := by simp [World.cell?, B0]
  have qc2 : W0.cell? ⟨N, 2, none⟩ = some (.slice so sn sk) := by simp [World.cell?, B0]
  have qc3 : W0.cell? ⟨N, 3, none⟩ = some (.slice wo wn wk) := by simp [World.cell?, B0]
  have qc4 : W0.cell? ⟨N, 4, none⟩ = some (.int .i64 units) := by simp [World.cell?, B0]
  have qc5 : W0.cell? ⟨N, 5, none⟩ = some (.int .i64 left) := by simp [World.cell?, B0]
  have qc6 : W0.cell? ⟨N, 6, none⟩ = some (.bool armed) := by simp [World.cell?, B0]
  have qc7 : W0.cell? ⟨N, 7, none⟩ = some (.bool gone) := by simp [World.cell?, B0]
  have qc8 : W0.cell? ⟨N, 8, none⟩ = some (.slice ao an ak) := by simp [World.cell?, B0]
  have ac0 : W0.cell? ⟨N + 1, 0, none⟩ = some (.string a.put) := by simp [World.cell?, B1]
  have ac1 : W0.cell? ⟨N + 1, 1, none⟩ = some (.string a.take) := by simp [World.cell?, B1]
  have ac2 : W0.cell? ⟨N + 1, 2, none⟩ = some (.int .i64 a.file) := by simp [World.cell?, B1]
  have a1c0 : w1.cell? ⟨N + 1, 0, none⟩ = some (.string a.put) := by simp [World.cell?, A1]
  have a1c1 : w1.cell? ⟨N + 1, 1, none⟩ = some (.string a.take) := by simp [World.cell?, A1]
  have a1c2 : w1.cell? ⟨N + 1, 2, none⟩ = some (.int .i64 a.file) := by simp [World.cell?, A1]
  have a3c0 : w3.cell? ⟨N + 1, 0, none⟩ = some (.string a.put) := by simp [World.cell?, A3]
  have a3c1 : w3.cell? ⟨N + 1, 1, none⟩ = some (.string a.take) := by simp [World.cell?, A3]
  have a3c2 : w3.cell? ⟨N + 1, 2, none⟩ = some (.int .i64 a.file) := by simp [World.cell?, A3]
  have a5c0 : w5.cell? ⟨N + 1, 0, none⟩ = some (.string a.put) := by simp [World.cell?, A5]
  have a5c1 : w5.cell? ⟨N + 1, 1, none⟩ = some (.string a.take) := by simp [World.cell?, A5]
  have a5c2 : w5.cell? ⟨N + 1, 2, none⟩ = some (.int .i64 a.file) := by simp [World.cell?, A5]
  have F2 : Hid (PWMoved w N (.cells #[.int .i64 room, .slice fo fn fk, .slice so sn sk, .slice (some ⟨y2, 0, none⟩) (ms.length + 1) z2, .int .i64 units, .int .i64 left, .bool armed, .bool gone, .slice ao an ak] 37 (0, 0)) (.cells #[.int .i64 0, .slice none 0 0, .slice none 0 0, .slice none 0 0, .int .i64 0, .int .i64 0, .bool false, .bool false, .slice none 0 0] 37) (ms.flatMap En.cells ++ En.cells a) ms.length y2 z2 (w2.setCell ⟨N, 3, none⟩ (.slice (some ⟨y2, 0, none⟩) (ms.length + 1) z2))) := Lib.hid ⟨Joins.block_setCell D2 _, (Below.heap_setCell _ _ _ _ (show N + 1 + 1 ≠ N by omega)).trans Z2, Below.setCell (BB.trans ((below_undrew p2.2).mono (show N ≤ N + 1 + 1 + 1 by omega))) (Nat.le_refl _) _, ownsRow_setCell_below p2.1 (show N < N + 1 + 1 + 1 by omega) _⟩
  have ec2 : w2.cell? ⟨N, 3, none⟩ = some (.slice wo wn wk) := by simp [World.cell?, D2]
  have ef2 : w2.frozen? ⟨N, 3, none⟩ = false := by simp [World.frozen?, D2]
  have F4 : Hid (PWMoved w N (.cells #[.int .i64 room, .slice fo fn fk, .slice so sn sk, .slice (some ⟨y4, 0, none⟩) (ms.length + 1) z4, .int .i64 units, .int .i64 left, .bool armed, .bool gone, .slice ao an ak] 37 (0, 0)) (.cells #[.int .i64 0, .slice none 0 0, .slice none 0 0, .slice none 0 0, .int .i64 0, .int .i64 0, .bool false, .bool false, .slice none 0 0] 37) (ms.flatMap En.cells ++ En.cells a) ms.length y4 z4 (w4.setCell ⟨N, 3, none⟩ (.slice (some ⟨y4, 0, none⟩) (ms.length + 1) z4))) := Lib.hid ⟨Joins.block_setCell D4 _, (Below.heap_setCell _ _ _ _ (show N + 1 + 1 ≠ N by omega)).trans Z4, Below.setCell (BB.trans ((below_undrew p4.2).mono (show N ≤ N + 1 + 1 + 1 by omega))) (Nat.le_refl _) _, ownsRow_setCell_below p4.1 (show N < N + 1 + 1 + 1 by omega) _⟩
  have ec4 : w4.cell? ⟨N, 3, none⟩ = some (.slice wo wn wk) := by simp [World.cell?, D4]
  have ef4 : w4.frozen? ⟨N, 3, none⟩ = false := by simp [World.frozen?, D4]
  have F6 : Hid (PWMoved w N (.cells #[.int .i64 room, .slice fo fn fk, .slice so sn sk, .slice (some ⟨y6, 0, none⟩) (ms.length + 1) z6, .int .i64 units, .int .i64 left, .bool armed, .bool gone, .slice ao an ak] 37 (0, 0)) (.cells #[.int .i64 0, .slice none 0 0, .slice none 0 0, .slice none 0 0, .int .i64 0, .int .i64 0, .bool false, .bool false, .slice none 0 0] 37) (ms.flatMap En.cells ++ En.cells a) ms.length y6 z6 (w6.setCell ⟨N, 3, none⟩ (.slice (some ⟨y6, 0, none⟩) (ms.length + 1) z6))) := Lib.hid ⟨Joins.block_setCell D6 _, (Below.heap_setCell _ _ _ _ (show N + 1 + 1 ≠ N by omega)).trans Z6, Below.setCell (BB.trans ((below_undrew p6.2).mono (show N ≤ N + 1 + 1 + 1 by omega))) (Nat.le_refl _) _, ownsRow_setCell_below p6.1 (show N < N + 1 + 1 + 1 by omega) _⟩
  have ec6 : w6.cell? ⟨N, 3, none⟩ = some (.slice wo wn wk) := by simp [World.cell?, D6]
  have ef6 : w6.frozen? ⟨N, 3, none⟩ = false := by simp [World.frozen?, D6]
  clear BB B0 B1 B2 D2 D4 D6 Z2 Z4 Z6 A1 A3 A5 r1 r2 r3 r4 r5 r6 p2 p4 p6 b1 b3 b5 hva h hi0 hz0 hz1 hz2
  go_enter Tryz.func59, Tryz.ntmps59
  go_wp2_with fail
  go_cut [11] (fun v11 wx => ∃ y z, Hid (PWMoved w N (.cells #[.int .i64 room, .slice fo fn fk, .slice so sn sk, .slice (some ⟨y, 0, none⟩) (ms.length + 1) z, .int .i64 units, .int .i64 left, .bool armed, .bool gone, .slice ao an ak] 37 (0, 0)) (.cells #[.int .i64 0, .slice none 0 0, .slice none 0 0, .slice none 0 0, .int .i64 0, .int .i64 0, .bool false, .bool false, .slice none 0 0] 37) (ms.flatMap En.cells ++ En.cells a) ms.length y z wx))
  case first =>
    go_region_law (first
      | (refine step_append_eq (by rfl) _ _ _ (by rfl) (v := .slice (some ⟨N + 1 + 1 + 1, 0, none⟩) 0 0) (u := (.slice wo wn wk)) (by rfl) (by rfl) (by with_reducible exact R1.out) ?_)
      | (refine step_append_eq (by rfl) _ _ _ (by rfl) (v := v1) (u := .slice (some ⟨w1.heap.size, 0, none⟩) 1 1) (by rfl) (by rfl) (by with_reducible exact R2.out) ?_; have HFF := F2; clear R1 R2 R3 R4 R5 R6 F2 F4 F6 qc0 qc1 qc2 qc3 qc4 qc5 qc6 qc7 qc8 ac0 ac1 ac2 a1c0 a1c1 a1c2 a3c0 a3c1 a3c2 a5c0 a5c1 a5c2 ec4 ef4 ec6 ef6)
      | (refine step_append_eq (by rfl) _ _ _ (by rfl) (v := .slice (some ⟨N + 1 + 1 + 1, 0, none⟩) 0 0) (u := (.slice wo wn wk)) (by rfl) (by rfl) (by with_reducible exact R3.out) ?_)
      | (refine step_append_eq (by rfl) _ _ _ (by rfl) (v := v3) (u := .slice (some ⟨N + 1 + 1 + 1 + 1, 0, none⟩) 1 1) (by rfl) (by rfl) (by with_reducible exact R4.out) ?_; have HFF := F4; clear R1 R2 R3 R4 R5 R6 F2 F4 F6 qc0 qc1 qc2 qc3 qc4 qc5 qc6 qc7 qc8 ac0 ac1 ac2 a1c0 a1c1 a1c2 a3c0 a3c1 a3c2 a5c0 a5c1 a5c2 ec2 ef2 ec6 ef6)
      | (refine step_append_eq (by rfl) _ _ _ (by rfl) (v := .slice (some ⟨N + 1 + 1 + 1 + 1, 0, none⟩) 0 0) (u := (.slice wo wn wk)) (by rfl) (by rfl) (by with_reducible exact R5.out) ?_)
      | (refine step_append_eq (by rfl) _ _ _ (by rfl) (v := v5) (u := .slice (some ⟨N + 1 + 1 + 1, 0, none⟩) 1 1) (by rfl) (by rfl) (by with_reducible exact R6.out) ?_; have HFF := F6; clear R1 R2 R3 R4 R5 R6 F2 F4 F6 qc0 qc1 qc2 qc3 qc4 qc5 qc6 qc7 qc8 ac0 ac1 ac2 a1c0 a1c1 a1c2 a3c0 a3c1 a3c2 a5c0 a5c1 a5c2 ec2 ef2 ec4 ef4)
      | fail)
    all_goals
      refine (‹∀ (a' : Act) (w' : World), Met _ a' w' → _› _ _ ?_)
      go_meet
      exact ⟨_, _, HFF⟩
  case rest =>
    obtain ⟨y, z, HPW⟩ := hcut
    obtain ⟨D, Z, B, O⟩ := HPW.out
    have HB := Lib.hid B
    have HO := Lib.hid O
    have dc0 : wc.cell? ⟨N, 0, none⟩ = some (.int .i64 room) := by simp [World.cell?, D]
    have dc1 : wc.cell? ⟨N, 1, none⟩ = some (.slice fo fn fk) := by simp [World.cell?, D]
    have dc2 : wc.cell? ⟨N, 2, none⟩ = some (.slice so sn sk) := by simp [World.cell?, D]
    have dc3 : wc.cell? ⟨N, 3, none⟩ = some (.slice (some ⟨y, 0, none⟩) (ms.length + 1) z) := by simp [World.cell?, D]
    have dc4 : wc.cell? ⟨N, 4, none⟩ = some (.int .i64 units) := by simp [World.cell?, D]
    have dc5 : wc.cell? ⟨N, 5, none⟩ = some (.int .i64 left) := by simp [World.cell?, D]
    have dc6 : wc.cell? ⟨N, 6, none⟩ = some (.bool armed) := by simp [World.cell?, D]
    have dc7 : wc.cell? ⟨N, 7, none⟩ = some (.bool gone) := by simp [World.cell?, D]
    have dc8 : wc.cell? ⟨N, 8, none⟩ = some (.slice ao an ak) := by simp [World.cell?, D]
    have zc0 : wc.cell? ⟨N + 1 + 1, 0, none⟩ = some (.int .i64 0) := by simp [World.cell?, Z]
    have zf0 : wc.frozen? ⟨N + 1 + 1, 0, none⟩ = false := by simp [World.frozen?, Z]
    have zc1 : wc.cell? ⟨N + 1 + 1, 1, none⟩ = some (.slice none 0 0) := by simp [World.cell?, Z]
    have zf1 : wc.frozen? ⟨N + 1 + 1, 1, none⟩ = false := by simp [World.frozen?, Z]
    have zc2 : wc.cell? ⟨N + 1 + 1, 2, none⟩ = some (.slice none 0 0) := by simp [World.cell?, Z]
    have zf2 : wc.frozen? ⟨N + 1 + 1, 2, none⟩ = false := by simp [World.frozen?, Z]
    have zc3 : wc.cell? ⟨N + 1 + 1, 3, none⟩ = some (.slice none 0 0) := by simp [World.cell?, Z]
    have zf3 : wc.frozen? ⟨N + 1 + 1, 3, none⟩ = false := by simp [World.frozen?, Z]
    have zc4 : wc.cell? ⟨N + 1 + 1, 4, none⟩ = some (.int .i64 0) := by simp [World.cell?, Z]
    have zf4 : wc.frozen? ⟨N + 1 + 1, 4, none⟩ = false := by simp [World.frozen?, Z]
    have zc5 : wc.cell? ⟨N + 1 + 1, 5, none⟩ = some (.int .i64 0) := by simp [World.cell?, Z]
    have zf5 : wc.frozen? ⟨N + 1 + 1, 5, none⟩ = false := by simp [World.frozen?, Z]
    have zc6 : wc.cell? ⟨N + 1 + 1, 6, none⟩ = some (.bool false) := by simp [World.cell?, Z]
    have zf6 : wc.frozen? ⟨N + 1 + 1, 6, none⟩ = false := by simp [World.frozen?, Z]
    have zc7 : wc.cell? ⟨N + 1 + 1, 7, none⟩ = some (.bool false) := by simp [World.cell?, Z]
    have zf7 : wc.frozen? ⟨N + 1 + 1, 7, none⟩ = false := by simp [World.frozen?, Z]
    have zc8 : wc.cell? ⟨N + 1 + 1, 8, none⟩ = some (.slice none 0 0) := by simp [World.cell?, Z]
    have zf8 : wc.frozen? ⟨N + 1 + 1, 8, none⟩ = false := by simp [World.frozen?, Z]
    clear D Z B O HPW R1 R2 R3 R4 R5 R6 F2 F4 F6 qc0 qc1 qc2 qc3 qc4 qc5 qc6 qc7 qc8 ac0 ac1 ac2 a1c0 a1c1 a1c2 a3c0 a3c1 a3c2 a5c0 a5c1 a5c2 ec2 ef2 ec4 ef4 ec6 ef6
    go_wp2_with fail
    refine bodyPost_ret (v := .agg #[.int .i64 room, .slice fo fn fk, .slice so sn sk, .slice (some ⟨y, 0, none⟩) (ms.length + 1) z, .int .i64 units, .int .i64 left, .bool armed, .bool gone, .slice ao an ak]) (by simp [results, Tryz.results59, go_sem, zc0, zc1, zc2, zc3, zc4, zc5, zc6, zc7, zc8]) rfl ⟨_, rfl, ?_, ?_⟩
    · refine own_to0 (N := N + 1 + 1 + 1) ?_; rw [List.length_append, List.length_singleton, List.flatMap_append, flatMap_one]; repeat first | with_reducible exact HO.out | with_reducible refine ownsRow_setCell_below ?_ (show N + 1 + 1 < N + 1 + 1 + 1 from Nat.lt_succ_self _) _
    · rw [hN]; repeat first | with_reducible exact HB.out | with_reducible refine Below.setCell ?_ (show N ≤ N + 1 + 1 from Nat.le_add_right N 2) _
end Go.Proofs.YthfcmgbkhjnfjaaGreatDoor

namespace Go.Proofs.YthfcmgbkhjnfjaaGreatDoor
open Go.RowKit Go.Maps

theorem infoPWait : (Tryz.prog.info? 131).map (fun i => (i.zero, i.size, i.bytes)) = some (some (.agg #[.int .u8 0, .int .i64 0, .bool false]), 3, 24) := by kernel_rfl
theorem oneWait (l : List Bit) : ∀ u ∈ l.flatMap Bit.cells, u.oneCell' = true := by
  intro u hu
  obtain ⟨a, -, ha⟩ := List.mem_flatMap.1 hu
  simp [Bit.cells] at ha
  rcases ha with rfl | rfl | rfl <;> rfl
/-- Behind the region. -/
def PWWait (w0 : World) (N : Nat) (o1 o3 : Obj) (ys : List Value) (n y z : Nat) (wx : World) : Prop := wx.heap[N]? = some o1 ∧ wx.heap[N + 1 + 1]? = some o3 ∧ Below N w0 wx ∧ wx.ownsRow (N + 1 + 1 + 1) 131 3 (.slice (some ⟨y, 0, none⟩) (n + 1) z) (n + 1) ys
set_option maxRecDepth 20000 in
set_option maxHeartbeats 12800000 in
theorem wait_ref (sure : ByteArray) (bo : Option Addr) (bn bk : Nat) (bs : List Bit) (a : Bit) (w : World) (h : BitsAt w (.slice bo bn bk) bs) (hn : bs.length ≤ 20000000) :
    Calls Tryz.prog 63 #[.agg #[.string sure, .slice bo bn bk], .agg #[.int .u8 a.byte.toNat, .int .i64 a.place, .bool a.cut]] w fun e w' =>
      ∃ v, e = .returned (.agg #[.string sure, v]) ∧ BitsAt w' v (bs ++ [a]) ∧ Below w.heap.size w w' := by
  obtain ⟨i0, hi0, hz0, hz1, hz2⟩ := info_parts infoPWait
  obtain ⟨N, hN⟩ : ∃ N, w.heap.size = N := ⟨_, rfl⟩
  obtain ⟨W0, hW0⟩ : ∃ W0, ((w.alloc (.cells #[.string sure, .slice bo bn bk] 86)).alloc (.cells #[.int .u8 a.byte.toNat, .int .i64 a.place, .bool a.cut] 131)).alloc (.cells #[.string ⟨#[]⟩, .slice none 0 0] 86) = W0 := ⟨_, rfl⟩
  obtain ⟨B0, B1, B2, BB, hsz⟩ := box_three hW0 hN
  have hva := own0_below h (by rw [hN]; exact BB)
  obtain ⟨⟨v1, w1, v2, w2, r1, b1, r2, p2⟩, ⟨v3, w3, v4, w4, r3, b3, r4, p4⟩, ⟨v5, w5, v6, w6, r5, b5, r6, p6⟩⟩ := push_runs Tryz.underlying84 hi0 hz0 hz1 hz2 rfl (by omega) W0.drew (N + 1 + 1 + 1) hsz (.slice bo bn bk) bs.length (bs.flatMap Bit.cells) (Bit.cells a) (ownsRow_of_block hva fun _ _ => rfl) (flat_len (c := Bit.cells) (n := 3) (fun _ => rfl) bs) (oneWait _) rfl (by intro u hu; simp [Bit.cells] at hu; rcases hu with rfl | rfl | rfl <;> rfl) (by omega) (by omega)
  obtain ⟨y2, z2, hy2, -, -⟩ := p2.1.form (by omega)
  obtain ⟨y4, z4, hy4, -, -⟩ := p4.1.form (by omega)
  obtain ⟨y6, z6, hy6, -, -⟩ := p6.1.form (by omega)
  subst hy2 hy4 hy6
  have R1 : Hid ((Builtin.append_ #[84, 84] 84 #[.slice (some ⟨N + 1 + 1 + 1, 0, none⟩) 0 0, (.slice bo bn bk)]).run Tryz.prog (W0.alloc (.cells #[] 131)).drew = .ok v1 w1) := Lib.hid r1
  have R2 : Hid ((Builtin.append_ #[84, 84] 84 #[v1, .slice (some ⟨w1.heap.size, 0, none⟩) 1 1]).run Tryz.prog (w1.alloc (.cells #[.int .u8 a.byte.toNat, .int .i64 a.place, .bool a.cut] 131)) = .ok (.slice (some ⟨y2, 0, none⟩) (bs.length + 1) z2) w2) := Lib.hid r2
  have R3 : Hid ((Builtin.append_ #[84, 84] 84 #[.slice (some ⟨N + 1 + 1 + 1, 0, none⟩) 0 0, (.slice bo bn bk)]).run Tryz.prog ((W0.alloc (.cells #[] 131)).alloc (.cells #[.int .u8 a.byte.toNat, .int .i64 a.place, .bool a.cut] 131)).drew = .ok v3 w3) := Lib.hid r3
  have R4 : Hid ((Builtin.append_ #[84, 84] 84 #[v3, .slice (some ⟨N + 1 + 1 + 1 + 1, 0, none⟩) 1 1]).run Tryz.prog w3 = .ok (.slice (some ⟨y4, 0, none⟩) (bs.length + 1) z4) w4) := Lib.hid r4
  have R5 : Hid ((Builtin.append_ #[84, 84] 84 #[.slice (some ⟨N + 1 + 1 + 1 + 1, 0, none⟩) 0 0, (.slice bo bn bk)]).run Tryz.prog ((W0.alloc (.cells #[.int .u8 a.byte.toNat, .int .i64 a.place, .bool a.cut] 131)).alloc (.cells #[] 131)).drew = .ok v5 w5) := Lib.hid r5
  have R6 : Hid ((Builtin.append_ #[84, 84] 84 #[v5, .slice (some ⟨N + 1 + 1 + 1, 0, none⟩) 1 1]).run Tryz.prog w5 = .ok (.slice (some ⟨y6, 0, none⟩) (bs.length + 1) z6) w6) := Lib.hid r6
  have D2 := (p2.2.block N (by omega)).trans B0
  have Z2 := (p2.2.block (N + 1 + 1) (by omega)).trans B2
  have D4 := (p4.2.block N (by omega)).trans B0
  have Z4 := (p4.2.block (N + 1 + 1) (by omega)).trans B2
  have D6 := (p6.2.block N (by omega)).trans B0
  have Z6 := (p6.2.block (N + 1 + 1) (by omega)).trans B2
  have A1 := (b1.block (N + 1) (by omega)).trans B1
  have A3 := (b3.block (N + 1) (by omega)).trans B1
  have A5 := (b5.block (N + 1) (by omega)).trans B1
  have qc0 : W0.cell? ⟨N, 0, none⟩ = some (.string sure) := by simp [World.cell?, B0]
  have qc1 : W0.cell? ⟨N, 1, none⟩ = some (.slice bo bn bk) := by simp [World.cell?, B0]
  have ac0 : W0.cell? ⟨N + 1, 0, none⟩ = some (.int .u8 a.byte.toNat) := by simp [World.cell?, B1]
  have ac1 : W0.cell? ⟨N + 1, 1, none⟩ = some (.int .i64 a.place) := by simp [World.cell?, B1]
  have ac2 : W0.cell? ⟨N + 1, 2, none⟩ = some (.bool a.cut) := by simp [World.cell?, B1]
  have a1c0 : w1.cell? ⟨N + 1, 0, none⟩ = some (.int .u8 a.byte.toNat) := by simp [World.cell?, A1]
  have a1c1 : w1.cell? ⟨N + 1, 1, none⟩ = some (.int .i64 a.place) := by simp [World.cell?, A1]
  have a1c2 : w1.cell? ⟨N + 1, 2, none⟩ = some (.bool a.cut) := by simp [World.cell?, A1]
  have a3c0 : w3.cell? ⟨N + 1, 0, none⟩ = some (.int .u8 a.byte.toNat) := by simp [World.cell?, A3]
  have a3c1 : w3.cell? ⟨N + 1, 1, none⟩ = some (.int .i64 a.place) := by simp [World.cell?, A3]
  have a3c2 : w3.cell? ⟨N + 1, 2, none⟩ = some (.bool a.cut) := by simp [World.cell?, A3]
  have a5c0 : w5.cell? ⟨N + 1, 0, none⟩ = some (.int .u8 a.byte.toNat) := by simp [World.cell?, A5]
  have a5c1 : w5.cell? ⟨N + 1, 1, none⟩ = some (.int .i64 a.place) := by simp [World.cell?, A5]
  have a5c2 : w5.cell? ⟨N + 1, 2, none⟩ = some (.bool a.cut) := by simp [World.cell?, A5]
  have F2 : Hid (PWWait w N (.cells #[.string sure, .slice (some ⟨y2, 0, none⟩) (bs.length + 1) z2] 86 (0, 0)) (.cells #[.string ⟨#[]⟩, .slice none 0 0] 86) (bs.flatMap Bit.cells ++ Bit.cells a) bs.length y2 z2 (w2.setCell ⟨N, 1, none⟩ (.slice (some ⟨y2, 0, none⟩) (bs.length + 1) z2))) := Lib.hid ⟨Joins.block_setCell D2 _, (Below.heap_setCell _ _ _ _ (show N + 1 + 1 ≠ N by omega)).trans Z2, Below.setCell (BB.trans ((below_undrew p2.2).mono (show N ≤ N + 1 + 1 + 1 by omega))) (Nat.le_refl _) _, ownsRow_setCell_below p2.1 (show N < N + 1 + 1 + 1 by omega) _⟩
  have ec2 : w2.cell? ⟨N, 1, none⟩ = some (.slice bo bn bk) := by simp [World.cell?, D2]
  have ef2 : w2.frozen? ⟨N, 1, none⟩ = false := by simp [World.frozen?, D2]
  have F4 : Hid (PWWait w N (.cells #[.string sure, .slice (some ⟨y4, 0, none⟩) (bs.length + 1) z4] 86 (0, 0)) (.cells #[.string ⟨#[]⟩, .slice none 0 0] 86) (bs.flatMap Bit.cells ++ Bit.cells a) bs.length y4 z4 (w4.setCell ⟨N, 1, none⟩ (.slice (some ⟨y4, 0, none⟩) (bs.length + 1) z4))) := Lib.hid ⟨Joins.block_setCell D4 _, (Below.heap_setCell _ _ _ _ (show N + 1 + 1 ≠ N by omega)).trans Z4, Below.setCell (BB.trans ((below_undrew p4.2).mono (show N ≤ N + 1 + 1 + 1 by omega))) (Nat.le_refl _) _, ownsRow_setCell_below p4.1 (show N < N + 1 + 1 + 1 by omega) _⟩
  have ec4 : w4.cell? ⟨N, 1, none⟩ = some (.slice bo bn bk) := by simp [World.cell?, D4]
  have ef4 : w4.frozen? ⟨N, 1, none⟩ = false := by simp [World.frozen?, D4]
  have F6 : Hid (PWWait w N (.cells #[.string sure, .slice (some ⟨y6, 0, none⟩) (bs.length + 1) z6] 86 (0, 0)) (.cells #[.string ⟨#[]⟩, .slice none 0 0] 86) (bs.flatMap Bit.cells ++ Bit.cells a) bs.length y6 z6 (w6.setCell ⟨N, 1, none⟩ (.slice (some ⟨y6, 0, none⟩) (bs.length + 1) z6))) := Lib.hid ⟨Joins.block_setCell D6 _, (Below.heap_setCell _ _ _ _ (show N + 1 + 1 ≠ N by omega)).trans Z6, Below.setCell (BB.trans ((below_undrew p6.2).mono (show N ≤ N + 1 + 1 + 1 by omega))) (Nat.le_refl _) _, ownsRow_setCell_below p6.1 (show N < N + 1 + 1 + 1 by omega) _⟩
  have ec6 : w6.cell? ⟨N, 1, none⟩ = some (.slice bo bn bk) := by simp [World.cell?, D6]
  have ef6 : w6.frozen? ⟨N, 1, none⟩ = false := by simp [World.frozen?, D6]
  clear BB B0 B1 B2 D2 D4 D6 Z2 Z4 Z6 A1 A3 A5 r1 r2 r3 r4 r5 r6 p2 p4 p6 b1 b3 b5 hva h hi0 hz0 hz1 hz2
  go_enter Tryz.func63, Tryz.ntmps63
  go_wp2_with fail
  go_cut [11] (fun v11 wx => ∃ y z, Hid (PWWait w N (.cells #[.string sure, .slice (some ⟨y, 0, none⟩) (bs.length + 1) z] 86 (0, 0)) (.cells #[.string ⟨#[]⟩, .slice none 0 0] 86) (bs.flatMap Bit.cells ++ Bit.cells a) bs.length y z wx))
  case first =>
    go_region_law (first
      | (refine step_append_eq (by rfl) _ _ _ (by rfl) (v := .slice (some ⟨N + 1 + 1 + 1, 0, none⟩) 0 0) (u := (.slice bo bn bk)) (by rfl) (by rfl) (by with_reducible exact R1.out) ?_)
      | (refine step_append_eq (by rfl) _ _ _ (by rfl) (v := v1) (u := .slice (some ⟨w1.heap.size, 0, none⟩) 1 1) (by rfl) (by rfl) (by with_reducible exact R2.out) ?_; have HFF := F2; clear R1 R2 R3 R4 R5 R6 F2 F4 F6 qc0 qc1 ac0 ac1 ac2 a1c0 a1c1 a1c2 a3c0 a3c1 a3c2 a5c0 a5c1 a5c2 ec4 ef4 ec6 ef6)
      | (refine step_append_eq (by rfl) _ _ _ (by rfl) (v := .slice (some ⟨N + 1 + 1 + 1, 0, none⟩) 0 0) (u := (.slice bo bn bk)) (by rfl) (by rfl) (by with_reducible exact R3.out) ?_)
      | (refine step_append_eq (by rfl) _ _ _ (by rfl) (v := v3) (u := .slice (some ⟨N + 1 + 1 + 1 + 1, 0, none⟩) 1 1) (by rfl) (by rfl) (by with_reducible exact R4.out) ?_; have HFF := F4; clear R1 R2 R3 R4 R5 R6 F2 F4 F6 qc0 qc1 ac0 ac1 ac2 a1c0 a1c1 a1c2 a3c0 a3c1 a3c2 a5c0 a5c1 a5c2 ec2 ef2 ec6 ef6)
      | (refine step_append_eq (by rfl) _ _ _ (by rfl) (v := .slice (some ⟨N + 1 + 1 + 1 + 1, 0, none⟩) 0 0) (u := (.slice bo bn bk)) (by rfl) (by rfl) (by with_reducible exact R5.out) ?_)
      | (refine step_append_eq (by rfl) _ _ _ (by rfl) (v := v5) (u := .slice (some ⟨N + 1 + 1 + 1, 0, none⟩) 1 1) (by rfl) (by rfl) (by with_reducible exact R6.out) ?_; have HFF := F6; clear R1 R2 R3 R4 R5 R6 F2 F4 F6 qc0 qc1 ac0 ac1 ac2 a1c0 a1c1 a1c2 a3c0 a3c1 a3c2 a5c0 a5c1 a5c2 ec2 ef2 ec4 ef4)
      | fail)
    all_goals
      refine (‹∀ (a' : Act) (w' : World), Met _ a' w' → _› _ _ ?_)
      go_meet
      exact ⟨_, _, HFF⟩
  case rest =>
    obtain ⟨y, z, HPW⟩ := hcut
    obtain ⟨D, Z, B, O⟩ := HPW.out
    have HB := Lib.hid B
    have HO := Lib.hid O
    have dc0 : wc.cell? ⟨N, 0, none⟩ = some (.string sure) := by simp [World.cell?, D]
    have dc1 : wc.cell? ⟨N, 1, none⟩ = some (.slice (some ⟨y, 0, none⟩) (bs.length + 1) z) := by simp [World.cell?, D]
    have zc0 : wc.cell? ⟨N + 1 + 1, 0, none⟩ = some (.string ⟨#[]⟩) := by simp [World.cell?, Z]
    have zf0 : wc.frozen? ⟨N + 1 + 1, 0, none⟩ = false := by simp [World.frozen?, Z]
    have zc1 : wc.cell? ⟨N + 1 + 1, 1, none⟩ = some (.slice none 0 0) := by simp [World.cell?, Z]
    have zf1 : wc.frozen? ⟨N + 1 + 1, 1, none⟩ = false := by simp [World.frozen?, Z]
    clear D Z B O HPW R1 R2 R3 R4 R5 R6 F2 F4 F6 qc0 qc1 ac0 ac1 ac2 a1c0 a1c1 a1c2 a3c0 a3c1 a3c2 a5c0 a5c1 a5c2 ec2 ef2 ec4 ef4 ec6 ef6
    go_wp2_with fail
    refine bodyPost_ret (v := .agg #[.string sure, .slice (some ⟨y, 0, none⟩) (bs.length + 1) z]) (by simp [results, Tryz.results63, go_sem, zc0, zc1]) rfl ⟨_, rfl, ?_, ?_⟩
    · refine own_to0 (N := N + 1 + 1 + 1) ?_; rw [List.length_append, List.length_singleton, List.flatMap_append, flatMap_one]; repeat first | with_reducible exact HO.out | with_reducible refine ownsRow_setCell_below ?_ (show N + 1 + 1 < N + 1 + 1 + 1 from Nat.lt_succ_self _) _
    · rw [hN]; repeat first | with_reducible exact HB.out | with_reducible refine Below.setCell ?_ (show N ≤ N + 1 + 1 from Nat.le_add_right N 2) _
end Go.Proofs.YthfcmgbkhjnfjaaGreatDoor
