/- The law's do: sync. The law's do: rename. The law's do: remove. -/
import Derived.Test.YthfcmgbkhjnfjaaGreatDoorVP
import Derived.Deep.RegionWith
import Derived.Deep.CutBlock
import Derived.Deep.CutRange
namespace Go.Proofs.YthfcmgbkhjnfjaaGreatDoor
open Go.RowKit Go.Maps

set_option maxRecDepth 20000 in
set_option maxHeartbeats 6400000 in
theorem do_sync (n : Int) (nm tx : ByteArray) (ko : Option Addr) (kn kc : Nat) (w : World) (ρ : Col) (b : Nat) (D : Dk) (S : Sh) (h : IsDisk w ρ b D) (hr : IsD w D S) (ho : DoOk D nm tx) :
    Calls Tryz.prog 9 #[.pointer (some ⟨b, 0, none⟩), dv D S, .agg #[.int .i64 4, .int .i64 n, .string nm, .string tx, .slice ko kn kc]] w (DoP w ρ b (D.sync nm).2) := by
  obtain ⟨hnm, htx, ok, hu, hr0, hr1⟩ := ho
  obtain ⟨N, hN⟩ : ∃ N, w.heap.size = N := ⟨_, rfl⟩
  obtain ⟨W0, hW0⟩ : ∃ W0, ((w.alloc (.cells #[.int .i64 D.room, .slice S.fo S.fn S.fc, .slice S.so S.sn S.sc, .slice S.wo S.wn S.wk, .int .i64 D.units, .int .i64 D.left, .bool D.armed, .bool D.gone, .slice S.ao S.an S.ac] 37)).alloc (.cells #[.int .i64 4, .int .i64 n, .string nm, .string tx, .slice ko kn kc] 40)).alloc (.cells #[.int .i64 0, .slice none 0 0, .slice none 0 0, .slice none 0 0, .int .i64 0, .int .i64 0, .bool false, .bool false, .slice none 0 0] 37) = W0 := ⟨_, rfl⟩
  obtain ⟨B0, B1, B2, BB, hsz⟩ := box_three hW0 hN
  have X0 : Hid (DoBx w N (dc D S) (oc 4 n nm tx ko kn kc) W0) := Lib.hid ⟨B0, B1, B2⟩
  have hBB : Below w.heap.size w W0 := by rw [hN]; exact BB
  have hI0 := hr.below hBB
  obtain ⟨ρ₀, ⟨L, hL⟩, ht₀, hl₀⟩ := (h.below hBB).shrink
  have HT := Lib.hid (fun D1 w1 (hT : Turned W0 ρ₀ b D1 w1) => X0.out.turned (D := D) (S := S) hN h.fits' hBB hl₀ ht₀ hI0 hT)
  have OK := Lib.hid ok
  have PC := Lib.hid (sync_any nm hnm W0 ρ₀ b D L hL ok)
  have RC := Lib.hid (fun w1 (hI : IsD w1 D S) => sync_S nm (by omega) D S w1 hI ok)
  obtain ⟨k, hk⟩ : ∃ k, (D.sync nm).1 = k := ⟨_, rfl⟩
  obtain ⟨D1, hD1⟩ : ∃ D1, (D.sync nm).2 = D1 := ⟨_, rfl⟩
  have hk12 : k ≤ 12 := by rw [← hk]; exact sync_le D nm
  rw [hk, hD1] at PC RC
  rw [hD1]
  clear hk hD1 hL ht₀ hl₀ hI0 hBB B0 B1 B2 BB h hr ok hu hr0 hr1
  obtain ⟨⟨q0, q1, q2, q3, q4, q5, q6, q7, q8⟩, -⟩ := X0.out.c0
  obtain ⟨o0, o1, o2, o3, o4⟩ := X0.out.c1
  unfold dv at RC ⊢
  go_enter Tryz.func9, Tryz.ntmps9
  go_upto_block 0 with fail
  clear hW0
  go_cut [8, 9, 10] from 11 to 169 (fun v8 v9 v10 wx => v8 = errV k ∧ v9 = .int .i64 k ∧ v10 = .bool true ∧ ∃ S2, Hid (DoBx w N (dc D1 S2) (oc 4 n nm tx ko kn kc) wx ∧ Pair w ρ b D1 S2 wx))
  case first =>
    go_wp2_with fail
    refine PC.out.mono ?_
    rintro e w1 ⟨rfl, T1⟩
    obtain ⟨hX1, hI1, hP1⟩ := HT.out _ _ T1
    have X1 := Lib.hid hX1
    have RC1 := Lib.hid (RC.out w1 hI1)
    have HP1 := Lib.hid hP1
    clear hX1 hI1 hP1 T1 PC HT X0 RC q0 q1 q2 q3 q4 q5 q6 q7 q8 o0 o1 o2 o3 o4
    obtain ⟨⟨q0, q1, q2, q3, q4, q5, q6, q7, q8⟩, -⟩ := X1.out.c0
    obtain ⟨o0, o1, o2, o3, o4⟩ := X1.out.c1
    go_wp2_with fail
    refine RC1.out.mono ?_
    rintro e w2 ⟨S2, rfl, hI2, hb2⟩
    have HF := Lib.hid ((X1.out.below hb2).disk hN (HP1.out S2 w2 hI2 hb2))
    obtain ⟨⟨d0, d1, d2, d3, d4, d5, d6, d7, d8⟩, e0, e1, e2, e3, e4, e5, e6, e7, e8⟩ := (X1.out.below hb2).c0
    clear hI2 hb2 RC1 X1 HP1 q0 q1 q2 q3 q4 q5 q6 q7 q8 o0 o1 o2 o3 o4
    go_wp2_with fail
    go_meet
    exact ⟨rfl, rfl, rfl, S2, HF⟩
  case rest =>
    obtain ⟨rfl, rfl, rfl, S2, HF⟩ := hcut
    clear PC HT X0 RC q0 q1 q2 q3 q4 q5 q6 q7 q8 o0 o1 o2 o3 o4
    have FI := Lib.hid (HF.out.1.done hN HF.out.2)
    have NM := Lib.hid (num_any k hk12)
    obtain ⟨⟨c0, c1, c2, c3, c4, c5, c6, c7, c8⟩, -⟩ := HF.out.1.c0
    obtain ⟨⟨z0, z1, z2, z3, z4, z5, z6, z7, z8⟩, y0, y1, y2, y3, y4, y5, y6, y7, y8⟩ := HF.out.1.c2
    clear HF
    go_wp2_with fail
    first | go_region_with (go_at_call 28; refine (NM.out _).mono ?_; rintro e w' ⟨rfl, rfl⟩) | fail
    all_goals
      go_wp2_with fail
      refine bodyPost_ret (v := .tuple #[.agg #[.int .i64 D1.room, .slice S2.fo S2.fn S2.fc, .slice S2.so S2.sn S2.sc, .slice S2.wo S2.wn S2.wk, .int .i64 D1.units, .int .i64 D1.left, .bool D1.armed, .bool D1.gone, .slice S2.ao S2.an S2.ac], .bool true]) (by simp [results, Tryz.results9, go_sem, z0, z1, z2, z3, z4, z5, z6, z7, z8]) rfl (FI.out _ rfl)
end Go.Proofs.YthfcmgbkhjnfjaaGreatDoor

namespace Go.Proofs.YthfcmgbkhjnfjaaGreatDoor
open Go.RowKit Go.Maps

set_option maxRecDepth 20000 in
set_option maxHeartbeats 6400000 in
theorem do_rename (n : Int) (nm tx : ByteArray) (ko : Option Addr) (kn kc : Nat) (w : World) (ρ : Col) (b : Nat) (D : Dk) (S : Sh) (h : IsDisk w ρ b D) (hr : IsD w D S) (ho : DoOk D nm tx) :
    Calls Tryz.prog 9 #[.pointer (some ⟨b, 0, none⟩), dv D S, .agg #[.int .i64 5, .int .i64 n, .string nm, .string tx, .slice ko kn kc]] w (DoP w ρ b (D.rename nm tx).2) := by
  obtain ⟨hnm, htx, ok, hu, hr0, hr1⟩ := ho
  obtain ⟨N, hN⟩ : ∃ N, w.heap.size = N := ⟨_, rfl⟩
  obtain ⟨W0, hW0⟩ : ∃ W0, ((w.alloc (.cells #[.int .i64 D.room, .slice S.fo S.fn S.fc, .slice S.so S.sn S.sc, .slice S.wo S.wn S.wk, .int .i64 D.units, .int .i64 D.left, .bool D.armed, .bool D.gone, .slice S.ao S.an S.ac] 37)).alloc (.cells #[.int .i64 5, .int .i64 n, .string nm, .string tx, .slice ko kn kc] 40)).alloc (.cells #[.int .i64 0, .slice none 0 0, .slice none 0 0, .slice none 0 0, .int .i64 0, .int .i64 0, .bool false, .bool false, .slice none 0 0] 37) = W0 := ⟨_, rfl⟩
  obtain ⟨B0, B1, B2, BB, hsz⟩ := box_three hW0 hN
  have X0 : Hid (DoBx w N (dc D S) (oc 5 n nm tx ko kn kc) W0) := Lib.hid ⟨B0, B1, B2⟩
  have hBB : Below w.heap.size w W0 := by rw [hN]; exact BB
  have hI0 := hr.below hBB
  obtain ⟨ρ₀, ⟨L, hL⟩, ht₀, hl₀⟩ := (h.below hBB).shrink
  have HT := Lib.hid (fun D1 w1 (hT : Turned W0 ρ₀ b D1 w1) => X0.out.turned (D := D) (S := S) hN h.fits' hBB hl₀ ht₀ hI0 hT)
  have OK := Lib.hid ok
  have PC := Lib.hid (rename_any nm tx hnm htx W0 ρ₀ b D L hL ok)
  have RC := Lib.hid (fun w1 (hI : IsD w1 D S) => rename_S nm tx (by omega) (by omega) D S w1 hI ok)
  obtain ⟨k, hk⟩ : ∃ k, (D.rename nm tx).1 = k := ⟨_, rfl⟩
  obtain ⟨D1, hD1⟩ : ∃ D1, (D.rename nm tx).2 = D1 := ⟨_, rfl⟩
  have hk12 : k ≤ 12 := by rw [← hk]; exact rename_le D nm tx
  rw [hk, hD1] at PC RC
  rw [hD1]
  clear hk hD1 hL ht₀ hl₀ hI0 hBB B0 B1 B2 BB h hr ok hu hr0 hr1
  obtain ⟨⟨q0, q1, q2, q3, q4, q5, q6, q7, q8⟩, -⟩ := X0.out.c0
  obtain ⟨o0, o1, o2, o3, o4⟩ := X0.out.c1
  unfold dv at RC ⊢
  go_enter Tryz.func9, Tryz.ntmps9
  go_upto_block 0 with fail
  clear hW0
  go_cut [8, 9, 10] from 11 to 169 (fun v8 v9 v10 wx => v8 = errV k ∧ v9 = .int .i64 k ∧ v10 = .bool true ∧ ∃ S2, Hid (DoBx w N (dc D1 S2) (oc 5 n nm tx ko kn kc) wx ∧ Pair w ρ b D1 S2 wx))
  case first =>
    go_wp2_with fail
    refine PC.out.mono ?_
    rintro e w1 ⟨rfl, T1⟩
    obtain ⟨hX1, hI1, hP1⟩ := HT.out _ _ T1
    have X1 := Lib.hid hX1
    have RC1 := Lib.hid (RC.out w1 hI1)
    have HP1 := Lib.hid hP1
    clear hX1 hI1 hP1 T1 PC HT X0 RC q0 q1 q2 q3 q4 q5 q6 q7 q8 o0 o1 o2 o3 o4
    obtain ⟨⟨q0, q1, q2, q3, q4, q5, q6, q7, q8⟩, -⟩ := X1.out.c0
    obtain ⟨o0, o1, o2, o3, o4⟩ := X1.out.c1
    go_wp2_with fail
    refine RC1.out.mono ?_
    rintro e w2 ⟨S2, rfl, hI2, hb2⟩
    have HF := Lib.hid ((X1.out.below hb2).disk hN (HP1.out S2 w2 hI2 hb2))
    obtain ⟨⟨d0, d1, d2, d3, d4, d5, d6, d7, d8⟩, e0, e1, e2, e3, e4, e5, e6, e7, e8⟩ := (X1.out.below hb2).c0
    clear hI2 hb2 RC1 X1 HP1 q0 q1 q2 q3 q4 q5 q6 q7 q8 o0 o1 o2 o3 o4
    go_wp2_with fail
    go_meet
    exact ⟨rfl, rfl, rfl, S2, HF⟩
  case rest =>
    obtain ⟨rfl, rfl, rfl, S2, HF⟩ := hcut
    clear PC HT X0 RC q0 q1 q2 q3 q4 q5 q6 q7 q8 o0 o1 o2 o3 o4
    have FI := Lib.hid (HF.out.1.done hN HF.out.2)
    have NM := Lib.hid (num_any k hk12)
    obtain ⟨⟨c0, c1, c2, c3, c4, c5, c6, c7, c8⟩, -⟩ := HF.out.1.c0
    obtain ⟨⟨z0, z1, z2, z3, z4, z5, z6, z7, z8⟩, y0, y1, y2, y3, y4, y5, y6, y7, y8⟩ := HF.out.1.c2
    clear HF
    go_wp2_with fail
    first | go_region_with (go_at_call 28; refine (NM.out _).mono ?_; rintro e w' ⟨rfl, rfl⟩) | fail
    all_goals
      go_wp2_with fail
      refine bodyPost_ret (v := .tuple #[.agg #[.int .i64 D1.room, .slice S2.fo S2.fn S2.fc, .slice S2.so S2.sn S2.sc, .slice S2.wo S2.wn S2.wk, .int .i64 D1.units, .int .i64 D1.left, .bool D1.armed, .bool D1.gone, .slice S2.ao S2.an S2.ac], .bool true]) (by simp [results, Tryz.results9, go_sem, z0, z1, z2, z3, z4, z5, z6, z7, z8]) rfl (FI.out _ rfl)
end Go.Proofs.YthfcmgbkhjnfjaaGreatDoor

namespace Go.Proofs.YthfcmgbkhjnfjaaGreatDoor
open Go.RowKit Go.Maps

set_option maxRecDepth 20000 in
set_option maxHeartbeats 6400000 in
theorem do_remove (n : Int) (nm tx : ByteArray) (ko : Option Addr) (kn kc : Nat) (w : World) (ρ : Col) (b : Nat) (D : Dk) (S : Sh) (h : IsDisk w ρ b D) (hr : IsD w D S) (ho : DoOk D nm tx) :
    Calls Tryz.prog 9 #[.pointer (some ⟨b, 0, none⟩), dv D S, .agg #[.int .i64 6, .int .i64 n, .string nm, .string tx, .slice ko kn kc]] w (DoP w ρ b (D.remove nm).2) := by
  obtain ⟨hnm, htx, ok, hu, hr0, hr1⟩ := ho
  obtain ⟨N, hN⟩ : ∃ N, w.heap.size = N := ⟨_, rfl⟩
  obtain ⟨W0, hW0⟩ : ∃ W0, ((w.alloc (.cells #[.int .i64 D.room, .slice S.fo S.fn S.fc, .slice S.so S.sn S.sc, .slice S.wo S.wn S.wk, .int .i64 D.units, .int .i64 D.left, .bool D.armed, .bool D.gone, .slice S.ao S.an S.ac] 37)).alloc (.cells #[.int .i64 6, .int .i64 n, .string nm, .string tx, .slice ko kn kc] 40)).alloc (.cells #[.int .i64 0, .slice none 0 0, .slice none 0 0, .slice none 0 0, .int .i64 0, .int .i64 0, .bool false, .bool false, .slice none 0 0] 37) = W0 := ⟨_, rfl⟩
  obtain ⟨B0, B1, B2, BB, hsz⟩ := box_three hW0 hN
  have X0 : Hid (DoBx w N (dc D S) (oc 6 n nm tx ko kn kc) W0) := Lib.hid ⟨B0, B1, B2⟩
  have hBB : Below w.heap.size w W0 := by rw [hN]; exact BB
  have hI0 := hr.below hBB
  obtain ⟨ρ₀, ⟨L, hL⟩, ht₀, hl₀⟩ := (h.below hBB).shrink
  have HT := Lib.hid (fun D1 w1 (hT : Turned W0 ρ₀ b D1 w1) => X0.out.turned (D := D) (S := S) hN h.fits' hBB hl₀ ht₀ hI0 hT)
  have OK := Lib.hid ok
  have PC := Lib.hid (remove_any nm hnm W0 ρ₀ b D L hL ok)
  have RC := Lib.hid (fun w1 (hI : IsD w1 D S) => remove_S nm (by omega) D S w1 hI ok)
  obtain ⟨k, hk⟩ : ∃ k, (D.remove nm).1 = k := ⟨_, rfl⟩
  obtain ⟨D1, hD1⟩ : ∃ D1, (D.remove nm).2 = D1 := ⟨_, rfl⟩
  have hk12 : k ≤ 12 := by rw [← hk]; exact remove_le D nm
  rw [hk, hD1] at PC RC
  rw [hD1]
  clear hk hD1 hL ht₀ hl₀ hI0 hBB B0 B1 B2 BB h hr ok hu hr0 hr1
  obtain ⟨⟨q0, q1, q2, q3, q4, q5, q6, q7, q8⟩, -⟩ := X0.out.c0
  obtain ⟨o0, o1, o2, o3, o4⟩ := X0.out.c1
  unfold dv at RC ⊢
  go_enter Tryz.func9, Tryz.ntmps9
  go_upto_block 0 with fail
  clear hW0
  go_cut [8, 9, 10] from 11 to 169 (fun v8 v9 v10 wx => v8 = errV k ∧ v9 = .int .i64 k ∧ v10 = .bool true ∧ ∃ S2, Hid (DoBx w N (dc D1 S2) (oc 6 n nm tx ko kn kc) wx ∧ Pair w ρ b D1 S2 wx))
  case first =>
    go_wp2_with fail
    refine PC.out.mono ?_
    rintro e w1 ⟨rfl, T1⟩
    obtain ⟨hX1, hI1, hP1⟩ := HT.out _ _ T1
    have X1 := Lib.hid hX1
    have RC1 := Lib.hid (RC.out w1 hI1)
    have HP1 := Lib.hid hP1
    clear hX1 hI1 hP1 T1 PC HT X0 RC q0 q1 q2 q3 q4 q5 q6 q7 q8 o0 o1 o2 o3 o4
    obtain ⟨⟨q0, q1, q2, q3, q4, q5, q6, q7, q8⟩, -⟩ := X1.out.c0
    obtain ⟨o0, o1, o2, o3, o4⟩ := X1.out.c1
    go_wp2_with fail
    refine RC1.out.mono ?_
    rintro e w2 ⟨S2, rfl, hI2, hb2⟩
    have HF := Lib.hid ((X1.out.below hb2).disk hN (HP1.out S2 w2 hI2 hb2))
    obtain ⟨⟨d0, d1, d2, d3, d4, d5, d6, d7, d8⟩, e0, e1, e2, e3, e4, e5, e6, e7, e8⟩ := (X1.out.below hb2).c0
    clear hI2 hb2 RC1 X1 HP1 q0 q1 q2 q3 q4 q5 q6 q7 q8 o0 o1 o2 o3 o4
    go_wp2_with fail
    go_meet
    exact ⟨rfl, rfl, rfl, S2, HF⟩
  case rest =>
    obtain ⟨rfl, rfl, rfl, S2, HF⟩ := hcut
    clear PC HT X0 RC q0 q1 q2 q3 q4 q5 q6 q7 q8 o0 o1 o2 o3 o4
    have FI := Lib.hid (HF.out.1.done hN HF.out.2)
    have NM := Lib.hid (num_any k hk12)
    obtain ⟨⟨c0, c1, c2, c3, c4, c5, c6, c7, c8⟩, -⟩ := HF.out.1.c0
    obtain ⟨⟨z0, z1, z2, z3, z4, z5, z6, z7, z8⟩, y0, y1, y2, y3, y4, y5, y6, y7, y8⟩ := HF.out.1.c2
    clear HF
    go_wp2_with fail
    first | go_region_with (go_at_call 28; refine (NM.out _).mono ?_; rintro e w' ⟨rfl, rfl⟩) | fail
    all_goals
      go_wp2_with fail
      refine bodyPost_ret (v := .tuple #[.agg #[.int .i64 D1.room, .slice S2.fo S2.fn S2.fc, .slice S2.so S2.sn S2.sc, .slice S2.wo S2.wn S2.wk, .int .i64 D1.units, .int .i64 D1.left, .bool D1.armed, .bool D1.gone, .slice S2.ao S2.an S2.ac], .bool true]) (by simp [results, Tryz.results9, go_sem, z0, z1, z2, z3, z4, z5, z6, z7, z8]) rfl (FI.out _ rfl)
end Go.Proofs.YthfcmgbkhjnfjaaGreatDoor
