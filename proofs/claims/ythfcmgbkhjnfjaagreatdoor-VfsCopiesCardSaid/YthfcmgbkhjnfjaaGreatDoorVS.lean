/- The law's do: syncDir. The law's do: arm. -/
import Derived.Test.YthfcmgbkhjnfjaaGreatDoorVP
import Derived.Deep.RegionWith
import Derived.Deep.CutBlock
import Derived.Deep.CutRange
namespace Go.Proofs.YthfcmgbkhjnfjaaGreatDoor
open Go.RowKit Go.Maps

set_option maxRecDepth 20000 in
set_option maxHeartbeats 6400000 in
theorem do_syncDir (n : Int) (nm tx : ByteArray) (ko : Option Addr) (kn kc : Nat) (w : World) (ρ : Col) (b : Nat) (D : Dk) (S : Sh) (h : IsDisk w ρ b D) (hr : IsD w D S) (ho : DoOk D nm tx) :
    Calls Tryz.prog 9 #[.pointer (some ⟨b, 0, none⟩), dv D S, .agg #[.int .i64 7, .int .i64 n, .string nm, .string tx, .slice ko kn kc]] w (DoP w ρ b (D.syncDir).2) := by
  obtain ⟨hnm, htx, ok, hu, hr0, hr1⟩ := ho
  obtain ⟨N, hN⟩ : ∃ N, w.heap.size = N := ⟨_, rfl⟩
  obtain ⟨W0, hW0⟩ : ∃ W0, ((w.alloc (.cells #[.int .i64 D.room, .slice S.fo S.fn S.fc, .slice S.so S.sn S.sc, .slice S.wo S.wn S.wk, .int .i64 D.units, .int .i64 D.left, .bool D.armed, .bool D.gone, .slice S.ao S.an S.ac] 37)).alloc (.cells #[.int .i64 7, .int .i64 n, .string nm, .string tx, .slice ko kn kc] 40)).alloc (.cells #[.int .i64 0, .slice none 0 0, .slice none 0 0, .slice none 0 0, .int .i64 0, .int .i64 0, .bool false, .bool false, .slice none 0 0] 37) = W0 := ⟨_, rfl⟩
  obtain ⟨B0, B1, B2, BB, hsz⟩ := box_three hW0 hN
  have X0 : Hid (DoBx w N (dc D S) (oc 7 n nm tx ko kn kc) W0) := Lib.hid ⟨B0, B1, B2⟩
  have hBB : Below w.heap.size w W0 := by rw [hN]; exact BB
  have hI0 := hr.below hBB
  obtain ⟨ρ₀, ⟨L, hL⟩, ht₀, hl₀⟩ := (h.below hBB).shrink
  have HT := Lib.hid (fun D1 w1 (hT : Turned W0 ρ₀ b D1 w1) => X0.out.turned (D := D) (S := S) hN h.fits' hBB hl₀ ht₀ hI0 hT)
  have OK := Lib.hid ok
  have PC := Lib.hid (syncDir_any W0 ρ₀ b D L hL ok)
  have RC := Lib.hid (fun w1 (hI : IsD w1 D S) => syncDir_S D S w1 hI ok hu)
  obtain ⟨k, hk⟩ : ∃ k, (D.syncDir).1 = k := ⟨_, rfl⟩
  obtain ⟨D1, hD1⟩ : ∃ D1, (D.syncDir).2 = D1 := ⟨_, rfl⟩
  have hk12 : k ≤ 12 := by rw [← hk]; exact syncDir_le D
  rw [hk, hD1] at PC RC
  rw [hD1]
  clear hk hD1 hL ht₀ hl₀ hI0 hBB B0 B1 B2 BB h hr ok hu hr0 hr1
  obtain ⟨⟨q0, q1, q2, q3, q4, q5, q6, q7, q8⟩, -⟩ := X0.out.c0
  obtain ⟨o0, o1, o2, o3, o4⟩ := X0.out.c1
  unfold dv at RC ⊢
  go_enter Tryz.func9, Tryz.ntmps9
  go_upto_block 0 with fail
  clear hW0
  go_cut [8, 9, 10] from 11 to 169 (fun v8 v9 v10 wx => v8 = errV k ∧ v9 = .int .i64 k ∧ v10 = .bool true ∧ ∃ S2, Hid (DoBx w N (dc D1 S2) (oc 7 n nm tx ko kn kc) wx ∧ Pair w ρ b D1 S2 wx))
  case first =>
    go_wp2_with fail
    refine PC.out.mono ?_
    rintro e w1 ⟨rfl, T1⟩
    obtain ⟨hX1, hI1, hP1⟩ := HT.out _ _ T1
    have X1 := Lib.hid hX1
    have RC1 := Lib.hid (RC.out w1 hI1)
    have HP1 := Lib.hid hP1
    clear hX1 hI1 hP1 T1 PC HT X0 RC q0 q1 q2 q3 q4 q5 q6 q7 q8 o0 o1 o2 o3 o4
    obtain ⟨⟨q0, q1, q2, q3, q4, q5, q6, q7, q8⟩, -⟩ := X1.out.c0
    obtain ⟨o0, o1, o2, o3, o4⟩ := X1.out.c1
    go_wp2_with fail
    refine RC1.out.mono ?_
    rintro e w2 ⟨S2, rfl, hI2, hb2⟩
    have HF := Lib.hid ((X1.out.below hb2).disk hN (HP1.out S2 w2 hI2 hb2))
    obtain ⟨⟨d0, d1, d2, d3, d4, d5, d6, d7, d8⟩, e0, e1, e2, e3, e4, e5, e6, e7, e8⟩ := (X1.out.below hb2).c0
    clear hI2 hb2 RC1 X1 HP1 q0 q1 q2 q3 q4 q5 q6 q7 q8 o0 o1 o2 o3 o4
    go_wp2_with fail
    go_meet
    exact ⟨rfl, rfl, rfl, S2, HF⟩
  case rest =>
    obtain ⟨rfl, rfl, rfl, S2, HF⟩ := hcut
    clear PC HT X0 RC q0 q1 q2 q3 q4 q5 q6 q7 q8 o0 o1 o2 o3 o4
    have FI := Lib.hid (HF.out.1.done hN HF.out.2)
    have NM := Lib.hid (num_any k hk12)
    obtain ⟨⟨c0, c1, c2, c3, c4, c5, c6, c7, c8⟩, -⟩ := HF.out.1.c0
    obtain ⟨⟨z0, z1, z2, z3, z4, z5, z6, z7, z8⟩, y0, y1, y2, y3, y4, y5, y6, y7, y8⟩ := HF.out.1.c2
    clear HF
    go_wp2_with fail
    first | go_region_with (go_at_call 28; refine (NM.out _).mono ?_; rintro e w' ⟨rfl, rfl⟩) | fail
    all_goals
      go_wp2_with fail
      refine bodyPost_ret (v := .tuple #[.agg #[.int .i64 D1.room, .slice S2.fo S2.fn S2.fc, .slice S2.so S2.sn S2.sc, .slice S2.wo S2.wn S2.wk, .int .i64 D1.units, .int .i64 D1.left, .bool D1.armed, .bool D1.gone, .slice S2.ao S2.an S2.ac], .bool true]) (by simp [results, Tryz.results9, go_sem, z0, z1, z2, z3, z4, z5, z6, z7, z8]) rfl (FI.out _ rfl)
end Go.Proofs.YthfcmgbkhjnfjaaGreatDoor

namespace Go.Proofs.YthfcmgbkhjnfjaaGreatDoor
open Go.RowKit Go.Maps

theorem IsD.arm {w : World} {D : Dk} {S : Sh} (h : IsD w D S) (n : Int) : IsD w (D.arm n) S := let ⟨R, h1, h2⟩ := h.ex; ⟨R, h1, h2.like rfl rfl rfl rfl⟩
/-- Two stores into the reference's box. -/
theorem DoBx.arm {w : World} {N : Nat} {D : Dk} {S : Sh} {o : Array Value} {W : World} (h : DoBx w N (dc D S) o W) {ρ : Col} {b : Nat} (n : Int) (hN : w.heap.size = N) (hP : Pair w ρ b (D.arm n) S W) (W' : World)
    (hW : W' = ((W.setCell ⟨N, 6, none⟩ (.bool true)).setCell ⟨N, 5, none⟩ (.int .i64 n)).drew ∨ W' = ((W.setCell ⟨N, 5, none⟩ (.int .i64 n)).setCell ⟨N, 6, none⟩ (.bool true)).drew) : DoBx w N (dc (D.arm n) S) o W' ∧ Pair w ρ b (D.arm n) S W' := by
  have key : ∀ (W2 : World), W2.heap[N]? = some (.cells (dc (D.arm n) S) 37 (0, 0)) → Below N W W2 → (∀ g, g ≠ N → W2.heap[g]? = W.heap[g]?) → DoBx w N (dc (D.arm n) S) o W2 ∧ Pair w ρ b (D.arm n) S W2 := fun W2 h0 hb hk =>
    ⟨⟨h0, (hk _ (by omega)).trans h.b1, (hk _ (by omega)).trans h.b2⟩, hP.set (Nat.le_of_eq hN) h.b0 hb hk⟩
  rcases hW with rfl | rfl
  · exact key _ (set_one (i := 5) (set_one (i := 6) h.b0 (.bool true) rfl) (.int .i64 n) rfl) (((Below.refl N W).setCell (p := ⟨N, 6, none⟩) (Nat.le_refl _) _).setCell (p := ⟨N, 5, none⟩) (Nat.le_refl _) _).drew fun g hg => (Below.heap_setCell (W.setCell ⟨N, 6, none⟩ (.bool true)) ⟨N, 5, none⟩ _ g hg).trans (Below.heap_setCell W ⟨N, 6, none⟩ _ g hg)
  · exact key _ (set_one (i := 6) (set_one (i := 5) h.b0 (.int .i64 n) rfl) (.bool true) rfl) (((Below.refl N W).setCell (p := ⟨N, 5, none⟩) (Nat.le_refl _) _).setCell (p := ⟨N, 6, none⟩) (Nat.le_refl _) _).drew fun g hg => (Below.heap_setCell (W.setCell ⟨N, 5, none⟩ (.int .i64 n)) ⟨N, 6, none⟩ _ g hg).trans (Below.heap_setCell W ⟨N, 5, none⟩ _ g hg)
set_option maxRecDepth 20000 in
set_option maxHeartbeats 6400000 in
theorem do_arm (n : Int) (nm tx : ByteArray) (ko : Option Addr) (kn kc : Nat) (w : World) (ρ : Col) (b : Nat) (D : Dk) (S : Sh) (h : IsDisk w ρ b D) (hr : IsD w D S) (ho : DoOk D nm tx) :
    Calls Tryz.prog 9 #[.pointer (some ⟨b, 0, none⟩), dv D S, .agg #[.int .i64 8, .int .i64 n, .string nm, .string tx, .slice ko kn kc]] w (DoP w ρ b (if n < 0 then D else D.arm n)) := by
  obtain ⟨hnm, htx, ok, hu, hr0, hr1⟩ := ho
  obtain ⟨N, hN⟩ : ∃ N, w.heap.size = N := ⟨_, rfl⟩
  obtain ⟨W0, hW0⟩ : ∃ W0, ((w.alloc (.cells #[.int .i64 D.room, .slice S.fo S.fn S.fc, .slice S.so S.sn S.sc, .slice S.wo S.wn S.wk, .int .i64 D.units, .int .i64 D.left, .bool D.armed, .bool D.gone, .slice S.ao S.an S.ac] 37)).alloc (.cells #[.int .i64 8, .int .i64 n, .string nm, .string tx, .slice ko kn kc] 40)).alloc (.cells #[.int .i64 0, .slice none 0 0, .slice none 0 0, .slice none 0 0, .int .i64 0, .int .i64 0, .bool false, .bool false, .slice none 0 0] 37) = W0 := ⟨_, rfl⟩
  obtain ⟨B0, B1, B2, BB, hsz⟩ := box_three hW0 hN
  have X0 : Hid (DoBx w N (dc D S) (oc 8 n nm tx ko kn kc) W0) := Lib.hid ⟨B0, B1, B2⟩
  have hBB : Below w.heap.size w W0 := by rw [hN]; exact BB
  have hI0 := hr.below hBB
  obtain ⟨ρ₀, ⟨L, hL⟩, ht₀, hl₀⟩ := (h.below hBB).shrink
  have HT := Lib.hid (fun D1 w1 (hT : Turned W0 ρ₀ b D1 w1) => X0.out.turned (D := D) (S := S) hN h.fits' hBB hl₀ ht₀ hI0 hT)
  have OK := Lib.hid ok
  have HP0 := Lib.hid ((Pair.start h hr).below hBB)
  have hbl := (h.below hBB).lt
  have AB := Lib.hid (fun h0 => arm_bad n h0 W0 b)
  have AO : Hid (0 ≤ n → Calls Tryz.prog 22 #[.pointer (some ⟨b, 0, none⟩), .int .i64 n] W0 fun e w' => e = .returned .nilIface ∧ Turned W0 ρ₀ b (D.arm n) w') := Lib.hid (fun h0 => (arm_ok n h0 W0 ρ₀ b D L hL).mono fun e w' p => ⟨p.1, ρ₀, ⟨L, p.2.1⟩, Ext.refl _ _, p.2.2.wide⟩)
  clear hL ht₀ hl₀ hI0 hBB B0 B1 B2 BB h hr ok hu hr0 hr1 hbl
  obtain ⟨⟨q0, q1, q2, q3, q4, q5, q6, q7, q8⟩, -⟩ := X0.out.c0
  obtain ⟨o0, o1, o2, o3, o4⟩ := X0.out.c1
  unfold dv
  go_enter Tryz.func9, Tryz.ntmps9
  go_upto_block 0 with fail
  clear hW0
  by_cases hn0 : n < 0
  · rw [if_pos hn0]
    have hd : decide (n < 0) = true := decide_eq_true hn0
    go_cut [8, 9, 10] from 11 to 169 (fun v8 v9 v10 wx => v8 = errV 1 ∧ v9 = .int .i64 (1 : Nat) ∧ v10 = .bool true ∧ ∃ S2, Hid (DoBx w N (dc D S2) (oc 8 n nm tx ko kn kc) wx ∧ Pair w ρ b D S2 wx))
    case first =>
      have HF := Lib.hid (And.intro X0.out HP0.out)
      have A := Lib.hid (AB.out hn0)
      clear AB AO HT HP0 X0 hn0
      go_wp2_with fail
      refine A.out.mono ?_
      rintro e w1 ⟨rfl, rfl⟩
      go_wp2_with fail
      go_meet
      exact ⟨rfl, rfl, rfl, S, HF⟩
    case rest =>
      obtain ⟨rfl, rfl, rfl, S2, HF⟩ := hcut
      clear AB AO HT HP0 X0 q0 q1 q2 q3 q4 q5 q6 q7 q8 o0 o1 o2 o3 o4 hd
      have FI := Lib.hid (HF.out.1.done hN HF.out.2)
      have NM := Lib.hid (num_any 1 (by decide))
      obtain ⟨⟨c0, c1, c2, c3, c4, c5, c6, c7, c8⟩, -⟩ := HF.out.1.c0
      obtain ⟨⟨z0, z1, z2, z3, z4, z5, z6, z7, z8⟩, y0, y1, y2, y3, y4, y5, y6, y7, y8⟩ := HF.out.1.c2
      clear HF
      go_wp2_with fail
      first | go_region_with (go_at_call 28; refine (NM.out _).mono ?_; rintro e w' ⟨rfl, rfl⟩) | fail
      all_goals
        go_wp2_with fail
        refine bodyPost_ret (v := .tuple #[.agg #[.int .i64 D.room, .slice S2.fo S2.fn S2.fc, .slice S2.so S2.sn S2.sc, .slice S2.wo S2.wn S2.wk, .int .i64 D.units, .int .i64 D.left, .bool D.armed, .bool D.gone, .slice S2.ao S2.an S2.ac], .bool true]) (by simp [results, Tryz.results9, go_sem, z0, z1, z2, z3, z4, z5, z6, z7, z8]) rfl (FI.out _ rfl)
  · rw [if_neg hn0]
    have hd : decide (n < 0) = false := decide_eq_false hn0
    go_cut [8, 9, 10] from 11 to 169 (fun v8 v9 v10 wx => v8 = errV 0 ∧ v9 = .int .i64 (0 : Nat) ∧ v10 = .bool true ∧ ∃ S2, Hid (DoBx w N (dc (D.arm n) S2) (oc 8 n nm tx ko kn kc) wx ∧ Pair w ρ b (D.arm n) S2 wx))
    case first =>
      have A := Lib.hid (AO.out (by omega))
      clear AB AO HP0 hn0
      go_wp2_with fail
      refine A.out.mono ?_
      rintro e w1 ⟨rfl, T1⟩
      obtain ⟨hX1, hI1, hP1⟩ := HT.out _ _ T1
      have HF := Lib.hid (hX1.arm n hN (hP1 S w1 (hI1.arm n) (Below.refl _ _)))
      clear q0 q1 q2 q3 q4 q5 q6 q7 q8 o0 o1 o2 o3 o4
      obtain ⟨⟨q0, q1, q2, q3, q4, q5, q6, q7, q8⟩, y0, y1, y2, y3, y4, y5, y6, y7, y8⟩ := hX1.c0
      obtain ⟨o0, o1, o2, o3, o4⟩ := hX1.c1
      clear hX1 hI1 hP1 T1 A HT X0
      go_wp2_with fail
      go_region
      all_goals
        go_wp2_with fail
        go_meet
        first | exact ⟨rfl, rfl, rfl, S, Lib.hid (HF.out _ (.inl rfl))⟩ | exact ⟨rfl, rfl, rfl, S, Lib.hid (HF.out _ (.inr rfl))⟩
    case rest =>
      obtain ⟨rfl, rfl, rfl, S2, HF⟩ := hcut
      clear AB AO HT HP0 X0 q0 q1 q2 q3 q4 q5 q6 q7 q8 o0 o1 o2 o3 o4 hd
      have FI := Lib.hid (HF.out.1.done hN HF.out.2)
      have NM := Lib.hid (num_any 0 (by decide))
      obtain ⟨⟨c0, c1, c2, c3, c4, c5, c6, c7, c8⟩, -⟩ := HF.out.1.c0
      obtain ⟨⟨z0, z1, z2, z3, z4, z5, z6, z7, z8⟩, y0, y1, y2, y3, y4, y5, y6, y7, y8⟩ := HF.out.1.c2
      clear HF
      go_wp2_with fail
      first | go_region_with (go_at_call 28; refine (NM.out _).mono ?_; rintro e w' ⟨rfl, rfl⟩) | fail
      all_goals
        go_wp2_with fail
        refine bodyPost_ret (v := .tuple #[.agg #[.int .i64 (D.arm n).room, .slice S2.fo S2.fn S2.fc, .slice S2.so S2.sn S2.sc, .slice S2.wo S2.wn S2.wk, .int .i64 (D.arm n).units, .int .i64 (D.arm n).left, .bool (D.arm n).armed, .bool (D.arm n).gone, .slice S2.ao S2.an S2.ac], .bool true]) (by simp [results, Tryz.results9, go_sem, z0, z1, z2, z3, z4, z5, z6, z7, z8]) rfl (FI.out _ rfl)
end Go.Proofs.YthfcmgbkhjnfjaaGreatDoor
