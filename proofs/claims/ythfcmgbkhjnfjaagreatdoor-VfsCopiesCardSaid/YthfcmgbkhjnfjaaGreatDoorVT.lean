/- The law's do: crash. The law's do: read. The law's do, at any operation: both disks come to the same. -/
import Derived.Test.YthfcmgbkhjnfjaaGreatDoorVP
import Derived.Deep.RegionWith
import Derived.Deep.CutBlock
import Derived.Deep.CutRange
import Derived.Test.YthfcmgbkhjnfjaaGreatDoorVK
import Derived.Test.YthfcmgbkhjnfjaaGreatDoorVQ
import Derived.Test.YthfcmgbkhjnfjaaGreatDoorVR
import Derived.Test.YthfcmgbkhjnfjaaGreatDoorVS
namespace Go.Proofs.YthfcmgbkhjnfjaaGreatDoor
open Go.RowKit Go.Maps

theorem IntsAt.less {w w' : World} {ρ ρ' : Col} {v : Value} {ds : List Int} (h : IntsAt w ρ v ds) (hb : Below w.heap.size w w') (hl : ∀ g, ρ' g ≠ none → ρ g ≠ none) : IntsAt w' ρ' v ds := by
  obtain ⟨ao, c, hv, hn, hc⟩ := h
  refine ⟨ao, c, hv, hn, fun j d hd => ?_⟩
  obtain ⟨g, o, ha, hg, hρ, hcell, hd⟩ := hc j d hd
  refine ⟨g, o, ha, Nat.lt_of_lt_of_le hg hb.size, ?_, (World.cell?_of_block (a := ⟨g, o + j, none⟩) (hb.block g hg)).trans hcell, hd⟩
  cases hq : ρ' g with
  | none => rfl
  | some c => exact absurd hρ (hl g (by rw [hq]; simp))
set_option maxRecDepth 20000 in
set_option maxHeartbeats 6400000 in
theorem do_crash (n : Int) (nm tx : ByteArray) (ko : Option Addr) (kn kc : Nat) (w : World) (ρ : Col) (b : Nat) (D : Dk) (S : Sh) (h : IsDisk w ρ b D) (hr : IsD w D S) (ho : DoOk D nm tx) (ds : List Int) (hds : IntsAt w ρ (.slice ko kn kc) ds) (hd0 : -9223372036854775808 ≤ n) (hd1 : n ≤ 9223372036854775807) :
    Calls Tryz.prog 9 #[.pointer (some ⟨b, 0, none⟩), dv D S, .agg #[.int .i64 9, .int .i64 n, .string nm, .string tx, .slice ko kn kc]] w (DoP w ρ b (D.crash n ds)) := by
  obtain ⟨hnm, htx, ok, hu, hr0, hr1⟩ := ho
  obtain ⟨N, hN⟩ : ∃ N, w.heap.size = N := ⟨_, rfl⟩
  obtain ⟨W0, hW0⟩ : ∃ W0, ((w.alloc (.cells #[.int .i64 D.room, .slice S.fo S.fn S.fc, .slice S.so S.sn S.sc, .slice S.wo S.wn S.wk, .int .i64 D.units, .int .i64 D.left, .bool D.armed, .bool D.gone, .slice S.ao S.an S.ac] 37)).alloc (.cells #[.int .i64 9, .int .i64 n, .string nm, .string tx, .slice ko kn kc] 40)).alloc (.cells #[.int .i64 0, .slice none 0 0, .slice none 0 0, .slice none 0 0, .int .i64 0, .int .i64 0, .bool false, .bool false, .slice none 0 0] 37) = W0 := ⟨_, rfl⟩
  obtain ⟨B0, B1, B2, BB, hsz⟩ := box_three hW0 hN
  have X0 : Hid (DoBx w N (dc D S) (oc 9 n nm tx ko kn kc) W0) := Lib.hid ⟨B0, B1, B2⟩
  have hBB : Below w.heap.size w W0 := by rw [hN]; exact BB
  have hI0 := hr.below hBB
  obtain ⟨ρ₀, ⟨L, hL⟩, ht₀, hl₀⟩ := (h.below hBB).shrink
  have HT := Lib.hid (fun D1 w1 (hT : Turned W0 ρ₀ b D1 w1) => X0.out.turned (D := D) (S := S) hN h.fits' hBB hl₀ ht₀ hI0 hT)
  have OK := Lib.hid ok
  have hds0 := hds.less hBB hl₀
  have hkn : kn = ds.length := by obtain ⟨_, _, hv, -⟩ := hds; injection hv
  subst hkn
  have HDS := Lib.hid hds0
  have PC := Lib.hid (crash_any n (.slice ko ds.length kc) ds W0 ρ₀ b D L hL ok hds0 hd0 hd1)
  obtain ⟨D1, hD1⟩ : ∃ D1, D.crash n ds = D1 := ⟨_, rfl⟩
  have RC : Hid (∀ w1, Kept ρ₀ W0 w1 → IsD w1 D S → Calls Tryz.prog 36 #[dv D S, .int .i64 n, .slice ko ds.length kc] w1 (RefV D1 w1)) := Lib.hid (fun w1 hk hI => by rw [← hD1]; exact crash_S n ko kc ds ρ₀ D S w1 hI ok (HDS.out.keep (Ext.refl _ _) hk))
  rw [hD1] at PC ⊢
  clear hD1 hL ht₀ hl₀ hI0 hBB B0 B1 B2 BB h hr ok hu hr0 hr1 hds hds0 HDS hd0 hd1
  obtain ⟨⟨q0, q1, q2, q3, q4, q5, q6, q7, q8⟩, -⟩ := X0.out.c0
  obtain ⟨o0, o1, o2, o3, o4⟩ := X0.out.c1
  unfold dv at RC ⊢
  go_enter Tryz.func9, Tryz.ntmps9
  go_upto_block 0 with fail
  clear hW0
  go_cut [8, 9, 10] from 11 to 169 (fun v8 v9 v10 wx => v8 = errV 0 ∧ v9 = .int .i64 (0 : Nat) ∧ v10 = .bool true ∧ ∃ S2, Hid (DoBx w N (dc D1 S2) (oc 9 n nm tx ko ds.length kc) wx ∧ Pair w ρ b D1 S2 wx))
  case first =>
    go_wp2_with fail
    refine PC.out.mono ?_
    rintro e w1 ⟨rfl, T1⟩
    obtain ⟨hX1, hI1, hP1⟩ := HT.out _ _ T1
    have X1 := Lib.hid hX1
    have RC1 := Lib.hid (RC.out w1 (by obtain ⟨_, -, -, h3⟩ := T1; exact h3) hI1)
    have HP1 := Lib.hid hP1
    clear hX1 hI1 hP1 T1 PC HT X0 RC q0 q1 q2 q3 q4 q5 q6 q7 q8 o0 o1 o2 o3 o4
    obtain ⟨⟨q0, q1, q2, q3, q4, q5, q6, q7, q8⟩, -⟩ := X1.out.c0
    obtain ⟨o0, o1, o2, o3, o4⟩ := X1.out.c1
    go_wp2_with fail
    refine RC1.out.mono ?_
    rintro e w2 ⟨S2, rfl, hI2, hb2⟩
    have HF := Lib.hid ((X1.out.below hb2).disk hN (HP1.out S2 w2 hI2 hb2))
    obtain ⟨⟨d0, d1, d2, d3, d4, d5, d6, d7, d8⟩, e0, e1, e2, e3, e4, e5, e6, e7, e8⟩ := (X1.out.below hb2).c0
    clear hI2 hb2 RC1 X1 HP1 q0 q1 q2 q3 q4 q5 q6 q7 q8 o0 o1 o2 o3 o4
    go_wp2_with fail
    go_meet
    exact ⟨rfl, rfl, rfl, S2, HF⟩
  case rest =>
    obtain ⟨rfl, rfl, rfl, S2, HF⟩ := hcut
    clear PC HT X0 RC q0 q1 q2 q3 q4 q5 q6 q7 q8 o0 o1 o2 o3 o4
    have FI := Lib.hid (HF.out.1.done hN HF.out.2)
    have NM := Lib.hid (num_any 0 (by decide))
    obtain ⟨⟨c0, c1, c2, c3, c4, c5, c6, c7, c8⟩, -⟩ := HF.out.1.c0
    obtain ⟨⟨z0, z1, z2, z3, z4, z5, z6, z7, z8⟩, y0, y1, y2, y3, y4, y5, y6, y7, y8⟩ := HF.out.1.c2
    clear HF
    go_wp2_with fail
    first | go_region_with (go_at_call 28; refine (NM.out _).mono ?_; rintro e w' ⟨rfl, rfl⟩) | fail
    all_goals
      go_wp2_with fail
      refine bodyPost_ret (v := .tuple #[.agg #[.int .i64 D1.room, .slice S2.fo S2.fn S2.fc, .slice S2.so S2.sn S2.sc, .slice S2.wo S2.wn S2.wk, .int .i64 D1.units, .int .i64 D1.left, .bool D1.armed, .bool D1.gone, .slice S2.ao S2.an S2.ac], .bool true]) (by simp [results, Tryz.results9, go_sem, z0, z1, z2, z3, z4, z5, z6, z7, z8]) rfl (FI.out _ rfl)
end Go.Proofs.YthfcmgbkhjnfjaaGreatDoor

namespace Go.Proofs.YthfcmgbkhjnfjaaGreatDoor
open Go.RowKit Go.Maps

theorem read_both (s : ByteArray) (hs : s.size ≤ 1000) (w : World) (ρ : Col) (b : Nat) (D : Dk) (h : IsDisk w ρ b D) (ok : D.Ok) :
    Calls Tryz.prog 13 #[.pointer (some ⟨b, 0, none⟩), .string s] w fun e w' => e = .returned (.tuple #[.string (D.rtext s), errV (D.readN s)]) ∧ Below w.heap.size w w' := by
  obtain ⟨L, h⟩ := h
  by_cases h0 : D.readN s = 0
  · rw [rtext_ok h0, h0]
    exact read_ok s hs w ρ b D L h ok h0
  · rw [rtext_no h0]
    exact read_err s hs w ρ b D L h ok h0
theorem readN_le (D : Dk) (s : ByteArray) : D.readN s ≤ 12 := by
  have := fileN_le' D s
  unfold Dk.readN; split <;> omega
theorem read_S (s : ByteArray) (hs : s.size ≤ 1000000) (D : Dk) (S : Sh) (w : World) (h : IsD w D S) (ok : D.Ok) :
    Calls Tryz.prog 37 #[dv D S, .string s] w fun e w' => e = .returned (.tuple #[.string (D.rtext s), .int .i64 (D.readN s : Nat)]) ∧ Below w.heap.size w w' := by
  obtain ⟨R, h1, h2⟩ := h.ex
  exact read_ref s hs D R w h2 ok _ _ _ _ _ _ _ _ _ _ _ _ h1
set_option maxRecDepth 20000 in
set_option maxHeartbeats 6400000 in
theorem do_read (kd : Int) (n : Int) (nm tx : ByteArray) (ko : Option Addr) (kn kc : Nat) (w : World) (ρ : Col) (b : Nat) (D : Dk) (S : Sh) (h : IsDisk w ρ b D) (hr : IsD w D S) (ho : DoOk D nm tx) (h1 : (kd == 1) = false) (h2 : (kd == 2) = false) (h3 : (kd == 3) = false) (h4 : (kd == 4) = false) (h5 : (kd == 5) = false) (h6 : (kd == 6) = false) (h7 : (kd == 7) = false) (h8 : (kd == 8) = false) (h9 : (kd == 9) = false) :
    Calls Tryz.prog 9 #[.pointer (some ⟨b, 0, none⟩), dv D S, .agg #[.int .i64 kd, .int .i64 n, .string nm, .string tx, .slice ko kn kc]] w (DoP w ρ b D) := by
  obtain ⟨hnm, htx, ok, hu, hr0, hr1⟩ := ho
  obtain ⟨N, hN⟩ : ∃ N, w.heap.size = N := ⟨_, rfl⟩
  obtain ⟨W0, hW0⟩ : ∃ W0, ((w.alloc (.cells #[.int .i64 D.room, .slice S.fo S.fn S.fc, .slice S.so S.sn S.sc, .slice S.wo S.wn S.wk, .int .i64 D.units, .int .i64 D.left, .bool D.armed, .bool D.gone, .slice S.ao S.an S.ac] 37)).alloc (.cells #[.int .i64 kd, .int .i64 n, .string nm, .string tx, .slice ko kn kc] 40)).alloc (.cells #[.int .i64 0, .slice none 0 0, .slice none 0 0, .slice none 0 0, .int .i64 0, .int .i64 0, .bool false, .bool false, .slice none 0 0] 37) = W0 := ⟨_, rfl⟩
  obtain ⟨B0, B1, B2, BB, hsz⟩ := box_three hW0 hN
  have X0 : Hid (DoBx w N (dc D S) (oc kd n nm tx ko kn kc) W0) := Lib.hid ⟨B0, B1, B2⟩
  have hBB : Below w.heap.size w W0 := by rw [hN]; exact BB
  have hI0 := hr.below hBB
  obtain ⟨ρ₀, ⟨L, hL⟩, ht₀, hl₀⟩ := (h.below hBB).shrink
  have HT := Lib.hid (fun D1 w1 (hT : Turned W0 ρ₀ b D1 w1) => X0.out.turned (D := D) (S := S) hN h.fits' hBB hl₀ ht₀ hI0 hT)
  have OK := Lib.hid ok
  have HP0 := Lib.hid ((Pair.start h hr).below hBB)
  have PC := Lib.hid (read_both nm hnm W0 ρ b D (h.below hBB) ok)
  have RC := Lib.hid (fun w1 (hI : IsD w1 D S) => read_S nm (by omega) D S w1 hI ok)
  obtain ⟨k, hk⟩ : ∃ k, D.readN nm = k := ⟨_, rfl⟩
  obtain ⟨rt, hrt⟩ : ∃ rt, D.rtext nm = rt := ⟨_, rfl⟩
  have hk12 : k ≤ 12 := by rw [← hk]; exact readN_le D nm
  rw [hk, hrt] at PC RC
  clear hk hrt hL ht₀ hl₀ hI0 hBB B0 B1 B2 BB h hr ok hu hr0 hr1 HT
  obtain ⟨⟨q0, q1, q2, q3, q4, q5, q6, q7, q8⟩, -⟩ := X0.out.c0
  obtain ⟨o0, o1, o2, o3, o4⟩ := X0.out.c1
  unfold dv at RC ⊢
  go_enter Tryz.func9, Tryz.ntmps9
  go_upto_block 0 with fail
  clear hW0
  go_cut [8, 9, 10] from 11 to 169 (fun v8 v9 v10 wx => v8 = errV k ∧ v9 = .int .i64 k ∧ v10 = .bool true ∧ ∃ S2, Hid (DoBx w N (dc D S2) (oc kd n nm tx ko kn kc) wx ∧ Pair w ρ b D S2 wx))
  case first =>
    go_wp2_with fail
    refine PC.out.mono ?_
    rintro e w1 ⟨rfl, hb1⟩
    have X1 := Lib.hid (X0.out.below hb1)
    have HP1 := Lib.hid (HP0.out.below hb1)
    have RC1 := Lib.hid (RC.out w1 HP1.out.ref)
    clear hb1 PC X0 HP0 RC q0 q1 q2 q3 q4 q5 q6 q7 q8 o0 o1 o2 o3 o4
    obtain ⟨⟨q0, q1, q2, q3, q4, q5, q6, q7, q8⟩, -⟩ := X1.out.c0
    obtain ⟨o0, o1, o2, o3, o4⟩ := X1.out.c1
    go_wp2_with fail
    refine RC1.out.mono ?_
    rintro e w2 ⟨rfl, hb2⟩
    have HF := Lib.hid (And.intro (X1.out.below hb2) (HP1.out.below hb2))
    have heq : (rt.toList == rt.toList) = true := by simp
    clear hb2 RC1 X1 HP1 q0 q1 q2 q3 q4 q5 q6 q7 q8 o0 o1 o2 o3 o4
    go_wp2_with fail
    go_meet
    exact ⟨rfl, rfl, rfl, S, HF⟩
  case rest =>
    obtain ⟨rfl, rfl, rfl, S2, HF⟩ := hcut
    clear PC X0 RC HP0 q0 q1 q2 q3 q4 q5 q6 q7 q8 o0 o1 o2 o3 o4 h1 h2 h3 h4 h5 h6 h7 h8 h9
    have FI := Lib.hid (HF.out.1.done hN HF.out.2)
    have NM := Lib.hid (num_any k hk12)
    obtain ⟨⟨c0, c1, c2, c3, c4, c5, c6, c7, c8⟩, -⟩ := HF.out.1.c0
    obtain ⟨⟨z0, z1, z2, z3, z4, z5, z6, z7, z8⟩, y0, y1, y2, y3, y4, y5, y6, y7, y8⟩ := HF.out.1.c2
    clear HF
    go_wp2_with fail
    first | go_region_with (go_at_call 28; refine (NM.out _).mono ?_; rintro e w' ⟨rfl, rfl⟩) | fail
    all_goals
      go_wp2_with fail
      refine bodyPost_ret (v := .tuple #[.agg #[.int .i64 D.room, .slice S2.fo S2.fn S2.fc, .slice S2.so S2.sn S2.sc, .slice S2.wo S2.wn S2.wk, .int .i64 D.units, .int .i64 D.left, .bool D.armed, .bool D.gone, .slice S2.ao S2.an S2.ac], .bool true]) (by simp [results, Tryz.results9, go_sem, z0, z1, z2, z3, z4, z5, z6, z7, z8]) rfl (FI.out _ rfl)
end Go.Proofs.YthfcmgbkhjnfjaaGreatDoor

namespace Go.Proofs.YthfcmgbkhjnfjaaGreatDoor
open Go.RowKit Go.Maps

theorem do_all (kd n : Int) (nm tx : ByteArray) (ko : Option Addr) (kn kc : Nat) (ds : List Int) (w : World) (ρ : Col) (b : Nat) (D : Dk) (S : Sh) (h : IsDisk w ρ b D) (hr : IsD w D S) (ho : DoOk D nm tx) (hds : IntsAt w ρ (.slice ko kn kc) ds) (hd0 : -9223372036854775808 ≤ n) (hd1 : n ≤ 9223372036854775807) :
    Calls Tryz.prog 9 #[.pointer (some ⟨b, 0, none⟩), dv D S, .agg #[.int .i64 kd, .int .i64 n, .string nm, .string tx, .slice ko kn kc]] w (DoP w ρ b (D.actF kd n nm tx ds)) := by
  unfold Dk.actF
  by_cases h1 : kd = 1
  · subst h1; exact do_create n nm tx ko kn kc w ρ b D S h hr ho
  rw [if_neg h1]
  by_cases h2 : kd = 2
  · subst h2; exact do_write n nm tx ko kn kc w ρ b D S h hr ho
  rw [if_neg h2]
  by_cases h3 : kd = 3
  · subst h3; exact do_cut n nm tx ko kn kc w ρ b D S h hr ho
  rw [if_neg h3]
  by_cases h4 : kd = 4
  · subst h4; exact do_sync n nm tx ko kn kc w ρ b D S h hr ho
  rw [if_neg h4]
  by_cases h5 : kd = 5
  · subst h5; exact do_rename n nm tx ko kn kc w ρ b D S h hr ho
  rw [if_neg h5]
  by_cases h6 : kd = 6
  · subst h6; exact do_remove n nm tx ko kn kc w ρ b D S h hr ho
  rw [if_neg h6]
  by_cases h7 : kd = 7
  · subst h7; exact do_syncDir n nm tx ko kn kc w ρ b D S h hr ho
  rw [if_neg h7]
  by_cases h8 : kd = 8
  · subst h8; exact do_arm n nm tx ko kn kc w ρ b D S h hr ho
  rw [if_neg h8]
  by_cases h9 : kd = 9
  · subst h9; exact do_crash n nm tx ko kn kc w ρ b D S h hr ho ds hds hd0 hd1
  rw [if_neg h9]
  exact do_read kd n nm tx ko kn kc w ρ b D S h hr ho (by simpa using h1) (by simpa using h2) (by simpa using h3) (by simpa using h4) (by simpa using h5) (by simpa using h6) (by simpa using h7) (by simpa using h8) (by simpa using h9)
end Go.Proofs.YthfcmgbkhjnfjaaGreatDoor
