/- The reference's Create. The reference's Rename. -/
import Derived.Test.YthfcmgbkhjnfjaaGreatDoorVL
import Derived.Test.YthfcmgbkhjnfjaaGreatDoorVD
import Derived.Test.YthfcmgbkhjnfjaaGreatDoorVM
import Derived.Deep.RegionWith
namespace Go.Proofs.YthfcmgbkhjnfjaaGreatDoor
open Go.RowKit Go.Maps

set_option maxRecDepth 20000 in
set_option maxHeartbeats 6400000 in
theorem create_S (s : ByteArray) (hs : s.size ≤ 1000000) (D : Dk) (S : Sh) (w : World) (h : IsD w D S) (ok : D.Ok) :
    Calls Tryz.prog 29 #[dv D S, .string s] w (RefS (D.create s).2 (D.create s).1 w) := by
  obtain ⟨N, hN⟩ : ∃ N, w.heap.size = N := ⟨_, rfl⟩
  obtain ⟨W0, hW0⟩ : ∃ W0, (w.alloc (.cells #[.int .i64 D.room, .slice S.fo S.fn S.fc, .slice S.so S.sn S.sc, .slice S.wo S.wn S.wk, .int .i64 D.units, .int .i64 D.left, .bool D.armed, .bool D.gone, .slice S.ao S.an S.ac] 37)).alloc (.cells #[.int .i64 0, .slice none 0 0, .slice none 0 0, .slice none 0 0, .int .i64 0, .int .i64 0, .bool false, .bool false, .slice none 0 0] 37) = W0 := ⟨_, rfl⟩
  have X0 := Lib.hid (Bx.made hW0 hN)
  have I0 : Hid (IsD W0 D S) := Lib.hid (h.below (by rw [hN]; exact X0.out.bb))
  have OK := Lib.hid ok
  obtain ⟨⟨q0, q1, q2, q3, q4, q5, q6, q7, q8⟩, -⟩ := X0.out.c0
  clear h ok
  unfold dv
  have AK := Lib.hid (asked_S s hs D S W0 I0.out OK.out)
  unfold dv at AK
  go_enter Tryz.func29, Tryz.ntmps29
  go_upto_region 1 with fail
  go_cut [6, 7] (fun v6 v7 wx => ∃ i : Int, v6 = .int .i64 i ∧ v7 = .int .i64 (D.fileN s : Nat) ∧ Hid ((D.fileN s = 0 → i = D.idx s) ∧ Bx w N (dc D S) wx ∧ IsD wx D S))
  case first =>
    go_wp2_with fail
    refine AK.out.mono ?_
    rintro e w1 ⟨i, rfl, hi, hb1⟩
    have HF := Lib.hid (And.intro hi (And.intro (X0.out.below hb1) (I0.out.below hb1)))
    clear hi hb1 AK X0 I0 q0 q1 q2 q3 q4 q5 q6 q7 q8
    go_wp2_with fail
    go_meet
    exact ⟨i, rfl, rfl, HF⟩
  case rest =>
    obtain ⟨i, rfl, rfl, HF⟩ := hcut
    clear q0 q1 q2 q3 q4 q5 q6 q7 q8 AK X0 I0 hW0
    by_cases h0 : D.fileN s = 0
    · rw [h0]
      have hres : D.create s = (12, D) := by unfold Dk.create; rw [if_pos h0]
      have HR := Lib.hid hres
      clear hres h0
      have FI := Lib.hid (Bx.done (k := 12) HF.out.2.1 hN HF.out.2.2)
      obtain ⟨⟨c0, c1, c2, c3, c4, c5, c6, c7, c8⟩, -⟩ := (HF.out.2.1).c0
      obtain ⟨⟨z0, z1, z2, z3, z4, z5, z6, z7, z8⟩, y0, y1, y2, y3, y4, y5, y6, y7, y8⟩ := (HF.out.2.1).c1
      have HX := Lib.hid HF.out.2.1
      go_wp2_with fail
      refine bodyPost_ret (v := .tuple #[.agg #[.int .i64 D.room, .slice S.fo S.fn S.fc, .slice S.so S.sn S.sc, .slice S.wo S.wn S.wk, .int .i64 D.units, .int .i64 D.left, .bool D.armed, .bool D.gone, .slice S.ao S.an S.ac], .int .i64 12]) (by simp [results, Tryz.results29, go_sem, z0, z1, z2, z3, z4, z5, z6, z7, z8]) rfl ?_
      rw [HR.out]
      exact FI.out _ rfl
    have hk : ((D.fileN s : Int) == 0) = false := err_cases _ h0
    by_cases h7 : D.fileN s = 7
    · rw [h7]
      clear hk
      have UN := Lib.hid (unit_S D S wc HF.out.2.2 OK.out)
      have HX := Lib.hid HF.out.2.1
      obtain ⟨D1, hD1⟩ : ∃ D1, D.spend 1 = D1 := ⟨_, rfl⟩
      obtain ⟨sp, hsp⟩ : ∃ sp, (!decide (D.spent 1 < 1)) = sp := ⟨_, rfl⟩
      have HD1 := Lib.hid hD1
      have HSP := Lib.hid hsp
      rw [hD1, hsp] at UN
      unfold dv at UN
      clear hD1 hsp
      go_upto_region 6 with fail
      go_cut [8] (fun v8 wx => v8 = .bool sp ∧ Hid (Bx w N (dc D1 S) wx ∧ IsD wx D1 S))
      case first =>
        obtain ⟨⟨c0, c1, c2, c3, c4, c5, c6, c7, c8⟩, -⟩ := HX.out.c0
        go_wp2_with fail
        refine UN.out.mono ?_
        rintro e w1 ⟨rfl, hI1, hb1⟩
        have HY := Lib.hid ((HX.out.below hb1).disk hI1)
        obtain ⟨⟨d0, d1, d2, d3, d4, d5, d6, d7, d8⟩, e0, e1, e2, e3, e4, e5, e6, e7, e8⟩ := (HX.out.below hb1).c0
        clear hI1 hb1 UN HX c0 c1 c2 c3 c4 c5 c6 c7 c8
        go_wp2_with fail
        go_meet
        exact ⟨rfl, HY⟩
      case rest =>
        obtain ⟨rfl, HY⟩ := hcut
        clear UN HX
        cases sp with
        | false =>
          have hres : D.create s = (3, D1) := by unfold Dk.create; rw [if_neg h0, if_neg (by simp [h7]), if_pos (by simpa using HSP.out), HD1.out]
          have HR := Lib.hid hres
          clear hres h0 h7 HD1 HSP
          have FI := Lib.hid (Bx.done (k := 3) HY.out.1 hN HY.out.2)
          obtain ⟨⟨c0, c1, c2, c3, c4, c5, c6, c7, c8⟩, -⟩ := (HY.out.1).c0
          obtain ⟨⟨z0, z1, z2, z3, z4, z5, z6, z7, z8⟩, y0, y1, y2, y3, y4, y5, y6, y7, y8⟩ := (HY.out.1).c1
          have HX := Lib.hid HY.out.1
          go_wp2_with fail
          refine bodyPost_ret (v := .tuple #[.agg #[.int .i64 D1.room, .slice S.fo S.fn S.fc, .slice S.so S.sn S.sc, .slice S.wo S.wn S.wk, .int .i64 D1.units, .int .i64 D1.left, .bool D1.armed, .bool D1.gone, .slice S.ao S.an S.ac], .int .i64 3]) (by simp [results, Tryz.results29, go_sem, z0, z1, z2, z3, z4, z5, z6, z7, z8]) rfl ?_
          rw [HR.out]
          exact FI.out _ rfl
        | true =>
          have hres : D.create s = (0, ((D1.moved (En.made s D1.files.length)).grew).did ⟨1, s, ⟨#[]⟩, ⟨#[]⟩, 0⟩) := by unfold Dk.create; rw [if_neg h0, if_neg (by simp [h7]), if_neg (by simpa using HSP.out), HD1.out, ← HD1.out]; rfl
          have hw1 : D1.waits = D.waits := by rw [← HD1.out]; rfl
          have ha1 : D1.acts = D.acts := by rw [← HD1.out]; rfl
          have hf1 : D1.files = D.files := by rw [← HD1.out]; rfl
          have hfn := HY.out.2.fn
          rw [← hfn] at hres
          have HR := Lib.hid hres
          have MV := Lib.hid (moved_S D1 S (En.made s S.fn) wc HY.out.2 (by rw [hw1]; have := OK.out.many; omega))
          unfold dv at MV
          obtain ⟨D2, hD2⟩ : ∃ D2, D1.moved (En.made s S.fn) = D2 := ⟨_, rfl⟩
          have HA2 : Hid (D2.acts = D.acts ∧ D2.files = D.files) := Lib.hid (by rw [← hD2]; exact ⟨ha1, hf1⟩)
          rw [hD2] at MV HR
          clear hD2 ha1 hw1 hf1 hfn hres h0 h7 HD1 HSP
          go_upto_region 9 with fail
          go_cut [] (fun wx => ∃ S2, Hid (Bx w N (dc D2 S2) wx ∧ IsD wx D2 S2))
          case first =>
            obtain ⟨⟨c0, c1, c2, c3, c4, c5, c6, c7, c8⟩, -⟩ := HY.out.1.c0
            go_wp2_with fail
            refine MV.out.mono ?_
            rintro e w1 ⟨S2, rfl, hI2, hb1⟩
            have HZ := Lib.hid ((HY.out.1.below hb1).disk hI2)
            obtain ⟨⟨d0, d1, d2, d3, d4, d5, d6, d7, d8⟩, e0, e1, e2, e3, e4, e5, e6, e7, e8⟩ := (HY.out.1.below hb1).c0
            clear hI2 hb1 MV HY c0 c1 c2 c3 c4 c5 c6 c7 c8
            go_wp2_with fail
            go_meet
            exact ⟨_, HZ⟩
          case rest =>
            obtain ⟨S2, HZ⟩ := hcut
            clear HY MV
            obtain ⟨v1, w1, fo, fn, fc, w2, R1, R2, HG⟩ := grow_runs HZ.out.2 (by rw [HA2.out.2]; have := OK.out.lots; omega)
            have HW := Lib.hid (And.intro ((HZ.out.1.below HG.out.1).set1 (.slice fo fn fc)) (HG.out.2.box (HZ.out.1.below HG.out.1).b0 fun g hg => Below.heap_setCell (w2) (⟨N, 1, none⟩) (.slice fo fn fc) g hg))
            have HA3 : Hid (D2.grew.acts = D.acts) := Lib.hid HA2.out.1
            have hNl : N < wc.heap.size := Nat.lt_of_succ_lt HZ.out.1.lt
            obtain ⟨⟨g0, g1, g2, g3, g4, g5, g6, g7, g8⟩, f0, f1, f2, f3, f4, f5, f6, f7, f8⟩ := (HZ.out.1.below HG.out.1).c0
            obtain ⟨⟨c0, c1, c2, c3, c4, c5, c6, c7, c8⟩, -⟩ := HZ.out.1.c0
            go_upto_region 10 with fail
            go_cut [] (fun wx => Hid (Bx w N (dc D2.grew { S2 with fo := fo, fn := fn, fc := fc }) wx ∧ IsD wx D2.grew { S2 with fo := fo, fn := fn, fc := fc }))
            case first =>
              go_wp2_with (at_builtin; first | (refine wpList_append_run rfl _ _ _ rfl (u := .slice S2.fo S2.fn S2.fc) rfl rfl R1.out ?_; refine Hid.out ?_) | (refine wpList_append_run rfl _ _ _ rfl (v := v1) rfl rfl R2.out ?_; refine Hid.out ?_))
              refine Lib.hid ?_
              go_wp2_with (at_builtin; first | (refine wpList_append_run rfl _ _ _ rfl (u := .slice S2.fo S2.fn S2.fc) rfl rfl R1.out ?_; refine Hid.out ?_) | (refine wpList_append_run rfl _ _ _ rfl (v := v1) rfl rfl R2.out ?_; refine Hid.out ?_))
              refine Lib.hid ?_
              go_wp2_with fail
              go_meet
              exact HW
            case rest =>
              have HV := Lib.hid hcut.out
              clear hcut HZ R1 R2 HG HW c0 c1 c2 c3 c4 c5 c6 c7 c8 f0 f1 f2 f3 f4 f5 f6 f7 f8 g0 g1 g2 g3 g4 g5 g6 g7 g8
              obtain ⟨D4, hD4⟩ : ∃ D4, D2.grew = D4 := ⟨_, rfl⟩
              obtain ⟨S4, hS4⟩ : ∃ S4 : Sh, { S2 with fo := fo, fn := fn, fc := fc } = S4 := ⟨_, rfl⟩
              rw [hD4, hS4] at HV
              rw [hD4] at HA3 HR
              clear hD4 hS4
              have DI := Lib.hid (did_S D4 S4 ⟨1, s, ⟨#[]⟩, ⟨#[]⟩, 0⟩ wc HV.out.2 (by rw [HA3.out]; have := OK.out.acts; omega))
              have HXD := Lib.hid HV.out.1
              unfold dv at DI
              obtain ⟨D9, hD9⟩ : ∃ D9, D4.did ⟨1, s, ⟨#[]⟩, ⟨#[]⟩, 0⟩ = D9 := ⟨_, rfl⟩
              rw [hD9] at DI HR
              clear hD9
              obtain ⟨⟨c0, c1, c2, c3, c4, c5, c6, c7, c8⟩, -⟩ := HXD.out.c0
              go_wp2_with fail
              refine DI.out.mono ?_
              rintro e w2 ⟨S9, rfl, hI9, hb9⟩
              have FI := Lib.hid (Bx.done (k := 0) (HXD.out.below hb9) hN hI9)
              obtain ⟨⟨z0, z1, z2, z3, z4, z5, z6, z7, z8⟩, y0, y1, y2, y3, y4, y5, y6, y7, y8⟩ := (HXD.out.below hb9).c1
              clear hI9 hb9 HXD DI c0 c1 c2 c3 c4 c5 c6 c7 c8
              go_wp2_with fail
              refine bodyPost_ret (v := .tuple #[.agg #[.int .i64 D9.room, .slice S9.fo S9.fn S9.fc, .slice S9.so S9.sn S9.sc, .slice S9.wo S9.wn S9.wk, .int .i64 D9.units, .int .i64 D9.left, .bool D9.armed, .bool D9.gone, .slice S9.ao S9.an S9.ac], .int .i64 0]) (by simp [results, Tryz.results29, go_sem, z0, z1, z2, z3, z4, z5, z6, z7, z8]) rfl ?_
              rw [HR.out]
              exact FI.out _ rfl
    · have hk7 : ((D.fileN s : Int) == 7) = false := by simp; omega
      have hres : D.create s = (D.fileN s, D) := by unfold Dk.create; rw [if_neg h0, if_pos h7]
      have HR := Lib.hid hres
      clear hres h0 h7
      have FI := Lib.hid (Bx.done (k := (D.fileN s : Nat)) HF.out.2.1 hN HF.out.2.2)
      obtain ⟨⟨c0, c1, c2, c3, c4, c5, c6, c7, c8⟩, -⟩ := (HF.out.2.1).c0
      obtain ⟨⟨z0, z1, z2, z3, z4, z5, z6, z7, z8⟩, y0, y1, y2, y3, y4, y5, y6, y7, y8⟩ := (HF.out.2.1).c1
      have HX := Lib.hid HF.out.2.1
      go_wp2_with fail
      refine bodyPost_ret (v := .tuple #[.agg #[.int .i64 D.room, .slice S.fo S.fn S.fc, .slice S.so S.sn S.sc, .slice S.wo S.wn S.wk, .int .i64 D.units, .int .i64 D.left, .bool D.armed, .bool D.gone, .slice S.ao S.an S.ac], .int .i64 (D.fileN s : Nat)]) (by simp [results, Tryz.results29, go_sem, z0, z1, z2, z3, z4, z5, z6, z7, z8]) rfl ?_
      rw [HR.out]
      exact FI.out _ rfl
end Go.Proofs.YthfcmgbkhjnfjaaGreatDoor

namespace Go.Proofs.YthfcmgbkhjnfjaaGreatDoor
open Go.RowKit Go.Maps

theorem rename_bad {D : Dk} {s t : ByteArray} (h : (!(goodName s.data.toList && goodName t.data.toList)) = true) : D.rename s t = (1, D) := by
  have : D.askedN [s, t] = 1 := by
    unfold Dk.askedN
    rw [if_pos]
    cases h1 : goodName s.data.toList <;> cases h2 : goodName t.data.toList <;> simp [h1, h2] at h ⊢
  unfold Dk.rename
  rw [this]; rfl
theorem rename_good {D : Dk} {s t : ByteArray} (h : (!(goodName s.data.toList && goodName t.data.toList)) = false) : D.rename s t = if D.fileN s ≠ 0 then (D.fileN s, D) else if D.spent 1 < 1 then (3, D.spend 1) else (0, D.renamed s t) := by
  have h1 : goodName s.data.toList = true := by cases h1 : goodName s.data.toList <;> simp [h1] at h ⊢
  have h2 : goodName t.data.toList = true := by cases h2 : goodName t.data.toList <;> simp [h1, h2] at h ⊢
  unfold Dk.rename
  cases hg : D.gone with
  | true =>
    have e1 : D.askedN [s, t] = 3 := by unfold Dk.askedN; rw [if_neg (by simp [h1, h2]), if_pos hg]
    rw [e1, fileN_gone h1 hg]; rfl
  | false =>
    have e1 : D.askedN [s, t] = 0 := by unfold Dk.askedN; rw [if_neg (by simp [h1, h2]), if_neg (by simp [hg])]
    rw [e1, fileN_has h1 hg]
    cases hh : Maps.has D.dirOf (nameK s) <;> simp
set_option maxRecDepth 20000 in
set_option maxHeartbeats 6400000 in
theorem rename_S (s t : ByteArray) (hs : s.size ≤ 1000000) (ht : t.size ≤ 1000000) (D : Dk) (S : Sh) (w : World) (h : IsD w D S) (ok : D.Ok) :
    Calls Tryz.prog 33 #[dv D S, .string s, .string t] w (RefS (D.rename s t).2 (D.rename s t).1 w) := by
  obtain ⟨N, hN⟩ : ∃ N, w.heap.size = N := ⟨_, rfl⟩
  obtain ⟨W0, hW0⟩ : ∃ W0, (w.alloc (.cells #[.int .i64 D.room, .slice S.fo S.fn S.fc, .slice S.so S.sn S.sc, .slice S.wo S.wn S.wk, .int .i64 D.units, .int .i64 D.left, .bool D.armed, .bool D.gone, .slice S.ao S.an S.ac] 37)).alloc (.cells #[.int .i64 0, .slice none 0 0, .slice none 0 0, .slice none 0 0, .int .i64 0, .int .i64 0, .bool false, .bool false, .slice none 0 0] 37) = W0 := ⟨_, rfl⟩
  have X0 := Lib.hid (Bx.made hW0 hN)
  have I0 : Hid (IsD W0 D S) := Lib.hid (h.below (by rw [hN]; exact X0.out.bb))
  have OK := Lib.hid ok
  obtain ⟨⟨q0, q1, q2, q3, q4, q5, q6, q7, q8⟩, -⟩ := X0.out.c0
  clear h ok
  unfold dv
  have AK := Lib.hid (fun W (h : IsD W D S) => asked_S s hs D S W h OK.out)
  unfold dv at AK
  have GS := Lib.hid (good_ref s hs W0)
  have GT := Lib.hid (good_ref t ht W0)
  obtain ⟨gs, hgs⟩ : ∃ gs, goodName s.data.toList = gs := ⟨_, rfl⟩
  obtain ⟨gt, hgt⟩ : ∃ gt, goodName t.data.toList = gt := ⟨_, rfl⟩
  rw [hgs] at GS
  rw [hgt] at GT
  have HGB : Hid (∀ b, (!(gs && gt)) = b → (!(goodName s.data.toList && goodName t.data.toList)) = b) := Lib.hid (by rw [hgs, hgt]; exact fun _ h => h)
  clear hgs hgt
  go_enter Tryz.func33, Tryz.ntmps33
  go_upto_region 1 with fail
  go_cut [18] (fun v18 wx => v18 = .bool (!(gs && gt)) ∧ wx = W0)
  case first =>
    clear AK HGB
    go_wp2_with fail
    refine GS.out.mono ?_
    rintro e w1 ⟨rfl, rfl⟩
    cases gs with
    | false =>
      go_wp2_with fail
      go_meet
      exact ⟨rfl, rfl⟩
    | true =>
      go_wp2_with fail
      refine GT.out.mono ?_
      rintro e w1 ⟨rfl, rfl⟩
      go_wp2_with fail
      go_meet
      exact ⟨by simp, rfl⟩
  case rest =>
    obtain ⟨rfl, hwc⟩ := hcut
    subst hwc
    clear GS GT hW0
    obtain ⟨gb, hgb⟩ : ∃ gb, (!(gs && gt)) = gb := ⟨_, rfl⟩
    have HG2 := Lib.hid (HGB.out _ hgb)
    rw [hgb]
    clear hgb HGB
    cases gb with
    | true =>
      have hres : D.rename s t = (1, D) := rename_bad HG2.out
      have HR := Lib.hid hres
      clear hres AK HG2 q0 q1 q2 q3 q4 q5 q6 q7 q8
      have FI := Lib.hid (Bx.done (k := 1) X0.out hN I0.out)
      obtain ⟨⟨c0, c1, c2, c3, c4, c5, c6, c7, c8⟩, -⟩ := (X0.out).c0
      obtain ⟨⟨z0, z1, z2, z3, z4, z5, z6, z7, z8⟩, y0, y1, y2, y3, y4, y5, y6, y7, y8⟩ := (X0.out).c1
      have HX := Lib.hid X0.out
      go_wp2_with fail
      refine bodyPost_ret (v := .tuple #[.agg #[.int .i64 D.room, .slice S.fo S.fn S.fc, .slice S.so S.sn S.sc, .slice S.wo S.wn S.wk, .int .i64 D.units, .int .i64 D.left, .bool D.armed, .bool D.gone, .slice S.ao S.an S.ac], .int .i64 1]) (by simp [results, Tryz.results33, go_sem, z0, z1, z2, z3, z4, z5, z6, z7, z8]) rfl ?_
      rw [HR.out]
      exact FI.out _ rfl
    | false =>
      have HM := Lib.hid (rename_good (D := D) HG2.out)
      clear HG2
      have AK2 := Lib.hid (AK.out wc I0.out)
      clear AK
      go_upto_region 3 with fail
      go_cut [8, 9] (fun v6 v7 wx => ∃ i : Int, v6 = .int .i64 i ∧ v7 = .int .i64 (D.fileN s : Nat) ∧ Hid ((D.fileN s = 0 → i = D.idx s) ∧ Bx w N (dc D S) wx ∧ IsD wx D S))
      case first =>
        go_wp2_with fail
        refine AK2.out.mono ?_
        rintro e w1 ⟨i, rfl, hi, hb1⟩
        have HF := Lib.hid (And.intro hi (And.intro (X0.out.below hb1) (I0.out.below hb1)))
        clear hi hb1 AK2 X0 I0 q0 q1 q2 q3 q4 q5 q6 q7 q8
        go_wp2_with fail
        go_meet
        exact ⟨i, rfl, rfl, HF⟩
      case rest =>
        obtain ⟨i, rfl, rfl, HF⟩ := hcut
        clear q0 q1 q2 q3 q4 q5 q6 q7 q8 AK2 X0 I0
        by_cases h0 : D.fileN s = 0
        · rw [h0]
          obtain rfl := HF.out.1 h0
          have UN := Lib.hid (unit_S D S wc HF.out.2.2 OK.out)
          have HX := Lib.hid HF.out.2.1
          obtain ⟨D1, hD1⟩ : ∃ D1, D.spend 1 = D1 := ⟨_, rfl⟩
          obtain ⟨sp, hsp⟩ : ∃ sp, (!decide (D.spent 1 < 1)) = sp := ⟨_, rfl⟩
          have HD1 := Lib.hid hD1
          have HSP := Lib.hid hsp
          rw [hD1, hsp] at UN
          unfold dv at UN
          clear hD1 hsp
          go_upto_region 6 with fail
          go_cut [10] (fun v8 wx => v8 = .bool sp ∧ Hid (Bx w N (dc D1 S) wx ∧ IsD wx D1 S))
          case first =>
            obtain ⟨⟨c0, c1, c2, c3, c4, c5, c6, c7, c8⟩, -⟩ := HX.out.c0
            go_wp2_with fail
            refine UN.out.mono ?_
            rintro e w1 ⟨rfl, hI1, hb1⟩
            have HY := Lib.hid ((HX.out.below hb1).disk hI1)
            obtain ⟨⟨d0, d1, d2, d3, d4, d5, d6, d7, d8⟩, e0, e1, e2, e3, e4, e5, e6, e7, e8⟩ := (HX.out.below hb1).c0
            clear hI1 hb1 UN HX c0 c1 c2 c3 c4 c5 c6 c7 c8
            go_wp2_with fail
            go_meet
            exact ⟨rfl, HY⟩
          case rest =>
            obtain ⟨rfl, HY⟩ := hcut
            clear UN HX
            cases sp with
            | false =>
              have hres : D.rename s t = (3, D1) := by rw [HM.out, if_neg (by simp [h0]), if_pos (by simpa using HSP.out), HD1.out]
              have HR := Lib.hid hres
              clear hres h0 HD1 HSP HM
              have FI := Lib.hid (Bx.done (k := 3) HY.out.1 hN HY.out.2)
              obtain ⟨⟨c0, c1, c2, c3, c4, c5, c6, c7, c8⟩, -⟩ := (HY.out.1).c0
              obtain ⟨⟨z0, z1, z2, z3, z4, z5, z6, z7, z8⟩, y0, y1, y2, y3, y4, y5, y6, y7, y8⟩ := (HY.out.1).c1
              have HX := Lib.hid HY.out.1
              go_wp2_with fail
              refine bodyPost_ret (v := .tuple #[.agg #[.int .i64 D1.room, .slice S.fo S.fn S.fc, .slice S.so S.sn S.sc, .slice S.wo S.wn S.wk, .int .i64 D1.units, .int .i64 D1.left, .bool D1.armed, .bool D1.gone, .slice S.ao S.an S.ac], .int .i64 3]) (by simp [results, Tryz.results33, go_sem, z0, z1, z2, z3, z4, z5, z6, z7, z8]) rfl ?_
              rw [HR.out]
              exact FI.out _ rfl
            | true =>
              have hres : D.rename s t = (0, D.renamed s t) := by rw [HM.out, if_neg (by simp [h0]), if_neg (by simpa using HSP.out)]
              have hw1 : D1.waits = D.waits := by rw [← HD1.out]; rfl
              have ha1 : D1.acts = D.acts := by rw [← HD1.out]; rfl
              by_cases hst : s = t
              · have hres2 : D.renamed s t = D1.did ⟨5, s, t, ⟨#[]⟩, 0⟩ := by unfold Dk.renamed; rw [if_pos hst, HD1.out]
                rw [hres2] at hres
                have HR := Lib.hid hres
                have heq : (s.toList == t.toList) = true := by rw [hst]; simp
                have HA1 := Lib.hid ha1
                clear hres hres2 h0 HD1 HSP HM hw1 ha1 hst
                have DI := Lib.hid (did_S D1 S ⟨5, s, t, ⟨#[]⟩, 0⟩ wc HY.out.2 (by rw [HA1.out]; have := OK.out.acts; omega))
                have HXD := Lib.hid HY.out.1
                unfold dv at DI
                obtain ⟨D9, hD9⟩ : ∃ D9, D1.did ⟨5, s, t, ⟨#[]⟩, 0⟩ = D9 := ⟨_, rfl⟩
                rw [hD9] at DI HR
                clear hD9
                obtain ⟨⟨c0, c1, c2, c3, c4, c5, c6, c7, c8⟩, -⟩ := HXD.out.c0
                go_wp2_with fail
                refine DI.out.mono ?_
                rintro e w2 ⟨S9, rfl, hI9, hb9⟩
                have FI := Lib.hid (Bx.done (k := 0) (HXD.out.below hb9) hN hI9)
                obtain ⟨⟨z0, z1, z2, z3, z4, z5, z6, z7, z8⟩, y0, y1, y2, y3, y4, y5, y6, y7, y8⟩ := (HXD.out.below hb9).c1
                clear hI9 hb9 HXD DI c0 c1 c2 c3 c4 c5 c6 c7 c8
                go_wp2_with fail
                refine bodyPost_ret (v := .tuple #[.agg #[.int .i64 D9.room, .slice S9.fo S9.fn S9.fc, .slice S9.so S9.sn S9.sc, .slice S9.wo S9.wn S9.wk, .int .i64 D9.units, .int .i64 D9.left, .bool D9.armed, .bool D9.gone, .slice S9.ao S9.an S9.ac], .int .i64 0]) (by simp [results, Tryz.results33, go_sem, z0, z1, z2, z3, z4, z5, z6, z7, z8]) rfl ?_
                rw [HR.out]
                exact FI.out _ rfl
              · have hres2 : D.renamed s t = (D1.moved ⟨t, s, D.idx s⟩).did ⟨5, s, t, ⟨#[]⟩, 0⟩ := by unfold Dk.renamed; rw [if_neg hst, HD1.out]
                rw [hres2] at hres
                have HR := Lib.hid hres
                have heq : (s.toList == t.toList) = false := ne_test hst
                obtain ⟨ix, hix⟩ : ∃ ix, D.idx s = ix := ⟨_, rfl⟩
                rw [hix] at HR ⊢
                have MV := Lib.hid (moved_S D1 S ⟨t, s, ix⟩ wc HY.out.2 (by rw [hw1]; have := OK.out.many; omega))
                unfold dv at MV
                obtain ⟨D2, hD2⟩ : ∃ D2, D1.moved ⟨t, s, ix⟩ = D2 := ⟨_, rfl⟩
                have HA2 : Hid (D2.acts = D.acts) := Lib.hid (by rw [← hD2]; exact ha1)
                rw [hD2] at MV HR
                clear hD2 ha1 hw1 hix hst hres hres2 h0 HD1 HSP HM
                go_upto_region 10 with fail
                go_cut [] (fun wx => ∃ S2, Hid (Bx w N (dc D2 S2) wx ∧ IsD wx D2 S2))
                case first =>
                  obtain ⟨⟨c0, c1, c2, c3, c4, c5, c6, c7, c8⟩, -⟩ := HY.out.1.c0
                  go_wp2_with fail
                  refine MV.out.mono ?_
                  rintro e w1 ⟨S2, rfl, hI2, hb1⟩
                  have HZ := Lib.hid ((HY.out.1.below hb1).disk hI2)
                  obtain ⟨⟨d0, d1, d2, d3, d4, d5, d6, d7, d8⟩, e0, e1, e2, e3, e4, e5, e6, e7, e8⟩ := (HY.out.1.below hb1).c0
                  clear hI2 hb1 MV HY c0 c1 c2 c3 c4 c5 c6 c7 c8
                  go_wp2_with fail
                  go_meet
                  exact ⟨_, HZ⟩
                case rest =>
                  obtain ⟨S2, HZ⟩ := hcut
                  clear HY MV
                  have DI := Lib.hid (did_S D2 S2 ⟨5, s, t, ⟨#[]⟩, 0⟩ wc HZ.out.2 (by rw [HA2.out]; have := OK.out.acts; omega))
                  have HXD := Lib.hid HZ.out.1
                  unfold dv at DI
                  obtain ⟨D9, hD9⟩ : ∃ D9, D2.did ⟨5, s, t, ⟨#[]⟩, 0⟩ = D9 := ⟨_, rfl⟩
                  rw [hD9] at DI HR
                  clear hD9
                  obtain ⟨⟨c0, c1, c2, c3, c4, c5, c6, c7, c8⟩, -⟩ := HXD.out.c0
                  go_wp2_with fail
                  refine DI.out.mono ?_
                  rintro e w2 ⟨S9, rfl, hI9, hb9⟩
                  have FI := Lib.hid (Bx.done (k := 0) (HXD.out.below hb9) hN hI9)
                  obtain ⟨⟨z0, z1, z2, z3, z4, z5, z6, z7, z8⟩, y0, y1, y2, y3, y4, y5, y6, y7, y8⟩ := (HXD.out.below hb9).c1
                  clear hI9 hb9 HXD DI c0 c1 c2 c3 c4 c5 c6 c7 c8
                  go_wp2_with fail
                  refine bodyPost_ret (v := .tuple #[.agg #[.int .i64 D9.room, .slice S9.fo S9.fn S9.fc, .slice S9.so S9.sn S9.sc, .slice S9.wo S9.wn S9.wk, .int .i64 D9.units, .int .i64 D9.left, .bool D9.armed, .bool D9.gone, .slice S9.ao S9.an S9.ac], .int .i64 0]) (by simp [results, Tryz.results33, go_sem, z0, z1, z2, z3, z4, z5, z6, z7, z8]) rfl ?_
                  rw [HR.out]
                  exact FI.out _ rfl
        · have hk : ((D.fileN s : Int) == 0) = false := err_cases _ h0
          have hres : D.rename s t = (D.fileN s, D) := by rw [HM.out, if_pos h0]
          have HR := Lib.hid hres
          clear hres h0 HM
          have FI := Lib.hid (Bx.done (k := (D.fileN s : Nat)) HF.out.2.1 hN HF.out.2.2)
          obtain ⟨⟨c0, c1, c2, c3, c4, c5, c6, c7, c8⟩, -⟩ := (HF.out.2.1).c0
          obtain ⟨⟨z0, z1, z2, z3, z4, z5, z6, z7, z8⟩, y0, y1, y2, y3, y4, y5, y6, y7, y8⟩ := (HF.out.2.1).c1
          have HX := Lib.hid HF.out.2.1
          go_wp2_with fail
          refine bodyPost_ret (v := .tuple #[.agg #[.int .i64 D.room, .slice S.fo S.fn S.fc, .slice S.so S.sn S.sc, .slice S.wo S.wn S.wk, .int .i64 D.units, .int .i64 D.left, .bool D.armed, .bool D.gone, .slice S.ao S.an S.ac], .int .i64 (D.fileN s : Nat)]) (by simp [results, Tryz.results33, go_sem, z0, z1, z2, z3, z4, z5, z6, z7, z8]) rfl ?_
          rw [HR.out]
          exact FI.out _ rfl
end Go.Proofs.YthfcmgbkhjnfjaaGreatDoor
