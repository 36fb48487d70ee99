/- The reference's Remove. The reference's Cut. The reference's Sync. -/
import Derived.Test.YthfcmgbkhjnfjaaGreatDoorVL
import Derived.Test.YthfcmgbkhjnfjaaGreatDoorVM
import Derived.Deep.RegionWith
namespace Go.Proofs.YthfcmgbkhjnfjaaGreatDoor
open Go.RowKit Go.Maps

set_option maxRecDepth 20000 in
set_option maxHeartbeats 6400000 in
theorem remove_S (s : ByteArray) (hs : s.size ≤ 1000000) (D : Dk) (S : Sh) (w : World) (h : IsD w D S) (ok : D.Ok) :
    Calls Tryz.prog 34 #[dv D S, .string s] w (RefS (D.remove s).2 (D.remove s).1 w) := by
  obtain ⟨N, hN⟩ : ∃ N, w.heap.size = N := ⟨_, rfl⟩
  obtain ⟨W0, hW0⟩ : ∃ W0, (w.alloc (.cells #[.int .i64 D.room, .slice S.fo S.fn S.fc, .slice S.so S.sn S.sc, .slice S.wo S.wn S.wk, .int .i64 D.units, .int .i64 D.left, .bool D.armed, .bool D.gone, .slice S.ao S.an S.ac] 37)).alloc (.cells #[.int .i64 0, .slice none 0 0, .slice none 0 0, .slice none 0 0, .int .i64 0, .int .i64 0, .bool false, .bool false, .slice none 0 0] 37) = W0 := ⟨_, rfl⟩
  have X0 := Lib.hid (Bx.made hW0 hN)
  have I0 : Hid (IsD W0 D S) := Lib.hid (h.below (by rw [hN]; exact X0.out.bb))
  have OK := Lib.hid ok
  obtain ⟨⟨q0, q1, q2, q3, q4, q5, q6, q7, q8⟩, -⟩ := X0.out.c0
  clear h ok
  unfold dv
  have AK := Lib.hid (asked_S s hs D S W0 I0.out OK.out)
  unfold dv at AK
  go_enter Tryz.func34, Tryz.ntmps34
  go_upto_region 1 with fail
  go_cut [6, 7] (fun v6 v7 wx => ∃ i : Int, v6 = .int .i64 i ∧ v7 = .int .i64 (D.fileN s : Nat) ∧ Hid ((D.fileN s = 0 → i = D.idx s) ∧ Bx w N (dc D S) wx ∧ IsD wx D S))
  case first =>
    go_wp2_with fail
    refine AK.out.mono ?_
    rintro e w1 ⟨i, rfl, hi, hb1⟩
    have HF := Lib.hid (And.intro hi (And.intro (X0.out.below hb1) (I0.out.below hb1)))
    clear hi hb1 AK X0 I0 q0 q1 q2 q3 q4 q5 q6 q7 q8
    go_wp2_with fail
    go_meet
    exact ⟨i, rfl, rfl, HF⟩
  case rest =>
    obtain ⟨i, rfl, rfl, HF⟩ := hcut
    clear q0 q1 q2 q3 q4 q5 q6 q7 q8 AK X0 I0 hW0
    by_cases h0 : D.fileN s = 0
    · rw [h0]
      have UN := Lib.hid (unit_S D S wc HF.out.2.2 OK.out)
      have HX := Lib.hid HF.out.2.1
      obtain ⟨D1, hD1⟩ : ∃ D1, D.spend 1 = D1 := ⟨_, rfl⟩
      obtain ⟨sp, hsp⟩ : ∃ sp, (!decide (D.spent 1 < 1)) = sp := ⟨_, rfl⟩
      have HD1 := Lib.hid hD1
      have HSP := Lib.hid hsp
      rw [hD1, hsp] at UN
      unfold dv at UN
      clear hD1 hsp
      go_upto_region 4 with fail
      go_cut [8] (fun v8 wx => v8 = .bool sp ∧ Hid (Bx w N (dc D1 S) wx ∧ IsD wx D1 S))
      case first =>
        obtain ⟨⟨c0, c1, c2, c3, c4, c5, c6, c7, c8⟩, -⟩ := HX.out.c0
        go_wp2_with fail
        refine UN.out.mono ?_
        rintro e w1 ⟨rfl, hI1, hb1⟩
        have HY := Lib.hid ((HX.out.below hb1).disk hI1)
        obtain ⟨⟨d0, d1, d2, d3, d4, d5, d6, d7, d8⟩, e0, e1, e2, e3, e4, e5, e6, e7, e8⟩ := (HX.out.below hb1).c0
        clear hI1 hb1 UN HX c0 c1 c2 c3 c4 c5 c6 c7 c8
        go_wp2_with fail
        go_meet
        exact ⟨rfl, HY⟩
      case rest =>
        obtain ⟨rfl, HY⟩ := hcut
        clear UN HX
        cases sp with
        | false =>
          have hres : D.remove s = (3, D1) := by unfold Dk.remove; rw [if_neg (by simp [h0]), if_pos (by simpa using HSP.out), HD1.out]
          have HR := Lib.hid hres
          clear hres h0 HD1 HSP
          have FI := Lib.hid (Bx.done (k := 3) HY.out.1 hN HY.out.2)
          obtain ⟨⟨c0, c1, c2, c3, c4, c5, c6, c7, c8⟩, -⟩ := (HY.out.1).c0
          obtain ⟨⟨z0, z1, z2, z3, z4, z5, z6, z7, z8⟩, y0, y1, y2, y3, y4, y5, y6, y7, y8⟩ := (HY.out.1).c1
          have HX := Lib.hid HY.out.1
          go_wp2_with fail
          refine bodyPost_ret (v := .tuple #[.agg #[.int .i64 D1.room, .slice S.fo S.fn S.fc, .slice S.so S.sn S.sc, .slice S.wo S.wn S.wk, .int .i64 D1.units, .int .i64 D1.left, .bool D1.armed, .bool D1.gone, .slice S.ao S.an S.ac], .int .i64 3]) (by simp [results, Tryz.results34, go_sem, z0, z1, z2, z3, z4, z5, z6, z7, z8]) rfl ?_
          rw [HR.out]
          exact FI.out _ rfl
        | true =>
          have hres : D.remove s = (0, (D1.moved ⟨⟨#[]⟩, s, 0⟩).did ⟨6, s, ⟨#[]⟩, ⟨#[]⟩, 0⟩) := by unfold Dk.remove; rw [if_neg (by simp [h0]), if_neg (by simpa using HSP.out), HD1.out]
          have HR := Lib.hid hres
          have hw1 : D1.waits = D.waits := by rw [← HD1.out]; rfl
          have ha1 : D1.acts = D.acts := by rw [← HD1.out]; rfl
          have MV := Lib.hid (moved_S D1 S ⟨⟨#[]⟩, s, 0⟩ wc HY.out.2 (by rw [hw1]; have := OK.out.many; omega))
          obtain ⟨⟨c0, c1, c2, c3, c4, c5, c6, c7, c8⟩, -⟩ := HY.out.1.c0
          clear hres h0 HD1 HSP hw1
          unfold dv at MV
          obtain ⟨D2, hD2⟩ : ∃ D2, D1.moved ⟨⟨#[]⟩, s, 0⟩ = D2 := ⟨_, rfl⟩
          have ha2 : D2.acts = D.acts := by rw [← hD2]; exact ha1
          rw [hD2] at MV HR
          clear hD2 ha1
          have DI := Lib.hid (fun S2 W (h : IsD W D2 S2) => did_S D2 S2 ⟨6, s, ⟨#[]⟩, ⟨#[]⟩, 0⟩ W h (by rw [ha2]; have := OK.out.acts; omega))
          unfold dv at DI
          obtain ⟨D3, hD3⟩ : ∃ D3, D2.did ⟨6, s, ⟨#[]⟩, ⟨#[]⟩, 0⟩ = D3 := ⟨_, rfl⟩
          rw [hD3] at DI HR
          clear hD3 ha2
          go_wp2_with fail
          refine MV.out.mono ?_
          rintro e w1 ⟨S2, rfl, hI2, hb1⟩
          have HX2 := Lib.hid (HY.out.1.below hb1)
          have D2C := Lib.hid (DI.out S2 w1 hI2)
          clear hI2 hb1 MV DI HY c0 c1 c2 c3 c4 c5 c6 c7 c8
          go_wp2_with fail
          refine D2C.out.mono ?_
          rintro e w2 ⟨S3, rfl, hI3, hb2⟩
          have FI := Lib.hid (Bx.done (k := 0) (HX2.out.below hb2) hN hI3)
          obtain ⟨⟨z0, z1, z2, z3, z4, z5, z6, z7, z8⟩, y0, y1, y2, y3, y4, y5, y6, y7, y8⟩ := (HX2.out.below hb2).c1
          clear hI3 hb2 HX2 D2C
          go_wp2_with fail
          refine bodyPost_ret (v := .tuple #[.agg #[.int .i64 D3.room, .slice S3.fo S3.fn S3.fc, .slice S3.so S3.sn S3.sc, .slice S3.wo S3.wn S3.wk, .int .i64 D3.units, .int .i64 D3.left, .bool D3.armed, .bool D3.gone, .slice S3.ao S3.an S3.ac], .int .i64 0]) (by simp [results, Tryz.results34, go_sem, z0, z1, z2, z3, z4, z5, z6, z7, z8]) rfl ?_
          rw [HR.out]
          exact FI.out _ rfl
    · have hk : ((D.fileN s : Int) == 0) = false := err_cases _ h0
      have hres : D.remove s = (D.fileN s, D) := by unfold Dk.remove; rw [if_pos h0]
      have HR := Lib.hid hres
      clear hres h0
      have FI := Lib.hid (Bx.done (k := (D.fileN s : Nat)) HF.out.2.1 hN HF.out.2.2)
      obtain ⟨⟨c0, c1, c2, c3, c4, c5, c6, c7, c8⟩, -⟩ := (HF.out.2.1).c0
      obtain ⟨⟨z0, z1, z2, z3, z4, z5, z6, z7, z8⟩, y0, y1, y2, y3, y4, y5, y6, y7, y8⟩ := (HF.out.2.1).c1
      have HX := Lib.hid HF.out.2.1
      go_wp2_with fail
      refine bodyPost_ret (v := .tuple #[.agg #[.int .i64 D.room, .slice S.fo S.fn S.fc, .slice S.so S.sn S.sc, .slice S.wo S.wn S.wk, .int .i64 D.units, .int .i64 D.left, .bool D.armed, .bool D.gone, .slice S.ao S.an S.ac], .int .i64 (D.fileN s : Nat)]) (by simp [results, Tryz.results34, go_sem, z0, z1, z2, z3, z4, z5, z6, z7, z8]) rfl ?_
      rw [HR.out]
      exact FI.out _ rfl
end Go.Proofs.YthfcmgbkhjnfjaaGreatDoor

namespace Go.Proofs.YthfcmgbkhjnfjaaGreatDoor
open Go.RowKit Go.Maps

theorem Fl.push_cut (F : Fl) (n : Int) : (F.push ⟨⟨#[]⟩, n, true⟩).bits = F.bits ++ [⟨0, n, true⟩] := by
  unfold Fl.bits Fl.push
  rw [List.flatMap_append]
  simp [Wt.bits]
set_option maxRecDepth 20000 in
set_option maxHeartbeats 6400000 in
theorem cut_S (s : ByteArray) (hs : s.size ≤ 1000000) (n : Int) (D : Dk) (S : Sh) (w : World) (h : IsD w D S) (ok : D.Ok) :
    Calls Tryz.prog 31 #[dv D S, .string s, .int .i64 n] w (RefS (D.cutFile s n).2 (D.cutFile s n).1 w) := by
  obtain ⟨N, hN⟩ : ∃ N, w.heap.size = N := ⟨_, rfl⟩
  obtain ⟨W0, hW0⟩ : ∃ W0, (w.alloc (.cells #[.int .i64 D.room, .slice S.fo S.fn S.fc, .slice S.so S.sn S.sc, .slice S.wo S.wn S.wk, .int .i64 D.units, .int .i64 D.left, .bool D.armed, .bool D.gone, .slice S.ao S.an S.ac] 37)).alloc (.cells #[.int .i64 0, .slice none 0 0, .slice none 0 0, .slice none 0 0, .int .i64 0, .int .i64 0, .bool false, .bool false, .slice none 0 0] 37) = W0 := ⟨_, rfl⟩
  have X0 := Lib.hid (Bx.made hW0 hN)
  have I0 : Hid (IsD W0 D S) := Lib.hid (h.below (by rw [hN]; exact X0.out.bb))
  have OK := Lib.hid ok
  obtain ⟨⟨q0, q1, q2, q3, q4, q5, q6, q7, q8⟩, -⟩ := X0.out.c0
  clear h ok
  unfold dv
  have AK := Lib.hid (asked_S s hs D S W0 I0.out OK.out)
  unfold dv at AK
  go_enter Tryz.func31, Tryz.ntmps31
  go_upto_region 1 with fail
  go_cut [8, 9] (fun v6 v7 wx => ∃ i : Int, v6 = .int .i64 i ∧ v7 = .int .i64 (D.fileN s : Nat) ∧ Hid ((D.fileN s = 0 → i = D.idx s) ∧ Bx w N (dc D S) wx ∧ IsD wx D S))
  case first =>
    go_wp2_with fail
    refine AK.out.mono ?_
    rintro e w1 ⟨i, rfl, hi, hb1⟩
    have HF := Lib.hid (And.intro hi (And.intro (X0.out.below hb1) (I0.out.below hb1)))
    clear hi hb1 AK X0 I0 q0 q1 q2 q3 q4 q5 q6 q7 q8
    go_wp2_with fail
    go_meet
    exact ⟨i, rfl, rfl, HF⟩
  case rest =>
    obtain ⟨i, rfl, rfl, HF⟩ := hcut
    clear q0 q1 q2 q3 q4 q5 q6 q7 q8 AK X0 I0 hW0
    by_cases h0 : D.fileN s = 0
    · rw [h0]
      obtain ⟨Fl0, hF, hix⟩ := IsD.found HF.out.2.2 OK.out h0
      obtain rfl := HF.out.1 h0
      have hfok := OK.out.files Fl0 (List.mem_of_getElem? hF)
      obtain ⟨ix, hixx⟩ : ∃ ix, D.idx s = ix := ⟨_, rfl⟩
      have HIX := Lib.hid hixx
      obtain ⟨bad, hbad⟩ : ∃ bad, decide (n < 0 ∨ (Fl0.seen.size : Int) < n) = bad := ⟨_, rfl⟩
      have HTX := Lib.hid (text_of hF)
      have HBAD := Lib.hid hbad
      rw [hixx] at hF hix ⊢
      have hfn := HF.out.2.2.fn
      have hiz : (ix : Int) < (S.fn : Int) := by omega
      clear hfn hixx
      obtain ⟨g, bo, bn, bk, hfo, hgl, hbits, hcl, -⟩ := IsD.file HF.out.2.2 hF
      have SE := Lib.hid (seen_S Fl0 hfok bo bn bk wc hbits)
      obtain ⟨sn, hsn⟩ : ∃ sn, Fl0.seen = sn := ⟨_, rfl⟩
      obtain ⟨k0, k1⟩ := hcl wc rfl
      clear hcl hbits hgl
      go_upto_region 4 with fail
      rw [hfo]
      go_cut [33] (fun v33 wx => v33 = .bool bad ∧ Hid (Bx w N (dc D S) wx ∧ IsD wx D S))
      case first =>
        rw [hsn] at SE hbad
        obtain ⟨⟨c0, c1, c2, c3, c4, c5, c6, c7, c8⟩, -⟩ := HF.out.2.1.c0
        rw [hfo] at c1
        have HX := Lib.hid HF.out.2
        clear HTX HBAD HIX hfok hF hix HF h0 hsn
        by_cases hneg : n < 0
        · have hd : decide (n < 0) = true := decide_eq_true hneg
          have hb : bad = true := by rw [← hbad]; exact decide_eq_true (.inl hneg)
          subst hb
          clear hbad SE
          go_wp2_with fail
          go_meet
          exact ⟨rfl, HX⟩
        · have hd : decide (n < 0) = false := decide_eq_false hneg
          have hb : decide ((sn.size : Int) < n) = bad := by rw [← hbad]; simp [hneg]
          clear hbad hneg
          go_wp2_with fail
          refine SE.out.mono ?_
          rintro e w1 ⟨rfl, hb1⟩
          have HX1 := Lib.hid (And.intro (HX.out.1.below hb1) (HX.out.2.below hb1))
          clear hb1 HX SE
          go_wp2_with fail
          go_meet
          exact ⟨rfl, HX1⟩
      case rest =>
        obtain ⟨rfl, HX⟩ := hcut
        clear HF hbad SE hsn k0 k1
        have HFO := Lib.hid hfo
        clear hfo
        cases bad with
        | true =>
          have hres : D.cutFile s n = (1, D) := by unfold Dk.cutFile; rw [if_neg (by simp [h0]), if_pos (by rw [HTX.out]; exact of_decide_eq_true HBAD.out)]
          have HR := Lib.hid hres
          clear hres h0 HBAD HTX hF HIX hix hfok hiz
          have FI := Lib.hid (Bx.done (k := 1) HX.out.1 hN HX.out.2)
          obtain ⟨⟨c0, c1, c2, c3, c4, c5, c6, c7, c8⟩, -⟩ := (HX.out.1).c0
          obtain ⟨⟨z0, z1, z2, z3, z4, z5, z6, z7, z8⟩, y0, y1, y2, y3, y4, y5, y6, y7, y8⟩ := (HX.out.1).c1
          have HX := Lib.hid HX.out.1
          go_wp2_with fail
          refine bodyPost_ret (v := .tuple #[.agg #[.int .i64 D.room, .slice S.fo S.fn S.fc, .slice S.so S.sn S.sc, .slice S.wo S.wn S.wk, .int .i64 D.units, .int .i64 D.left, .bool D.armed, .bool D.gone, .slice S.ao S.an S.ac], .int .i64 1]) (by simp [results, Tryz.results31, go_sem, z0, z1, z2, z3, z4, z5, z6, z7, z8]) rfl ?_
          rw [HR.out]
          exact FI.out _ rfl
        | false =>
          have HB := Lib.hid (of_decide_eq_false HBAD.out)
          clear HBAD
          have UN := Lib.hid (unit_S D S wc HX.out.2 OK.out)
          have HX := Lib.hid HX.out.1
          obtain ⟨D1, hD1⟩ : ∃ D1, D.spend 1 = D1 := ⟨_, rfl⟩
          obtain ⟨sp, hsp⟩ : ∃ sp, (!decide (D.spent 1 < 1)) = sp := ⟨_, rfl⟩
          have HD1 := Lib.hid hD1
          have HSP := Lib.hid hsp
          rw [hD1, hsp] at UN
          unfold dv at UN
          clear hD1 hsp
          go_upto_region 6 with fail
          go_cut [10] (fun v8 wx => v8 = .bool sp ∧ Hid (Bx w N (dc D1 S) wx ∧ IsD wx D1 S))
          case first =>
            obtain ⟨⟨c0, c1, c2, c3, c4, c5, c6, c7, c8⟩, -⟩ := HX.out.c0
            go_wp2_with fail
            refine UN.out.mono ?_
            rintro e w1 ⟨rfl, hI1, hb1⟩
            have HY := Lib.hid ((HX.out.below hb1).disk hI1)
            obtain ⟨⟨d0, d1, d2, d3, d4, d5, d6, d7, d8⟩, e0, e1, e2, e3, e4, e5, e6, e7, e8⟩ := (HX.out.below hb1).c0
            clear hI1 hb1 UN HX c0 c1 c2 c3 c4 c5 c6 c7 c8
            go_wp2_with fail
            go_meet
            exact ⟨rfl, HY⟩
          case rest =>
            obtain ⟨rfl, HY⟩ := hcut
            clear UN HX
            cases sp with
            | false =>
              have hres : D.cutFile s n = (3, D1) := by unfold Dk.cutFile; rw [if_neg (by simp [h0]), if_neg (by rw [HTX.out]; exact HB.out), if_pos (by simpa using HSP.out), HD1.out]
              have HR := Lib.hid hres
              clear hres h0 HD1 HSP hF HB HTX HIX hix hfok hiz
              have FI := Lib.hid (Bx.done (k := 3) HY.out.1 hN HY.out.2)
              obtain ⟨⟨c0, c1, c2, c3, c4, c5, c6, c7, c8⟩, -⟩ := (HY.out.1).c0
              obtain ⟨⟨z0, z1, z2, z3, z4, z5, z6, z7, z8⟩, y0, y1, y2, y3, y4, y5, y6, y7, y8⟩ := (HY.out.1).c1
              have HX := Lib.hid HY.out.1
              go_wp2_with fail
              refine bodyPost_ret (v := .tuple #[.agg #[.int .i64 D1.room, .slice S.fo S.fn S.fc, .slice S.so S.sn S.sc, .slice S.wo S.wn S.wk, .int .i64 D1.units, .int .i64 D1.left, .bool D1.armed, .bool D1.gone, .slice S.ao S.an S.ac], .int .i64 3]) (by simp [results, Tryz.results31, go_sem, z0, z1, z2, z3, z4, z5, z6, z7, z8]) rfl ?_
              rw [HR.out]
              exact FI.out _ rfl
            | true =>
              have hres : D.cutFile s n = (0, (D1.setFile ix (Fl0.push ⟨⟨#[]⟩, n, true⟩)).did ⟨3, s, ⟨#[]⟩, ⟨#[]⟩, n⟩) := by unfold Dk.cutFile; rw [if_neg (by simp [h0]), if_neg (by rw [HTX.out]; exact HB.out), if_neg (by simpa using HSP.out), HD1.out, fileAt_of (by rw [HIX.out]; exact hF), HIX.out]
              have HR := Lib.hid hres
              have hf1 : D1.files = D.files := by rw [← HD1.out]; rfl
              have ha1 : D1.acts = D.acts := by rw [← HD1.out]; rfl
              rw [← hf1] at hF hix
              obtain ⟨g2, bo, bn, bk, hfo2, hgl, hbits, hcl, -⟩ := IsD.file HY.out.2 hF
              obtain rfl : g2 = g := by rw [HFO.out] at hfo2; simpa using hfo2.symm
              have hfo := HFO.out
              have WT := Lib.hid (fun W (hb : Below wc.heap.size wc W) => wait_S Fl0.sure bo bn bk Fl0.bits ⟨0, n, true⟩ W (own0_below hbits hb) (Fl.bits_le hfok))
              have hn1 : D1.files.length ≤ 10000000 := by rw [hf1]; have := OK.out.lots; omega
              have WI : Hid (∀ W bo bn bk, Below wc.heap.size wc W → BitsAt W (.slice bo bn bk) (Fl0.bits ++ [⟨0, n, true⟩]) → Calls Tryz.prog 61 #[dv D1 S, .int .i64 ix, .agg #[.string Fl0.sure, .slice bo bn bk]] W fun e w' => ∃ S' : Sh, e = .returned (dv (D1.setFile ix (Fl0.push ⟨⟨#[]⟩, n, true⟩)) S') ∧ IsD w' (D1.setFile ix (Fl0.push ⟨⟨#[]⟩, n, true⟩)) S' ∧ Below W.heap.size W w') := Lib.hid (fun W bo bn bk hb hB => with_S D1 S ix (Fl0.push ⟨⟨#[]⟩, n, true⟩) bo bn bk W (HY.out.2.below hb) hn1 hix (by rw [Fl.push_cut]; exact hB))
              unfold dv at WI
              obtain ⟨D2, hD2⟩ : ∃ D2, D1.setFile ix (Fl0.push ⟨⟨#[]⟩, n, true⟩) = D2 := ⟨_, rfl⟩
              have ha2 : D2.acts = D.acts := by rw [← hD2]; exact ha1
              rw [hD2] at WI HR
              obtain ⟨k0, k1⟩ := hcl wc rfl
              obtain ⟨⟨c0, c1, c2, c3, c4, c5, c6, c7, c8⟩, d0, d1, d2, d3, d4, d5, d6, d7, d8⟩ := HY.out.1.c0
              rw [hfo] at c1 WI
              clear hD2 ha1 hres h0 HD1 HSP hF HIX HTX HB hf1 hcl hbits hfok hn1 hix
              go_upto_region 9 with fail
              go_cut [] (fun wx => ∃ S2, Hid (Bx w N (dc D2 S2) wx ∧ IsD wx D2 S2))
              case first =>
                go_region_with (first
                  | (go_at_call 63; refine (WT.out _ (Below.drew (Below.refl _ _))).mono ?_; rintro e w1 ⟨bo2, bn2, bk2, rfl, hv, hb1⟩; have HB1 := Lib.hid (below_undrew hb1); have WI2 := Lib.hid (WI.out w1 _ _ _ HB1.out hv); obtain ⟨⟨p0, p1, p2, p3, p4, p5, p6, p7, p8⟩, -⟩ := (HY.out.1.below HB1.out).c0; rw [hfo] at p1; clear hb1 hv)
                  | (go_at_call 61; refine (WI2.out).mono ?_; rintro e w2 ⟨S2, rfl, hI2, hb2⟩; have HZ := Lib.hid (((HY.out.1.below HB1.out).below hb2).disk hI2); obtain ⟨⟨r0, r1, r2, r3, r4, r5, r6, r7, r8⟩, f0, f1, f2, f3, f4, f5, f6, f7, f8⟩ := ((HY.out.1.below HB1.out).below hb2).c0; clear hI2 hb2)
                  | fail)
                all_goals
                  go_wp2_with fail
                  go_meet
                  exact ⟨_, HZ⟩
              case rest =>
                obtain ⟨S2, HZ⟩ := hcut
                clear HY WT WI k0 k1 hiz hgl hfo c0 c1 c2 c3 c4 c5 c6 c7 c8 d0 d1 d2 d3 d4 d5 d6 d7 d8
                have DI := Lib.hid (did_S D2 S2 ⟨3, s, ⟨#[]⟩, ⟨#[]⟩, n⟩ wc HZ.out.2 (by rw [ha2]; have := OK.out.acts; omega))
                have HXD := Lib.hid HZ.out.1
                unfold dv at DI
                obtain ⟨D9, hD9⟩ : ∃ D9, D2.did ⟨3, s, ⟨#[]⟩, ⟨#[]⟩, n⟩ = D9 := ⟨_, rfl⟩
                rw [hD9] at DI HR
                clear hD9
                obtain ⟨⟨c0, c1, c2, c3, c4, c5, c6, c7, c8⟩, -⟩ := HXD.out.c0
                go_wp2_with fail
                refine DI.out.mono ?_
                rintro e w2 ⟨S9, rfl, hI9, hb9⟩
                have FI := Lib.hid (Bx.done (k := 0) (HXD.out.below hb9) hN hI9)
                obtain ⟨⟨z0, z1, z2, z3, z4, z5, z6, z7, z8⟩, y0, y1, y2, y3, y4, y5, y6, y7, y8⟩ := (HXD.out.below hb9).c1
                clear hI9 hb9 HXD DI c0 c1 c2 c3 c4 c5 c6 c7 c8
                go_wp2_with fail
                refine bodyPost_ret (v := .tuple #[.agg #[.int .i64 D9.room, .slice S9.fo S9.fn S9.fc, .slice S9.so S9.sn S9.sc, .slice S9.wo S9.wn S9.wk, .int .i64 D9.units, .int .i64 D9.left, .bool D9.armed, .bool D9.gone, .slice S9.ao S9.an S9.ac], .int .i64 0]) (by simp [results, Tryz.results31, go_sem, z0, z1, z2, z3, z4, z5, z6, z7, z8]) rfl ?_
                rw [HR.out]
                exact FI.out _ rfl
    · have hk : ((D.fileN s : Int) == 0) = false := err_cases _ h0
      have hres : D.cutFile s n = (D.fileN s, D) := by unfold Dk.cutFile; rw [if_pos h0]
      have HR := Lib.hid hres
      clear hres h0
      have FI := Lib.hid (Bx.done (k := (D.fileN s : Nat)) HF.out.2.1 hN HF.out.2.2)
      obtain ⟨⟨c0, c1, c2, c3, c4, c5, c6, c7, c8⟩, -⟩ := (HF.out.2.1).c0
      obtain ⟨⟨z0, z1, z2, z3, z4, z5, z6, z7, z8⟩, y0, y1, y2, y3, y4, y5, y6, y7, y8⟩ := (HF.out.2.1).c1
      have HX := Lib.hid HF.out.2.1
      go_wp2_with fail
      refine bodyPost_ret (v := .tuple #[.agg #[.int .i64 D.room, .slice S.fo S.fn S.fc, .slice S.so S.sn S.sc, .slice S.wo S.wn S.wk, .int .i64 D.units, .int .i64 D.left, .bool D.armed, .bool D.gone, .slice S.ao S.an S.ac], .int .i64 (D.fileN s : Nat)]) (by simp [results, Tryz.results31, go_sem, z0, z1, z2, z3, z4, z5, z6, z7, z8]) rfl ?_
      rw [HR.out]
      exact FI.out _ rfl
end Go.Proofs.YthfcmgbkhjnfjaaGreatDoor

namespace Go.Proofs.YthfcmgbkhjnfjaaGreatDoor
open Go.RowKit Go.Maps

set_option maxRecDepth 20000 in
set_option maxHeartbeats 6400000 in
theorem sync_S (s : ByteArray) (hs : s.size ≤ 1000000) (D : Dk) (S : Sh) (w : World) (h : IsD w D S) (ok : D.Ok) :
    Calls Tryz.prog 32 #[dv D S, .string s] w (RefS (D.sync s).2 (D.sync s).1 w) := by
  obtain ⟨N, hN⟩ : ∃ N, w.heap.size = N := ⟨_, rfl⟩
  obtain ⟨W0, hW0⟩ : ∃ W0, (w.alloc (.cells #[.int .i64 D.room, .slice S.fo S.fn S.fc, .slice S.so S.sn S.sc, .slice S.wo S.wn S.wk, .int .i64 D.units, .int .i64 D.left, .bool D.armed, .bool D.gone, .slice S.ao S.an S.ac] 37)).alloc (.cells #[.int .i64 0, .slice none 0 0, .slice none 0 0, .slice none 0 0, .int .i64 0, .int .i64 0, .bool false, .bool false, .slice none 0 0] 37) = W0 := ⟨_, rfl⟩
  have X0 := Lib.hid (Bx.made hW0 hN)
  have I0 : Hid (IsD W0 D S) := Lib.hid (h.below (by rw [hN]; exact X0.out.bb))
  have OK := Lib.hid ok
  obtain ⟨⟨q0, q1, q2, q3, q4, q5, q6, q7, q8⟩, -⟩ := X0.out.c0
  clear h ok
  unfold dv
  have AK := Lib.hid (asked_S s hs D S W0 I0.out OK.out)
  unfold dv at AK
  go_enter Tryz.func32, Tryz.ntmps32
  go_upto_region 1 with fail
  go_cut [6, 7] (fun v6 v7 wx => ∃ i : Int, v6 = .int .i64 i ∧ v7 = .int .i64 (D.fileN s : Nat) ∧ Hid ((D.fileN s = 0 → i = D.idx s) ∧ Bx w N (dc D S) wx ∧ IsD wx D S))
  case first =>
    go_wp2_with fail
    refine AK.out.mono ?_
    rintro e w1 ⟨i, rfl, hi, hb1⟩
    have HF := Lib.hid (And.intro hi (And.intro (X0.out.below hb1) (I0.out.below hb1)))
    clear hi hb1 AK X0 I0 q0 q1 q2 q3 q4 q5 q6 q7 q8
    go_wp2_with fail
    go_meet
    exact ⟨i, rfl, rfl, HF⟩
  case rest =>
    obtain ⟨i, rfl, rfl, HF⟩ := hcut
    clear q0 q1 q2 q3 q4 q5 q6 q7 q8 AK X0 I0 hW0
    by_cases h0 : D.fileN s = 0
    · rw [h0]
      obtain ⟨Fl0, hF, hix⟩ := IsD.found HF.out.2.2 OK.out h0
      obtain rfl := HF.out.1 h0
      have UN := Lib.hid (unit_S D S wc HF.out.2.2 OK.out)
      have HX := Lib.hid HF.out.2.1
      obtain ⟨D1, hD1⟩ : ∃ D1, D.spend 1 = D1 := ⟨_, rfl⟩
      obtain ⟨sp, hsp⟩ : ∃ sp, (!decide (D.spent 1 < 1)) = sp := ⟨_, rfl⟩
      have HD1 := Lib.hid hD1
      have HSP := Lib.hid hsp
      rw [hD1, hsp] at UN
      unfold dv at UN
      clear hD1 hsp
      go_upto_region 4 with fail
      go_cut [8] (fun v8 wx => v8 = .bool sp ∧ Hid (Bx w N (dc D1 S) wx ∧ IsD wx D1 S))
      case first =>
        obtain ⟨⟨c0, c1, c2, c3, c4, c5, c6, c7, c8⟩, -⟩ := HX.out.c0
        go_wp2_with fail
        refine UN.out.mono ?_
        rintro e w1 ⟨rfl, hI1, hb1⟩
        have HY := Lib.hid ((HX.out.below hb1).disk hI1)
        obtain ⟨⟨d0, d1, d2, d3, d4, d5, d6, d7, d8⟩, e0, e1, e2, e3, e4, e5, e6, e7, e8⟩ := (HX.out.below hb1).c0
        clear hI1 hb1 UN HX c0 c1 c2 c3 c4 c5 c6 c7 c8
        go_wp2_with fail
        go_meet
        exact ⟨rfl, HY⟩
      case rest =>
        obtain ⟨rfl, HY⟩ := hcut
        clear UN HX
        cases sp with
        | false =>
          have hres : D.sync s = (3, D1) := by unfold Dk.sync; rw [if_neg (by simp [h0]), if_pos (by simpa using HSP.out), HD1.out]
          have HR := Lib.hid hres
          clear hres h0 HD1 HSP hF
          have FI := Lib.hid (Bx.done (k := 3) HY.out.1 hN HY.out.2)
          obtain ⟨⟨c0, c1, c2, c3, c4, c5, c6, c7, c8⟩, -⟩ := (HY.out.1).c0
          obtain ⟨⟨z0, z1, z2, z3, z4, z5, z6, z7, z8⟩, y0, y1, y2, y3, y4, y5, y6, y7, y8⟩ := (HY.out.1).c1
          have HX := Lib.hid HY.out.1
          go_wp2_with fail
          refine bodyPost_ret (v := .tuple #[.agg #[.int .i64 D1.room, .slice S.fo S.fn S.fc, .slice S.so S.sn S.sc, .slice S.wo S.wn S.wk, .int .i64 D1.units, .int .i64 D1.left, .bool D1.armed, .bool D1.gone, .slice S.ao S.an S.ac], .int .i64 3]) (by simp [results, Tryz.results32, go_sem, z0, z1, z2, z3, z4, z5, z6, z7, z8]) rfl ?_
          rw [HR.out]
          exact FI.out _ rfl
        | true =>
          have hres : D.sync s = (0, (D1.setFile (D.idx s) ⟨Fl0.seen, []⟩).did ⟨4, s, ⟨#[]⟩, ⟨#[]⟩, 0⟩) := by unfold Dk.sync; rw [if_neg (by simp [h0]), if_neg (by simpa using HSP.out), HD1.out, text_of hF]
          have HR := Lib.hid hres
          have hf1 : D1.files = D.files := by rw [← HD1.out]; rfl
          have ha1 : D1.acts = D.acts := by rw [← HD1.out]; rfl
          rw [← hf1] at hF hix
          have hfok := OK.out.files Fl0 (by rw [← hf1]; exact List.mem_of_getElem? hF)
          obtain ⟨g, bo, bn, bk, hfo, hgl, hbits, hcl, -⟩ := IsD.file HY.out.2 hF
          have SE := Lib.hid (fun W (hb : Below wc.heap.size wc W) => seen_S Fl0 hfok bo bn bk W (own0_below hbits hb))
          have hn1 : D1.files.length ≤ 10000000 := by rw [hf1]; have := OK.out.lots; omega
          have WI := Lib.hid (fun W (hb : Below wc.heap.size wc W) => with_S D1 S (D.idx s) ⟨Fl0.seen, []⟩ none 0 0 W (HY.out.2.below hb) hn1 hix (World.ownsRow_nil _ _ _ _))
          unfold dv at WI
          obtain ⟨D2, hD2⟩ : ∃ D2, D1.setFile (D.idx s) ⟨Fl0.seen, []⟩ = D2 := ⟨_, rfl⟩
          have ha2 : D2.acts = D.acts := by rw [← hD2]; exact ha1
          rw [hD2] at WI HR
          have hfn := HY.out.2.fn
          rw [← hfn] at hix
          obtain ⟨ix, hixx⟩ : ∃ ix, D.idx s = ix := ⟨_, rfl⟩
          rw [hixx] at WI hix hcl ⊢
          have hiz : (ix : Int) < (S.fn : Int) := by omega
          obtain ⟨k0, k1⟩ := hcl wc rfl
          obtain ⟨sn, hsn⟩ : ∃ sn, Fl0.seen = sn := ⟨_, rfl⟩
          rw [hsn] at SE WI
          obtain ⟨⟨c0, c1, c2, c3, c4, c5, c6, c7, c8⟩, d0, d1, d2, d3, d4, d5, d6, d7, d8⟩ := HY.out.1.c0
          rw [hfo] at c1 WI
          have HCL := Lib.hid hcl
          clear hD2 ha1 hres h0 HD1 HSP hF hixx hsn hf1 hcl hbits hfok hn1 hfn hix
          go_upto_region 7 with fail
          rw [hfo]
          go_cut [] (fun wx => ∃ S2, Hid (Bx w N (dc D2 S2) wx ∧ IsD wx D2 S2))
          case first =>
            go_region_with (first
              | (go_at_call 62; refine (SE.out _ (Below.drew (Below.refl _ _))).mono ?_; rintro e w1 ⟨rfl, hb1⟩; have HB1 := Lib.hid (below_undrew hb1); obtain ⟨⟨p0, p1, p2, p3, p4, p5, p6, p7, p8⟩, -⟩ := (HY.out.1.below HB1.out).c0; rw [hfo] at p1; clear hb1)
              | (go_at_call 61; refine (WI.out w1 HB1.out).mono ?_; rintro e w2 ⟨S2, rfl, hI2, hb2⟩; have HZ := Lib.hid (((HY.out.1.below HB1.out).below hb2).disk hI2); obtain ⟨⟨r0, r1, r2, r3, r4, r5, r6, r7, r8⟩, f0, f1, f2, f3, f4, f5, f6, f7, f8⟩ := ((HY.out.1.below HB1.out).below hb2).c0; clear hI2 hb2)
              | fail)
            all_goals
              go_wp2_with fail
              go_meet
              exact ⟨_, HZ⟩
          case rest =>
            obtain ⟨S2, HZ⟩ := hcut
            clear HY SE WI HCL k0 k1 hiz hgl hfo c0 c1 c2 c3 c4 c5 c6 c7 c8 d0 d1 d2 d3 d4 d5 d6 d7 d8
            have DI := Lib.hid (did_S D2 S2 ⟨4, s, ⟨#[]⟩, ⟨#[]⟩, 0⟩ wc HZ.out.2 (by rw [ha2]; have := OK.out.acts; omega))
            have HXD := Lib.hid HZ.out.1
            unfold dv at DI
            obtain ⟨D9, hD9⟩ : ∃ D9, D2.did ⟨4, s, ⟨#[]⟩, ⟨#[]⟩, 0⟩ = D9 := ⟨_, rfl⟩
            rw [hD9] at DI HR
            clear hD9
            obtain ⟨⟨c0, c1, c2, c3, c4, c5, c6, c7, c8⟩, -⟩ := HXD.out.c0
            go_wp2_with fail
            refine DI.out.mono ?_
            rintro e w2 ⟨S9, rfl, hI9, hb9⟩
            have FI := Lib.hid (Bx.done (k := 0) (HXD.out.below hb9) hN hI9)
            obtain ⟨⟨z0, z1, z2, z3, z4, z5, z6, z7, z8⟩, y0, y1, y2, y3, y4, y5, y6, y7, y8⟩ := (HXD.out.below hb9).c1
            clear hI9 hb9 HXD DI c0 c1 c2 c3 c4 c5 c6 c7 c8
            go_wp2_with fail
            refine bodyPost_ret (v := .tuple #[.agg #[.int .i64 D9.room, .slice S9.fo S9.fn S9.fc, .slice S9.so S9.sn S9.sc, .slice S9.wo S9.wn S9.wk, .int .i64 D9.units, .int .i64 D9.left, .bool D9.armed, .bool D9.gone, .slice S9.ao S9.an S9.ac], .int .i64 0]) (by simp [results, Tryz.results32, go_sem, z0, z1, z2, z3, z4, z5, z6, z7, z8]) rfl ?_
            rw [HR.out]
            exact FI.out _ rfl
    · have hk : ((D.fileN s : Int) == 0) = false := err_cases _ h0
      have hres : D.sync s = (D.fileN s, D) := by unfold Dk.sync; rw [if_pos h0]
      have HR := Lib.hid hres
      clear hres h0
      have FI := Lib.hid (Bx.done (k := (D.fileN s : Nat)) HF.out.2.1 hN HF.out.2.2)
      obtain ⟨⟨c0, c1, c2, c3, c4, c5, c6, c7, c8⟩, -⟩ := (HF.out.2.1).c0
      obtain ⟨⟨z0, z1, z2, z3, z4, z5, z6, z7, z8⟩, y0, y1, y2, y3, y4, y5, y6, y7, y8⟩ := (HF.out.2.1).c1
      have HX := Lib.hid HF.out.2.1
      go_wp2_with fail
      refine bodyPost_ret (v := .tuple #[.agg #[.int .i64 D.room, .slice S.fo S.fn S.fc, .slice S.so S.sn S.sc, .slice S.wo S.wn S.wk, .int .i64 D.units, .int .i64 D.left, .bool D.armed, .bool D.gone, .slice S.ao S.an S.ac], .int .i64 (D.fileN s : Nat)]) (by simp [results, Tryz.results32, go_sem, z0, z1, z2, z3, z4, z5, z6, z7, z8]) rfl ?_
      rw [HR.out]
      exact FI.out _ rfl
end Go.Proofs.YthfcmgbkhjnfjaaGreatDoor
