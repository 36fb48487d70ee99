/- The reference's Write. -/
import Derived.Test.YthfcmgbkhjnfjaaGreatDoorVL
import Derived.Deep.LoopGhost
import Derived.Deep.CutRange
import Derived.Test.YthfcmgbkhjnfjaaGreatDoorVM
import Derived.Deep.RegionWith
namespace Go.Proofs.YthfcmgbkhjnfjaaGreatDoor
open Go.RowKit Go.Maps

set_option maxRecDepth 20000 in
set_option maxHeartbeats 6400000 in
theorem write_S (s t : ByteArray) (hs : s.size ≤ 1000000) (ht : t.size ≤ 1000000) (D : Dk) (S : Sh) (w : World) (h : IsD w D S) (ok : D.Ok) (hu : D.units ≤ 90000000) (hr0 : 0 ≤ D.room) (hr1 : D.room ≤ 9223372036854775807) :
    Calls Tryz.prog 30 #[dv D S, .string s, .string t] w (RefS (D.write s t).2 (D.write s t).1 w) := by
  obtain ⟨N, hN⟩ : ∃ N, w.heap.size = N := ⟨_, rfl⟩
  obtain ⟨W0, hW0⟩ : ∃ W0, (w.alloc (.cells #[.int .i64 D.room, .slice S.fo S.fn S.fc, .slice S.so S.sn S.sc, .slice S.wo S.wn S.wk, .int .i64 D.units, .int .i64 D.left, .bool D.armed, .bool D.gone, .slice S.ao S.an S.ac] 37)).alloc (.cells #[.int .i64 0, .slice none 0 0, .slice none 0 0, .slice none 0 0, .int .i64 0, .int .i64 0, .bool false, .bool false, .slice none 0 0] 37) = W0 := ⟨_, rfl⟩
  have X0 := Lib.hid (Bx.made hW0 hN)
  have I0 : Hid (IsD W0 D S) := Lib.hid (h.below (by rw [hN]; exact X0.out.bb))
  have OK := Lib.hid ok
  have HWD := Lib.hid h
  obtain ⟨⟨q0, q1, q2, q3, q4, q5, q6, q7, q8⟩, -⟩ := X0.out.c0
  clear h ok
  unfold dv
  have AK := Lib.hid (asked_S s hs D S W0 I0.out OK.out)
  unfold dv at AK
  go_enter Tryz.func30, Tryz.ntmps30
  go_upto_region 1 with fail
  go_cut [8, 9] (fun v6 v7 wx => ∃ i : Int, v6 = .int .i64 i ∧ v7 = .int .i64 (D.fileN s : Nat) ∧ Hid ((D.fileN s = 0 → i = D.idx s) ∧ Bx w N (dc D S) wx ∧ IsD wx D S))
  case first =>
    go_wp2_with fail
    refine AK.out.mono ?_
    rintro e w1 ⟨i, rfl, hi, hb1⟩
    have HF := Lib.hid (And.intro hi (And.intro (X0.out.below hb1) (I0.out.below hb1)))
    clear hi hb1 AK X0 I0 q0 q1 q2 q3 q4 q5 q6 q7 q8
    go_wp2_with fail
    go_meet
    exact ⟨i, rfl, rfl, HF⟩
  case rest =>
    obtain ⟨i, rfl, rfl, HF⟩ := hcut
    clear q0 q1 q2 q3 q4 q5 q6 q7 q8 AK X0 I0 hW0
    by_cases h0 : D.fileN s = 0
    · rw [h0]
      obtain ⟨F, hF, hix⟩ := IsD.found HF.out.2.2 OK.out h0
      obtain rfl := HF.out.1 h0
      have FR := Lib.hid (free_S D S wc HF.out.2.2 OK.out hr0 hr1)
      unfold dv at FR
      obtain ⟨fr, hfr⟩ : ∃ fr, D.free = fr := ⟨_, rfl⟩
      have HFR := Lib.hid hfr
      rw [hfr] at FR
      obtain ⟨fb, hfb⟩ : ∃ fb, decide (fr < (t.size : Int)) = fb := ⟨_, rfl⟩
      have HFB := Lib.hid hfb
      clear hfr hr0 hr1
      go_upto_region 4 with fail
      go_cut [27] (fun v27 wx => v27 = .bool fb ∧ Hid (Bx w N (dc D S) wx ∧ IsD wx D S))
      case first =>
        obtain ⟨⟨c0, c1, c2, c3, c4, c5, c6, c7, c8⟩, -⟩ := HF.out.2.1.c0
        have HX := Lib.hid HF.out.2
        clear HFB HFR hF hix HF h0
        go_wp2_with fail
        refine FR.out.mono ?_
        rintro e w1 ⟨rfl, hb1⟩
        have HX1 := Lib.hid (And.intro (HX.out.1.below hb1) (HX.out.2.below hb1))
        clear hb1 HX FR
        go_wp2_with fail
        go_meet
        exact ⟨rfl, HX1⟩
      case rest =>
        obtain ⟨rfl, HX⟩ := hcut
        clear HF hfb FR
        cases fb with
        | true =>
          have hres : D.write s t = (4, D) := by unfold Dk.write; rw [if_neg (by simp [h0]), if_pos (by rw [HFR.out]; exact of_decide_eq_true HFB.out)]
          have HR := Lib.hid hres
          clear hres h0 HFB HFR hF hix
          have FI := Lib.hid (Bx.done (k := 4) HX.out.1 hN HX.out.2)
          obtain ⟨⟨c0, c1, c2, c3, c4, c5, c6, c7, c8⟩, -⟩ := (HX.out.1).c0
          obtain ⟨⟨z0, z1, z2, z3, z4, z5, z6, z7, z8⟩, y0, y1, y2, y3, y4, y5, y6, y7, y8⟩ := (HX.out.1).c1
          have HX := Lib.hid HX.out.1
          go_wp2_with fail
          refine bodyPost_ret (v := .tuple #[.agg #[.int .i64 D.room, .slice S.fo S.fn S.fc, .slice S.so S.sn S.sc, .slice S.wo S.wn S.wk, .int .i64 D.units, .int .i64 D.left, .bool D.armed, .bool D.gone, .slice S.ao S.an S.ac], .int .i64 4]) (by simp [results, Tryz.results30, go_sem, z0, z1, z2, z3, z4, z5, z6, z7, z8]) rfl ?_
          rw [HR.out]
          exact FI.out _ rfl
        | false =>
          have HB := Lib.hid (of_decide_eq_false HFB.out)
          obtain ⟨g, bo, bn, bk, hfo, hgl, hbits, hcl, -⟩ := IsD.file HX.out.2 hF
          obtain ⟨ix, hixx⟩ : ∃ ix, D.idx s = ix := ⟨_, rfl⟩
          have HIX := Lib.hid hixx
          have HFIL := Lib.hid hF
          have hfn := HX.out.2.fn
          rw [hixx] at hix hcl ⊢
          have hiz : (ix : Int) < (S.fn : Int) := by omega
          obtain ⟨k0, k1⟩ := hcl wc rfl
          have HBI := Lib.hid hbits
          have H0 := Lib.hid h0
          clear hcl hbits hfn hixx HFB hF h0 hix
          go_upto_region 8 with fail
          rw [hfo]
          go_cut [12] (fun v12 wx => ∃ M, v12 = .pointer (some ⟨M, 0, none⟩) ∧ Hid (N + 1 < M ∧ Bx w N (dc D S) wx ∧ IsD wx D S ∧ wx.heap[M]? = some (.cells #[.string F.sure, .slice bo bn bk] 86 (0, 0)) ∧ wx.heap.size = M + 1 ∧ BitsAt wx (.slice bo bn bk) F.bits))
          case first =>
            obtain ⟨⟨c0, c1, c2, c3, c4, c5, c6, c7, c8⟩, -⟩ := HX.out.1.c0
            rw [hfo] at c1
            clear HFIL
            have hM : N + 1 < wc.heap.size := HX.out.1.lt
            have FIN := Lib.hid (And.intro hM (And.intro (HX.out.1.below ((Below.refl _ wc).alloc (Nat.le_refl _) (.cells #[.string F.sure, .slice bo bn bk] 86))) (And.intro (HX.out.2.below ((Below.refl _ wc).alloc (Nat.le_refl _) (.cells #[.string F.sure, .slice bo bn bk] 86))) (And.intro (heap_alloc_new wc (.cells #[.string F.sure, .slice bo bn bk] 86)) (And.intro (show (wc.alloc (.cells #[.string F.sure, .slice bo bn bk] 86)).heap.size = wc.heap.size + 1 by simp) (own0_below HBI.out ((Below.refl _ wc).alloc (Nat.le_refl _) (.cells #[.string F.sure, .slice bo bn bk] 86))))))))
            clear hM
            go_wp2_with fail
            go_meet
            exact ⟨_, rfl, FIN⟩
          case rest =>
            obtain ⟨M, rfl, HM⟩ := hcut
            clear HX HBI k0 k1 hiz hfo hgl
            have hfok := OK.out.files F (List.mem_of_getElem? HFIL.out)
            have hbl := Fl.bits_le hfok
            obtain ⟨bo2, bn2, bk2, w1, R1, HO⟩ := bits_copy HM.out.2.2.2.2.2 hbl
            have hsz := HM.out.2.2.2.2.1
            rw [hsz] at R1 HO
            have hM1 : M < wc.heap.size := by omega
            have hw1 : w1.heap[M]? = some (.cells #[.string F.sure, .slice bo bn bk] 86 (0, 0)) := (HO.out.1.block M (Nat.lt_succ_self M)).trans HM.out.2.2.2.1
            have FIN : Hid (Bx w N (dc D S) (w1.setCell ⟨M, 1, none⟩ (.slice bo2 bn2 bk2)) ∧ FB (w1.setCell ⟨M, 1, none⟩ (.slice bo2 bn2 bk2)) M F.sure bo2 bn2 bk2 (F.bits ++ byteBits t 0)) := Lib.hid ⟨(HM.out.2.1.keepM HM.out.1 (HO.out.1.mono (Nat.le_succ M))).keepM HM.out.1 ((Below.refl M w1).setCell (Nat.le_refl _) _), set_one (i := 1) hw1 _ rfl, by rw [byteBits_zero, List.append_nil]; exact ownsRow_setCell_below HO.out.2 (Nat.lt_succ_self M) _⟩
            have m0 : wc.cell? ⟨M, 0, none⟩ = some (.string F.sure) := by simp [World.cell?, HM.out.2.2.2.1]
            have m1 : wc.cell? ⟨M, 1, none⟩ = some (.slice bo bn bk) := by simp [World.cell?, HM.out.2.2.2.1]
            have m2 : w1.cell? ⟨M, 1, none⟩ = some (.slice bo bn bk) := by simp [World.cell?, hw1]
            have m3 : w1.frozen? ⟨M, 1, none⟩ = false := by simp [World.frozen?, hw1]
            have HI : Hid (IsD wc D S) := Lib.hid HM.out.2.2.1
            have HMN := Lib.hid HM.out.1
            clear hw1 HM HO hfok
            have HBL := Lib.hid hbl
            clear hbl
            go_upto_region 9 with fail
            go_cut [] (fun wx => Hid (Bx w N (dc D S) wx ∧ FB wx M F.sure bo2 bn2 bk2 (F.bits ++ byteBits t 0)))
            case first =>
              go_wp2_with (at_builtin; first | (refine wpList_append_run rfl _ _ _ rfl (u := .slice bo bn bk) rfl rfl R1.out ?_; refine Hid.out ?_))
              refine Lib.hid ?_
              go_wp2_with fail
              go_meet
              exact FIN
            case rest =>
              have HS0 := Lib.hid hcut.out
              clear hcut FIN R1 m0 m1 m2 m3 hM1 hsz HI
              have hcap : (t.size : Int) ≤ 1000000 := by omega
              go_wp2_with fail
              go_loopg [10, 11] (t.size + 1) (fun gg v10 v11 wr => RWr w N M D S F.sure F.bits t gg v10 v11 wr)
              case atStart => exact ⟨0, true, D, bo2, bn2, bk2, rfl, rfl, by simp, Lib.hid ⟨Powr.zero OK.out.left0 _, HS0.out.1, HS0.out.2⟩⟩
              case round =>
                obtain ⟨k, c, D', bo, bn, bk, rfl, rfl, hgk, HV⟩ := hrel
                clear HS0
                have hkn : k ≤ t.size := HV.out.1.le
                have HKN := Lib.hid hkn
                obtain ⟨cb, hcb⟩ : ∃ cb, (decide (k < t.size) && c) = cb := ⟨_, rfl⟩
                have HCB := Lib.hid hcb
                clear hkn
                go_upto_region 10 with fail
                go_cut [45] from 39 to 62 (fun v45 wx => v45 = .bool cb ∧ wx = wr)
                case first =>
                  clear HCB HV
                  by_cases hlt : k < t.size
                  · have hltz : decide (k < t.size) = true := decide_eq_true hlt
                    have hcc : c = cb := by rw [← hcb, decide_eq_true hlt]; simp
                    subst hcc
                    clear hcb hlt
                    go_wp2_with fail
                    go_meet
                    exact ⟨rfl, rfl⟩
                  · have hltz : decide (k < t.size) = false := decide_eq_false hlt
                    have hcc : cb = false := by rw [← hcb, decide_eq_false hlt]; simp
                    subst hcc
                    clear hcb hlt
                    go_wp2_with fail
                    go_meet
                    exact ⟨rfl, rfl⟩
                case rest =>
                  obtain ⟨rfl, hww⟩ := hcut
                  subst hww
                  clear hcb
                  cases cb with
                  | true =>
                    obtain ⟨hkl, hcc⟩ : k < t.size ∧ c = true := by simpa using HCB.out
                    subst hcc
                    have UN := Lib.hid (unit_S D' S wc ((show IsD wc D' S by rw [(HV.out.1.on rfl).1]; exact (HWD.out.below (by rw [hN]; exact HV.out.2.1.bb)).spend _)) (okSpendK OK.out hu ht HV.out.1))
                    unfold dv at UN
                    have HP := Lib.hid (HV.out.1.step hkl)
                    obtain ⟨D1, hD1⟩ : ∃ D1, D'.spend 1 = D1 := ⟨_, rfl⟩
                    obtain ⟨sp, hsp⟩ : ∃ sp, (!decide (D'.spent 1 < 1)) = sp := ⟨_, rfl⟩
                    rw [hD1, hsp] at UN HP
                    clear hD1 hsp HCB
                    go_upto_region 11 with fail
                    go_cut [11] from 39 to 62 (fun v11 wx => v11 = .bool sp ∧ Hid (Bx w N (dc D1 S) wx ∧ FB wx M F.sure bo bn bk (F.bits ++ byteBits t k)))
                    case first =>
                      obtain ⟨⟨c0, c1, c2, c3, c4, c5, c6, c7, c8⟩, -⟩ := HV.out.2.1.c0
                      go_wp2_with fail
                      refine UN.out.mono ?_
                      rintro e w1 ⟨rfl, hI1, hb1⟩
                      have HY := Lib.hid (And.intro ((HV.out.2.1.below hb1).disk hI1).1 ((HV.out.2.2.below (Nat.lt_of_le_of_lt (Nat.zero_le _) HMN.out) hb1).keep (N := N) (Nat.lt_of_succ_lt HMN.out) fun g _ hg => all9_heap w1 N (.int .i64 D1.room) (.slice S.fo S.fn S.fc) (.slice S.so S.sn S.sc) (.slice S.wo S.wn S.wk) (.int .i64 D1.units) (.int .i64 D1.left) (.bool D1.armed) (.bool D1.gone) (.slice S.ao S.an S.ac) g hg))
                      obtain ⟨⟨d0, d1, d2, d3, d4, d5, d6, d7, d8⟩, e0, e1, e2, e3, e4, e5, e6, e7, e8⟩ := (HV.out.2.1.below hb1).c0
                      clear hI1 hb1 UN HV HP c0 c1 c2 c3 c4 c5 c6 c7 c8
                      go_wp2_with fail
                      go_meet
                      exact ⟨rfl, HY⟩
                    case rest =>
                      obtain ⟨rfl, HY⟩ := hcut
                      clear UN HV
                      cases sp with
                      | false =>
                        have HP2 : Hid (Powr D t.size k false D1) := Lib.hid (by have := HP.out; simpa using this)
                        clear HP
                        go_wp2_with fail
                        go_roundg (t.size - k)
                        case measure => simp at hgk; omega
                        case rel => exact ⟨k, false, D1, bo, bn, bk, rfl, rfl, by simp, Lib.hid ⟨HP2.out, HY.out.1, HY.out.2⟩⟩
                      | true =>
                        have HP2 : Hid (Powr D t.size (k + 1) true D1) := Lib.hid (by have := HP.out; simpa using this)
                        clear HP
                        have hbl : (F.bits ++ byteBits t k).length ≤ 29000000 := by rw [List.length_append, byteBits_len HKN.out]; have := HBL.out; omega
                        obtain ⟨bo3, bn3, bk3, w1, R1, HO⟩ := bits_push HY.out.2 ⟨t[k], 0, false⟩ hbl
                        have FIN := Lib.hid (FB.pushed HY.out.2 HY.out.1 HMN.out HO.out.1 HO.out.2)
                        rw [List.append_assoc, ← byteBits_succ hkl] at FIN
                        obtain ⟨m0, m1, m2, m3⟩ := HY.out.2.cells
                        have hMl : M < wc.heap.size := HY.out.2.lt
                        have hwM : w1.heap[M]? = some (.cells #[.string F.sure, .slice bo bn bk] 86 (0, 0)) := (HO.out.1.block M (Nat.lt_succ_self M)).trans HY.out.2.box
                        have n1 : w1.cell? ⟨M, 1, none⟩ = some (.slice bo bn bk) := by simp [World.cell?, hwM]
                        have n3 : w1.frozen? ⟨M, 1, none⟩ = false := by simp [World.frozen?, hwM]
                        clear hbl HO HY hwM
                        go_upto_region 13 with fail
                        go_cut [] from 39 to 62 (fun wx => Hid (Bx w N (dc D1 S) wx ∧ FB wx M F.sure bo3 bn3 bk3 (F.bits ++ byteBits t (k + 1))))
                        case first =>
                          go_region_law (first
                            | (refine step_append_eq (by rfl) _ _ _ (by rfl) (v := .slice bo bn bk) (u := .slice (some ⟨wc.heap.size, 0, none⟩) 1 1) (by rfl) (by rfl) (by with_reducible exact R1.out) ?_)
                            | fail)
                          all_goals
                            refine (‹∀ (a' : Act) (w' : World), Met _ a' w' → _› _ _ ?_)
                            go_meet
                            exact FIN
                        case rest =>
                          have HZ := Lib.hid hcut.out
                          clear hcut FIN R1 m0 m1 m2 m3 n1 n3 hMl
                          have hk1 : (k : Int) < 1000000 := by omega
                          go_wp2_with fail
                          go_roundg (t.size - (k + 1) + 1)
                          case measure => simp at hgk; omega
                          case rel => exact ⟨k + 1, true, D1, bo3, bn3, bk3, by go_num, rfl, by simp, Lib.hid ⟨HP2.out, HZ.out.1, HZ.out.2⟩⟩
                  | false =>
                    obtain ⟨hD1, hsk, hc⟩ := HV.out.1.done HCB.out
                    have hres := write_res H0.out (by rw [HFR.out]; have := HB.out; omega) hD1 hsk hc HKN.out HFIL.out
                    rw [HIX.out] at hres
                    have HR := Lib.hid hres
                    have hf1 : D'.files = D.files := by rw [hD1]; rfl
                    have ha1 : D'.acts = D.acts := by rw [hD1]; rfl
                    have hI : IsD wc D' S := by rw [hD1]; exact (HWD.out.below (by rw [hN]; exact HV.out.2.1.bb)).spend _
                    have hn1 : D'.files.length ≤ 10000000 := by rw [hf1]; have := OK.out.lots; omega
                    have hF : D'.files[ix]? = some F := by rw [hf1, ← HIX.out]; exact HFIL.out
                    have hix : ix < D'.files.length := (List.getElem?_eq_some_iff.1 hF).1
                    have HA1 := Lib.hid ha1
                    by_cases hk0 : k = 0
                    · subst hk0
                      have hbb : BitsAt wc (.slice bo bn bk) F.bits := by have := HV.out.2.2.bits; rwa [byteBits_zero, List.append_nil] at this
                      have WI := Lib.hid (with_S D' S ix F bo bn bk wc hI hn1 hix hbb)
                      rw [setFile_same hF] at WI
                      rw [if_pos rfl] at HR
                      have HA2 := HA1
                      unfold dv at WI
                      have HX := Lib.hid HV.out.2.1
                      obtain ⟨⟨c0, c1, c2, c3, c4, c5, c6, c7, c8⟩, -⟩ := HV.out.2.1.c0
                      obtain ⟨m0, m1, -, -⟩ := HV.out.2.2.cells
                      clear hbb hD1 hsk hc hres hf1 ha1 hI hn1 hF hix HA1 HCB HV hgk H0 HFR HB HFIL
                      go_upto_region 15 with fail
                      go_cut [] (fun wx => ∃ S2, Hid (Bx w N (dc D' S2) wx ∧ IsD wx D' S2))
                      case first =>
                        go_wp2_with fail
                        refine WI.out.mono ?_
                        rintro e w1 ⟨S2, rfl, hI2, hb1⟩
                        have HZ := Lib.hid ((HX.out.below hb1).disk hI2)
                        obtain ⟨⟨d0, d1, d2, d3, d4, d5, d6, d7, d8⟩, e0, e1, e2, e3, e4, e5, e6, e7, e8⟩ := (HX.out.below hb1).c0
                        clear hI2 hb1 WI HX c0 c1 c2 c3 c4 c5 c6 c7 c8 m0 m1
                        go_wp2_with fail
                        go_meet
                        exact ⟨_, HZ⟩
                      case rest =>
                        obtain ⟨S2, HZ⟩ := hcut
                        clear WI HX c0 c1 c2 c3 c4 c5 c6 c7 c8 m0 m1
                        cases c with
                        | true =>
                          have HR2 : Hid (D.write s t = (0, D')) := Lib.hid HR.out
                          clear HR
                          have FI := Lib.hid (Bx.done (k := 0) HZ.out.1 hN HZ.out.2)
                          obtain ⟨⟨c0, c1, c2, c3, c4, c5, c6, c7, c8⟩, -⟩ := (HZ.out.1).c0
                          obtain ⟨⟨z0, z1, z2, z3, z4, z5, z6, z7, z8⟩, y0, y1, y2, y3, y4, y5, y6, y7, y8⟩ := (HZ.out.1).c1
                          have HX := Lib.hid HZ.out.1
                          go_wp2_with fail
                          refine bodyPost_ret (v := .tuple #[.agg #[.int .i64 D'.room, .slice S2.fo S2.fn S2.fc, .slice S2.so S2.sn S2.sc, .slice S2.wo S2.wn S2.wk, .int .i64 D'.units, .int .i64 D'.left, .bool D'.armed, .bool D'.gone, .slice S2.ao S2.an S2.ac], .int .i64 0]) (by simp [results, Tryz.results30, go_sem, z0, z1, z2, z3, z4, z5, z6, z7, z8]) rfl ?_
                          rw [HR2.out]
                          exact FI.out _ rfl
                        | false =>
                          have HR2 : Hid (D.write s t = (3, D')) := Lib.hid HR.out
                          clear HR
                          have FI := Lib.hid (Bx.done (k := 3) HZ.out.1 hN HZ.out.2)
                          obtain ⟨⟨c0, c1, c2, c3, c4, c5, c6, c7, c8⟩, -⟩ := (HZ.out.1).c0
                          obtain ⟨⟨z0, z1, z2, z3, z4, z5, z6, z7, z8⟩, y0, y1, y2, y3, y4, y5, y6, y7, y8⟩ := (HZ.out.1).c1
                          have HX := Lib.hid HZ.out.1
                          go_wp2_with fail
                          refine bodyPost_ret (v := .tuple #[.agg #[.int .i64 D'.room, .slice S2.fo S2.fn S2.fc, .slice S2.so S2.sn S2.sc, .slice S2.wo S2.wn S2.wk, .int .i64 D'.units, .int .i64 D'.left, .bool D'.armed, .bool D'.gone, .slice S2.ao S2.an S2.ac], .int .i64 3]) (by simp [results, Tryz.results30, go_sem, z0, z1, z2, z3, z4, z5, z6, z7, z8]) rfl ?_
                          rw [HR2.out]
                          exact FI.out _ rfl
                    · rw [if_neg hk0] at HR
                      have hbb : BitsAt wc (.slice bo bn bk) (F.push ⟨t.extract 0 k, 0, false⟩).bits := by rw [Fl.push_text]; exact HV.out.2.2.bits
                      have WI : Hid (Calls Tryz.prog 61 #[dv D' S, .int .i64 ix, .agg #[.string F.sure, .slice bo bn bk]] wc fun e w' => ∃ S' : Sh, e = .returned (dv (D'.setFile ix (F.push ⟨t.extract 0 k, 0, false⟩)) S') ∧ IsD w' (D'.setFile ix (F.push ⟨t.extract 0 k, 0, false⟩)) S' ∧ Below wc.heap.size wc w') := Lib.hid (with_S D' S ix (F.push ⟨t.extract 0 k, 0, false⟩) bo bn bk wc hI hn1 hix hbb)
                      obtain ⟨D2, hD2⟩ : ∃ D2, D'.setFile ix (F.push ⟨t.extract 0 k, 0, false⟩) = D2 := ⟨_, rfl⟩
                      have HA2 : Hid (D2.acts = D.acts) := Lib.hid (by rw [← hD2]; exact ha1)
                      rw [hD2] at WI HR
                      clear hD2
                      unfold dv at WI
                      have HX := Lib.hid HV.out.2.1
                      obtain ⟨⟨c0, c1, c2, c3, c4, c5, c6, c7, c8⟩, -⟩ := HV.out.2.1.c0
                      obtain ⟨m0, m1, -, -⟩ := HV.out.2.2.cells
                      clear hbb hD1 hsk hc hres hf1 ha1 hI hn1 hF hix HA1 HCB HV hgk H0 HFR HB HFIL
                      go_upto_region 15 with fail
                      go_cut [] (fun wx => ∃ S2, Hid (Bx w N (dc D2 S2) wx ∧ IsD wx D2 S2))
                      case first =>
                        go_wp2_with fail
                        refine WI.out.mono ?_
                        rintro e w1 ⟨S2, rfl, hI2, hb1⟩
                        have HZ := Lib.hid ((HX.out.below hb1).disk hI2)
                        obtain ⟨⟨d0, d1, d2, d3, d4, d5, d6, d7, d8⟩, e0, e1, e2, e3, e4, e5, e6, e7, e8⟩ := (HX.out.below hb1).c0
                        clear hI2 hb1 WI HX c0 c1 c2 c3 c4 c5 c6 c7 c8 m0 m1
                        go_wp2_with fail
                        go_meet
                        exact ⟨_, HZ⟩
                      case rest =>
                        obtain ⟨S2, HZ⟩ := hcut
                        clear WI HX c0 c1 c2 c3 c4 c5 c6 c7 c8 m0 m1
                        have hkp : decide (0 < k) = true := decide_eq_true (by omega)
                        have DI := Lib.hid (fun W (hb : Below wc.heap.size wc W) => did_S D2 S2 ⟨2, s, ⟨#[]⟩, t.extract 0 k, 0⟩ W (HZ.out.2.below hb) (by rw [HA2.out]; have := OK.out.acts; omega))
                        unfold dv at DI
                        obtain ⟨D3, hD3⟩ : ∃ D3, D2.did ⟨2, s, ⟨#[]⟩, t.extract 0 k, 0⟩ = D3 := ⟨_, rfl⟩
                        rw [hD3] at DI HR
                        clear hD3
                        obtain ⟨⟨c0, c1, c2, c3, c4, c5, c6, c7, c8⟩, -⟩ := HZ.out.1.c0
                        have hkn := HKN.out
                        have hknz : (k : Int) ≤ (t.size : Int) := by omega
                        go_upto_region 17 with fail
                        go_cut [] (fun wx => ∃ S3, Hid (Bx w N (dc D3 S3) wx ∧ IsD wx D3 S3))
                        case first =>
                          go_region_with (first
                            | (go_at_call 60; refine (DI.out _ (Below.drew (Below.refl _ _))).mono ?_; rintro e w1 ⟨S3, rfl, hI3, hb0⟩; have hb1 := below_undrew hb0; have HZ3 := Lib.hid ((HZ.out.1.below hb1).disk hI3); obtain ⟨⟨d0, d1, d2, d3, d4, d5, d6, d7, d8⟩, e0, e1, e2, e3, e4, e5, e6, e7, e8⟩ := (HZ.out.1.below hb1).c0; clear hI3 hb1 hb0)
                            | fail)
                          all_goals
                            go_wp2_with fail
                            go_meet
                            exact ⟨_, HZ3⟩
                        case rest =>
                          obtain ⟨S3, HZ3⟩ := hcut
                          clear DI HZ c0 c1 c2 c3 c4 c5 c6 c7 c8 hkn hknz hkp
                          cases c with
                          | true =>
                            have HR2 : Hid (D.write s t = (0, D3)) := Lib.hid HR.out
                            clear HR
                            have FI := Lib.hid (Bx.done (k := 0) HZ3.out.1 hN HZ3.out.2)
                            obtain ⟨⟨c0, c1, c2, c3, c4, c5, c6, c7, c8⟩, -⟩ := (HZ3.out.1).c0
                            obtain ⟨⟨z0, z1, z2, z3, z4, z5, z6, z7, z8⟩, y0, y1, y2, y3, y4, y5, y6, y7, y8⟩ := (HZ3.out.1).c1
                            have HX := Lib.hid HZ3.out.1
                            go_wp2_with fail
                            refine bodyPost_ret (v := .tuple #[.agg #[.int .i64 D3.room, .slice S3.fo S3.fn S3.fc, .slice S3.so S3.sn S3.sc, .slice S3.wo S3.wn S3.wk, .int .i64 D3.units, .int .i64 D3.left, .bool D3.armed, .bool D3.gone, .slice S3.ao S3.an S3.ac], .int .i64 0]) (by simp [results, Tryz.results30, go_sem, z0, z1, z2, z3, z4, z5, z6, z7, z8]) rfl ?_
                            rw [HR2.out]
                            exact FI.out _ rfl
                          | false =>
                            have HR2 : Hid (D.write s t = (3, D3)) := Lib.hid HR.out
                            clear HR
                            have FI := Lib.hid (Bx.done (k := 3) HZ3.out.1 hN HZ3.out.2)
                            obtain ⟨⟨c0, c1, c2, c3, c4, c5, c6, c7, c8⟩, -⟩ := (HZ3.out.1).c0
                            obtain ⟨⟨z0, z1, z2, z3, z4, z5, z6, z7, z8⟩, y0, y1, y2, y3, y4, y5, y6, y7, y8⟩ := (HZ3.out.1).c1
                            have HX := Lib.hid HZ3.out.1
                            go_wp2_with fail
                            refine bodyPost_ret (v := .tuple #[.agg #[.int .i64 D3.room, .slice S3.fo S3.fn S3.fc, .slice S3.so S3.sn S3.sc, .slice S3.wo S3.wn S3.wk, .int .i64 D3.units, .int .i64 D3.left, .bool D3.armed, .bool D3.gone, .slice S3.ao S3.an S3.ac], .int .i64 3]) (by simp [results, Tryz.results30, go_sem, z0, z1, z2, z3, z4, z5, z6, z7, z8]) rfl ?_
                            rw [HR2.out]
                            exact FI.out _ rfl
    · have hk : ((D.fileN s : Int) == 0) = false := err_cases _ h0
      have hres : D.write s t = (D.fileN s, D) := by unfold Dk.write; rw [if_pos h0]
      have HR := Lib.hid hres
      clear hres h0
      have FI := Lib.hid (Bx.done (k := (D.fileN s : Nat)) HF.out.2.1 hN HF.out.2.2)
      obtain ⟨⟨c0, c1, c2, c3, c4, c5, c6, c7, c8⟩, -⟩ := (HF.out.2.1).c0
      obtain ⟨⟨z0, z1, z2, z3, z4, z5, z6, z7, z8⟩, y0, y1, y2, y3, y4, y5, y6, y7, y8⟩ := (HF.out.2.1).c1
      have HX := Lib.hid HF.out.2.1
      go_wp2_with fail
      refine bodyPost_ret (v := .tuple #[.agg #[.int .i64 D.room, .slice S.fo S.fn S.fc, .slice S.so S.sn S.sc, .slice S.wo S.wn S.wk, .int .i64 D.units, .int .i64 D.left, .bool D.armed, .bool D.gone, .slice S.ao S.an S.ac], .int .i64 (D.fileN s : Nat)]) (by simp [results, Tryz.results30, go_sem, z0, z1, z2, z3, z4, z5, z6, z7, z8]) rfl ?_
      rw [HR.out]
      exact FI.out _ rfl
end Go.Proofs.YthfcmgbkhjnfjaaGreatDoor
