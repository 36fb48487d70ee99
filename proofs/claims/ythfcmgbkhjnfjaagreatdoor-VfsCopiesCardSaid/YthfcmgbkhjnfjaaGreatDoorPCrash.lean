/- The reference's Crash. -/
import Derived.Test.YthfcmgbkhjnfjaaGreatDoorVM
import Derived.Deep.RegionWith
import Derived.Deep.CutRange
import Derived.Deep.RegionLaw
namespace Go.Proofs.YthfcmgbkhjnfjaaGreatDoor
open Go.RowKit Go.Maps

set_option maxRecDepth 20000 in
set_option maxHeartbeats 6400000 in
theorem crash_S (dir : Int) (ko : Option Addr) (kc : Nat) (ds : List Int) (ρ : Col) (D : Dk) (S : Sh) (w : World) (h : IsD w D S) (ok : D.Ok) (hds : IntsAt w ρ (.slice ko ds.length kc) ds) :
    Calls Tryz.prog 36 #[dv D S, .int .i64 dir, .slice ko ds.length kc] w (RefV (D.crash dir ds) w) := by
  obtain ⟨R, hsh, hR⟩ := h.ex
  obtain ⟨fo, fn, fc, so, sn, sc, wo, wn, wk, ao, an, ac⟩ := S
  obtain ⟨hsf, hss, hsw, hsa⟩ := hsh
  dsimp only at hsf hss hsw hsa
  obtain ⟨wo', wk', hvw, hmc⟩ := moves_cells hR.ww
  rw [hsw] at hvw
  injection hvw with q1 q2 q3
  subst q1 q2 q3
  obtain ⟨fo', fc', hvf, hfc⟩ := files_cells hR.ff
  rw [hsf] at hvf
  injection hvf with q1 q2 q3
  subst q1 q3
  rw [hR.len] at q2
  subst q2
  obtain ⟨ko', kc', hkv, hkn, hkc⟩ := hds
  injection hkv with q1 q2 q3
  subst q1 q3
  clear q2
  have HMC := Lib.hid hmc
  have HFC := Lib.hid hfc
  have HKC := Lib.hid hkc
  obtain ⟨N, hN⟩ : ∃ N, w.heap.size = N := ⟨_, rfl⟩
  obtain ⟨W0, hW0⟩ : ∃ W0, (w.alloc (.cells #[.int .i64 D.room, .slice fo D.files.length fc, .slice so sn sc, .slice wo D.waits.length wk, .int .i64 D.units, .int .i64 D.left, .bool D.armed, .bool D.gone, .slice ao an ac] 37)).alloc (.cells #[.int .i64 0, .slice none 0 0, .slice none 0 0, .slice none 0 0, .int .i64 0, .int .i64 0, .bool false, .bool false, .slice none 0 0] 37) = W0 := ⟨_, rfl⟩
  have hsz := (box_two hW0 hN).2.2.2
  have X0 := Lib.hid (Bx.made hW0 hN)
  have OK := Lib.hid ok
  have HR := Lib.hid hR
  obtain ⟨⟨q0, q1, q2, q3, q4, q5, q6, q7, q8⟩, -⟩ := X0.out.c0
  have hss2 := Lib.hid hss
  have hsa2 := Lib.hid hsa
  have hkn2 : (ds.length : Int) ≤ 9223372036854775807 := by omega
  clear h ok hR hmc hfc hkc hsf hss hsw hsa hkn
  unfold dv
  dsimp only
  go_enter Tryz.func36, Tryz.ntmps36
  go_upto_region 1 with fail
  go_cut [7] (fun v7 wx => v7 = .pointer (some ⟨N + 1 + 1, 0, none⟩) ∧ Hid (wx = W0.alloc (.cells #[.int .i64 D.room, .slice none 0 0, .slice so sn sc, .slice none 0 0, .int .i64 D.units, .int .i64 D.left, .bool false, .bool false, .slice ao an ac] 37)))
  case first =>
    go_wp2_with fail
    go_meet
    exact ⟨rfl, Lib.hid rfl⟩
  case rest =>
    obtain ⟨rfl, HW1⟩ := hcut
    have HS0 : Hid (Bx w N #[.int .i64 D.room, .slice fo D.files.length fc, .slice so sn sc, .slice wo D.waits.length wk, .int .i64 D.units, .int .i64 D.left, .bool D.armed, .bool D.gone, .slice ao an ac] wc ∧ wc.heap[N + 1 + 1]? = some (oBox D (.slice none 0 0) (.slice so sn sc) ao an ac) ∧ EntsAt wc (.slice so sn sc) (playL R.ls (D.waits.take 0))) := Lib.hid (by
      rw [HW1.out]
      have hx := X0.out.below ((Below.refl _ W0).alloc (Nat.le_refl _) (oBox D (.slice none 0 0) (.slice so sn sc) ao an ac))
      have hn := heap_alloc_new W0 (oBox D (.slice none 0 0) (.slice so sn sc) ao an ac)
      rw [hsz] at hn
      exact ⟨hx, hn, own0_below (by rw [← hss2.out]; exact HR.out.ss) (by rw [hN]; exact hx.bb)⟩)
    clear HW1 X0 hsz hW0 q0 q1 q2 q3 q4 q5 q6 q7 q8
    go_wp2_with fail
    go_loopg [8] D.waits.length (fun gg v8 wr => RC1 w N D R #[.int .i64 D.room, .slice fo D.files.length fc, .slice so sn sc, .slice wo D.waits.length wk, .int .i64 D.units, .int .i64 D.left, .bool D.armed, .bool D.gone, .slice ao an ac] ao an ac dir gg v8 wr)
    case atStart => exact ⟨0, so, sn, sc, rfl, Nat.le_refl _, Nat.zero_le _, by omega, HS0⟩
    case round =>
      obtain ⟨k, uo, un, uc, rfl, hgk, hk, hkd, HV⟩ := hrel
      clear HS0
      obtain ⟨cb, hcb⟩ : ∃ cb, (decide (k < D.waits.length) && decide ((k : Int) < dir)) = cb := ⟨_, rfl⟩
      have HCB := Lib.hid hcb
      obtain ⟨⟨c0, c1, c2, c3, c4, c5, c6, c7, c8⟩, -⟩ := HV.out.1.c0
      go_upto_region 3 with fail
      go_cut [31] from 22 to 42 (fun v31 wx => v31 = .bool cb ∧ wx = wr)
      case first =>
        clear HCB HV hk hkd hgk
        by_cases hlt : k < D.waits.length
        · have hltz : decide (k < D.waits.length) = true := decide_eq_true hlt
          have hcc : decide ((k : Int) < dir) = cb := by rw [← hcb, hltz]; simp
          clear hcb hlt
          go_wp2_with fail
          go_meet
          exact ⟨rfl, rfl⟩
        · have hltz : decide (k < D.waits.length) = false := decide_eq_false hlt
          have hcc : cb = false := by rw [← hcb, hltz]; simp
          subst hcc
          clear hcb hlt
          go_wp2_with fail
          go_meet
          exact ⟨rfl, rfl⟩
      case rest =>
        obtain ⟨rfl, hww⟩ := hcut
        subst hww
        clear hcb
        cases cb with
        | true =>
          obtain ⟨hkl, hkdir⟩ : k < D.waits.length ∧ (k : Int) < dir := by simpa using HCB.out
          obtain ⟨m, hm⟩ : ∃ m, D.waits[k]? = some m := ⟨_, List.getElem?_eq_getElem hkl⟩
          obtain ⟨g, rfl, hgl, hcc⟩ := HMC.out k m hm
          obtain ⟨e0, e1, e2⟩ := hcc wc (HV.out.1.bb.block g (by rw [← hN]; exact hgl))
          have hpl := playL_len (D.waits.take k) R.ls
          rw [List.length_take] at hpl
          have hls := HR.out.ls_few OK.out
          have hwl := OK.out.many
          have MV := Lib.hid (move_ref _ _ m wc.drew (own0_below HV.out.2.2 (Below.drew (Below.refl _ _))) (by omega))
          rw [← playL_succ R.ls hm] at MV
          have hkz : (k : Int) < (D.waits.length : Int) := by omega
          have o2 : wc.cell? ⟨N + 1 + 1, 2, none⟩ = some (.slice uo un uc) := by simp [World.cell?, HV.out.2.1]
          have HNL := Lib.hid (heap_size_of HV.out.2.1)
          clear hcc hm hpl hls HCB hgl
          go_upto_region 5 with fail
          go_region_with (first
            | (go_at_call 65; refine MV.out.mono ?_; rintro e w1 ⟨v, rfl, hv, hb0⟩; obtain ⟨vo, vn, vc, hv2, HZ, z1, z2⟩ := move_more HV.out.1 HV.out.2.1 hv (below_undrew hb0); subst hv2; clear hv hb0)
            | fail)
          all_goals
              go_wp2_with fail
              go_roundg (D.waits.length - (k + 1))
              case measure => omega
              case rel => exact ⟨k + 1, vo, vn, vc, by go_num, Nat.le_refl _, hkl, by omega, HZ⟩
        | false =>
          have hend := cutN_end hk hkd HCB.out
          subst hend
          clear HCB hk hkd hgk c0 c1 c2 c3 c4 c5 c6 c7 c8
          go_wp2_with fail
          go_loopg [9, 10] D.files.length (fun gg v9 _ wr => RC2 wc N D (.slice uo un uc) ao an ac ds gg v9 wr)
          case atStart => exact ⟨0, none, 0, 0, rfl, Nat.le_refl _, Nat.zero_le _, Lib.hid ⟨Below.refl _ _, fun _ _ _ => rfl, HV.out.2.1, World.ownsRow_nil _ _ _ _⟩⟩
          case round =>
            obtain ⟨k2, fo2, fn2, fc2, rfl, hgk, hk, HV2⟩ := hrel
            have hNl : N + 1 + 1 < wc.heap.size := heap_size_of HV.out.2.1
            have BX2 : Hid (Bx w N #[.int .i64 D.room, .slice fo D.files.length fc, .slice so sn sc, .slice wo D.waits.length wk, .int .i64 D.units, .int .i64 D.left, .bool D.armed, .bool D.gone, .slice ao an ac] wr) := Lib.hid ⟨(HV2.out.2.1 N (by omega) (by omega)).trans HV.out.1.b0, (HV2.out.2.1 (N + 1) (by omega) (by omega)).trans HV.out.1.b1, HV.out.1.bb.trans (HV2.out.1.mono (by omega))⟩
            have HNL := Lib.hid hNl
            obtain ⟨⟨c0, c1, c2, c3, c4, c5, c6, c7, c8⟩, -⟩ := BX2.out.c0
            have hlots := OK.out.lots
            clear hNl
            by_cases hlt : k2 < D.files.length
            · have hltz : decide (k2 < D.files.length) = true := decide_eq_true hlt
              have hkz : (k2 : Int) < (D.files.length : Int) := by omega
              obtain ⟨F, hF⟩ : ∃ F, D.files[k2]? = some F := ⟨_, List.getElem?_eq_getElem hlt⟩
              obtain ⟨p, hp⟩ : ∃ p, R.fs[k2]? = some p := ⟨_, List.getElem?_eq_getElem (by rw [HR.out.len]; exact hlt)⟩
              obtain ⟨g, rfl, hgl, hcc⟩ := HFC.out k2 p hp
              obtain ⟨hps, hpb⟩ := HR.out.fb k2 F p hF hp
              obtain ⟨bo, bk, hpv⟩ := own_shape0 hpb
              obtain ⟨bn, hbn⟩ : ∃ bn, F.bits.length = bn := ⟨_, rfl⟩
              rw [hbn] at hpv
              obtain ⟨e0, e1⟩ := hcc wr (BX2.out.bb.block g (by rw [← hN]; exact hgl))
              rw [hps] at e0
              rw [hpv] at e1 hpb
              have hfok := OK.out.files F (List.mem_of_getElem? hF)
              have hmass := hfok.mass
              unfold Fl.mass at hmass
              have BH := Lib.hid (fun (n : Int) (hn : n = match ds[k2]? with | some d => d | none => 0) => by
                have := behind_ref F.sure (.slice bo bn bk) F.bits n wr.drew (own0_below hpb (by rw [hN]; exact Below.drew BX2.out.bb)) (Fl.bits_le hfok) (by omega) (bits_place hfok.cuts)
                rwa [behind_units hfok.cuts ds k2 n hn] at this)
              obtain ⟨x, hx⟩ : ∃ x, F.behind (unitsAt ds k2) = x := ⟨_, rfl⟩
              rw [hx] at BH
              have HF := Lib.hid hF
              have HXX := Lib.hid hx
              have m1 : wr.cell? ⟨N + 1 + 1, 1, none⟩ = some (.slice fo2 fn2 fc2) := by simp [World.cell?, HV2.out.2.2.1]
              clear hF hx hfok hmass hbn hpv hps hpb hcc hp hgl
              by_cases hkd : k2 < ds.length
              · have hkdz : decide (k2 < ds.length) = true := decide_eq_true hkd
                have hkdi : (k2 : Int) < (ds.length : Int) := by omega
                obtain ⟨dd, hdd⟩ : ∃ dd, ds[k2]? = some dd := ⟨_, List.getElem?_eq_getElem hkd⟩
                obtain ⟨g', o', rfl, hg', -, hcell, hdw⟩ := HKC.out k2 dd hdd
                have kc0 : wr.cell? ⟨g', o' + k2, none⟩ = some (.int .i64 dd) := (World.cell?_of_block (a := ⟨g', o' + k2, none⟩) (BX2.out.bb.block g' (by rw [← hN]; exact hg'))).trans hcell
                have BH2 := Lib.hid (BH.out dd (by rw [hdd]))
                clear hdd hg' hcell hdw BH hkd
                go_upto_region 12 with fail
                go_region_law (first
                  | (go_simp; go_at_call 66; refine BH2.out.mono ?_; rintro e w1 ⟨rfl, hb0⟩; obtain ⟨w2, fo3, fn3, fc3, R1, FIN, q1, q2, q3, q4⟩ := crash_round HF.out HXX.out HNL.out HV2.out (by omega) (below_undrew hb0); clear hb0)
                  | (refine step_append_eq (by rfl) _ _ _ (by rfl) (v := .slice fo2 fn2 fc2) (u := .slice (some ⟨w1.heap.size, 0, none⟩) 1 1) (by rfl) (by rfl) (by with_reducible exact R1.out) ?_)
                  | fail)
                all_goals
                  go_wp2_with fail
                  go_roundg (D.files.length - (k2 + 1))
                  case measure => omega
                  case rel => exact ⟨k2 + 1, fo3, fn3, fc3, by go_num, Nat.le_refl _, hlt, FIN⟩
              · have hkdz : decide (k2 < ds.length) = false := decide_eq_false hkd
                have BH2 := Lib.hid (BH.out 0 (by rw [List.getElem?_eq_none (by omega)]))
                clear BH hkd
                go_upto_region 12 with fail
                go_region_law (first
                  | (go_simp; go_at_call 66; refine BH2.out.mono ?_; rintro e w1 ⟨rfl, hb0⟩; obtain ⟨w2, fo3, fn3, fc3, R1, FIN, q1, q2, q3, q4⟩ := crash_round HF.out HXX.out HNL.out HV2.out (by omega) (below_undrew hb0); clear hb0)
                  | (refine step_append_eq (by rfl) _ _ _ (by rfl) (v := .slice fo2 fn2 fc2) (u := .slice (some ⟨w1.heap.size, 0, none⟩) 1 1) (by rfl) (by rfl) (by with_reducible exact R1.out) ?_)
                  | fail)
                all_goals
                  go_wp2_with fail
                  go_roundg (D.files.length - (k2 + 1))
                  case measure => omega
                  case rel => exact ⟨k2 + 1, fo3, fn3, fc3, by go_num, Nat.le_refl _, hlt, FIN⟩
            · have hltz : decide (k2 < D.files.length) = false := decide_eq_false hlt
              have hke : k2 = D.files.length := by omega
              have hI : IsD wr (D.crash dir ds) ⟨fo2, fn2, fc2, uo, un, uc, none, 0, 0, ao, an, ac⟩ := by
                refine ⟨⟨.slice fo2 fn2 fc2, .slice uo un uc, .slice none 0 0, R.va, crashFs D.files ds, playL R.ls (D.waits.take (cutN D dir))⟩, ⟨rfl, rfl, rfl, hsa2.out⟩, HR.out.crash OK.out dir ds (us := .slice uo un uc) (vf := .slice fo2 fn2 fc2) (own_box2 HV.out.2.2 HV.out.2.1 (by decide) HV2.out.2.1) ?_ (own0_below HR.out.aa (by rw [hN]; exact BX2.out.bb))⟩
                have := own_to0 HV2.out.2.2.2
                rw [List.take_of_length_le (by rw [crashFs_len]; omega), hke, ← crashFs_len D.files ds] at this
                exact this
              have FI : Hid (∀ W', W' = all9 wr (N + 1) (.int .i64 D.room) (.slice fo2 fn2 fc2) (.slice uo un uc) (.slice none 0 0) (.int .i64 D.units) (.int .i64 D.left) (.bool false) (.bool false) (.slice ao an ac) → RefV (D.crash dir ds) w (.returned (.agg #[.int .i64 D.room, .slice fo2 fn2 fc2, .slice uo un uc, .slice none 0 0, .int .i64 D.units, .int .i64 D.left, .bool false, .bool false, .slice ao an ac])) W') := Lib.hid (by
                rintro W' rfl
                refine ⟨⟨fo2, fn2, fc2, uo, un, uc, none, 0, 0, ao, an, ac⟩, rfl, hI.box BX2.out.b1 fun g hg => all9_heap _ _ _ _ _ _ _ _ _ _ _ g hg, ?_⟩
                rw [hN]
                exact below_all9 BX2.out.bb (Nat.le_succ N) _ _ _ _ _ _ _ _ _)
              obtain ⟨⟨z0, z1, z2, z3, z4, z5, z6, z7, z8⟩, y0, y1, y2, y3, y4, y5, y6, y7, y8⟩ := BX2.out.c1
              obtain ⟨⟨p0, p1, p2, p3, p4, p5, p6, p7, p8⟩, -⟩ := box9 HV2.out.2.2.1
              clear hI hke hk hgk HV HV2 BX2
              go_wp2_with fail
              refine bodyPost_ret (v := .agg #[.int .i64 D.room, .slice fo2 fn2 fc2, .slice uo un uc, .slice none 0 0, .int .i64 D.units, .int .i64 D.left, .bool false, .bool false, .slice ao an ac]) (by simp [results, Tryz.results36, go_sem, z0, z1, z2, z3, z4, z5, z6, z7, z8]) rfl (FI.out _ rfl)
end Go.Proofs.YthfcmgbkhjnfjaaGreatDoor
