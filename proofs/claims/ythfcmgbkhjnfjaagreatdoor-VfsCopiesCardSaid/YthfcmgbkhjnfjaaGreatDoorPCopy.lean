/- Copy, walked: another disk like it. -/
import Derived.Test.YthfcmgbkhjnfjaaGreatDoorPCopyLaw
import Derived.Test.YthfcmgbkhjnfjaaGreatDoorVW
import Derived.Deep.RegionHeld3
import Derived.Deep.RegionLaw
import Derived.Deep.LoopGhost
namespace Go.Proofs.YthfcmgbkhjnfjaaGreatDoor
open Go.RowKit Go.Maps

/-- The copy with its first k files. -/
def CopyRel (w : World) (c : Nat) (D : Dk) (k : Nat) (W : World) : Prop := ∃ ρ L, DiskAt W ρ c (D.upTo k) L ∧ (∀ g, g < w.heap.size → ρ g = none) ∧ Below w.heap.size w W
set_option maxRecDepth 20000 in
set_option maxHeartbeats 6400000 in
theorem copy_any (w : World) (ρ : Col) (b : Nat) (D : Dk) (L : Lay) (h : DiskAt w ρ b D L) (ok : D.Ok) :
    Calls Tryz.prog 11 #[.pointer (some ⟨b, 0, none⟩)] w fun e w' => ∃ c ρ', e = .returned (.pointer (some ⟨c, 0, none⟩)) ∧ IsDisk w' ρ' c D ∧ (∀ g, g < w.heap.size → ρ' g = none) ∧ Below w.heap.size w w' := by
  obtain ⟨vf, mb, vw, va, fs⟩ := L
  obtain ⟨vo, vc, hvf⟩ := h.rowF.shape
  dsimp only at hvf
  subst hvf
  have SRC := Lib.hid (fun W (hb : Below w.heap.size w W) => h.below hb)
  have hbl := h.blk.lt
  have bD : Below w.heap.size w w.drew := Below.drew (Below.refl _ _)
  have CM : Hid (Calls Tryz.prog 42 #[.map (some mb)] w.drew fun e w' => e = .returned (.map (some w.heap.size)) ∧ w'.ownsMap Tryz.prog 9 RI w.heap.size (Maps.size D.dir) D.dir ∧ w'.ownsMap Tryz.prog 9 RI mb (Maps.size D.dir) D.dir ∧ Below w.heap.size w.drew w') := Lib.hid (AnyW.maps_Clone_owns Tryz.laysClone 9 RI mb _ _ w.drew (h.below bD).map.1)
  have CE := Lib.hid (fun W (hb : Below w.heap.size w W) => cloneEntry vw _ _ W (h.below hb).rowW.1 (by have := ok.many; omega) (flat_len (c := En.cells) (n := 3) (fun _ => rfl) D.waits) (by
    intro u hu
    obtain ⟨a, _, ha⟩ := List.mem_flatMap.1 hu
    unfold En.cells at ha
    simp at ha
    rcases ha with rfl | rfl | rfl <;> rfl))
  have CA := Lib.hid (fun W (hb : Below w.heap.size w W) => cloneAct va _ _ W (h.below hb).rowA.1 (by have := ok.acts; omega) (flat_len (c := Ac.cells) (n := 5) (fun _ => rfl) D.acts) (by
    intro u hu
    obtain ⟨a, _, ha⟩ := List.mem_flatMap.1 hu
    unfold Ac.cells at ha
    simp at ha
    rcases ha with rfl | rfl | rfl | rfl | rfl <;> rfl))
  have SC : Hid (∀ W (hb : Below w.heap.size w W), W.cell? ⟨b, 0, none⟩ = some (.int .i64 D.units) ∧ W.cell? ⟨b, 1, none⟩ = some (.int .i64 D.left) ∧ W.cell? ⟨b, 2, none⟩ = some (.bool D.armed) ∧ W.cell? ⟨b, 3, none⟩ = some (.bool D.gone) ∧ W.cell? ⟨b, 4, none⟩ = some (.int .i64 D.room) ∧ W.cell? ⟨b, 6, none⟩ = some (.map (some mb)) ∧ W.cell? ⟨b, 7, none⟩ = some vw ∧ W.cell? ⟨b, 8, none⟩ = some va) := Lib.hid (fun W hb => let c := (h.below hb).cells; ⟨c.c0, c.c1, c.c2, c.c3, c.c4, c.c6, c.c7, c.c8⟩)
  have P0 := SC.out w (Below.refl _ _)
  have OK := Lib.hid ok
  have hfew := ok.lots
  obtain ⟨fl, hfl⟩ : ∃ fl, D.files.length = fl := ⟨_, rfl⟩
  have HFL := Lib.hid hfl
  have c5 := h.cells.c5
  dsimp only at c5
  rw [hfl] at c5 hfew
  obtain ⟨wl, hwl⟩ : ∃ wl, D.waits.length = wl := ⟨_, rfl⟩
  obtain ⟨al, hal⟩ : ∃ al, D.acts.length = al := ⟨_, rfl⟩
  rw [hwl] at CE
  rw [hal] at CA
  have HWL := Lib.hid hwl
  have HAL := Lib.hid hal
  clear h ok hfl bD hwl hal
  go_enter Tryz.func11, Tryz.ntmps11
  go_wp2_with fail
  go_region_held3 (fun W' => W'.cell? ⟨b, 0, none⟩ = some (.int .i64 D.units) ∧ W'.cell? ⟨b, 1, none⟩ = some (.int .i64 D.left) ∧ W'.cell? ⟨b, 2, none⟩ = some (.bool D.armed) ∧ W'.cell? ⟨b, 3, none⟩ = some (.bool D.gone) ∧ W'.cell? ⟨b, 4, none⟩ = some (.int .i64 D.room) ∧ W'.cell? ⟨b, 6, none⟩ = some (.map (some mb)) ∧ W'.cell? ⟨b, 7, none⟩ = some vw ∧ W'.cell? ⟨b, 8, none⟩ = some va) (first | exact P0 | exact P1 | exact P2 | exact P3 | exact P4.out _)
    (first
      | (go_at_call 42; refine CM.out.mono ?_; intro e w1 hh; obtain ⟨rfl, hm, -, hb⟩ := hh; have B1 : Below w.heap.size w w1 := below_undrew hb; have HB1 := Lib.hid B1; have HM1 := Lib.hid hm; have P1 := SC.out w1 B1; clear hm hb B1)
      | (go_at_call 43; refine (CE.out _ HB1.out).mono ?_; intro e w2 hh; obtain ⟨ue, rfl, he, hb⟩ := hh; obtain ⟨uo, uc, rfl⟩ := own_shape0 (own_to0 he); have B2 : Below w.heap.size w w2 := HB1.out.trans (hb.mono HB1.out.size); have HB2 := Lib.hid B2; have HE2 := Lib.hid (And.intro he hb); have P2 := SC.out w2 B2; clear he hb B2)
      | (go_at_call 44; refine (CA.out _ HB2.out).mono ?_; intro e w3 hh; obtain ⟨ua, rfl, ha, hb⟩ := hh; obtain ⟨xo, xc, rfl⟩ := own_shape0 (own_to0 ha); have B3 : Below w.heap.size w w3 := HB2.out.trans (hb.mono HB2.out.size); have HB3 := Lib.hid B3; have HA3 := Lib.hid (And.intro ha hb); have P3 := SC.out w3 B3; have P4 := Lib.hid (fun o => SC.out (w3.alloc o) (B3.alloc B3.size _)); clear ha hb B3)
      | fail)
  obtain ⟨c, hc⟩ : ∃ c, w3.heap.size = c := ⟨_, rfl⟩
  obtain ⟨w4, hw4⟩ : ∃ w4, w3.alloc (.cells #[.int .i64 D.units, .int .i64 D.left, .bool D.armed, .bool D.gone, .int .i64 D.room, .slice none 0 0, .map (some w.heap.size), .slice uo wl uc, .slice xo al xc] 70) = w4 := ⟨_, rfl⟩
  have R0 : Hid (CopyRel w c D 0 w4) := Lib.hid (by
    have e1 := HWL.out
    have e2 := HAL.out
    subst e1 e2
    have h4 := heap_alloc_new w3 (.cells #[.int .i64 D.units, .int .i64 D.left, .bool D.armed, .bool D.gone, .int .i64 D.room, .slice none 0 0, .map (some w.heap.size), .slice uo D.waits.length uc, .slice xo D.acts.length xc] 70)
    have b4 : Below w3.heap.size w3 (w3.alloc (.cells #[.int .i64 D.units, .int .i64 D.left, .bool D.armed, .bool D.gone, .int .i64 D.room, .slice none 0 0, .map (some w.heap.size), .slice uo D.waits.length uc, .slice xo D.acts.length xc] 70)) := (Below.refl _ _).alloc (Nat.le_refl _) _
    rw [hw4] at h4 b4
    obtain ⟨ρ4, d4, l4⟩ := copy_start HM1.out HB1.out HE2.out.1 HE2.out.2 HA3.out.1 HA3.out.2 h4 b4
    rw [hc] at d4
    exact ⟨ρ4, _, d4, l4, HB3.out.trans (b4.mono HB3.out.size)⟩)
  have k5 : w4.cell? ⟨b, 5, none⟩ = some (.slice vo fl vc) := (R0.out.choose_spec.choose_spec.2.2.cell (p := ⟨b, 5, none⟩) hbl).trans c5
  rw [hw4, hc]
  clear c5 P0 P1 P2 P3 P4 HM1 HB1 HE2 HB2 HA3 HB3 hw4 hc CM CE CA SC HWL HAL
  go_wp2_with fail
  go_loopg [5, 38] fl (fun gg _ s38 wr => ∃ k : Nat, s38 = .int .i64 k ∧ fl - k ≤ gg ∧ k ≤ fl ∧ Hid (CopyRel w c D k wr))
  case atStart => exact ⟨0, rfl, Nat.le_refl _, Nat.zero_le _, R0⟩
  case round =>
    obtain ⟨k, rfl, hgk, hk, HS⟩ := hrel
    clear R0 k5
    obtain ⟨ρ', L2, hd, hlow, hbw⟩ := HS.out
    by_cases hlt : k < fl
    · have hltz : decide (k < fl) = true := decide_eq_true hlt
      have hkz : (k : Int) < (fl : Int) := by omega
      have hkl : k < D.files.length := by rw [HFL.out]; exact hlt
      obtain ⟨F, hF⟩ : ∃ F, D.files[k]? = some F := ⟨_, List.getElem?_eq_getElem hkl⟩
      have hs := SRC.out wr hbw
      obtain ⟨f, hf⟩ : ∃ f, fs[k]? = some f := ⟨_, List.getElem?_eq_getElem (by have := hs.len; dsimp only at this; omega)⟩
      obtain ⟨g, cp, hv2, -, hg⟩ := hs.rowF.1.form (by omega)
      injection hv2 with q1 q2 q3
      subst q1
      clear q2 q3
      have hcell := hs.rowF.1.cells (g := g) rfl k _ (by rw [List.getElem?_map, hf]; rfl)
      rw [add_at] at hcell
      have fa := hs.files k f F hf hF
      obtain ⟨q0, q1, g0, g1⟩ := fa.cells
      have hfl2 := fa.1.lt
      have HFN : Hid (∀ W', Turned wr ρ' c (D.upTo (k + 1)) W' → CopyRel w c D (k + 1) W') := Lib.hid (fun W' hT => let ⟨ρ2, ⟨L3, h1⟩, h2, h3⟩ := hT; ⟨ρ2, L3, h1, fun g hg => (h2 g (Nat.lt_of_lt_of_le hg hbw.size)).trans (hlow g hg), hbw.trans (h3.toBelow hbw.size hlow)⟩)
      have CW := Lib.hid (fun W (hb : Below wr.heap.size wr W) => cloneWait f.2 _ _ W ((SRC.out W (hbw.trans (hb.mono hbw.size))).files k f F hf hF).2.1 (by have := (OK.out.files F (List.mem_of_getElem? hF)).many; omega) (flat_len (c := Wt.cells) (n := 3) (fun _ => rfl) F.waits) (by
        intro u hu
        obtain ⟨a, _, ha⟩ := List.mem_flatMap.1 hu
        unfold Wt.cells at ha
        simp at ha
        rcases ha with rfl | rfl | rfl <;> rfl))
      have hcl := hd.blk.lt
      obtain ⟨vo2, vc2, hvf2⟩ := hd.rowF.shape
      rw [Dk.upTo_len (Nat.le_of_lt hkl)] at hvf2
      have c5 := hd.cells.c5
      have f5 := hd.cells.f5
      have CP := Lib.hid (fun v w1 b1 hv => copy_push (v := v) (w1 := w1) hd hkl hF (by rw [HFL.out]; exact hfew) b1 hv)
      rw [hvf2] at c5 CP
      obtain ⟨nl, hnl⟩ : ∃ nl, F.waits.length = nl := ⟨_, rfl⟩
      obtain ⟨sv, hsv⟩ : ∃ sv, F.sure = sv := ⟨_, rfl⟩
      rw [hnl] at CW CP
      rw [hsv] at q0 CP
      obtain ⟨f1, f2⟩ := f
      dsimp only at hcell q0 q1 CW hfl2
      clear HS hd hlow hs hf hg fa g0 g1 hF hvf2 hnl hsv hkl hbw
      go_wp2_with fail
      go_region_law (first
        | (go_simp; go_at_call 45; refine (CW.out _ (Below.drew (Below.refl _ _))).mono ?_; intro e w1 hh; obtain ⟨u, rfl, hu, hb⟩ := hh; obtain ⟨uo, uc, rfl⟩ := own_shape0 (own_to0 hu); have b1 : Below wr.heap.size wr w1 := below_undrew hb; obtain ⟨gg, cap, w2, R1, HO⟩ := CP.out _ w1 b1 hu; have k1 : w1.cell? ⟨c, 5, none⟩ = some (.slice vo2 k vc2) := (b1.cell (p := ⟨c, 5, none⟩) hcl).trans c5; have j1 : w1.cell? ⟨f1, 0, none⟩ = some (.string sv) := (b1.cell (p := ⟨f1, 0, none⟩) hfl2).trans q0; have bA : Below wr.heap.size wr (w1.alloc (.cells #[.string sv, .slice uo nl uc] 100)) := b1.alloc b1.size _; have k2 : (w1.alloc (.cells #[.string sv, .slice uo nl uc] 100)).cell? ⟨c, 5, none⟩ = some (.slice vo2 k vc2) := (bA.cell (p := ⟨c, 5, none⟩) hcl).trans c5; have k3 : ((w1.alloc (.cells #[.string sv, .slice uo nl uc] 100)).alloc (.cells #[.pointer (some ⟨w1.heap.size, 0, none⟩)] 97)).cell? ⟨c, 5, none⟩ = some (.slice vo2 k vc2) := ((bA.alloc bA.size _).cell (p := ⟨c, 5, none⟩) hcl).trans c5; have k4 := HO.out.2.1; have k6 := HO.out.2.2; have HFF := Lib.hid (HFN.out _ HO.out.1); clear hu hb b1 bA HO)
        | (refine step_append_eq (by rfl) _ _ _ (by rfl) (v := .slice vo2 k vc2) (u := .slice (some ⟨w1.heap.size + 1, 0, none⟩) 1 1) (by rfl) (by rfl) (by with_reducible exact R1.out) ?_)
        | fail)
      all_goals
        go_wp2_with fail
        go_roundg (fl - (k + 1))
        case measure => omega
        case rel => exact ⟨k + 1, by go_num, Nat.le_refl _, hlt, HFF⟩
    · have hltz : decide (k < fl) = false := decide_eq_false hlt
      have hke : k = D.files.length := by rw [HFL.out]; omega
      have HR : Hid (∃ ρ', IsDisk wr ρ' c D ∧ (∀ g, g < w.heap.size → ρ' g = none) ∧ Below w.heap.size w wr) := Lib.hid (by
        rw [hke, Dk.upTo_all] at hd
        exact ⟨ρ', ⟨L2, hd⟩, hlow, hbw⟩)
      clear hd hlow hbw hke HS
      go_wp2_with fail
      go_ret
      obtain ⟨ρ2, h1, h2, h3⟩ := HR.out
      exact ⟨c, ρ2, rfl, h1, h2, h3⟩
end Go.Proofs.YthfcmgbkhjnfjaaGreatDoor
