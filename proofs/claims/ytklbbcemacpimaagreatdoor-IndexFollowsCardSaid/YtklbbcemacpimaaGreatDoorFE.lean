/- The statement IndexFollows, walked. The statement IndexFollows at whatever text, script and question. -/
import Derived.Test.YtklbbcemacpimaaGreatDoorFD
import Derived.Deep.RegionHeld3
import Derived.Deep.RegionLaw
import Derived.Deep.DeepCutAuto
namespace Go.Proofs.YtklbbcemacpimaaGreatDoor.I
open Go Go.Maps Go.Proofs Go.RowKit Go.Sort Go.Shelf

theorem c3of {w : World} {b : Nat} {x y z : Value} {T : TypeId} (h : w.heap[b]? = some (.cells #[x, y, z] T (0, 0))) : w.cell? ⟨b, 0, none⟩ = some x ∧ w.cell? ⟨b, 1, none⟩ = some y ∧ w.cell? ⟨b, 2, none⟩ = some z :=
  ⟨by simp [World.cell?, h], by simp [World.cell?, h], by simp [World.cell?, h]⟩
theorem keepc {W W' : World} {p : Addr} {v : Value} (hb : Below W.heap.size W W') (h : W.cell? p = some v) : W'.cell? p = some v := (hb.cell (World.block_lt_of_cell? _ _ h)).trans h
theorem strs_snocN {w : World} {lo g cap n : Nat} {L : List L8} {s : ByteArray} (hn : L.length = n) (h : w.ownsRow lo 9 1 (.slice (some ⟨g, 0, none⟩) (n + 1) cap) (n + 1) (L.map encStr ++ [.string s])) : StrsAt w (.slice (some ⟨g, 0, none⟩) (n + 1) cap) (L ++ [s.data.toList]) := by
  subst hn
  exact strs_snoc h
/-- Where a range stands. -/
def GR (w0 : World) (n : Nat) (i : Value) (W : World) : Prop := ∃ j : Nat, i = .int .i64 j ∧ j ≤ n ∧ Hid (Below w0.heap.size w0 W)
/-- Where the script stands. -/
def FR (w2 : World) (gb : Nat) (ob : Obj) (lb xb : Nat) (es : List Ed) (i : Value) (wr : World) : Prop :=
  ∃ (k : Nat) (el : Es), i = .int .i64 k ∧ k ≤ es.length ∧ Hid (LX w2 wr gb ob lb xb k (160000 + 7000 * k) el (mOf (stz el)))
set_option maxRecDepth 100000 in
set_option maxHeartbeats 12800000 in
theorem follows_main (s : ByteArray) (v : Value) (es : List Ed) (key lo hi : ByteArray) (hs : s.size ≤ 2000) (hk : key.size ≤ maxLen) (hl : lo.size ≤ maxLen) (he : (B.parse s.data.toList).err = 0) (w : World) (hE : EdsAt w v es) (hr : Rdy w) :
    Calls Tryz.prog 4 #[.string s, v, .agg #[.string key, .string lo, .string hi]] w fun e w' => e = .returned (.bool true) ∧ Below w.heap.size w w' := by
  have hmx := maxLen_is
  have hs' : ¬ (2000 : Int) < (s.size : Int) := by omega
  obtain ⟨W0, hW0⟩ : ∃ W0, w.alloc (.cells #[.string key, .string lo, .string hi] 42) = W0 := ⟨_, rfl⟩
  have hB0 : Below w.heap.size w W0 := by rw [← hW0]; exact below_grow1 w _
  have g0 : W0.heap[w.heap.size]? = some (.cells #[.string key, .string lo, .string hi] 42 (0, 0)) := by rw [← hW0]; exact heap_alloc_new w _
  obtain ⟨B, hB⟩ : ∃ B, w.heap.size = B := ⟨_, rfl⟩
  rw [hB] at g0
  have HE0 := Lib.hid (hE.below hB0)
  have HR := Lib.hid hr
  have HB0 := Lib.hid hB0
  have HBE := Lib.hid hB
  have HW0 := Lib.hid hW0
  have HG0 := Lib.hid g0
  have LOF := Lib.hid (fun w' => list_lo s (by omega) w' he)
  obtain ⟨ao, cp, rfl, hem, -⟩ := _root_.id hE
  clear hB0 g0 hW0 hB hE hr he
  go_enter Tryz.func4, Tryz.ntmps4
  go_wp2_with fail
  rw [HW0.out]
  rw [HBE.out]
  refine (alive_any W0).mono ?_
  rintro e w1 ⟨rfl, hb1⟩
  have HE1 := Lib.hid (HE0.out.below hb1)
  have HB1 := Lib.hid (HB0.out.trans (hb1.mono HB0.out.size))
  have HG1 : Hid (w1.heap[B]? = some (.cells #[.string key, .string lo, .string hi] 42 (0, 0))) := Lib.hid ((hb1.block B (Array.getElem?_eq_some_iff.1 HG0.out).1).trans HG0.out)
  clear hb1 HE0 HB0 HG0 HW0
  go_wp2_with fail
  refine (heavy_any _ es w1 HE1.out).mono ?_
  rintro e w2 ⟨bh, rfl, hh, hb2⟩
  have HB2 := Lib.hid (HB1.out.trans (hb2.mono HB1.out.size))
  cases bh with
  | true =>
    clear hh hb2
    go_wp2_with fail
    go_ret
    exact ⟨rfl, HB2.out⟩
  | false =>
    obtain ⟨hel, hes⟩ := hh rfl
    have HES := Lib.hid hes
    have HE2 := Lib.hid (HE1.out.below hb2)
    have HR2 := Lib.hid (HR.out.stays HB2.out)
    have HG2 : Hid (w2.heap[B]? = some (.cells #[.string key, .string lo, .string hi] 42 (0, 0))) := Lib.hid ((hb2.block B (Array.getElem?_eq_some_iff.1 HG1.out).1).trans HG1.out)
    clear hh hes hb2 HE1 HB1 HG1
    go_wp2_with fail
    refine (LOF.out w2).mono ?_
    rintro e w3 ⟨lb, es0, rfl, hlo⟩
    have OF := Lib.hid (of_lo w2 w3 lb es0 hlo HG2.out)
    clear hlo
    go_wp2_with fail
    refine OF.out.mono ?_
    rintro e w4 ⟨xb, rfl, hx4⟩
    have X4 := Lib.hid hx4
    clear hx4 OF
    go_wp2_with fail
    go_loopw [39] (fun i W => FR w2 B (.cells #[.string key, .string lo, .string hi] 42 (0, 0)) lb xb es i W) (fun i _ => es.length - (iOf i).toNat)
    case atStart => exact ⟨0, es0, rfl, Nat.zero_le _, X4⟩
    case round =>
      obtain ⟨k, el, rfl, hkl, hX⟩ := hrel
      have hb2r := hX.out.base
      clear X4
      by_cases hlt : k < es.length
      · obtain ⟨d, hd⟩ : ∃ d, es[k]? = some d := ⟨_, List.getElem?_eq_getElem hlt⟩
        obtain ⟨ao', cp', hv', -, hcs⟩ := HE2.out
        injection hv' with q1 q2 q3
        subst q1
        clear q2 q3
        obtain ⟨g, o, fo, fc, rfl, d1, d2, d3, hfa, hwf⟩ := hcs k d hd
        have c1 := (hb2r.cell (World.block_lt_of_cell? _ _ d1)).trans d1
        have c2 := (hb2r.cell (World.block_lt_of_cell? _ _ d2)).trans d2
        have c3 := (hb2r.cell (World.block_lt_of_cell? _ _ d3)).trans d3
        clear d1 d2 d3
        have hsl := HES.out d (List.mem_of_getElem? hd)
        obtain ⟨kd, id, fs⟩ := d
        simp only at c1 c2 c3 hfa hwf hsl
        obtain ⟨wq, hwq⟩ : ∃ wq, wr.alloc (.cells #[.int .i64 kd, .int .i64 id, .slice fo fs.length fc] 46) = wq := ⟨_, rfl⟩
        obtain ⟨Bo, hBo⟩ : ∃ Bo, wr.heap.size = Bo := ⟨_, rfl⟩
        have hXQ : LX w2 wq Bo (.cells #[.int .i64 kd, .int .i64 id, .slice fo fs.length fc] 46 (0, 0)) lb xb k (160000 + 7000 * k) el (mOf (stz el)) := by
          have := hX.out.new (.cells #[.int .i64 kd, .int .i64 id, .slice fo fs.length fc] 46) (heap_alloc_new wr _)
          rw [hwq, hBo] at this
          exact this
        have HXQ := Lib.hid hXQ
        have HF2 : Hid (∀ W, Below w2.heap.size w2 W → FldsAt W (.slice fo fs.length fc) fs) := Lib.hid fun W hb => hfa.below hb
        have HSL := Lib.hid hsl
        have HWQ := Lib.hid hwq
        have HBO := Lib.hid hBo
        have HWF := Lib.hid hwf
        have HFQ := HF2.out wq hXQ.base
        have HRQ := HR2.out.stays hXQ.base
        clear hfa hX hd hcs hsl hwq hBo hXQ hwf
        by_cases hkd : kd = 1
        · subst hkd
          have RP := Lib.hid (repl_lx w2 wq Bo _ lb xb k (160000 + 7000 * k) el id (.slice fo fs.length fc) fs HXQ.out (by omega) HFQ HSL.out HRQ)
          clear HFQ HRQ
          go_wp2_with fail
          try rw [HWQ.out]
          try rw [HBO.out]
          refine RP.out.mono ?_
          rintro e wa (⟨u, rfl, hu, hXa⟩ | ⟨rfl, hi1, es', hXa, hput⟩)
          · have HXE := Lib.hid ((hXa.old HG2.out).more (K' := k + 1) (N' := 160000 + 7000 * (k + 1)) (by omega) (by omega))
            clear hXa RP
            rcases hu with ⟨c, rfl⟩ | ⟨gg, rfl⟩
            all_goals
              go_wp2_with fail
              exact ⟨⟨k + 1, el, by go_num, by omega, HXE⟩, by simp [iOf]; omega⟩
          · obtain ⟨y0, y1, y2⟩ := c3of hXa.guest
            have PU := Lib.hid (put_lx w2 wa Bo _ lb xb (k + 1) (160000 + 7000 * k) es' (mOf (stz el)) id (.slice fo fs.length fc) fs hXa (HF2.out wa hXa.base) (HSL.out.fine HWF.out) hi1 (by omega))
            rw [hput] at PU
            clear hXa RP hput
            go_wp2_with fail
            refine PU.out.mono ?_
            rintro e wb ⟨rfl, hXb⟩
            have HXE := Lib.hid ((hXb.old HG2.out).more (K' := k + 1) (N' := 160000 + 7000 * (k + 1)) (by omega) (by omega))
            clear hXb PU
            go_wp2_with fail
            exact ⟨⟨k + 1, es', by go_num, by omega, HXE⟩, by simp [iOf]; omega⟩
        · by_cases hkd2 : kd = 2
          · subst hkd2
            have P0 : wq.cell? ⟨Bo, 1, none⟩ = some (.int .i64 id) := (c3of HXQ.out.guest).2.1
            have DR := Lib.hid (fun W el' K (h : LX w2 W Bo _ lb xb K (160000 + 7000 * k) el' (mOf (stz el))) => drop_lx w2 W Bo (.cells #[.int .i64 2, .int .i64 id, .slice fo fs.length fc] 46 (0, 0)) lb xb K (160000 + 7000 * k) el' (mOf (stz el)) id h HWF.out (by omega))
            by_cases hyes : ∃ x ∈ el, (x.2 : Int) = id ∧ 0 < x.2
            · have DE := Lib.hid (dele_yes w2 wq.drew Bo _ lb xb k (160000 + 7000 * k) el id (HXQ.out.on (Below.refl _ _).drew) (by omega) hyes)
              clear HFQ HRQ hyes
              go_wp2_with fail
              try rw [HWQ.out]
              try rw [HBO.out]
              go_region_held3 (fun W' => W'.cell? ⟨Bo, 1, none⟩ = some (.int .i64 id)) (first | exact P0 | exact P1 | exact P2)
                (first
                  | (go_at_call 18; refine DE.out.mono ?_; rintro e wa ⟨rfl, el2, hXa, hdr, hany⟩; have P1 : wa.cell? ⟨Bo, 1, none⟩ = some (.int .i64 id) := (c3of hXa.guest).2.1; have HXA := Lib.hid hXa; have HDR := Lib.hid hdr; have DRA := Lib.hid (DR.out wa _ _ HXA.out); rw [hany] at DRA; clear hXa hdr hany)
                  | (go_at_call 19; refine DRA.out.mono ?_; rintro e wb ⟨rfl, hXb⟩; have P2 : wb.cell? ⟨Bo, 1, none⟩ = some (.int .i64 id) := (c3of hXb.guest).2.1; rw [HDR.out] at hXb))
              have HXE := Lib.hid ((hXb.old HG2.out).more (K' := k + 1) (N' := 160000 + 7000 * (k + 1)) (by omega) (by omega))
              clear hXb DR DE DRA HXA HDR
              go_wp2_with fail
              exact ⟨⟨k + 1, _, by go_num, by omega, HXE⟩, by simp [iOf]; omega⟩
            · have DE := Lib.hid (dele_no w2 wq.drew Bo _ lb xb k (160000 + 7000 * k) el id (HXQ.out.on (Below.refl _ _).drew) (by omega) hyes)
              clear HFQ HRQ hyes
              go_wp2_with fail
              try rw [HWQ.out]
              try rw [HBO.out]
              go_region_held3 (fun W' => W'.cell? ⟨Bo, 1, none⟩ = some (.int .i64 id)) (first | exact P0 | exact P1 | exact P2)
                (first
                  | (go_at_call 18; refine DE.out.mono ?_; rintro e wa ⟨rfl, hXa, hdr, hany⟩; have P1 : wa.cell? ⟨Bo, 1, none⟩ = some (.int .i64 id) := (c3of hXa.guest).2.1; have HXA := Lib.hid hXa; have HDR := Lib.hid hdr; have DRA := Lib.hid (DR.out wa _ _ HXA.out); rw [hany] at DRA; clear hXa hdr hany)
                  | (go_at_call 19; refine DRA.out.mono ?_; rintro e wb ⟨rfl, hXb⟩; have P2 : wb.cell? ⟨Bo, 1, none⟩ = some (.int .i64 id) := (c3of hXb.guest).2.1; rw [HDR.out] at hXb))
              have HXE := Lib.hid ((hXb.old HG2.out).more (K' := k + 1) (N' := 160000 + 7000 * (k + 1)) (by omega) (by omega))
              clear hXb DR DE DRA HXA HDR
              go_wp2_with fail
              exact ⟨⟨k + 1, _, by go_num, by omega, HXE⟩, by simp [iOf]; omega⟩
          · have IN := Lib.hid (inse_lx w2 wq Bo _ lb xb k (160000 + 7000 * k) el id (.slice fo fs.length fc) fs HXQ.out (by omega) HFQ HSL.out HRQ)
            clear HFQ HRQ
            go_wp2_with fail
            try rw [HWQ.out]
            try rw [HBO.out]
            refine IN.out.mono ?_
            rintro e wa (⟨u, rfl, hu, hXa⟩ | ⟨nx, rfl, hi1, hi2, es', hXa, hput⟩)
            · have HXE := Lib.hid ((hXa.old HG2.out).more (K' := k + 1) (N' := 160000 + 7000 * (k + 1)) (by omega) (by omega))
              clear hXa IN
              rcases hu with ⟨c, rfl⟩ | ⟨gg, rfl⟩
              all_goals
                go_wp2_with fail
                exact ⟨⟨k + 1, el, by go_num, by omega, HXE⟩, by simp [iOf]; omega⟩
            · obtain ⟨y0, y1, y2⟩ := c3of hXa.guest
              have PU := Lib.hid (put_lx w2 wa Bo _ lb xb (k + 1) (160000 + 7000 * k) es' (mOf (stz el)) nx (.slice fo fs.length fc) fs hXa (HF2.out wa hXa.base) (HSL.out.fine (by
                have e1 : IntKind.i64.min = -9223372036854775808 := rfl
                have e2 : IntKind.i64.max = 9223372036854775807 := rfl
                simp [Lit.wf, e1, e2]
                omega)) (by omega) (by omega))
              rw [hput] at PU
              clear hXa IN hput
              go_wp2_with fail
              refine PU.out.mono ?_
              rintro e wb ⟨rfl, hXb⟩
              have HXE := Lib.hid ((hXb.old HG2.out).more (K' := k + 1) (N' := 160000 + 7000 * (k + 1)) (by omega) (by omega))
              clear hXb PU
              go_wp2_with fail
              exact ⟨⟨k + 1, es', by go_num, by omega, HXE⟩, by simp [iOf]; omega⟩
      · obtain ⟨M, hM⟩ : ∃ M, mOf (stz el) = M := ⟨_, rfl⟩
        have OF2 := Lib.hid (of_lx w2 wr B _ lb xb k (160000 + 7000 * k) el _ hX.out (by omega))
        have HM := Lib.hid hM
        clear hM
        go_wp2_with fail
        refine OF2.out.mono ?_
        rintro e wf ⟨yb, ny, ownY, rfl, hY, hny⟩
        have hXf := hX.out.on hY.below
        have hfew := hXf.tell (by omega)
        obtain ⟨ownX, nx, hx1, hx2⟩ := hXf.x
        have hYf := hY.at_
        rw [HM.out] at hx1 hYf
        have LN := Lib.hid (fun W hb => len_lx w2 W B _ lb xb k (160000 + 7000 * k) el _ (hXf.on (W' := W) hb))
        rw [HM.out] at LN
        have AX := Lib.hid (answers hx1 (by omega))
        have AY := Lib.hid (answers hYf (by omega))
        have HMF : Hid (∀ s ∈ M, s.2.length ≤ 1000) := Lib.hid fun s hs => (hx1.fine s hs).few
        have hml : M.length ≤ 2000 := by rw [← HM.out, mOf_len]; exact hfew
        have HKF := Lib.hid (kL_fit hx1)
        have HVF := Lib.hid (vL_fit hx1)
        have hkn := kL_few hml HMF.out
        have HVN := Lib.hid (fun kk => vL_few kk hml HMF.out)
        have HBF := Lib.hid (HB2.out.trans (hXf.base.mono HB2.out.size))
        have gB := hXf.guest
        have HGF := Lib.hid gB
        obtain ⟨mz, hmz⟩ : ∃ mz, M.length = mz := ⟨_, rfl⟩
        have HLX : Hid (∀ W, Below wf.heap.size wf W → Calls Tryz.prog 21 #[.pointer (some ⟨xb, 0, none⟩)] W fun e w' => e = .returned (.int .i64 mz) ∧ W = w') := Lib.hid (by rw [← hmz]; exact AX.out.len)
        have HLY : Hid (∀ W, Below wf.heap.size wf W → Calls Tryz.prog 21 #[.pointer (some ⟨yb, 0, none⟩)] W fun e w' => e = .returned (.int .i64 mz) ∧ W = w') := Lib.hid (by rw [← hmz]; exact AY.out.len)
        rw [hmz] at LN
        clear hX hY hXf hx1 hYf hmz OF2 gB
        go_wp2_with fail
        refine (HLX.out wf (Below.refl _ _)).mono ?_
        rintro e w5 ⟨rfl, rfl⟩
        go_wp2_with fail
        refine (HLY.out wf (Below.refl _ _)).mono ?_
        rintro e w5 ⟨rfl, rfl⟩
        go_wp2_with fail
        refine (HLX.out wf (Below.refl _ _)).mono ?_
        rintro e w5 ⟨rfl, rfl⟩
        go_wp2_with fail
        refine (LN.out wf (Below.refl _ _)).mono ?_
        rintro e w5 ⟨rfl, rfl⟩
        go_wp2_with fail
        refine (AX.out.keys wf (Below.refl _ _)).mono ?_
        rintro e wa ⟨ua, rfl, ra, ha⟩
        have SA := Lib.hid (StrsAt.of ra)
        clear ra
        have HA := Lib.hid ha
        go_wp2_with fail
        refine (AY.out.keys wa ha).mono ?_
        rintro e wb ⟨ub, rfl, rb, hb⟩
        have TS := Lib.hid (texts_same _ _ _ wb (SA.out.below hb) (StrsAt.of rb))
        have HBB := Lib.hid (HA.out.trans (hb.mono HA.out.size))
        clear rb hb ha SA HA
        go_wp2_with fail
        refine TS.out.mono ?_
        rintro e wc ⟨rfl, kc, rfl⟩
        have HBC := Lib.hid (below_dn HBB.out kc)
        clear TS HBB
        obtain ⟨wd, hwd⟩ : ∃ wd, wb.drewN kc = wd := ⟨_, rfl⟩
        rw [hwd] at HBC
        obtain ⟨kn, hkn2⟩ : ∃ kn, (kL M).length = kn := ⟨_, rfl⟩
        rw [hkn2] at hkn
        have HKN := Lib.hid hkn2
        obtain ⟨f0, f1, f2⟩ := c3of HGF.out
        have hBf := (Array.getElem?_eq_some_iff.1 HGF.out).1
        obtain ⟨i0, hi0, hz0, hz1, hz2⟩ := info_parts infoStr
        clear hkn2
        go_wp2_with fail
        have QW : wd.cell? ⟨B, 0, none⟩ = some (.string key) := (keepc HBC.out f0)
        have QA : wd.drew.cell? ⟨B, 0, none⟩ = some (.string key) := QW
        have QB : ((wd.alloc (.cells #[.string key] 9)).drew).cell? ⟨B, 0, none⟩ = some (.string key) := keepc (below_grow1 wd _).drew QW
        have BA := Lib.hid (HBC.out.drew)
        have BB := Lib.hid ((HBC.out.alloc HBC.out.size (.cells #[.string key] 9)).drew)
        have GB : Hid ((wd.alloc (.cells #[.string key] 9)).drew.heap[wd.heap.size]? = some (.cells #[.string key] 9 (0, 0))) := Lib.hid (heap_alloc_new wd _)
        go_cut [122, 123, 124] (fun vs vn vi wx => ∃ g cap : Nat, vs = .slice (some ⟨g, 0, none⟩) (kn + 1) cap ∧ vn = .int .i64 ((kn : Int) + 1) ∧ vi = .int .i64 0 ∧ Hid (StrsAt wx (.slice (some ⟨g, 0, none⟩) (kn + 1) cap) ((kL M) ++ [key.data.toList])) ∧ Hid (Below wf.heap.size wf wx))
        case first =>
          go_region_held3 (fun W' => W'.cell? ⟨B, 0, none⟩ = some (.string key)) (first | exact QA | exact QB | exact P1 | exact P2 | exact P3)
            (first
              | (go_at_call 24; with_reducible refine Calls.mono (AX.out.keys wd.drew BA.out) ?_; intro e wa hh; unfold OStrs at hh; obtain ⟨ua, rfl, ra, ha⟩ := hh; have P1 : wa.cell? ⟨B, 0, none⟩ = some (.string key) := keepc ha QA; have P3 : (wa.alloc (.cells #[.string key] 9)).cell? ⟨B, 0, none⟩ = some (.string key) := keepc (below_grow1 wa _) P1; have HW := Lib.hid (BA.out.trans (ha.mono BA.out.size)); rw [HKN.out] at ra; have RA := Lib.hid (own_low1 ra BA.out.size); obtain ⟨uo, uc, huv⟩ := own_shape RA.out; subst huv; clear ra ha)
              | (go_at_call 24; with_reducible refine Calls.mono (AX.out.keys (wd.alloc (.cells #[.string key] 9)).drew BB.out) ?_; intro e wa hh; unfold OStrs at hh; obtain ⟨ua, rfl, ra, ha⟩ := hh; have P1 : wa.cell? ⟨B, 0, none⟩ = some (.string key) := keepc ha QB; have P3 : (wa.alloc (.cells #[.string key] 9)).cell? ⟨B, 0, none⟩ = some (.string key) := keepc (below_grow1 wa _) P1; have HW := Lib.hid (BB.out.trans (ha.mono BB.out.size)); have GA := Lib.hid ((ha.block _ (Array.getElem?_eq_some_iff.1 GB.out).1).trans GB.out); rw [HKN.out] at ra; have RB := Lib.hid (own_low1 ra BB.out.size); obtain ⟨uo, uc, huv⟩ := own_shape RB.out; subst huv; clear ra ha)
              | (refine step_append_lies _ (by rfl) _ _ _ (by rfl) wf.heap.size 9 i0 _ 1 16 Tryz.underlying30 hi0 hz0 hz1 hz2 rfl (by omega) (.slice uo kn uc) kn ((kL M).map encStr) (by rfl) (RA.out.alloc _) ⟨wa.heap.size, 0, none⟩ 1 1 [.string key] (by rfl) (by rfl) (World.news_of_block (cs := #[.string key]) (t := 9) (fr := (0, 0)) (heap_alloc_new wa _)) (by simp [Value.oneCell']) (by omega) (by unfold maxLen; omega) (by omega) (by have := HW.out.size; simp; omega) (wa.heap.size + 1) (by simp) ?_; intro g cap w7 hown7 hgrow hat hlt; have HO7 := Lib.hid hown7; have HG7 := Lib.hid ((HW.out.alloc HW.out.size (.cells #[.string key] 9)).grown hgrow (by have := HW.out.size; simp; omega) (fun k hk => (World.ownsRow.lt RA.out k hk).1)); have P2 : w7.cell? ⟨B, 0, none⟩ = some (.string key) := (HG7.out.cell (p := ⟨B, 0, none⟩) hBf).trans f0; clear hown7 hgrow hat hlt)
              | (refine step_append_lies _ (by rfl) _ _ _ (by rfl) wf.heap.size 9 i0 _ 1 16 Tryz.underlying30 hi0 hz0 hz1 hz2 rfl (by omega) (.slice uo kn uc) kn ((kL M).map encStr) (by rfl) RB.out ⟨wd.heap.size, 0, none⟩ 1 1 [.string key] (by rfl) (by rfl) (World.news_of_block (cs := #[.string key]) (t := 9) (fr := (0, 0)) GA.out) (by simp [Value.oneCell']) (by omega) (by unfold maxLen; omega) (by omega) HW.out.size wa.heap.size rfl ?_; intro g cap w7 hown7 hgrow hat hlt; have HO7 := Lib.hid hown7; have HG7 := Lib.hid (HW.out.grown hgrow HW.out.size (fun k hk => (World.ownsRow.lt RB.out k hk).1)); have P2 : w7.cell? ⟨B, 0, none⟩ = some (.string key) := (HG7.out.cell (p := ⟨B, 0, none⟩) hBf).trans f0; clear hown7 hgrow hat hlt) | fail)
          all_goals
            go_wp2_with fail
            go_meet
            exact ⟨g, cap, rfl, rfl, rfl, Lib.hid (strs_snocN HKN.out HO7.out), HG7⟩
        case rest =>
          obtain ⟨gA, capA, rfl, rfl, rfl, HSTA, HBLA⟩ := hcut
          clear QW QA QB BA BB GB
          rename World => wo
          have HUP : Hid (∀ W, Below wo.heap.size wo W → Below wf.heap.size wf W) := Lib.hid fun W h => HBLA.out.trans (h.mono HBLA.out.size)
          have f1o := keepc HBLA.out f1
          have f2o := keepc HBLA.out f2
          have hBo : B < wo.heap.size := Nat.lt_of_lt_of_le hBf HBLA.out.size
          have HFA : Hid (∀ t ∈ kL M ++ [key.data.toList], t.length ≤ maxLen) := Lib.hid fun t ht => by
            rcases List.mem_append.1 ht with ht | ht
            · exact HKF.out t ht
            · rw [List.mem_singleton.1 ht]; exact hk
          go_wp2_with fail
          go_loopw [124] (fun i W => GR wo (kn + 1) i W) (fun i _ => kn + 1 - (iOf i).toNat)
          case atStart => exact ⟨0, rfl, Nat.zero_le _, Lib.hid (Below.refl _ _)⟩
          case round =>
            obtain ⟨j, rfl, hj, hBJ⟩ := hrel
            have HBW := Lib.hid hBJ.out
            by_cases hjl : j < kn + 1
            · have hjz : (j : Int) < (kn : Int) + 1 := by omega
              obtain ⟨t, ht⟩ : ∃ t, (kL M ++ [key.data.toList])[j]? = some t := ⟨_, List.getElem?_eq_getElem (by rw [List.length_append, List.length_singleton]; have := HKN.out; omega)⟩
              obtain ⟨ao1, cp1, hv1, -, hc1⟩ := HSTA.out.below hBJ.out
              injection hv1 with q1 q2 q3
              subst q1
              clear q2 q3
              obtain ⟨a1, ha1, e1⟩ := hc1 j t ht
              injection ha1 with ha1
              subst ha1
              rw [addr_add, Nat.zero_add] at e1
              obtain ⟨tk, htk⟩ : ∃ tk : ByteArray, (⟨t.toArray⟩ : ByteArray) = tk := ⟨_, rfl⟩
              have hytk : tk.size ≤ maxLen := by rw [← htk]; exact HFA.out t (List.mem_of_getElem? ht)
              rw [htk] at e1
              clear hc1 ht htk
              go_wp2_with fail
              refine (AX.out.values tk hytk wr (HUP.out _ HBW.out)).mono ?_
              rintro e wa1 ⟨ua1, rfl, ia1, ha1⟩
              have IA1 := Lib.hid (StrsAt.of ia1)
              have BA1 := Lib.hid (HBW.out.trans (ha1.mono HBW.out.size))
              clear ia1 ha1
              go_wp2_with fail
              refine (AY.out.values tk hytk wa1 (HUP.out _ BA1.out)).mono ?_
              rintro e wb1 ⟨ub1, rfl, ib1, hb1⟩
              have SA1 := Lib.hid (texts_same _ _ _ wb1 (IA1.out.below hb1) (StrsAt.of ib1))
              have BB1 := Lib.hid (BA1.out.trans (hb1.mono BA1.out.size))
              clear ib1 hb1 IA1 BA1
              go_wp2_with fail
              refine SA1.out.mono ?_
              rintro e wc1 ⟨rfl, kk1, hkk1⟩
              have BC1 : Hid (Below wo.heap.size wo wc1) := Lib.hid (by rw [hkk1]; exact below_dn BB1.out kk1)
              clear hkk1 SA1 BB1
              go_wp2_with fail
              refine (AX.out.with_ tk hytk wc1 (HUP.out _ BC1.out)).mono ?_
              rintro e wa2 ⟨ua2, rfl, ia2, ha2⟩
              have IA2 := Lib.hid ia2
              have BA2 := Lib.hid (BC1.out.trans (ha2.mono BC1.out.size))
              clear ia2 ha2
              go_wp2_with fail
              refine (AY.out.with_ tk hytk wa2 (HUP.out _ BA2.out)).mono ?_
              rintro e wb2 ⟨ub2, rfl, ib2, hb2⟩
              have SA2 := Lib.hid (ints_same _ _ _ wb2 (IA2.out.below hb2) ib2)
              have BB2 := Lib.hid (BA2.out.trans (hb2.mono BA2.out.size))
              clear ib2 hb2 IA2 BA2
              go_wp2_with fail
              refine SA2.out.mono ?_
              rintro e wc2 ⟨rfl, kk2, hkk2⟩
              have BC2 : Hid (Below wo.heap.size wo wc2) := Lib.hid (by rw [hkk2]; exact below_dn BB2.out kk2)
              clear hkk2 SA2 BB2
              go_wp2_with fail
              obtain ⟨vm, hvn⟩ : ∃ vm, (vL M tk.data.toList).length = vm := ⟨_, rfl⟩
              have hvn2 := HVN.out tk.data.toList
              rw [hvn] at hvn2
              have HVL := Lib.hid hvn
              clear hvn
              have QW : wc2.cell? ⟨B, 1, none⟩ = some (.string lo) := (keepc BC2.out f1o)
              have QA : wc2.drew.cell? ⟨B, 1, none⟩ = some (.string lo) := QW
              have QB : ((wc2.alloc (.cells #[.string lo] 9)).drew).cell? ⟨B, 1, none⟩ = some (.string lo) := keepc (below_grow1 wc2 _).drew QW
              have BA := Lib.hid (BC2.out.drew)
              have BB := Lib.hid ((BC2.out.alloc BC2.out.size (.cells #[.string lo] 9)).drew)
              have GB : Hid ((wc2.alloc (.cells #[.string lo] 9)).drew.heap[wc2.heap.size]? = some (.cells #[.string lo] 9 (0, 0))) := Lib.hid (heap_alloc_new wc2 _)
              go_cut [152, 153, 154] (fun vs vn vi wx => ∃ g cap : Nat, vs = .slice (some ⟨g, 0, none⟩) (vm + 1) cap ∧ vn = .int .i64 ((vm : Int) + 1) ∧ vi = .int .i64 0 ∧ Hid (StrsAt wx (.slice (some ⟨g, 0, none⟩) (vm + 1) cap) ((vL M tk.data.toList) ++ [lo.data.toList])) ∧ Hid (Below wo.heap.size wo wx))
              case first =>
                go_region_held3 (fun W' => W'.cell? ⟨B, 1, none⟩ = some (.string lo)) (first | exact QA | exact QB | exact P1 | exact P2 | exact P3)
                  (first
                    | (go_at_call 8; with_reducible refine Calls.mono (AX.out.values tk hytk wc2.drew (HUP.out _ BA.out)) ?_; intro e wa hh; unfold OStrs at hh; obtain ⟨ua, rfl, ra, ha⟩ := hh; have P1 : wa.cell? ⟨B, 1, none⟩ = some (.string lo) := keepc ha QA; have P3 : (wa.alloc (.cells #[.string lo] 9)).cell? ⟨B, 1, none⟩ = some (.string lo) := keepc (below_grow1 wa _) P1; have HW := Lib.hid (BA.out.trans (ha.mono BA.out.size)); rw [HVL.out] at ra; have RA := Lib.hid (own_low1 ra BA.out.size); obtain ⟨uo, uc, huv⟩ := own_shape RA.out; subst huv; clear ra ha)
                    | (go_at_call 8; with_reducible refine Calls.mono (AX.out.values tk hytk (wc2.alloc (.cells #[.string lo] 9)).drew (HUP.out _ BB.out)) ?_; intro e wa hh; unfold OStrs at hh; obtain ⟨ua, rfl, ra, ha⟩ := hh; have P1 : wa.cell? ⟨B, 1, none⟩ = some (.string lo) := keepc ha QB; have P3 : (wa.alloc (.cells #[.string lo] 9)).cell? ⟨B, 1, none⟩ = some (.string lo) := keepc (below_grow1 wa _) P1; have HW := Lib.hid (BB.out.trans (ha.mono BB.out.size)); have GA := Lib.hid ((ha.block _ (Array.getElem?_eq_some_iff.1 GB.out).1).trans GB.out); rw [HVL.out] at ra; have RB := Lib.hid (own_low1 ra BB.out.size); obtain ⟨uo, uc, huv⟩ := own_shape RB.out; subst huv; clear ra ha)
                    | (refine step_append_lies _ (by rfl) _ _ _ (by rfl) wo.heap.size 9 i0 _ 1 16 Tryz.underlying30 hi0 hz0 hz1 hz2 rfl (by omega) (.slice uo vm uc) vm ((vL M tk.data.toList).map encStr) (by rfl) (RA.out.alloc _) ⟨wa.heap.size, 0, none⟩ 1 1 [.string lo] (by rfl) (by rfl) (World.news_of_block (cs := #[.string lo]) (t := 9) (fr := (0, 0)) (heap_alloc_new wa _)) (by simp [Value.oneCell']) (by omega) (by unfold maxLen; omega) (by omega) (by have := HW.out.size; simp; omega) (wa.heap.size + 1) (by simp) ?_; intro g cap w7 hown7 hgrow hat hlt; have HO7 := Lib.hid hown7; have HG7 := Lib.hid ((HW.out.alloc HW.out.size (.cells #[.string lo] 9)).grown hgrow (by have := HW.out.size; simp; omega) (fun k hk => (World.ownsRow.lt RA.out k hk).1)); have P2 : w7.cell? ⟨B, 1, none⟩ = some (.string lo) := (HG7.out.cell (p := ⟨B, 1, none⟩) hBo).trans f1o; clear hown7 hgrow hat hlt)
                    | (refine step_append_lies _ (by rfl) _ _ _ (by rfl) wo.heap.size 9 i0 _ 1 16 Tryz.underlying30 hi0 hz0 hz1 hz2 rfl (by omega) (.slice uo vm uc) vm ((vL M tk.data.toList).map encStr) (by rfl) RB.out ⟨wc2.heap.size, 0, none⟩ 1 1 [.string lo] (by rfl) (by rfl) (World.news_of_block (cs := #[.string lo]) (t := 9) (fr := (0, 0)) GA.out) (by simp [Value.oneCell']) (by omega) (by unfold maxLen; omega) (by omega) HW.out.size wa.heap.size rfl ?_; intro g cap w7 hown7 hgrow hat hlt; have HO7 := Lib.hid hown7; have HG7 := Lib.hid (HW.out.grown hgrow HW.out.size (fun k hk => (World.ownsRow.lt RB.out k hk).1)); have P2 : w7.cell? ⟨B, 1, none⟩ = some (.string lo) := (HG7.out.cell (p := ⟨B, 1, none⟩) hBo).trans f1o; clear hown7 hgrow hat hlt) | fail)
                all_goals
                  go_wp2_with fail
                  go_meet
                  exact ⟨g, cap, rfl, rfl, rfl, Lib.hid (strs_snocN HVL.out HO7.out), HG7⟩
              case rest =>
                obtain ⟨gB, capB, rfl, rfl, rfl, HSTB, HBLB⟩ := hcut
                clear QW QA QB BA BB GB
                have HUQ : Hid (∀ W, Below wc.heap.size wc W → Below wf.heap.size wf W) := Lib.hid fun W h => HUP.out _ (HBLB.out.trans (h.mono HBLB.out.size))
                have f2c := keepc HBLB.out f2o
                have HFB : Hid (∀ t ∈ vL M tk.data.toList ++ [lo.data.toList], t.length ≤ maxLen) := Lib.hid fun t ht => by
                  rcases List.mem_append.1 ht with ht | ht
                  · exact HVF.out tk.data.toList t ht
                  · rw [List.mem_singleton.1 ht]; exact hl
                go_wp2_with fail
                go_loopw [154] (fun i W => GR wc (vm + 1) i W) (fun i _ => vm + 1 - (iOf i).toNat)
                case atStart => exact ⟨0, rfl, Nat.zero_le _, Lib.hid (Below.refl _ _)⟩
                case round =>
                  obtain ⟨j2, rfl, hj2, hBJ2⟩ := hrel
                  have C0 := Lib.hid (hBJ2.out.drew)
                  by_cases hjl2 : j2 < vm + 1
                  · have hjz2 : (j2 : Int) < (vm : Int) + 1 := by omega
                    obtain ⟨t2, ht2⟩ : ∃ t2, (vL M tk.data.toList ++ [lo.data.toList])[j2]? = some t2 := ⟨_, List.getElem?_eq_getElem (by rw [List.length_append, List.length_singleton]; have := HVL.out; omega)⟩
                    obtain ⟨ao2, cp2, hv2, -, hc2⟩ := HSTB.out.below hBJ2.out
                    injection hv2 with q1 q2 q3
                    subst q1
                    clear q2 q3
                    obtain ⟨a2, ha2, e2⟩ := hc2 j2 t2 ht2
                    injection ha2 with ha2
                    subst ha2
                    rw [addr_add, Nat.zero_add] at e2
                    obtain ⟨tv, htv⟩ : ∃ tv : ByteArray, (⟨t2.toArray⟩ : ByteArray) = tv := ⟨_, rfl⟩
                    have hytv : tv.size ≤ maxLen := by rw [← htv]; exact HFB.out t2 (List.mem_of_getElem? ht2)
                    rw [htv] at e2
                    clear hc2 ht2 htv
                    go_wp2_with fail
                    have QW2 : wr.cell? ⟨B, 2, none⟩ = some (.string hi) := keepc hBJ2.out f2c
                    have QH : wr.drew.cell? ⟨B, 2, none⟩ = some (.string hi) := QW2
                    go_region_held3 (fun W' => W'.cell? ⟨B, 2, none⟩ = some (.string hi)) (first | exact QH | exact R1 | exact R2 | exact R3 | exact R4 | exact R5 | exact R6 | exact R7 | exact R8)
                      (first
                        | (go_at_call 11; with_reducible refine Calls.mono (AX.out.equal tk tv hytk hytv wr.drew (HUQ.out _ C0.out)) ?_; intro e x1 hh; unfold AInts at hh; obtain ⟨n1, rfl, i1, b1⟩ := hh; have R1 : x1.cell? ⟨B, 2, none⟩ = some (.string hi) := keepc b1 QH; have C1 := Lib.hid (C0.out.trans (b1.mono C0.out.size)); have I1 := Lib.hid i1; clear i1 b1)
                        | (go_at_call 11; with_reducible refine Calls.mono (AY.out.equal tk tv hytk hytv x1 (HUQ.out _ C1.out)) ?_; intro e x2 hh; unfold AInts at hh; obtain ⟨n2, rfl, i2, b2⟩ := hh; have R2 : x2.cell? ⟨B, 2, none⟩ = some (.string hi) := keepc b2 R1; have C2 := Lib.hid (C1.out.trans (b2.mono C1.out.size)); have T2 := Lib.hid (ints_same _ _ _ x2 (I1.out.below b2) i2); clear i2 b2)
                        | (go_at_call 13; with_reducible refine Calls.mono (T2.out) ?_; rintro e x3 ⟨rfl, k3, hk3⟩; have C3 : Hid (Below wc.heap.size wc x3) := Lib.hid (by rw [hk3]; exact below_dn C2.out k3); have R3 : x3.cell? ⟨B, 2, none⟩ = some (.string hi) := (by rw [hk3]; exact keepc (below_dn (Below.refl _ _) k3) R2); clear hk3)
                        | (go_at_call 12; with_reducible refine Calls.mono (AX.out.count tk tv hytk hytv x3 (HUQ.out _ C3.out)) ?_; rintro e x4 ⟨rfl, b4⟩; have R4 : x4.cell? ⟨B, 2, none⟩ = some (.string hi) := keepc b4 R3; have C4 := Lib.hid (C3.out.trans (b4.mono C3.out.size)); clear b4)
                        | (go_at_call 12; with_reducible refine Calls.mono (AY.out.count tk tv hytk hytv x4 (HUQ.out _ C4.out)) ?_; rintro e x5 ⟨rfl, b5⟩; have R5 : x5.cell? ⟨B, 2, none⟩ = some (.string hi) := keepc b5 R4; have C5 := Lib.hid (C4.out.trans (b5.mono C4.out.size)); clear b5)
                        | (go_at_call 14; with_reducible refine Calls.mono (AX.out.between tk tv hi hytk x5 (HUQ.out _ C5.out)) ?_; intro e x6 hh; unfold AInts at hh; obtain ⟨n6, rfl, i6, b6⟩ := hh; have R6 : x6.cell? ⟨B, 2, none⟩ = some (.string hi) := keepc b6 R5; have C6 := Lib.hid (C5.out.trans (b6.mono C5.out.size)); have I6 := Lib.hid i6; clear i6 b6)
                        | (go_at_call 14; with_reducible refine Calls.mono (AY.out.between tk tv hi hytk x6 (HUQ.out _ C6.out)) ?_; intro e x7 hh; unfold AInts at hh; obtain ⟨n7, rfl, i7, b7⟩ := hh; have R7 : x7.cell? ⟨B, 2, none⟩ = some (.string hi) := keepc b7 R6; have C7 := Lib.hid (C6.out.trans (b7.mono C6.out.size)); have T7 := Lib.hid (ints_same _ _ _ x7 (I6.out.below b7) i7); clear i7 b7)
                        | (go_at_call 13; with_reducible refine Calls.mono (T7.out) ?_; rintro e x8 ⟨rfl, k8, hk8⟩; have C8 : Hid (Below wc.heap.size wc x8) := Lib.hid (by rw [hk8]; exact below_dn C7.out k8); have R8 : x8.cell? ⟨B, 2, none⟩ = some (.string hi) := (by rw [hk8]; exact keepc (below_dn (Below.refl _ _) k8) R7); clear hk8))
                    go_wp2_with fail
                    exact ⟨⟨j2 + 1, by go_num, by omega, C8⟩, by simp [iOf]; omega⟩
                  · go_wp2_with fail
                    exact ⟨⟨j + 1, by go_num, by omega, Lib.hid (HBLB.out.trans (hBJ2.out.mono HBLB.out.size))⟩, by simp [iOf]; omega⟩
            · go_wp2_with fail
              go_ret
              exact ⟨rfl, HBF.out.trans ((HUP.out _ hBJ.out).mono HBF.out.size)⟩
end Go.Proofs.YtklbbcemacpimaaGreatDoor.I

namespace Go.Proofs.YtklbbcemacpimaaGreatDoor.I
open Go Go.Maps Go.Proofs Go.RowKit Go.Sort Go.Shelf

set_option maxRecDepth 100000 in
set_option maxHeartbeats 3200000 in
theorem follows_long (s : ByteArray) (v : Value) (key lo hi : ByteArray) (hs : ¬ s.size ≤ 2000) (w : World) :
    Calls Tryz.prog 4 #[.string s, v, .agg #[.string key, .string lo, .string hi]] w fun e w' => e = .returned (.bool true) ∧ Below w.heap.size w w' := by
  have hs' : (2000 : Int) < (s.size : Int) := by omega
  obtain ⟨W0, hW0⟩ : ∃ W0, w.alloc (.cells #[.string key, .string lo, .string hi] 42) = W0 := ⟨_, rfl⟩
  have HB0 : Hid (Below w.heap.size w W0) := Lib.hid (by rw [← hW0]; exact below_grow1 w _)
  have HW0 := Lib.hid hW0
  clear hW0
  go_enter Tryz.func4, Tryz.ntmps4
  go_wp2_with fail
  rw [HW0.out]
  refine (alive_any W0).mono ?_
  rintro e w1 ⟨rfl, hb1⟩
  have HB1 := Lib.hid (HB0.out.trans (hb1.mono HB0.out.size))
  clear hb1
  go_wp2_with fail
  go_ret
  exact ⟨rfl, HB1.out⟩
set_option maxRecDepth 100000 in
set_option maxHeartbeats 3200000 in
theorem follows_bad (s : ByteArray) (v : Value) (es : List Ed) (key lo hi : ByteArray) (hs : s.size ≤ 2000) (he : (B.parse s.data.toList).err ≠ 0) (w : World) (hE : EdsAt w v es) :
    Calls Tryz.prog 4 #[.string s, v, .agg #[.string key, .string lo, .string hi]] w fun e w' => e = .returned (.bool true) ∧ Below w.heap.size w w' := by
  have hs' : ¬ (2000 : Int) < (s.size : Int) := by omega
  obtain ⟨W0, hW0⟩ : ∃ W0, w.alloc (.cells #[.string key, .string lo, .string hi] 42) = W0 := ⟨_, rfl⟩
  have hB0 : Below w.heap.size w W0 := by rw [← hW0]; exact below_grow1 w _
  have HE0 := Lib.hid (hE.below hB0)
  have HB0 := Lib.hid hB0
  have HW0 := Lib.hid hW0
  have LN := Lib.hid (fun w' => B.list_no s (by omega) w' he)
  clear hW0 hB0 hE he
  go_enter Tryz.func4, Tryz.ntmps4
  go_wp2_with fail
  rw [HW0.out]
  refine (alive_any W0).mono ?_
  rintro e w1 ⟨rfl, hb1⟩
  have HE1 := Lib.hid (HE0.out.below hb1)
  have HB1 := Lib.hid (HB0.out.trans (hb1.mono HB0.out.size))
  clear hb1 HE0 HB0 HW0
  go_wp2_with fail
  refine (heavy_any _ es w1 HE1.out).mono ?_
  rintro e w2 ⟨bh, rfl, -, hb2⟩
  have HB2 := Lib.hid (HB1.out.trans (hb2.mono HB1.out.size))
  clear hb2 HE1 HB1
  cases bh with
  | true =>
    go_wp2_with fail
    go_ret
    exact ⟨rfl, HB2.out⟩
  | false =>
    go_wp2_with fail
    refine (LN.out w2).mono ?_
    rintro e w3 ⟨g, rfl, hb3⟩
    have HB3 := Lib.hid (HB2.out.trans (hb3.mono HB2.out.size))
    clear hb3
    unfold B.faultV
    go_wp2_with fail
    go_ret
    exact ⟨rfl, HB3.out⟩
theorem follows_walk (s : ByteArray) (v : Value) (es : List Ed) (key lo hi : ByteArray) (hk : key.size ≤ maxLen) (hl : lo.size ≤ maxLen) (w : World) (hE : EdsAt w v es) (hr : Rdy w) :
    Calls Tryz.prog 4 #[.string s, v, .agg #[.string key, .string lo, .string hi]] w fun e w' => e = .returned (.bool true) ∧ Below w.heap.size w w' := by
  by_cases hs : s.size ≤ 2000
  · by_cases he : (B.parse s.data.toList).err = 0
    · exact follows_main s v es key lo hi hs hk hl he w hE hr
    · exact follows_bad s v es key lo hi hs he w hE
  · exact follows_long s v key lo hi hs w
end Go.Proofs.YtklbbcemacpimaaGreatDoor.I
