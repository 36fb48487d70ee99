/- The power goes: Crash. -/
import Derived.Test.YthfcmgbkhjnfjaaGreatDoorVL
import Derived.Deep.DeepCutAuto
import Derived.WalkSpells
namespace Go.Proofs.YthfcmgbkhjnfjaaGreatDoor
open Go.RowKit Go.Maps
attribute [local go_sem ↓] Go.wp_at_zero Go.wp_at_succ

/-- How many units of a file's changes stay. -/
def unitsAt (ds : List Int) (i : Nat) : Int := match ds[i]? with
  | some d => max 0 d
  | none => 0
def crashFiles (fs : List Fl) (ds : List Int) (k : Nat) : List Fl := fs.mapIdx fun i F => if i < k then ⟨F.behind (unitsAt ds i), []⟩ else F
def Dk.crashed (D : Dk) (ds : List Int) (k : Nat) : Dk := { D with files := crashFiles D.files ds k }
theorem crash_zero (fs : List Fl) (ds : List Int) : crashFiles fs ds 0 = fs := by
  unfold crashFiles
  apply List.ext_getElem?
  intro i
  simp
theorem crash_len (fs : List Fl) (ds : List Int) (k : Nat) : (crashFiles fs ds k).length = fs.length := by unfold crashFiles; simp
theorem crash_get {fs : List Fl} {ds : List Int} {k : Nat} {F : Fl} (h : fs[k]? = some F) : (crashFiles fs ds k)[k]? = some F := by
  unfold crashFiles; simp [h]
theorem crash_succ {fs : List Fl} {ds : List Int} {k : Nat} {F : Fl} (h : fs[k]? = some F) : crashFiles fs ds (k + 1) = (crashFiles fs ds k).set k ⟨F.behind (unitsAt ds k), []⟩ := by
  unfold crashFiles
  apply List.ext_getElem?
  intro i
  have hk := (List.getElem?_eq_some_iff.1 h).1
  simp only [List.getElem?_mapIdx, List.getElem?_set]
  by_cases hik : k = i
  · subst hik
    rw [h]
    simp [hk]
  · cases hg : fs[i]? with
    | none => simp [hik]
    | some G =>
      have : (i < k + 1) = (i < k) := by simp; omega
      simp [hik, this]
/-- How many changes of the names stay. -/
def cutN (D : Dk) (dir : Int) : Nat := (max 0 (min dir D.waits.length)).toNat
def Dk.afterDir (D : Dk) (dir : Int) : Dk := D.named (play D.dir (D.waits.take (cutN D dir)))
def Dk.woken (D : Dk) : Dk := { D with armed := false, gone := false }
def Dk.crash (D : Dk) (dir : Int) (ds : List Int) : Dk := ((D.afterDir dir).crashed ds D.files.length).woken
/-- Numbers lie in a row of ints that is not of the disk. -/
def IntsAt (w : World) (ρ : Col) (v : Value) (ds : List Int) : Prop := ∃ ao c, v = .slice ao ds.length c ∧ ds.length ≤ 9223372036854775807 ∧ ∀ k d, ds[k]? = some d → ∃ g o, ao = some ⟨g, o, none⟩ ∧ g < w.heap.size ∧ ρ g = none ∧ w.cell? ⟨g, o + k, none⟩ = some (.int .i64 d) ∧ d ≤ 9223372036854775807
theorem IntsAt.keep {w w' : World} {ρ ρ' : Col} {v : Value} {ds : List Int} (h : IntsAt w ρ v ds) (he : Ext w ρ ρ') (k : Kept ρ w w') : IntsAt w' ρ' v ds := by
  obtain ⟨ao, c, hv, hn, hc⟩ := h
  refine ⟨ao, c, hv, hn, fun j d hd => ?_⟩
  obtain ⟨g, o, ha, hg, hρ, hcell, hd⟩ := hc j d hd
  exact ⟨g, o, ha, Nat.lt_of_lt_of_le hg k.size, (he g hg).trans hρ, (World.cell?_of_block (a := ⟨g, o + j, none⟩) (k.block g hg hρ)).trans hcell, hd⟩
/-- The loop's relation. -/
def CrashRel (D1 : Dk) (ds : List Int) (ρ1 : Col) (b : Nat) (vf : Value) (wx : World) (i : Value) (wr : World) : Prop :=
  ∃ k : Nat, i = .int .i64 k ∧ k ≤ D1.files.length ∧ Hid (∃ L', DiskAt wr ρ1 b (D1.crashed ds k) L' ∧ L'.vf = vf) ∧ Hid (Kept ρ1 wx wr)
theorem crashed_zero (D : Dk) (ds : List Int) : D.crashed ds 0 = D := by unfold Dk.crashed; rw [crash_zero]
theorem EntriesAt.take {w : World} {v : Value} {es : List En} {ao : Option Addr} {n cp : Nat} (h : EntriesAt w v es) (hv : v = .slice ao n cp) (k : Nat) (hk : k ≤ es.length) : EntriesAt w (.slice ao k cp) (es.take k) := by
  obtain ⟨ao', cp', hv', hc⟩ := h
  rw [hv] at hv'
  cases hv'
  refine ⟨ao, cp, by rw [List.length_take, Nat.min_eq_left hk], fun j x hx => ?_⟩
  rw [List.getElem?_take] at hx
  split at hx
  · exact hc j x hx
  · cases hx
theorem cut_slice (wo : Option Addr) (n k c : Nat) (hk : k ≤ c) (w : World) : (Instr.slice 68 (.slice wo n c) none (some (.int .i64 (k : Int))) none).run Tryz.prog w = .ok (.slice wo k c) w := by
  have e : (Instr.slice 68 (.slice wo n c) none (some (.int .i64 (k : Int))) none).run Tryz.prog w = ((sizeOf (Tryz.prog.elem 68)).run Tryz.prog w).andThen fun s w => .ok (sliced wo 0 ((k : Int)).toNat c s) w :=
    run_slice_h (P := Tryz.prog) (t := 68) (a := wo) (len := n) (cap := c) (w := w) (ht := by kernel_rfl) (kh := .i64) (h := (k : Int)) (by omega) (by omega)
  have e2 : (sizeOf (Tryz.prog.elem 68)).run Tryz.prog w = .ok 3 w := by kernel_rfl
  rw [e, e2]
  show Result.ok (sliced wo 0 ((k : Int)).toNat c 3) w = _
  unfold sliced
  have e3 : (if c = 0 then wo else wo.map (·.add (0 * 3))) = wo := by
    split
    · rfl
    · cases wo with
      | none => rfl
      | some a => simp [Addr.add]
  rw [e3, Int.toNat_natCast]
  rfl
set_option maxHeartbeats 3200000 in
set_option maxRecDepth 100000 in
theorem crash_any (dir : Int) (v : Value) (ds : List Int) (w : World) (ρ : Col) (b : Nat) (D : Dk) (L : Lay) (h : DiskAt w ρ b D L) (ok : D.Ok) (hv : IntsAt w ρ v ds) (hd0 : -9223372036854775808 ≤ dir) (hd1 : dir ≤ 9223372036854775807) :
    Calls Tryz.prog 12 #[.pointer (some ⟨b, 0, none⟩), .int .i64 dir, v] w fun e w' => e = .returned (.tuple #[]) ∧ Turned w ρ b (D.crash dir ds) w' := by
  have HD := Lib.hid h
  have OK := Lib.hid ok
  have hb := h.blk.lt
  have c6 := h.cells.c6
  have c7 := h.cells.c7
  have f6 := h.cells.f6
  have f7 := h.cells.f7
  obtain ⟨wo, wc, hvw⟩ := h.rowW.shape
  rw [hvw] at c7
  have HE := EntriesAt.of h.rowW.1
  have hwm := ok.many
  have hwc : D.waits.length ≤ wc := by
    rcases h.rowW.1.2 with ⟨e, e0⟩ | ⟨g, cp, cur, e, _, _, hn, _⟩
    · omega
    · rw [hvw] at e; cases e; exact hn
  have hk : cutN D dir ≤ D.waits.length := by unfold cutN; omega
  have HN := Lib.hid (fun (w1 : World) (b1 : Below w.heap.size w w1) (he : EntriesAt w1 (.slice wo (cutN D dir) wc) (D.waits.take (cutN D dir))) => behindN_any L.mb (Maps.size D.dir) D.dir (.slice wo (cutN D dir) wc) (D.waits.take (cutN D dir)) w1 (h.below b1).map.1 (Nat.le_trans ok.names (by omega)) he (by rw [List.length_take]; omega) (fun e he => ok.fits e (List.mem_of_mem_take he)))
  have HEK := Lib.hid (HE.take hvw _ hk)
  have HV := Lib.hid hv
  clear h ok HE hv hvw
  go_enter Tryz.func12, Tryz.ntmps12
  go_upto_region 1 with fail
  go_cut [0] from 11 to 34 (fun s0 wx => s0 = .pointer (some ⟨b, 0, none⟩) ∧ Hid (Turned w ρ b (D.afterDir dir) wx))
  case first =>
    have hM : max 0 (min dir (D.waits.length : Int)) = (cutN D dir : Int) := by unfold cutN; omega
    have hS := cut_slice wo D.waits.length (cutN D dir) wc (by omega)
    have hAD : Hid (D.afterDir dir = D.named (play D.dir (D.waits.take (cutN D dir)))) := Lib.hid rfl
    generalize cutN D dir = K at *
    go_region_with
        (first | (go_at_call 46; refine (HN.out w.drew (Below.refl _ w).drew HEK.out).mono ?_; rintro e w2 ⟨rfl, m2, b2⟩; have k6 : w2.cell? ⟨b, 6, none⟩ = some (.map (some L.mb)) := (b2.cell (p := ⟨b, 6, none⟩) hb).trans c6; have k7 : w2.cell? ⟨b, 7, none⟩ = some (.slice wo D.waits.length wc) := (b2.cell (p := ⟨b, 7, none⟩) hb).trans c7; have g6 : w2.frozen? ⟨b, 6, none⟩ = false := (b2.frozen (p := ⟨b, 6, none⟩) hb).trans f6; have g7 : w2.frozen? ⟨b, 7, none⟩ = false := (b2.frozen (p := ⟨b, 7, none⟩) hb).trans f7; have M2 := Lib.hid m2; have B2 := Lib.hid (below_drew b2); clear m2 b2))
    all_goals
      go_wp2_with fail
      go_meet
      exact ⟨rfl, Lib.hid (by rw [hAD.out]; exact turned_dir HD.out B2.out M2.out (Nat.le_refl _))⟩
  case rest =>
    obtain ⟨rfl, hT⟩ := hcut
    have hwcs := hT.out
    clear hT
    obtain ⟨ρ1, ⟨L1, d1⟩, e1, k1⟩ := hwcs
    clear HN HEK c6 c7 f6 f7 hk hwc
    have hfits := HD.out.fits
    have hV1 : Hid (IntsAt wc ρ1 v ds) := Lib.hid (HV.out.keep e1 k1)
    have hFS : ∀ F ∈ (D.afterDir dir).files, F.Ok := OK.out.files
    have hFl : (D.afterDir dir).files.length ≤ 1000000 := OK.out.lots
    have hDF : Hid (D.crash dir ds = ((D.afterDir dir).crashed ds (D.afterDir dir).files.length).woken) := Lib.hid rfl
    generalize D.afterDir dir = D1 at *
    have HFS := Lib.hid hFS
    have KE := Lib.hid (show Ext w ρ ρ1 ∧ Kept ρ w wc from ⟨e1, k1⟩)
    obtain ⟨fo, fc, hvf⟩ := d1.rowF.shape
    have c5 := d1.cells.c5
    rw [hvf] at c5
    have HVF := Lib.hid hvf
    have HD1 := Lib.hid d1
    obtain ⟨vo, vc, rfl, hvn, hvc⟩ := hV1.out
    have HVC := Lib.hid hvc
    clear hFS e1 k1 hvf d1 hvc HV hfits
    go_wp2_with fail
    go_loopw [40] (CrashRel D1 ds ρ1 b L1.vf wc) (fun i _ => D1.files.length - (intOf i).toNat)
    case atStart => exact ⟨0, rfl, Nat.zero_le _, ⟨L1, by rw [crashed_zero]; exact HD1.out, rfl⟩, Kept.refl _ _⟩
    case round =>
      obtain ⟨k, rfl, hk, hd, hkw⟩ := hrel
      by_cases hlt : k < D1.files.length
      · obtain ⟨F, hF⟩ : ∃ F, D1.files[k]? = some F := ⟨_, List.getElem?_eq_getElem hlt⟩
        have hFk := crash_get (ds := ds) (k := k) hF
        have hsu := crash_succ (ds := ds) hF
        obtain ⟨L', d', hvf'⟩ := hd.out
        obtain ⟨f, hf⟩ : ∃ f, L'.fs[k]? = some f := ⟨_, List.getElem?_eq_getElem (by rw [d'.len]; show k < (crashFiles _ _ _).length; rw [crash_len]; exact hlt)⟩
        have hn' : ((D1.crashed ds k).files).length = D1.files.length := crash_len _ _ _
        obtain ⟨g, cp, hv2, -, hg⟩ := d'.rowF.1.form (by rw [hn']; omega)
        have hcell := d'.rowF.1.cells (g := g) (by rw [hv2]; rfl) k _ (by rw [List.getElem?_map, hf]; rfl)
        rw [add_at] at hcell
        rw [hvf', HVF.out, hn'] at hv2
        cases hv2
        have fa := d'.files k f F hf hFk
        have hfl := fa.1.lt
        obtain ⟨q0, q1, g0, g1⟩ := fa.cells
        have hFok := HFS.out F (List.mem_of_getElem? hF)
        have hu0 : 0 ≤ unitsAt ds k := by unfold unitsAt; split <;> omega
        have hu1 : unitsAt ds k ≤ 9223372036854775807 := by
          unfold unitsAt
          split
          · rename_i d hd
            obtain ⟨_, _, _, _, _, _, h⟩ := HVC.out k d hd
            omega
          · omega
        have BH := Lib.hid (behind_any (unitsAt ds k) wr ρ1 k f F fa hFok (by omega) hu1)
        have HD2 := Lib.hid (show (D1.crashed ds k).setFile k ⟨F.behind (unitsAt ds k), []⟩ = D1.crashed ds (k + 1) by unfold Dk.setFile Dk.crashed; rw [hsu])
        have TS := Lib.hid (fun (w2 : World) (b2 : Below wr.heap.size wr w2) => turned_sure d' hf hFk b2 (F.behind (unitsAt ds k)))
        have hvf'' : Hid (L'.vf = L1.vf) := Lib.hid hvf'
        by_cases hds : k < ds.length
        · obtain ⟨d, hdk⟩ : ∃ d, ds[k]? = some d := ⟨_, List.getElem?_eq_getElem hds⟩
          obtain ⟨dg, dof, rfl, hdg, hdρ, hdc, -⟩ := HVC.out k d hdk
          have n0 : wr.cell? ⟨dg, dof + k, none⟩ = some (.int .i64 d) := (World.cell?_of_block (a := ⟨dg, dof + k, none⟩) (hkw.out.block dg hdg hdρ)).trans hdc
          have hM : max 0 d = unitsAt ds k := by unfold unitsAt; rw [hdk]
          have hdsI : (k : Int) < (ds.length : Int) := by omega
          clear hdc hdk hsu hvf' fa hFok hF hFk hf d' hn'
          generalize unitsAt ds k = u at *
          go_wp2_with fail
          refine BH.out.mono ?_
          rintro e w2 ⟨rfl, b2⟩
          have p0 := (b2.cell (p := ⟨f.1, 0, none⟩) hfl).trans q0
          have p1 := (b2.cell (p := ⟨f.1, 1, none⟩) hfl).trans q1
          have r0 := (b2.frozen (p := ⟨f.1, 0, none⟩) hfl).trans g0
          have r1 := (b2.frozen (p := ⟨f.1, 1, none⟩) hfl).trans g1
          have T2 := Lib.hid (TS.out w2 b2)
          clear b2 q0 q1 g0 g1 hM
          go_wp2_with fail
          go_roundw
          case rel =>
            have TT := T2.out.1
            rw [HD2.out] at TT
            exact ⟨k + 1, by go_num, by omega, ⟨_, TT, hvf''.out⟩, hkw.out.then T2.out.2⟩
          case measure => simp [intOf]; omega
        · have hM : 0 = unitsAt ds k := by unfold unitsAt; rw [List.getElem?_eq_none (by omega)]
          have hdsI : (ds.length : Int) ≤ (k : Int) := by omega
          clear hsu hvf' fa hFok hF hFk hf d' hn'
          generalize unitsAt ds k = u at *
          subst hM
          go_wp2_with fail
          refine BH.out.mono ?_
          rintro e w2 ⟨rfl, b2⟩
          have p0 := (b2.cell (p := ⟨f.1, 0, none⟩) hfl).trans q0
          have p1 := (b2.cell (p := ⟨f.1, 1, none⟩) hfl).trans q1
          have r0 := (b2.frozen (p := ⟨f.1, 0, none⟩) hfl).trans g0
          have r1 := (b2.frozen (p := ⟨f.1, 1, none⟩) hfl).trans g1
          have T2 := Lib.hid (TS.out w2 b2)
          clear b2 q0 q1 g0 g1
          go_wp2_with fail
          go_roundw
          case rel =>
            have TT := T2.out.1
            rw [HD2.out] at TT
            exact ⟨k + 1, by go_num, by omega, ⟨_, TT, hvf''.out⟩, hkw.out.then T2.out.2⟩
          case measure => simp [intOf]; omega
      · obtain rfl : k = D1.files.length := by omega
        obtain ⟨L', d', -⟩ := hd.out
        have c2 := d'.cells.c2
        have c3 := d'.cells.c3
        have f2 := d'.cells.f2
        have f3 := d'.cells.f3
        obtain ⟨s1, k1⟩ := d'.blk.store (i := 2) (v := .bool false)
        obtain ⟨s2, k2⟩ := s1.store (i := 3) (v := .bool false)
        have dd := d'.change (D' := (D1.crashed ds D1.files.length).woken) (k1.then k2) (set_eq s2.1 rfl) rfl rfl rfl rfl
        have KK : Hid (Turned w ρ b (D.crash dir ds) _) := Lib.hid (show Turned w ρ b (D.crash dir ds) _ from ⟨ρ1, ⟨L', by rw [hDF.out]; exact dd⟩, KE.out.1, KE.out.2.trans KE.out.1 (hkw.out.then (k1.then k2).wide)⟩)
        clear d' s1 s2 k1 k2 dd
        go_wp2_with fail
        go_end0
        exact ⟨rfl, KK.out⟩
end Go.Proofs.YthfcmgbkhjnfjaaGreatDoor
