/- The law's stands: true where both disks stand as D. -/
import Derived.Test.YthfcmgbkhjnfjaaGreatDoorVU
import Derived.Test.YthfcmgbkhjnfjaaGreatDoorVT
import Derived.Deep.RegionWith
import Derived.Deep.LoopGhost
import Derived.Deep.CutRange
import Derived.BigQuiet
namespace Go.Proofs.YthfcmgbkhjnfjaaGreatDoor
open Go.RowKit Go.Maps

set_option maxRecDepth 20000 in
set_option maxHeartbeats 12800000 in
theorem stands_any (w : World) (ρ : Col) (b : Nat) (D : Dk) (S : Sh) (h : IsDisk w ρ b D) (hr : IsD w D S) (ok : D.Ok) (hr0 : 0 ≤ D.room) (hr1 : D.room ≤ 9223372036854775807) (hks : KeysSmall D.dir) :
    Calls Tryz.prog 10 #[.pointer (some ⟨b, 0, none⟩), dv D S] w fun e w' => e = .returned (.bool true) ∧ Below w.heap.size w w' := by
  obtain ⟨R, hsh, hR⟩ := hr.ex
  obtain ⟨fo, fn, fc, so, sn, sc, wo, wn, wk, ao, an, ac⟩ := S
  obtain ⟨hsf, hss, hsw, hsa⟩ := hsh
  dsimp only at hsf hss hsw hsa
  obtain ⟨so', sc', hvs, hsc⟩ := ents_cells hR.ss
  rw [hss] at hvs
  injection hvs with q1 q2 q3
  subst q1 q2 q3
  obtain ⟨fo', fc', hvf, hfc⟩ := files_cells hR.ff
  rw [hsf] at hvf
  injection hvf with q1 q2 q3
  subst q1 q3
  rw [hR.len] at q2
  subst q2
  obtain ⟨ao', ac', hva, hac⟩ := rec_cells (c := Ac.cells) (n := 5) (fun _ => rfl) hR.aa
  rw [hsa] at hva
  injection hva with q1 q2 q3
  subst q1 q2 q3
  have HSC := Lib.hid hsc
  have HFC := Lib.hid hfc
  have HAC := Lib.hid hac
  clear hsc hfc hac
  obtain ⟨N, hN⟩ : ∃ N, w.heap.size = N := ⟨_, rfl⟩
  have HD := Lib.hid (fun W (hb : Below N w W) => And.intro (h.below (by rw [hN]; exact hb)) (hr.below (by rw [hN]; exact hb)))
  have OK := Lib.hid ok
  have HR := Lib.hid hR
  have HH := Lib.hid h
  obtain ⟨l, hl⟩ : ∃ l, playL R.ls D.waits = l := ⟨_, rfl⟩
  have HL : Hid (D.dirOf = dirD l) := Lib.hid (by rw [hR.seen, hl])
  have HSM : Hid (∀ e ∈ l, e.1.size ≤ 1000) := Lib.hid (fun e he => by
    have hs := small_play D.waits hks ok.fits
    exact hs e.1 (by show Maps.has D.dirOf _ = true; rw [HL.out]; exact has_mem he))
  have HDIR : Hid (∀ e ∈ R.ls, Maps.has D.dir (nameK e.1) = true ∧ e.1.size ≤ 1000 ∧ ∃ F, D.files[e.2]? = some F ∧ D.sureT e.1 = F.sure) := Lib.hid (fun e he => by
    have hh : Maps.has D.dir (nameK e.1) = true := by rw [hR.dir]; exact has_mem he
    obtain ⟨L, hL⟩ := h
    have hc : Maps.Canon (dirD R.ls) := by rw [← hR.dir]; exact World.ownsMap.canon hL.map.1 keyed
    have hf := find_mem (canon_nodup hc) he
    have hF : D.files[e.2]? = some (D.files[e.2]'(hR.pts e he)) := List.getElem?_eq_getElem _
    exact ⟨hh, hks e.1 hh, _, hF, sureT_ok hh (by rw [hR.dir]; exact findL_at hf _) hF⟩)
  have hll : l.length ≤ 2000000 := by rw [← hl]; have := playL_len D.waits R.ls; have := hR.ls_few ok; have := ok.many; omega
  have HLL := Lib.hid hll
  have DR := Lib.hid (fun W (hb : Below N w W) => dir_ref D R W (hR.below (by rw [hN]; exact hb)) ok)
  rw [hsf, hss, hsw, hsa, hl] at DR
  have RB := Lib.hid (fun (s : ByteArray) (hs : s.size ≤ 1000) W (hb : Below N w W) => read_both s hs W ρ b D (HD.out W hb).1 ok)
  have RR := Lib.hid (fun (s : ByteArray) (hs : s.size ≤ 1000) W (hb : Below N w W) => read_S s (by omega) D _ W (HD.out W hb).2 ok)
  have SB : Hid (∀ (s : ByteArray) (hs : s.size ≤ 1000) W (hb : Below N w W), Calls Tryz.prog 14 #[.pointer (some ⟨b, 0, none⟩), .string s] W fun e w' => e = .returned (.tuple #[.string (D.sureT s), .bool (Maps.has D.dir (nameK s))]) ∧ Below W.heap.size W w') := Lib.hid (fun s hs W hb => by
    obtain ⟨L, hL⟩ := (HD.out W hb).1
    exact sure_any s hs W ρ b D L hL ok)
  have NMS : Hid (∀ W (hb : Below N w W), Calls Tryz.prog 23 #[.pointer (some ⟨b, 0, none⟩)] W fun e w' => ∃ v, e = .returned v ∧ NamesRow w' v l ∧ Below W.heap.size W w') := Lib.hid (fun W hb => by
    obtain ⟨L, hL⟩ := (HD.out W hb).1
    exact names_any W ρ b D L hL ok l HL.out (by have := HLL.out; omega))
  have FRP : Hid (∀ W (hb : Below N w W), Calls Tryz.prog 24 #[.pointer (some ⟨b, 0, none⟩)] W fun e w' => e = .returned (.int .i64 D.free) ∧ Below W.heap.size W w') := Lib.hid (fun W hb => by
    obtain ⟨L, hL⟩ := (HD.out W hb).1
    exact free_any W ρ b D L hL ok hr0 hr1)
  have FRR := Lib.hid (fun W (hb : Below N w W) => free_S D _ W (HD.out W hb).2 ok hr0 hr1)
  unfold dv at FRR
  dsimp only at FRR
  have UN : Hid (∀ W (hb : Below N w W), Calls Tryz.prog 25 #[.pointer (some ⟨b, 0, none⟩)] W fun e w' => e = .returned (.int .i64 D.units) ∧ W = w') := Lib.hid (fun W hb => by
    obtain ⟨L, hL⟩ := (HD.out W hb).1
    exact unitsD_any W ρ b D L hL)
  have DN : Hid (∀ W (hb : Below N w W), Calls Tryz.prog 26 #[.pointer (some ⟨b, 0, none⟩)] W fun e w' => e = .returned (.bool D.gone) ∧ W = w') := Lib.hid (fun W hb => by
    obtain ⟨L, hL⟩ := (HD.out W hb).1
    exact down_any W ρ b D L hL)
  have AC : Hid (∀ W (hb : Below N w W), Calls Tryz.prog 27 #[.pointer (some ⟨b, 0, none⟩)] W fun e w' => ∃ v, e = .returned v ∧ ActRow w' v D.acts ∧ Below W.heap.size W w') := Lib.hid (fun W hb => by
    obtain ⟨L, hL⟩ := (HD.out W hb).1
    exact acts_all W ρ b D L hL ok.acts)
  have SR := Lib.hid (fun (s : ByteArray) W (hb : Below N w W) => sure_S s D _ W (HD.out W hb).2 ok)
  unfold dv at RR SR
  dsimp only at RR SR
  obtain ⟨W0, hW0⟩ : ∃ W0, w.alloc (.cells #[.int .i64 D.room, .slice fo D.files.length fc, .slice so R.ls.length sc, .slice wo wn wk, .int .i64 D.units, .int .i64 D.left, .bool D.armed, .bool D.gone, .slice ao D.acts.length ac] 37) = W0 := ⟨_, rfl⟩
  have g0 : W0.heap[N]? = some (.cells #[.int .i64 D.room, .slice fo D.files.length fc, .slice so R.ls.length sc, .slice wo wn wk, .int .i64 D.units, .int .i64 D.left, .bool D.armed, .bool D.gone, .slice ao D.acts.length ac] 37 (0, 0)) := by rw [← hW0, ← hN]; exact heap_alloc_new w _
  have hb0 : Below N w W0 := by rw [← hW0, ← hN]; exact (Below.refl _ _).alloc (Nat.le_refl _) _
  have hsz0 : W0.heap.size = N + 1 := by rw [← hW0, ← hN]; simp
  have b1 : Below N w (W0.alloc (.cells #[] 9)) := hb0.alloc (by omega) _
  have DR1 := Lib.hid (DR.out _ b1)
  have G1 : Hid ((W0.alloc (.cells #[] 9)).heap[N]? = some (.cells #[.int .i64 D.room, .slice fo D.files.length fc, .slice so R.ls.length sc, .slice wo wn wk, .int .i64 D.units, .int .i64 D.left, .bool D.armed, .bool D.gone, .slice ao D.acts.length ac] 37 (0, 0))) := Lib.hid ((Below.heap_alloc _ _ _ (by omega)).trans g0)
  have M1 : Hid ((W0.alloc (.cells #[] 9)).ownsRow (N + 1) 9 1 (.slice (some ⟨N + 1, 0, none⟩) 0 0) 0 []) := Lib.hid (by
    have := World.ownsRow_made (base := N + 1) (e := 9) (size := 1) W0 #[] 0 (Nat.le_of_eq hsz0.symm) (Nat.zero_le _) rfl
    rwa [hsz0] at this)
  have HB1 := Lib.hid b1
  have SZ : Hid (N < (W0.alloc (.cells #[] 9)).heap.size) := Lib.hid (heap_size_of G1.out)
  obtain ⟨⟨q0, q1, q2, q3, q4, q5, q6, q7, q8⟩, -⟩ := box9 g0
  obtain ⟨⟨r0, r1, r2, r3, r4, r5, r6, r7, r8⟩, -⟩ := box9 G1.out
  clear h hr ok hR hsf hss hsw hsa hl hks g0 hb0 b1 DR hr0 hr1 hll
  unfold dv
  dsimp only
  go_enter Tryz.func10, Tryz.ntmps10
  go_wp2_with fail
  refine DR1.out.mono ?_
  rintro e w1 ⟨u, rfl, hu, hb1⟩
  obtain ⟨uo, uc, rfl⟩ := own_shape0 hu
  have S0 : Hid (SL w N #[.int .i64 D.room, .slice fo D.files.length fc, .slice so R.ls.length sc, .slice wo wn wk, .int .i64 D.units, .int .i64 D.left, .bool D.armed, .bool D.gone, .slice ao D.acts.length ac] l uo l.length uc 0 (some ⟨N + 1, 0, none⟩) 0 w1) := Lib.hid ⟨(hb1.block N SZ.out).trans G1.out, HB1.out.trans (hb1.mono (Nat.le_of_lt SZ.out)), hu, ownsRow_of_block M1.out fun g hg => hb1.block g (M1.out.lt g hg).2⟩
  clear hu hb1 DR1 G1 M1 HB1 SZ hW0 hsz0 q0 q1 q2 q3 q4 q5 q6 q7 q8 r0 r1 r2 r3 r4 r5 r6 r7 r8
  obtain ⟨ln, hln⟩ : ∃ ln, l.length = ln := ⟨_, rfl⟩
  rw [hln] at S0 ⊢
  have HLN := Lib.hid hln
  clear hln
  go_wp2_with fail
  go_loopg [5, 7, 8, 9, 10, 11, 12, 13, 14, 15, 27] ln (fun gg s5 _ _ _ _ _ _ _ _ _ s27 wr => ∃ (k : Nat) (no : Option Addr) (nc : Nat), s5 = .slice no k nc ∧ s27 = .int .i64 k ∧ ln - k ≤ gg ∧ k ≤ ln ∧ Hid (SL w N #[.int .i64 D.room, .slice fo D.files.length fc, .slice so R.ls.length sc, .slice wo wn wk, .int .i64 D.units, .int .i64 D.left, .bool D.armed, .bool D.gone, .slice ao D.acts.length ac] l uo ln uc k no nc wr))
  case atStart => exact ⟨0, some ⟨N + 1, 0, none⟩, 0, rfl, rfl, Nat.le_refl _, Nat.zero_le _, S0⟩
  case round =>
    obtain ⟨k, no, nc, rfl, rfl, hgk, hk, HS⟩ := hrel
    clear S0
    by_cases hlt : k < ln
    · have hltz : decide (k < ln) = true := decide_eq_true hlt
      have hkz : (k : Int) < (ln : Int) := by omega
      have hll := HLL.out
      have hkb : k ≤ 10000000 := by have := HLN.out; omega
      obtain ⟨x, he⟩ : ∃ x, l[k]? = some x := ⟨_, List.getElem?_eq_getElem (by rw [HLN.out]; exact hlt)⟩
      have hsm := HSM.out x (List.mem_of_getElem? he)
      obtain ⟨ae, cp, hv, hcc⟩ := ents_cells HS.out.ent
      obtain ⟨g, hao, -, hc⟩ := hcc k x he
      injection hv with q1 q2 q3
      rw [hao] at q1
      subst q1
      clear q2 q3
      obtain ⟨c0, c1⟩ := hc wr rfl
      obtain ⟨g2, c2, w2, R1, HO⟩ := SL.push HS.out he hkb
      have A1 := Lib.hid (RB.out x.1 hsm)
      have A2 := Lib.hid (RR.out x.1 hsm)
      have A3 := Lib.hid (SB.out x.1 hsm)
      have A4 := Lib.hid (SR.out x.1)
      obtain ⟨rt, hrt⟩ : ∃ rt, D.rtext x.1 = rt := ⟨_, rfl⟩
      obtain ⟨rn, hrn⟩ : ∃ rn, D.readN x.1 = rn := ⟨_, rfl⟩
      obtain ⟨st, hst⟩ : ∃ st, D.sureT x.1 = st := ⟨_, rfl⟩
      obtain ⟨hs, hhs⟩ : ∃ hs, Maps.has D.dir (nameK x.1) = hs := ⟨_, rfl⟩
      have NM := Lib.hid (num_any rn (by rw [← hrn]; exact readN_le D x.1))
      rw [hrt, hrn] at A1 A2
      rw [hst, hhs] at A3 A4
      obtain ⟨x1, hx1⟩ : ∃ x1, x.1 = x1 := ⟨_, rfl⟩
      obtain ⟨x2, hx2⟩ : ∃ x2, x.2 = x2 := ⟨_, rfl⟩
      rw [hx1] at A1 A2 A3 A4 c0 R1 HO
      rw [hx2] at c1 R1 HO
      have heq1 : (rt.toList == rt.toList) = true := by simp
      have heq2 : (st.toList == st.toList) = true := by simp
      have heq3 : ((rn : Int) == (rn : Int)) = true := by simp
      have heq4 : (hs == hs) = true := by simp
      have P2 : Hid (SL w N #[.int .i64 D.room, .slice fo D.files.length fc, .slice so R.ls.length sc, .slice wo wn wk, .int .i64 D.units, .int .i64 D.left, .bool D.armed, .bool D.gone, .slice ao D.acts.length ac] l (some ⟨g, 0, none⟩) ln uc (k + 1) (some ⟨g2, 0, none⟩) c2 w2 ∧ w2.heap[wr.heap.size]? = some (.cells #[.string x1, .int .i64 x2] 82 (0, 0))) := HO
      have p0 : w2.cell? ⟨wr.heap.size, 0, none⟩ = some (.string x1) := by simp [World.cell?, P2.out.2]
      clear hrt hrn hst hhs hx1 hx2 HO hc hcc he hao hsm RB RR SB SR
      go_wp2_with (at_builtin; refine wpList_append_run rfl _ _ _ rfl (v := .slice no k nc) rfl rfl R1.out ?_; refine Hid.out ?_)
      refine Lib.hid ?_
      go_wp2_with fail
      refine (A1.out w2 P2.out.1.bb).mono ?_
      rintro e w3 ⟨rfl, hb3⟩
      have P3 : Hid (SL w N #[.int .i64 D.room, .slice fo D.files.length fc, .slice so R.ls.length sc, .slice wo wn wk, .int .i64 D.units, .int .i64 D.left, .bool D.armed, .bool D.gone, .slice ao D.acts.length ac] l (some ⟨g, 0, none⟩) ln uc (k + 1) (some ⟨g2, 0, none⟩) c2 w3 ∧ w3.heap[wr.heap.size]? = some (.cells #[.string x1, .int .i64 x2] 82 (0, 0))) := Lib.hid ⟨P2.out.1.below hb3, (hb3.block wr.heap.size (heap_size_of P2.out.2)).trans P2.out.2⟩
      have p0' : w3.cell? ⟨wr.heap.size, 0, none⟩ = some (.string x1) := by simp [World.cell?, P3.out.2]
      obtain ⟨⟨d0, d1, d2, d3, d4, d5, d6, d7, d8⟩, -⟩ := box9 P3.out.1.box
      clear hb3 A1 P2 p0 R1
      go_wp2_with fail
      refine (A2.out w3 P3.out.1.bb).mono ?_
      rintro e w4 ⟨rfl, hb4⟩
      have P4 : Hid (SL w N #[.int .i64 D.room, .slice fo D.files.length fc, .slice so R.ls.length sc, .slice wo wn wk, .int .i64 D.units, .int .i64 D.left, .bool D.armed, .bool D.gone, .slice ao D.acts.length ac] l (some ⟨g, 0, none⟩) ln uc (k + 1) (some ⟨g2, 0, none⟩) c2 w4 ∧ w4.heap[wr.heap.size]? = some (.cells #[.string x1, .int .i64 x2] 82 (0, 0))) := Lib.hid ⟨P3.out.1.below hb4, (hb4.block wr.heap.size (heap_size_of P3.out.2)).trans P3.out.2⟩
      have p0 : w4.cell? ⟨wr.heap.size, 0, none⟩ = some (.string x1) := by simp [World.cell?, P4.out.2]
      clear hb4 A2 P3 p0' d0 d1 d2 d3 d4 d5 d6 d7 d8
      go_wp2_with fail
      refine (A3.out w4 P4.out.1.bb).mono ?_
      rintro e w5 ⟨rfl, hb5⟩
      have P5 : Hid (SL w N #[.int .i64 D.room, .slice fo D.files.length fc, .slice so R.ls.length sc, .slice wo wn wk, .int .i64 D.units, .int .i64 D.left, .bool D.armed, .bool D.gone, .slice ao D.acts.length ac] l (some ⟨g, 0, none⟩) ln uc (k + 1) (some ⟨g2, 0, none⟩) c2 w5 ∧ w5.heap[wr.heap.size]? = some (.cells #[.string x1, .int .i64 x2] 82 (0, 0))) := Lib.hid ⟨P4.out.1.below hb5, (hb5.block wr.heap.size (heap_size_of P4.out.2)).trans P4.out.2⟩
      have p0' : w5.cell? ⟨wr.heap.size, 0, none⟩ = some (.string x1) := by simp [World.cell?, P5.out.2]
      obtain ⟨⟨d0, d1, d2, d3, d4, d5, d6, d7, d8⟩, -⟩ := box9 P5.out.1.box
      clear hb5 A3 P4 p0
      go_wp2_with fail
      refine (A4.out w5 P5.out.1.bb).mono ?_
      rintro e w6 ⟨rfl, hb6⟩
      have P6 : Hid (SL w N #[.int .i64 D.room, .slice fo D.files.length fc, .slice so R.ls.length sc, .slice wo wn wk, .int .i64 D.units, .int .i64 D.left, .bool D.armed, .bool D.gone, .slice ao D.acts.length ac] l (some ⟨g, 0, none⟩) ln uc (k + 1) (some ⟨g2, 0, none⟩) c2 w6) := Lib.hid (P5.out.1.below hb6)
      clear hb6 A4 P5 p0' d0 d1 d2 d3 d4 d5 d6 d7 d8
      go_wp2_with fail
      refine (NM.out w6).mono ?_
      rintro e w7 ⟨rfl, rfl⟩
      go_wp2_with fail
      go_roundg (ln - (k + 1))
      case measure => omega
      case rel => exact ⟨k + 1, some ⟨g2, 0, none⟩, c2, rfl, by go_num, Nat.le_refl _, hlt, P6⟩
    · have hltz : decide (k < ln) = false := decide_eq_false hlt
      have HKE : Hid (k = ln) := Lib.hid (by omega)
      obtain ⟨⟨d0, d1, d2, d3, d4, d5, d6, d7, d8⟩, -⟩ := box9 HS.out.box
      have S0 := HS
      clear hk hgk hlt HS
      go_wp2_with fail
      clear d0 d1 d2 d3 d4 d5 d6 d7 d8 hltz
      go_loopg [17, 18, 19, 87] R.ls.length (fun gg _ _ _ s87 wr2 => ∃ k2 : Nat, s87 = .int .i64 k2 ∧ R.ls.length - k2 ≤ gg ∧ k2 ≤ R.ls.length ∧ Hid (SL w N #[.int .i64 D.room, .slice fo D.files.length fc, .slice so R.ls.length sc, .slice wo wn wk, .int .i64 D.units, .int .i64 D.left, .bool D.armed, .bool D.gone, .slice ao D.acts.length ac] l uo ln uc k no nc wr2))
      case atStart => exact ⟨0, rfl, Nat.le_refl _, Nat.zero_le _, S0⟩
      case round =>
        obtain ⟨k2, rfl, hgk, hk2, HS⟩ := hrel
        clear S0
        by_cases hlt : k2 < R.ls.length
        · have hltz : decide (k2 < R.ls.length) = true := decide_eq_true hlt
          have hkz : (k2 : Int) < (R.ls.length : Int) := by omega
          obtain ⟨x, hx⟩ : ∃ x, R.ls[k2]? = some x := ⟨_, List.getElem?_eq_getElem hlt⟩
          obtain ⟨g3, rfl, hgl, hcc⟩ := HSC.out k2 x hx
          obtain ⟨e0, e1⟩ := hcc wr (HS.out.bb.block g3 (by rw [← hN]; exact hgl))
          obtain ⟨hhas, hsm, F, hF, hsu⟩ := HDIR.out x (List.mem_of_getElem? hx)
          obtain ⟨p, hp⟩ : ∃ p, R.fs[x.2]? = some p := ⟨_, List.getElem?_eq_getElem (by rw [HR.out.len]; exact (List.getElem?_eq_some_iff.1 hF).1)⟩
          obtain ⟨g4, rfl, hgl4, hcc4⟩ := HFC.out x.2 p hp
          have hps := (HR.out.fb x.2 F p hF hp).1
          have hx2l : x.2 < D.files.length := (List.getElem?_eq_some_iff.1 hF).1
          have bA : Below wr.heap.size wr (wr.alloc (.cells #[.string x.1, .int .i64 x.2] 82)) := (Below.refl _ _).alloc (Nat.le_refl _) _
          have SA := HS.out.below bA
          have A3 := Lib.hid (SB.out x.1 hsm _ SA.bb)
          have PA := Lib.hid (And.intro SA (heap_alloc_new wr (.cells #[.string x.1, .int .i64 x.2] 82)))
          rw [hhas, hsu] at A3
          have HC4 : Hid (∀ W, Below N w W → W.cell? ⟨g4, x.2 * 2, none⟩ = some (.string F.sure)) := Lib.hid (fun W hb => by rw [← hps]; exact (hcc4 W (hb.block g4 (by rw [← hN]; exact hgl4))).1)
          obtain ⟨x1, hx1⟩ : ∃ x1, x.1 = x1 := ⟨_, rfl⟩
          obtain ⟨x2, hx2⟩ : ∃ x2, x.2 = x2 := ⟨_, rfl⟩
          rw [hx1] at A3 e0 PA
          rw [hx2] at A3 e1 PA HC4 hx2l
          have hx2z : (x2 : Int) < (D.files.length : Int) := by omega
          obtain ⟨st, hst⟩ : ∃ st, F.sure = st := ⟨_, rfl⟩
          rw [hst] at A3 HC4
          have heq2 : (st.toList == st.toList) = true := by simp
          have hkb : k2 ≤ 2000000 := by have := HR.out.ls_few OK.out; omega
          clear hx hgl hcc hhas hsm hF hsu hp hgl4 hcc4 hps bA SA hx1 hx2 hst HS
          go_wp2_with fail
          refine A3.out.mono ?_
          rintro e w3 ⟨rfl, hb3⟩
          have P3 : Hid (SL w N #[.int .i64 D.room, .slice (some ⟨g4, 0, none⟩) D.files.length fc, .slice (some ⟨g3, 0, none⟩) R.ls.length sc, .slice wo wn wk, .int .i64 D.units, .int .i64 D.left, .bool D.armed, .bool D.gone, .slice ao D.acts.length ac] l uo ln uc k no nc w3) := Lib.hid (PA.out.1.below hb3)
          have p1 : w3.cell? ⟨wr.heap.size, 1, none⟩ = some (.int .i64 x2) := by simp [World.cell?, (hb3.block wr.heap.size (heap_size_of PA.out.2)).trans PA.out.2]
          obtain ⟨⟨d0, d1, d2, d3, d4, d5, d6, d7, d8⟩, -⟩ := box9 P3.out.box
          have f0 := HC4.out w3 P3.out.bb
          clear hb3 A3 PA HC4 e0 e1
          go_wp2_with fail
          go_roundg (R.ls.length - (k2 + 1))
          case measure => omega
          case rel => exact ⟨k2 + 1, by go_num, Nat.le_refl _, hlt, P3⟩
        · have hltz : decide (k2 < R.ls.length) = false := decide_eq_false hlt
          have A1 := Lib.hid (AC.out wr HS.out.bb)
          obtain ⟨⟨d0, d1, d2, d3, d4, d5, d6, d7, d8⟩, -⟩ := box9 HS.out.box
          clear hgk hk2 hlt
          go_wp2_with fail
          refine A1.out.mono ?_
          rintro e w3 ⟨v, rfl, hv, hb3⟩
          obtain ⟨vo, vc, hv2, hvc⟩ := rec_cells (c := Ac.cells) (n := 5) (fun _ => rfl) hv
          subst hv2
          have S3 := Lib.hid (HS.out.below hb3)
          have HVC := Lib.hid hvc
          have HBW := Lib.hid (Below.refl w3.heap.size w3)
          have heqn : (D.acts.length == D.acts.length) = true := by simp
          clear hv hb3 hvc HS A1 d0 d1 d2 d3 d4 d5 d6 d7 d8 hltz
          obtain ⟨⟨d0, d1, d2, d3, d4, d5, d6, d7, d8⟩, -⟩ := box9 S3.out.box
          go_wp2_with fail
          have hal := OK.out.acts
          go_loopg [21, 22, 122] D.acts.length (fun gg _ _ s122 wr3 => ∃ k3 : Nat, s122 = .int .i64 k3 ∧ D.acts.length - k3 ≤ gg ∧ k3 ≤ D.acts.length ∧ Hid (SL w N #[.int .i64 D.room, .slice fo D.files.length fc, .slice so R.ls.length sc, .slice wo wn wk, .int .i64 D.units, .int .i64 D.left, .bool D.armed, .bool D.gone, .slice ao D.acts.length ac] l uo ln uc k no nc wr3 ∧ Below w3.heap.size w3 wr3))
          case atStart => exact ⟨0, rfl, Nat.le_refl _, Nat.zero_le _, Lib.hid ⟨S3.out, HBW.out⟩⟩
          case round =>
            obtain ⟨k3, rfl, hgk, hk3, HS⟩ := hrel
            clear S3 d0 d1 d2 d3 d4 d5 d6 d7 d8
            by_cases hlt : k3 < D.acts.length
            · have hltz : decide (k3 < D.acts.length) = true := decide_eq_true hlt
              have hkz : (k3 : Int) < (D.acts.length : Int) := by omega
              obtain ⟨⟨kd, n1, n2, n3, pl⟩, ha⟩ : ∃ a, D.acts[k3]? = some a := ⟨_, List.getElem?_eq_getElem hlt⟩
              obtain ⟨ga, rfl, hga, hca⟩ := HAC.out k3 _ ha
              obtain ⟨gb, rfl, hgb, hcb⟩ := HVC.out k3 _ ha
              have ca := hca wr (HS.out.1.bb.block ga (by rw [← hN]; exact hga))
              have cb := hcb wr (HS.out.2.block gb hgb)
              have a0 : wr.cell? ⟨ga, k3 * 5, none⟩ = some (.int .i64 kd) := ca 0 (by omega)
              have a1 : wr.cell? ⟨ga, k3 * 5 + 1, none⟩ = some (.string n1) := ca 1 (by omega)
              have a2 : wr.cell? ⟨ga, k3 * 5 + 2, none⟩ = some (.string n2) := ca 2 (by omega)
              have a3 : wr.cell? ⟨ga, k3 * 5 + 3, none⟩ = some (.string n3) := ca 3 (by omega)
              have a4 : wr.cell? ⟨ga, k3 * 5 + 4, none⟩ = some (.int .i64 pl) := ca 4 (by omega)
              have b0 : wr.cell? ⟨gb, k3 * 5, none⟩ = some (.int .i64 kd) := cb 0 (by omega)
              have b1 : wr.cell? ⟨gb, k3 * 5 + 1, none⟩ = some (.string n1) := cb 1 (by omega)
              have b2 : wr.cell? ⟨gb, k3 * 5 + 2, none⟩ = some (.string n2) := cb 2 (by omega)
              have b3 : wr.cell? ⟨gb, k3 * 5 + 3, none⟩ = some (.string n3) := cb 3 (by omega)
              have b4 : wr.cell? ⟨gb, k3 * 5 + 4, none⟩ = some (.int .i64 pl) := cb 4 (by omega)
              obtain ⟨⟨d0, d1, d2, d3, d4, d5, d6, d7, d8⟩, -⟩ := box9 HS.out.1.box
              have hgaL : ga < wr.heap.size := Nat.lt_of_lt_of_le hga HS.out.1.bb.size
              have hNL : N < wr.heap.size := heap_size_of HS.out.1.box
              clear ha hga hca hgb hcb ca cb
              go_wp2_with fail
              have PB : Hid (∀ q, SL w N #[.int .i64 D.room, .slice fo D.files.length fc, .slice so R.ls.length sc, .slice wo wn wk, .int .i64 D.units, .int .i64 D.left, .bool D.armed, .bool D.gone, .slice (some ⟨ga, 0, none⟩) D.acts.length ac] l uo ln uc k no nc ((wr.alloc (.cells #[.int .i64 kd, .string n1, .string n2, .string n3, .int .i64 pl] 88)).drewN q) ∧ Below w3.heap.size w3 ((wr.alloc (.cells #[.int .i64 kd, .string n1, .string n2, .string n3, .int .i64 pl] 88)).drewN q)) := Lib.hid (fun q => by
                have hb : Below wr.heap.size wr ((wr.alloc (.cells #[.int .i64 kd, .string n1, .string n2, .string n3, .int .i64 pl] 88)).drewN q) := below_dn ((Below.refl _ _).alloc (Nat.le_refl _) _) q
                exact ⟨HS.out.1.below hb, HS.out.2.trans (hb.mono HS.out.2.size)⟩)
              go_quiet (fail)
              clear HS
              go_wp2_with fail
              go_roundg (D.acts.length - (k3 + 1))
              case measure => omega
              case rel => exact ⟨k3 + 1, by go_num, Nat.le_refl _, hlt, Lib.hid (PB.out _)⟩
            · have hltz : decide (k3 < D.acts.length) = false := decide_eq_false hlt
              have HT5 : Hid (∀ W, Below wr.heap.size wr W → TextsAt W (.slice no k nc) (l.map Prod.fst)) := Lib.hid (fun W hb => by
                have h1 := own_to0 HS.out.1.row
                have h2 := own0_below h1 hb
                unfold TextsAt
                rw [List.length_map, List.map_map]
                rw [List.take_of_length_le (by rw [HLN.out, HKE.out]; exact Nat.le_refl _), HKE.out, ← HLN.out] at h2
                rw [HKE.out, ← HLN.out]
                exact h2)
              have hq1 : (D.free == D.free) = true := by simp
              have hq2 : (D.units == D.units) = true := by simp
              have hq3 : (D.gone == D.gone) = true := by simp
              have HDN : ∀ W, Below wr.heap.size wr W → Below w.heap.size w W := fun W hb => by rw [hN]; exact (HS.out.1.below hb).bb
              have HDN := Lib.hid HDN
              have TX := Lib.hid (fun (v : Value) W4 (h4 : TextsAt W4 v (l.map Prod.fst)) (hb : Below wr.heap.size wr W4) => texts_any v (.slice no k nc) (l.map Prod.fst) (by rw [List.length_map]; have := HLL.out; omega) W4 h4 (HT5.out W4 hb))
              obtain ⟨⟨d0, d1, d2, d3, d4, d5, d6, d7, d8⟩, -⟩ := box9 HS.out.1.box
              clear hgk hk3 hlt AC RB RR SB SR HDIR HSM HFC HAC HSC HVC hal heqn HBW HD
              go_wp2_with fail
              go_region_with (first
                | (go_at_call 23; refine (NMS.out _ (Below.drew HS.out.1.bb)).mono ?_; rintro e w4 ⟨v, rfl, hn, hb4⟩; have HB4 := Lib.hid (below_undrew hb4); have HN4 := Lib.hid (NamesRow.texts hn); clear hb4 hn)
                | (go_at_call 40; refine (TX.out _ _ HN4.out HB4.out).mono ?_; rintro e w5 ⟨rfl, hb5⟩; have HB5 := Lib.hid (HB4.out.trans (hb5.mono HB4.out.size)); obtain ⟨⟨e0, e1, e2, e3, e4, e5, e6, e7, e8⟩, -⟩ := box9 (HS.out.1.below HB5.out).box; clear hb5)
                | (go_at_call 24; refine (FRP.out w5 (HS.out.1.below HB5.out).bb).mono ?_; rintro e w6 ⟨rfl, hb6⟩; have HB6 := Lib.hid (HB5.out.trans (hb6.mono HB5.out.size)); obtain ⟨⟨f0, f1, f2, f3, f4, f5, f6, f7, f8⟩, -⟩ := box9 (HS.out.1.below HB6.out).box; clear hb6)
                | (go_at_call 41; refine (FRR.out w6 (HS.out.1.below HB6.out).bb).mono ?_; rintro e w7 ⟨rfl, hb7⟩; have HB7 := Lib.hid (HB6.out.trans (hb7.mono HB6.out.size)); obtain ⟨⟨g0, g1, g2, g3, g4, g5, g6, g7, g8⟩, -⟩ := box9 (HS.out.1.below HB7.out).box; clear hb7)
                | (go_at_call 25; refine (UN.out w7 (HS.out.1.below HB7.out).bb).mono ?_; rintro e w8 ⟨rfl, rfl⟩)
                | (go_at_call 26; refine (DN.out _ (HS.out.1.below HB7.out).bb).mono ?_; rintro e w8 ⟨rfl, rfl⟩)
                | fail)
              all_goals
                go_wp2_with fail
                go_ret
                exact ⟨rfl, HDN.out _ HB7.out⟩
end Go.Proofs.YthfcmgbkhjnfjaaGreatDoor
