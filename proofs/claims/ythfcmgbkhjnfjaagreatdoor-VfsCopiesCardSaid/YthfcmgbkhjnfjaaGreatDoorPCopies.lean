/- The law VfsCopies, walked. -/
import Derived.Test.YthfcmgbkhjnfjaaGreatDoorPPlay
import Derived.Test.YthfcmgbkhjnfjaaGreatDoorPPlays
import Derived.Test.YthfcmgbkhjnfjaaGreatDoorPCopy
import Derived.Test.YthfcmgbkhjnfjaaGreatDoorPNil
import Derived.Test.YthfcmgbkhjnfjaaGreatDoorVV
import Derived.Deep.LoopGhost
import Derived.Deep.CutBlock
import Derived.Deep.CutRange
import Derived.Deep.RegionHeld3
namespace Go.Proofs.YthfcmgbkhjnfjaaGreatDoor
open Go.RowKit Go.Maps

/-- A copied disk beside the reference's, in a new box. -/
theorem copy_PL {σ ρ' : Col} {b c N M : Nat} {r : Int} {k : Nat} {D : Dk} {S : Sh} {d : Array Value} {wr w6 : World} (h : PL σ b N r k D S d wr) (bW : Below wr.heap.size wr w6) (hc : IsDisk w6 ρ' c D) (hl : ∀ g, g < wr.heap.size → ρ' g = none) (hM : w6.heap[M]? = some (.cells zc 37 (0, 0))) (hMg : wr.heap.size ≤ M) :
    PL (lowCol wr.heap.size) c M r k D S (dc D S) (all9 w6 M (.int .i64 D.room) (.slice S.fo S.fn S.fc) (.slice S.so S.sn S.sc) (.slice S.wo S.wn S.wk) (.int .i64 D.units) (.int .i64 D.left) (.bool D.armed) (.bool D.gone) (.slice S.ao S.an S.ac)) ∧ Below wr.heap.size wr (all9 w6 M (.int .i64 D.room) (.slice S.fo S.fn S.fc) (.slice S.so S.sn S.sc) (.slice S.wo S.wn S.wk) (.int .i64 D.units) (.int .i64 D.left) (.bool D.armed) (.bool D.gone) (.slice S.ao S.an S.ac)) := by
  have h0 : PL (lowCol wr.heap.size) c M r k D S zc w6 := ⟨hM, ⟨ρ', hc, fun g hg => hl g (lowCol_ge hg)⟩, h.ref.below bW, h.kp, h.pw, h.ks⟩
  have h1 := h0.set fun hg => absurd (lowCol_ge hg) (Nat.not_lt.2 hMg)
  exact ⟨h1.1, bW.trans (h1.2.toBelow bW.size fun g hg => lowCol_lt hg)⟩
/-- A copied disk beside the reference's, in a box that holds it. -/
theorem copy_PL0 {σ ρ' : Col} {b c N M : Nat} {r : Int} {k : Nat} {D : Dk} {S : Sh} {d d' : Array Value} {wr w6 : World} (h : PL σ b N r k D S d wr) (bW : Below wr.heap.size wr w6) (hc : IsDisk w6 ρ' c D) (hl : ∀ g, g < wr.heap.size → ρ' g = none) (hM : w6.heap[M]? = some (.cells d' 37 (0, 0))) : PL (lowCol wr.heap.size) c M r k D S d' w6 ∧ Below wr.heap.size wr w6 :=
  ⟨⟨hM, ⟨ρ', hc, fun g hg => hl g (lowCol_ge hg)⟩, h.ref.below bW, h.kp, h.pw, h.ks⟩, bW⟩
/-- How a loop of the law stands. -/
def CopRel (B : Nat) (w : World) (b N k0 k : Nat) (W : World) : Prop := ∃ D S, PL (lowCol B) b N 500 (k0 + k) D S (dc D S) W ∧ Below B w W
abbrev dn9 : Array Value := #[downV, downV, downV, downV, downV, downV, downV, downV, downV]
theorem dn9_at : ∀ k, k < 9 → dn9[k]? = some downV
  | 0, _ => rfl
  | 1, _ => rfl
  | 2, _ => rfl
  | 3, _ => rfl
  | 4, _ => rfl
  | 5, _ => rfl
  | 6, _ => rfl
  | 7, _ => rfl
  | 8, _ => rfl
  | n + 9, h => by omega
theorem is_err3 (w : World) :
    Calls Tryz.prog 8 #[downV, .int .i64 3] w fun e w' => e = .returned (.bool true) ∧ w = w' := is_err 3 (by decide) w
/-- A row of one operation. -/
theorem script_one {w : World} {pk pn : Int} {pm pt : ByteArray} {pA : Option Addr} {pL pC : Nat} (hf : (OpC.mk pk pn pm pt pA pL pC).Fit) :
    ScriptAt (w.alloc (Obj.cells #[.int .i64 pk, .int .i64 pn, .string pm, .string pt, .slice pA pL pC] 40)).heap.size (w.alloc (Obj.cells #[.int .i64 pk, .int .i64 pn, .string pm, .string pt, .slice pA pL pC] 40)) (.slice (some ⟨w.heap.size, 0, none⟩) 1 1) [⟨pk, pn, pm, pt, pA, pL, pC⟩] := by
  have gx := heap_alloc_new w (Obj.cells #[.int .i64 pk, .int .i64 pn, .string pm, .string pt, .slice pA pL pC] 40)
  refine ⟨some ⟨w.heap.size, 0, none⟩, 1, rfl, by simp, fun k o hk => ⟨_, rfl, by simp, ?_⟩⟩
  cases k with
  | succ k => simp at hk
  | zero =>
    simp at hk
    subst hk
    refine ⟨hf, ?_⟩
    rw [add_at]
    have c := fun j => cell_of_row (w.alloc (Obj.cells #[.int .i64 pk, .int .i64 pn, .string pm, .string pt, .slice pA pL pC] 40)) w.heap.size j _ _ _ gx
    exact ⟨c 0, c 1, c 2, c 3, c 4⟩
set_option maxHeartbeats 25600000 in
set_option maxRecDepth 20000 in
theorem copies_walk (va vb : Value) (la lb : List OpC) (pk pn : Int) (pm pt : ByteArray) (pA : Option Addr) (pL pC : Nat) (w : World) (hfit : (OpC.mk pk pn pm pt pA pL pC).Fit) (h : ScriptK w.heap.size w va la) (h' : ScriptK w.heap.size w vb lb) :
    Calls Tryz.prog 4 #[va, vb, .agg #[.int .i64 pk, .int .i64 pn, .string pm, .string pt, .slice pA pL pC]] w fun e w' => e = .returned (.bool true) ∧ Below w.heap.size w w' := by
  obtain ⟨W0, hW0⟩ : ∃ W0, w.alloc (Obj.cells #[.int .i64 pk, .int .i64 pn, .string pm, .string pt, .slice pA pL pC] 40) = W0 := ⟨_, rfl⟩
  have b0 : Below w.heap.size w W0 := by rw [← hW0]; exact (Below.refl _ _).alloc (Nat.le_refl _) _
  have HX := Lib.hid b0
  obtain ⟨B0, hB0⟩ : ∃ B0, W0.heap.size = B0 := ⟨_, rfl⟩
  have gq : W0.heap[w.heap.size]? = some (Obj.cells #[.int .i64 pk, .int .i64 pn, .string pm, .string pt, .slice pA pL pC] 40 (0, 0)) := by rw [← hW0]; exact heap_alloc_new w _
  obtain ⟨OB, hOB⟩ : ∃ OB, w.heap.size = OB := ⟨_, rfl⟩
  have HQ := Lib.hid (fun W (hb : Below B0 W0 W) => show W.heap[OB]? = some (Obj.cells #[.int .i64 pk, .int .i64 pn, .string pm, .string pt, .slice pA pL pC] 40 (0, 0)) from (hb.block OB (by rw [← hB0, ← hOB]; exact heap_size_of gq)).trans (by rw [← hOB]; exact gq))
  have HCELL : Hid (∀ W, Below B0 W0 W → W.cell? ⟨OB, 0, none⟩ = some (.int .i64 pk) ∧ W.cell? ⟨OB, 1, none⟩ = some (.int .i64 pn) ∧ W.cell? ⟨OB, 2, none⟩ = some (.string pm) ∧ W.cell? ⟨OB, 3, none⟩ = some (.string pt) ∧ W.cell? ⟨OB, 4, none⟩ = some (.slice pA pL pC)) := Lib.hid (fun W hb => by
    have g := HQ.out W hb
    refine ⟨?_, ?_, ?_, ?_, ?_⟩ <;> simp [World.cell?, g])
  have HBACK : Hid (∀ W, Below B0 W0 W → Below w.heap.size w W) := Lib.hid (fun W hb => b0.trans (hb.mono (by rw [← hB0]; exact b0.size)))
  obtain ⟨h, hkp⟩ := h
  obtain ⟨h', hkp'⟩ := h'
  have HA := Lib.hid ((h.below b0).up b0.size)
  have HAB := Lib.hid ((h'.below b0).up b0.size)
  have HKA : Hid (∀ o ∈ la, ∃ ds, KeepAt B0 W0 (.slice o.keepA o.keepL o.keepC) ds) := Lib.hid (fun o ho => let ⟨ds, hd⟩ := hkp o ho; ⟨ds, (hd.below b0).up (by rw [← hB0]; exact b0.size)⟩)
  have HKB : Hid (∀ o ∈ lb, ∃ ds, KeepAt B0 W0 (.slice o.keepA o.keepL o.keepC) ds) := Lib.hid (fun o ho => let ⟨ds, hd⟩ := hkp' o ho; ⟨ds, (hd.below b0).up (by rw [← hB0]; exact b0.size)⟩)
  rw [hB0] at HA HAB
  obtain ⟨ao, cap, rfl, -, hca⟩ := HA.out
  obtain ⟨bo, cbp, rfl, -, hcb⟩ := HAB.out
  have HCA := Lib.hid hca
  have HCB := Lib.hid hcb
  obtain ⟨ln, hln⟩ : ∃ ln, la.length = ln := ⟨_, rfl⟩
  obtain ⟨mn, hmn⟩ : ∃ mn, lb.length = mn := ⟨_, rfl⟩
  have HLA := Lib.hid hln
  have HLB := Lib.hid hmn
  have LA := Lib.hid (fun w1 (b1 : Below B0 W0 w1) => long_any _ la w1 ((HA.out.below b1).up (Nat.le_trans (Nat.le_of_eq hB0.symm) b1.size)))
  have LB := Lib.hid (fun w1 (b1 : Below B0 W0 w1) => long_any _ lb w1 ((HAB.out.below b1).up (Nat.le_trans (Nat.le_of_eq hB0.symm) b1.size)))
  have LO := Lib.hid (fun w1 => long_any _ _ (World.alloc w1 (Obj.cells #[.int .i64 pk, .int .i64 pn, .string pm, .string pt, .slice pA pL pC] 40)) (script_one (w := w1) hfit))
  rw [hln] at LA ⊢
  rw [hmn] at LB ⊢
  have HFIT := Lib.hid hfit
  rw [hOB] at HBACK ⊢
  have HSZ : Hid (∀ W, Below B0 W0 W → B0 ≤ W.heap.size) := Lib.hid (fun W hb => by rw [← hB0]; exact hb.size)
  have HAL := Lib.hid (alive_any W0)
  rw [hB0] at HAL
  clear hln hmn h h' hkp hkp' b0 gq hca hcb hfit hB0 HFIT HX
  go_enter Tryz.func4, Tryz.ntmps4
  go_wp2_with fail
  clear hOB
  refine HAL.out.mono ?_
  rintro e w1 ⟨rfl, b1⟩
  have B1 := Lib.hid b1
  clear b1 HAL
  go_wp2_with fail
  refine (LA.out w1 B1.out).mono ?_
  rintro e w2 ⟨r, rfl, b2, hs1⟩
  have B2 := Lib.hid (B1.out.trans (b2.mono (HSZ.out w1 B1.out)))
  clear b2 LA
  cases r
  case true =>
    go_wp2_with fail
    go_ret
    exact ⟨rfl, HBACK.out _ B2.out⟩
  obtain ⟨hl, hos⟩ := hs1 rfl
  have hosa := Lib.hid hos
  have hl61 : ln ≤ 61 := by rw [← HLA.out]; exact hl
  clear hs1 hl hos B1
  go_wp2_with fail
  refine (LB.out w2 B2.out).mono ?_
  rintro e w3 ⟨r, rfl, b3, hs1⟩
  have B3 := Lib.hid (B2.out.trans (b3.mono (HSZ.out w2 B2.out)))
  clear b3 LB
  cases r
  case true =>
    go_wp2_with fail
    go_ret
    exact ⟨rfl, HBACK.out _ B3.out⟩
  obtain ⟨hl, hos⟩ := hs1 rfl
  have hosb := Lib.hid hos
  have hm61 : mn ≤ 61 := by rw [← HLB.out]; exact hl
  obtain ⟨h0, h1, h2, h3, h4⟩ := HCELL.out w3 B3.out
  clear hs1 hl hos B2
  go_wp2_with fail
  refine (LO.out w3).mono ?_
  rintro e w4 ⟨r, rfl, b4, hs1⟩
  have B4 : Hid (Below B0 W0 w4) := Lib.hid (by
    have bA : Below B0 W0 (w3.alloc (Obj.cells #[.int .i64 pk, .int .i64 pn, .string pm, .string pt, .slice pA pL pC] 40)) := B3.out.alloc (HSZ.out w3 B3.out) _
    exact bA.trans (b4.mono (HSZ.out _ bA)))
  clear b4 LO hs1 h0 h1 h2 h3 h4
  cases r
  case true =>
    go_wp2_with fail
    go_ret
    exact ⟨rfl, HBACK.out _ B4.out⟩
  go_wp2_with fail
  refine (new_ok 500 (by decide) w4).mono ?_
  rintro e w5 ⟨b, ρ, rfl, D1, hρ, b5⟩
  have B5 := Lib.hid (B4.out.trans (b5.mono (HSZ.out w4 B4.out)))
  have F0 := fresh_PL (σ := lowCol B0) D1 (fun g hg => hρ g (Nat.lt_of_lt_of_le (lowCol_ge hg) (HSZ.out w4 B4.out))) (fun hg => absurd (lowCol_ge hg) (Nat.not_lt.2 (HSZ.out w5 B5.out)))
  obtain ⟨N, hN⟩ : ∃ N, w5.heap.size = N := ⟨_, rfl⟩
  have HN : Hid (lowCol B0 N ≠ none) := Lib.hid (fun hg => absurd (lowCol_ge hg) (by rw [← hN]; exact Nat.not_lt.2 (HSZ.out w5 B5.out)))
  obtain ⟨W1, hW1⟩ : ∃ W1, w5.alloc (.cells zc 37) = W1 := ⟨_, rfl⟩
  have G0 : W1.heap[N]? = some (.cells zc 37 (0, 0)) := by rw [← hW1, ← hN]; exact heap_alloc_new w5 _
  obtain ⟨⟨z0, z1, z2, z3, z4, z5, z6, z7, z8⟩, y0, y1, y2, y3, y4, y5, y6, y7, y8⟩ := box9 G0
  rw [hN, hW1] at F0
  have HRa : Hid (CopRel B0 W0 b N 0 0 (all9 W1 N (.int .i64 500) (.slice none 0 0) (.slice none 0 0) (.slice none 0 0) (.int .i64 0) (.int .i64 0) (.bool false) (.bool false) (.slice none 0 0))) := Lib.hid ⟨_, _, F0.1, B5.out.trans (F0.2.toBelow (HSZ.out w5 B5.out) fun g hg => lowCol_lt hg)⟩
  clear D1 hρ b5 F0 G0
  go_wp2_with fail
  go_loopg [11, 45] ln (fun gg _ s45 wr => ∃ k : Nat, s45 = .int .i64 k ∧ ln - k ≤ gg ∧ k ≤ ln ∧ Hid (CopRel B0 W0 b N 0 k wr))
  case atStart => exact ⟨0, rfl, Nat.le_refl _, Nat.zero_le _, HRa⟩
  case round =>
    obtain ⟨k, rfl, hgk, hk, HS⟩ := hrel
    clear HRa
    obtain ⟨D, S, hPL, hbw⟩ := HS.out
    have P0 := Lib.hid hPL
    have BW := Lib.hid hbw
    have BB := Lib.hid (show Below B0 W0 wr from hbw)
    clear hPL hbw HS
    by_cases hlt : k < ln
    · have hltz : decide (k < ln) = true := decide_eq_true hlt
      have hkz : (k : Int) < (ln : Int) := by omega
      obtain ⟨⟨okind, onum, oname, otext, okA, okL, okC⟩, ho⟩ : ∃ o, la[k]? = some o := ⟨_, List.getElem?_eq_getElem (by rw [HLA.out]; exact hlt)⟩
      obtain ⟨a, rfl, ha, ⟨k0, k1, k2, k3, k4, k5, k6⟩, hc⟩ := HCA.out k _ ho
      obtain ⟨c0, c1, c2, c3, c4⟩ := hc.below BB.out (by rw [add_block]; exact ha)
      obtain ⟨t1, t2, t3⟩ := hosa.out _ (List.mem_of_getElem? ho)
      have HDS := Lib.hid (HKA.out _ (List.mem_of_getElem? ho))
      simp only at k0 k1 k2 k3 k4 k5 k6 c0 c1 c2 c3 c4 t1 t2 t3 HDS
      obtain ⟨⟨d0, d1, d2, d3, d4, d5, d6, d7, d8⟩, -⟩ := box9 P0.out.box
      obtain ⟨wa, hwa⟩ : ∃ wa, wr.alloc (Obj.cells #[Value.int IntKind.i64 okind, Value.int IntKind.i64 onum, Value.string oname, Value.string otext, Value.slice okA okL okC] 40) = wa := ⟨_, rfl⟩
      have bra : Below wr.heap.size wr wa := by rw [← hwa]; exact (Below.refl _ _).alloc (Nat.le_refl _) _
      have BA := Lib.hid (show Below B0 W0 wa from BB.out.trans (bra.mono (HSZ.out wr BB.out)))
      have BX := Lib.hid (BW.out.trans (bra.mono (HSZ.out wr BB.out)))
      have gx : wa.heap[wr.heap.size]? = some (Obj.cells #[Value.int IntKind.i64 okind, Value.int IntKind.i64 onum, Value.string oname, Value.string otext, Value.slice okA okL okC] 40 (0, 0)) := by rw [← hwa]; exact heap_alloc_new wr _
      have ga0 : wa.cell? ⟨wr.heap.size, 0, none⟩ = some (.int .i64 okind) := by simp [World.cell?, gx]
      have ga1 : wa.cell? ⟨wr.heap.size, 1, none⟩ = some (.int .i64 onum) := by simp [World.cell?, gx]
      have ga2 : wa.cell? ⟨wr.heap.size, 2, none⟩ = some (.string oname) := by simp [World.cell?, gx]
      have ga3 : wa.cell? ⟨wr.heap.size, 3, none⟩ = some (.string otext) := by simp [World.cell?, gx]
      have ga4 : wa.cell? ⟨wr.heap.size, 4, none⟩ = some (.slice okA okL okC) := by simp [World.cell?, gx]
      have PA := Lib.hid (P0.out.below bra)
      obtain ⟨⟨q0, q1, q2, q3, q4, q5, q6, q7, q8⟩, -⟩ := box9 PA.out.box
      have DO := Lib.hid (PA.out.act (B := B0) (HSZ.out wa BA.out) (fun g hg => lowCol_lt hg) (fun g hg => Nat.lt_of_lt_of_le (lowCol_ge hg) (HSZ.out wa BA.out)) (by omega) (by decide) (by decide) okind onum oname otext okA okL okC k2 k3 t2 t1 (let ⟨ds, hds⟩ := HDS.out; ⟨ds, hds.below BA.out⟩))
      unfold dv at DO
      clear hc ho gx bra t1 t2 t3 k0 k1 k2 k3 k4 k5 k6 P0 HDS
      go_wp2_with fail
      refine DO.out.mono ?_
      rintro e w1 ⟨D2, S2, rfl, hP, hK⟩
      have HF : Hid (CopRel B0 W0 b N 0 (k + 1) (all9 w1 N (.int .i64 D2.room) (.slice S2.fo S2.fn S2.fc) (.slice S2.so S2.sn S2.sc) (.slice S2.wo S2.wn S2.wk) (.int .i64 D2.units) (.int .i64 D2.left) (.bool D2.armed) (.bool D2.gone) (.slice S2.ao S2.an S2.ac))) := Lib.hid (by
        have h1 := hP.set HN.out
        exact ⟨D2, S2, h1.1, BX.out.trans ((hK.then h1.2).toBelow (HSZ.out wa BA.out) fun g hg => lowCol_lt hg)⟩)
      obtain ⟨⟨z0, z1, z2, z3, z4, z5, z6, z7, z8⟩, y0, y1, y2, y3, y4, y5, y6, y7, y8⟩ := box9 hP.box
      clear DO hP hK PA BA BX BB BW hwa d0 d1 d2 d3 d4 d5 d6 d7 d8 q0 q1 q2 q3 q4 q5 q6 q7 q8 ga0 ga1 ga2 ga3 ga4 c0 c1 c2 c3 c4
      go_wp2_with fail
      go_roundg (ln - (k + 1))
      case measure => omega
      case rel => exact ⟨k + 1, by go_num, Nat.le_refl _, hlt, HF⟩
    · have hltz : decide (k < ln) = false := decide_eq_false hlt
      clear hW1 B4 B5 HCA HKA hosa HLA z0 z1 z2 z3 z4 z5 z6 z7 z8 y0 y1 y2 y3 y4 y5 y6 y7 y8
      obtain ⟨ka, hka⟩ : ∃ ka, 0 + k = ka := ⟨_, rfl⟩
      have hka61 : ka ≤ 61 := by omega
      rw [hka] at P0
      clear hka hk
      have PF := P0
      have BF := BB
      clear P0 BW BB
      generalize wr = wA at *
      obtain ⟨ρd, hdd, -⟩ := PF.out.disk
      have HCP : Hid (∀ W, Below wA.heap.size wA W → Calls Tryz.prog 11 #[.pointer (some ⟨b, 0, none⟩)] W fun e w' => ∃ c ρ', e = .returned (.pointer (some ⟨c, 0, none⟩)) ∧ IsDisk w' ρ' c D ∧ (∀ g, g < wA.heap.size → ρ' g = none) ∧ Below wA.heap.size wA w' ∧ ∀ g, g < W.heap.size → w'.heap[g]? = W.heap[g]?) := Lib.hid (fun W hb => by
        obtain ⟨L, hL⟩ := hdd.below hb
        refine (copy_any W ρd b D L hL (PF.out.kp.ok PF.out.pw (by omega))).mono ?_
        rintro e w' ⟨c, ρ', h1, h2, h3, h4⟩
        exact ⟨c, ρ', h1, h2, fun g hg => h3 g (Nat.lt_of_lt_of_le hg hb.size), hb.trans (h4.mono hb.size), fun g hg => h4.block g hg⟩)
      have SCN : Hid (∀ W, Below wA.heap.size wA W → W.cell? ⟨N, 0, none⟩ = some (.int .i64 D.room) ∧ W.cell? ⟨N, 1, none⟩ = some (.slice S.fo S.fn S.fc) ∧ W.cell? ⟨N, 2, none⟩ = some (.slice S.so S.sn S.sc) ∧ W.cell? ⟨N, 3, none⟩ = some (.slice S.wo S.wn S.wk) ∧ W.cell? ⟨N, 4, none⟩ = some (.int .i64 D.units) ∧ W.cell? ⟨N, 5, none⟩ = some (.int .i64 D.left) ∧ W.cell? ⟨N, 6, none⟩ = some (.bool D.armed) ∧ W.cell? ⟨N, 7, none⟩ = some (.bool D.gone) ∧ W.cell? ⟨N, 8, none⟩ = some (.slice S.ao S.an S.ac)) := Lib.hid (fun W hb => (box9 (PF.out.below hb).box).1)
      have X0 := SCN.out wA (Below.refl _ _)
      have BD : Below wA.heap.size wA wA.drew := Below.drew (Below.refl _ _)
      have BF2 : Below wA.heap.size wA (wA.alloc (.cells zc 37)) := (Below.refl _ _).alloc (Nat.le_refl _) _
      have BE : Below wA.heap.size wA (wA.alloc (.cells zc 37)).drew := Below.drew BF2
      have X6 := SCN.out _ BF2
      have X1 := SCN.out _ BE
      have XD := SCN.out _ BD
      clear hdd hlt hgk
      go_upto_region 14 with fail
      go_cut [12, 13] from 57 to 59 (fun v12 v13 wx => ∃ c M, v12 = .pointer (some ⟨c, 0, none⟩) ∧ v13 = .pointer (some ⟨M, 0, none⟩) ∧ wA.heap.size ≤ M ∧ Hid (CopRel wA.heap.size wA c M ka 0 wx))
      case first =>
        go_wp2_with fail
        go_region_held3 (fun W => W.cell? ⟨N, 0, none⟩ = some (.int .i64 D.room) ∧ W.cell? ⟨N, 1, none⟩ = some (.slice S.fo S.fn S.fc) ∧ W.cell? ⟨N, 2, none⟩ = some (.slice S.so S.sn S.sc) ∧ W.cell? ⟨N, 3, none⟩ = some (.slice S.wo S.wn S.wk) ∧ W.cell? ⟨N, 4, none⟩ = some (.int .i64 D.units) ∧ W.cell? ⟨N, 5, none⟩ = some (.int .i64 D.left) ∧ W.cell? ⟨N, 6, none⟩ = some (.bool D.armed) ∧ W.cell? ⟨N, 7, none⟩ = some (.bool D.gone) ∧ W.cell? ⟨N, 8, none⟩ = some (.slice S.ao S.an S.ac)) (first | with_reducible exact X0 | with_reducible exact XD | with_reducible exact X1 | with_reducible exact X6 | with_reducible exact X2 | with_reducible exact X3 | with_reducible exact X4.out | with_reducible exact X5.out)
          (first
            | (go_at_call 11; refine (HCP.out _ (by first | with_reducible exact BD | with_reducible exact BE)).mono ?_; intro e w6 hh; obtain ⟨c, ρ', rfl, hc, hl, B6, hk6⟩ := hh; have X2 := SCN.out w6 B6; have B7 : Below wA.heap.size wA (w6.alloc (.cells zc 37)) := B6.alloc B6.size _; have X3 := SCN.out _ B7; have HFA := Lib.hid (copy_PL0 PF.out (show Below wA.heap.size wA (w6.alloc (.cells (dc D S) 37)) from B6.alloc B6.size _) (hc.below ((Below.refl _ _).alloc (Nat.le_refl _) _)) hl (heap_alloc_new w6 _)); have HFB := Lib.hid (fun hz => copy_PL (M := wA.heap.size) PF.out B6 hc hl hz (Nat.le_refl _)); have X4 := Lib.hid (SCN.out _ HFA.out.2); have X5 := Lib.hid (SCN.out (all9 w6 wA.heap.size (.int .i64 D.room) (.slice S.fo S.fn S.fc) (.slice S.so S.sn S.sc) (.slice S.wo S.wn S.wk) (.int .i64 D.units) (.int .i64 D.left) (.bool D.armed) (.bool D.gone) (.slice S.ao S.an S.ac)) (below_all9 B6 (Nat.le_refl _) _ _ _ _ _ _ _ _ _)); clear hc hl; try (have hz : w6.heap[wA.heap.size]? = some (.cells zc 37 (0, 0)) := (hk6 wA.heap.size (show wA.heap.size < (wA.alloc (.cells zc 37)).heap.size by simp)).trans (heap_alloc_new wA _); obtain ⟨⟨z0, z1, z2, z3, z4, z5, z6, z7, z8⟩, y0, y1, y2, y3, y4, y5, y6, y7, y8⟩ := box9 hz))
            | fail)
        all_goals
          clear X0 X1 X2 X3 X4 X5 X6 XD
          have hA := B6.size
          go_wp2_with fail
          go_meet
          first
            | exact ⟨c, _, rfl, rfl, hA, Lib.hid ⟨_, _, HFA.out.1, HFA.out.2⟩⟩
            | exact ⟨c, _, rfl, rfl, Nat.le_refl _, Lib.hid ⟨_, _, (HFB.out hz).1, (HFB.out hz).2⟩⟩
      case rest =>
        obtain ⟨c, M, rfl, rfl, hMg, HRb⟩ := hcut
        have HM : Hid (lowCol wA.heap.size M ≠ none) := Lib.hid (fun hg => absurd (lowCol_ge hg) (Nat.not_lt.2 hMg))
        have HPF := Lib.hid (fun W (hb : Below wA.heap.size wA W) => PF.out.below hb)
        clear HCP SCN X0 X1 X6 XD BD BE BF2 PF hMg hltz
        go_wp2_with fail
        go_loopg [15, 62] mn (fun gg _ s62 wr => ∃ k : Nat, s62 = .int .i64 k ∧ mn - k ≤ gg ∧ k ≤ mn ∧ Hid (CopRel wA.heap.size wA c M ka k wr))
        case atStart => exact ⟨0, rfl, Nat.le_refl _, Nat.zero_le _, HRb⟩
        case round =>
          obtain ⟨k, rfl, hgk, hk, HS⟩ := hrel
          clear HRb
          obtain ⟨D, S, hPL, hbw⟩ := HS.out
          have P0 := Lib.hid hPL
          have BW := Lib.hid hbw
          have BB := Lib.hid (show Below B0 W0 wr from BF.out.trans (hbw.mono (HSZ.out wA BF.out)))
          clear hPL hbw HS
          by_cases hlt : k < mn
          · have hltz : decide (k < mn) = true := decide_eq_true hlt
            have hkz : (k : Int) < (mn : Int) := by omega
            obtain ⟨⟨okind, onum, oname, otext, okA, okL, okC⟩, ho⟩ : ∃ o, lb[k]? = some o := ⟨_, List.getElem?_eq_getElem (by rw [HLB.out]; exact hlt)⟩
            obtain ⟨a, rfl, ha, ⟨k0, k1, k2, k3, k4, k5, k6⟩, hc⟩ := HCB.out k _ ho
            obtain ⟨c0, c1, c2, c3, c4⟩ := hc.below BB.out (by rw [add_block]; exact ha)
            obtain ⟨t1, t2, t3⟩ := hosb.out _ (List.mem_of_getElem? ho)
            have HDS := Lib.hid (HKB.out _ (List.mem_of_getElem? ho))
            simp only at k0 k1 k2 k3 k4 k5 k6 c0 c1 c2 c3 c4 t1 t2 t3 HDS
            obtain ⟨⟨d0, d1, d2, d3, d4, d5, d6, d7, d8⟩, -⟩ := box9 P0.out.box
            obtain ⟨wa, hwa⟩ : ∃ wa, wr.alloc (Obj.cells #[Value.int IntKind.i64 okind, Value.int IntKind.i64 onum, Value.string oname, Value.string otext, Value.slice okA okL okC] 40) = wa := ⟨_, rfl⟩
            have bra : Below wr.heap.size wr wa := by rw [← hwa]; exact (Below.refl _ _).alloc (Nat.le_refl _) _
            have BA := Lib.hid (show Below B0 W0 wa from BB.out.trans (bra.mono (HSZ.out wr BB.out)))
            have BX := Lib.hid (BW.out.trans (bra.mono BW.out.size))
            have gx : wa.heap[wr.heap.size]? = some (Obj.cells #[Value.int IntKind.i64 okind, Value.int IntKind.i64 onum, Value.string oname, Value.string otext, Value.slice okA okL okC] 40 (0, 0)) := by rw [← hwa]; exact heap_alloc_new wr _
            have ga0 : wa.cell? ⟨wr.heap.size, 0, none⟩ = some (.int .i64 okind) := by simp [World.cell?, gx]
            have ga1 : wa.cell? ⟨wr.heap.size, 1, none⟩ = some (.int .i64 onum) := by simp [World.cell?, gx]
            have ga2 : wa.cell? ⟨wr.heap.size, 2, none⟩ = some (.string oname) := by simp [World.cell?, gx]
            have ga3 : wa.cell? ⟨wr.heap.size, 3, none⟩ = some (.string otext) := by simp [World.cell?, gx]
            have ga4 : wa.cell? ⟨wr.heap.size, 4, none⟩ = some (.slice okA okL okC) := by simp [World.cell?, gx]
            have PA := Lib.hid (P0.out.below bra)
            obtain ⟨⟨q0, q1, q2, q3, q4, q5, q6, q7, q8⟩, -⟩ := box9 PA.out.box
            have DO := Lib.hid (PA.out.act (B := B0) (HSZ.out wa BA.out) (fun g hg => lowCol_lt (Nat.lt_of_lt_of_le hg (HSZ.out wA BF.out))) (fun g hg => Nat.lt_of_lt_of_le (lowCol_ge hg) BX.out.size) (by omega) (by decide) (by decide) okind onum oname otext okA okL okC k2 k3 t2 t1 (let ⟨ds, hds⟩ := HDS.out; ⟨ds, hds.below BA.out⟩))
            unfold dv at DO
            clear hc ho gx bra t1 t2 t3 k0 k1 k2 k3 k4 k5 k6 P0 HDS
            go_wp2_with fail
            refine DO.out.mono ?_
            rintro e w1 ⟨D2, S2, rfl, hP, hK⟩
            have HF : Hid (CopRel wA.heap.size wA c M ka (k + 1) (all9 w1 M (.int .i64 D2.room) (.slice S2.fo S2.fn S2.fc) (.slice S2.so S2.sn S2.sc) (.slice S2.wo S2.wn S2.wk) (.int .i64 D2.units) (.int .i64 D2.left) (.bool D2.armed) (.bool D2.gone) (.slice S2.ao S2.an S2.ac))) := Lib.hid (by
              have h1 := hP.set HM.out
              exact ⟨D2, S2, h1.1, BX.out.trans ((hK.then h1.2).toBelow BX.out.size fun g hg => lowCol_lt hg)⟩)
            obtain ⟨⟨z0, z1, z2, z3, z4, z5, z6, z7, z8⟩, y0, y1, y2, y3, y4, y5, y6, y7, y8⟩ := box9 hP.box
            clear DO hP hK PA BA BX BB BW hwa d0 d1 d2 d3 d4 d5 d6 d7 d8 q0 q1 q2 q3 q4 q5 q6 q7 q8 ga0 ga1 ga2 ga3 ga4 c0 c1 c2 c3 c4
            go_wp2_with fail
            go_roundg (mn - (k + 1))
            case measure => omega
            case rel => exact ⟨k + 1, by go_num, Nat.le_refl _, hlt, HF⟩
          · have hltz : decide (k < mn) = false := decide_eq_false hlt
            have HPG := P0
            have BG := BB
            have HPF1 := Lib.hid (HPF.out wr BW.out)
            have hk122 : ka + k ≤ 200 := by omega
            clear P0 BW BB HPF HM hlt hgk hk HCB HKB hosb HLB
            generalize wr = wB at *
            obtain ⟨h0, h1, h2, h3, h4⟩ := HCELL.out wB BG.out
            go_wp2_with fail
            refine (crash_nil pn pA pL pC wB).mono ?_
            rintro e w' ⟨rfl, rfl⟩
            go_wp2_with fail
            refine (read_nil pm wB).mono ?_
            rintro e w' ⟨rfl, rfl⟩
            go_wp2_with fail
            refine (sure_nil pm wB).mono ?_
            rintro e w' ⟨rfl, rfl⟩
            have Z0 : wB.cell? ⟨OB, 1, none⟩ = some (.int .i64 pn) ∧ wB.cell? ⟨OB, 2, none⟩ = some (.string pm) ∧ wB.cell? ⟨OB, 3, none⟩ = some (.string pt) := ⟨h1, h2, h3⟩
            have HS24 : Hid (∀ W, Below wB.heap.size wB W → W.cell? ⟨OB, 1, none⟩ = some (.int .i64 pn) ∧ W.cell? ⟨OB, 2, none⟩ = some (.string pm) ∧ W.cell? ⟨OB, 3, none⟩ = some (.string pt)) := Lib.hid (fun W hb => let h := HCELL.out W (BG.out.trans (hb.mono (HSZ.out wB BG.out))); ⟨h.2.1, h.2.2.1, h.2.2.2.1⟩)
            go_wp2_with fail
            go_region_held3 (fun W => W.cell? ⟨OB, 1, none⟩ = some (.int .i64 pn) ∧ W.cell? ⟨OB, 2, none⟩ = some (.string pm) ∧ W.cell? ⟨OB, 3, none⟩ = some (.string pt)) (first | exact Z0 | exact Z1 | exact Z2 | exact Z3 | exact Z4 | exact Z5 | exact Z6 | exact Z7 | exact Z8)
              (first
                | (go_at_call 15; refine (create_nil pm _).mono ?_; intro e x1 hh; obtain ⟨rfl, hb⟩ := hh; have Y1 : Below wB.heap.size wB x1 := below_undrew hb; have Z1 := HS24.out x1 Y1; clear hb)
                | (go_at_call 16; refine (write_nil pm pt _).mono ?_; intro e x2 hh; obtain ⟨rfl, hb⟩ := hh; have Y2 : Below wB.heap.size wB x2 := Y1.trans (hb.mono Y1.size); have Z2 := HS24.out x2 Y2; clear hb)
                | (go_at_call 17; refine (cut_nil pm pn _).mono ?_; intro e x3 hh; obtain ⟨rfl, hb⟩ := hh; have Y3 : Below wB.heap.size wB x3 := Y2.trans (hb.mono Y2.size); have Z3 := HS24.out x3 Y3; clear hb)
                | (go_at_call 18; refine (sync_nil pm _).mono ?_; intro e x4 hh; obtain ⟨rfl, hb⟩ := hh; have Y4 : Below wB.heap.size wB x4 := Y3.trans (hb.mono Y3.size); have Z4 := HS24.out x4 Y4; clear hb)
                | (go_at_call 19; refine (rename_nil pm pt _).mono ?_; intro e x5 hh; obtain ⟨rfl, hb⟩ := hh; have Y5 : Below wB.heap.size wB x5 := Y4.trans (hb.mono Y4.size); have Z5 := HS24.out x5 Y5; clear hb)
                | (go_at_call 20; refine (remove_nil pm _).mono ?_; intro e x6 hh; obtain ⟨rfl, hb⟩ := hh; have Y6 : Below wB.heap.size wB x6 := Y5.trans (hb.mono Y5.size); have Z6 := HS24.out x6 Y6; clear hb)
                | (go_at_call 21; refine (syncDir_nil _).mono ?_; intro e x7 hh; obtain ⟨rfl, hb⟩ := hh; have Y7 : Below wB.heap.size wB x7 := Y6.trans (hb.mono Y6.size); have Z7 := HS24.out x7 Y7; clear hb)
                | (go_at_call 22; refine (arm_nil pn _).mono ?_; intro e x8 hh; obtain ⟨rfl, rfl⟩ := hh; have Y8 : Below wB.heap.size wB (x7.alloc (.cells dn9 27)) := Y7.alloc Y7.size _; have Z8 := HS24.out _ Y8)
                | fail)
            obtain ⟨E, hE⟩ : ∃ E, x7.heap.size = E := ⟨_, rfl⟩
            have gE := heap_alloc_new x7 (.cells dn9 27)
            have HY := Lib.hid Y8
            obtain ⟨wE, hwE⟩ : ∃ wE, x7.alloc (.cells dn9 27) = wE := ⟨_, rfl⟩
            rw [hwE] at gE HY
            rw [hE] at gE
            rw [hwE, hE]
            have HE : Hid (∀ k, k < 9 → wE.cell? ⟨E, k, none⟩ = some downV) := Lib.hid (fun k hk => by have := dn9_at k hk; simp [World.cell?, gE, this])
            clear hwE hE gE Y1 Y2 Y3 Y4 Y5 Y6 Y7 Y8 Z0 Z1 Z2 Z3 Z4 Z5 Z6 Z7 Z8 HS24 h0 h1 h2 h3 h4
            go_wp2_with fail
            go_loopg [22, 133] 9 (fun gg _ s133 wr => ∃ k : Nat, s133 = .int .i64 k ∧ 9 - k ≤ gg ∧ k ≤ 9 ∧ wr = wE)
            case atStart => exact ⟨0, rfl, Nat.le_refl _, Nat.zero_le _, rfl⟩
            case round =>
              obtain ⟨j, rfl, hgk, hj, rfl⟩ := hrel
              by_cases hlt : j < 9
              · have hltz : decide ((j : Int) < 9) = true := decide_eq_true (by omega)
                have hkz : (j : Int) < 9 := by omega
                have hc := HE.out j hlt
                go_wp2_with fail
                refine (is_err3 _).mono ?_
                rintro e w' ⟨rfl, rfl⟩
                go_wp2_with fail
                go_roundg (9 - (j + 1))
                case measure => omega
                case rel => exact ⟨j + 1, by go_num, Nat.le_refl _, hlt, rfl⟩
              · have hltz : decide ((j : Int) < 9) = false := decide_eq_false (by omega)
                have P1 := Lib.hid (HPF1.out.below HY.out)
                have P2 := Lib.hid (HPG.out.below HY.out)
                have BY0 := Lib.hid (BG.out.trans (HY.out.mono (HSZ.out wB BG.out)))
                obtain ⟨⟨d0, d1, d2, d3, d4, d5, d6, d7, d8⟩, -⟩ := box9 P1.out.box
                have ST1 := Lib.hid (P1.out.stands (by omega) (by decide) (by decide))
                unfold dv at ST1
                clear HPF1 HPG HY HE hgk hj hlt BG P1
                go_wp2_with fail
                refine ST1.out.mono ?_
                rintro e y1 ⟨rfl, hb1⟩
                have P3 := Lib.hid (P2.out.below hb1)
                have BY1 := Lib.hid (BY0.out.trans (hb1.mono (HSZ.out _ BY0.out)))
                obtain ⟨⟨q0, q1, q2, q3, q4, q5, q6, q7, q8⟩, -⟩ := box9 P3.out.box
                have ST2 := Lib.hid (P3.out.stands (by omega) (by decide) (by decide))
                unfold dv at ST2
                clear hb1 ST1 P2 P3 BY0 d0 d1 d2 d3 d4 d5 d6 d7 d8
                go_wp2_with fail
                refine ST2.out.mono ?_
                rintro e y2 ⟨rfl, hb2⟩
                have BY2 := Lib.hid (BY1.out.trans (hb2.mono (HSZ.out _ BY1.out)))
                clear hb2 ST2 BY1 q0 q1 q2 q3 q4 q5 q6 q7 q8
                go_wp2_with fail
                refine (names_nil y2).mono ?_
                rintro e y3 ⟨rfl, rfl⟩
                go_wp2_with fail
                refine (free_nil y2).mono ?_
                rintro e y3 ⟨rfl, rfl⟩
                go_wp2_with fail
                refine (units_nil y2).mono ?_
                rintro e y3 ⟨rfl, rfl⟩
                go_wp2_with fail
                refine (down_nil y2).mono ?_
                rintro e y3 ⟨rfl, rfl⟩
                go_wp2_with fail
                refine (acts_nil y2).mono ?_
                rintro e y3 ⟨rfl, rfl⟩
                go_wp2_with fail
                refine (copy_nil y2).mono ?_
                rintro e y3 ⟨rfl, rfl⟩
                go_wp2_with fail
                go_ret
                exact ⟨rfl, HBACK.out _ BY2.out⟩
end Go.Proofs.YthfcmgbkhjnfjaaGreatDoor
