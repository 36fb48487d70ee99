/- The law VfsPlays, walked. -/
import Derived.Test.YthfcmgbkhjnfjaaGreatDoorPPlay
import Derived.Test.YthfcmgbkhjnfjaaGreatDoorVV
import Derived.Deep.LoopGhost
import Derived.Deep.CutBlock
import Derived.Deep.CutRange
namespace Go.Proofs.YthfcmgbkhjnfjaaGreatDoor
open Go.RowKit Go.Maps

theorem new_bad (room : Int) (h0 : room < 0) (w : World) :
    Calls Tryz.prog 7 #[.int .i64 room] w fun e w' => e = .returned (.tuple #[.pointer none, errV 1]) ∧ w = w' := by
  have hd : decide (room < 0) = true := decide_eq_true h0
  go_enter Tryz.func7, Tryz.ntmps7
  go_wp2_with fail
  go_ret2
  exact ⟨rfl, rfl⟩
theorem is_err (k : Nat) (h : k ≤ 12) (w : World) :
    Calls Tryz.prog 8 #[errV k, .int .i64 k] w fun e w' => e = .returned (.bool true) ∧ w = w' := by
  have N := Lib.hid (num_any k h w)
  have hq : ((k : Int) == (k : Int)) = true := by simp
  generalize errV k = v at *
  go_enter Tryz.func8, Tryz.ntmps8
  go_wp2_with fail
  refine N.out.mono ?_
  rintro e w' ⟨rfl, rfl⟩
  go_wp2_with fail
  go_ret
  exact ⟨rfl, rfl⟩
theorem is_err1 (w : World) :
    Calls Tryz.prog 8 #[.iface 31 (.int .i64 1), .int .i64 1] w fun e w' => e = .returned (.bool true) ∧ w = w' := is_err 1 (by decide) w
/-- How the law's loop stands. -/
def PlaysRel (w : World) (b N : Nat) (r : Int) (k : Nat) (W : World) : Prop := ∃ D S, PL (lowCol w.heap.size) b N r k D S (dc D S) W ∧ Below w.heap.size w W
set_option maxHeartbeats 12800000 in
set_option maxRecDepth 20000 in
theorem plays_walk (room : Int) (hn0 : -9223372036854775808 ≤ room) (hn1 : room ≤ 9223372036854775807) (v : Value) (l : List OpC) (w : World) (h : ScriptK w.heap.size w v l) :
    Calls Tryz.prog 3 #[.int .i64 room, v] w fun e w' => e = .returned (.bool true) ∧ Below w.heap.size w w' := by
  obtain ⟨h, hkp⟩ := h
  have H := Lib.hid h
  have HK := Lib.hid hkp
  obtain ⟨ao, cap, rfl, -, hcells⟩ := h
  have HC := Lib.hid hcells
  clear hcells hkp
  obtain ⟨ln, hln⟩ : ∃ ln, l.length = ln := ⟨_, rfl⟩
  have HLN := Lib.hid hln
  have LA := Lib.hid (fun w1 (b1 : Below w.heap.size w w1) => long_any _ l w1 ((H.out.below b1).up b1.size))
  rw [hln] at LA ⊢
  clear hln
  go_enter Tryz.func3, Tryz.ntmps3
  go_wp2_with fail
  refine (alive_any w).mono ?_
  rintro e w1 ⟨rfl, b1⟩
  have B1 := Lib.hid b1
  clear b1
  go_wp2_with fail
  refine (LA.out w1 B1.out).mono ?_
  rintro e w2 ⟨r, rfl, b2, hshort⟩
  have b12 := Lib.hid (below_cat B1.out b2)
  clear b2 LA
  cases r
  case true =>
    go_wp2_with fail
    go_ret
    exact ⟨rfl, b12.out⟩
  obtain ⟨hl, hos⟩ := hshort rfl
  have hos := Lib.hid hos
  have hl61 : ln ≤ 61 := by rw [← HLN.out]; exact hl
  clear hshort hl
  by_cases hneg : room < 0
  · have hd : decide (room < 0) = true := decide_eq_true hneg
    have NB := new_bad room hneg w2
    rw [errV_pos (by decide)] at NB
    go_wp2_with fail
    refine NB.mono ?_
    rintro e w3 ⟨rfl, rfl⟩
    go_wp2_with fail
    refine (is_err1 w2).mono ?_
    rintro e w3 ⟨rfl, rfl⟩
    go_wp2_with fail
    go_ret
    exact ⟨rfl, b12.out⟩
  have hd : decide (room < 0) = false := decide_eq_false hneg
  have hr0 : 0 ≤ room := by omega
  go_wp2_with fail
  refine (new_ok room hr0 w2).mono ?_
  rintro e w3 ⟨b, ρ, rfl, D1, hρ, b3⟩
  have B3 := Lib.hid (below_cat b12.out b3)
  have F0 := fresh_PL (σ := lowCol w.heap.size) D1 (fun g hg => hρ g (Nat.lt_of_lt_of_le (lowCol_ge hg) b12.out.size)) (fun hg => absurd (lowCol_ge hg) (Nat.not_lt.2 B3.out.size))
  obtain ⟨N, hN⟩ : ∃ N, w3.heap.size = N := ⟨_, rfl⟩
  have HN : Hid (lowCol w.heap.size N ≠ none) := Lib.hid (fun hg => absurd (lowCol_ge hg) (by rw [← hN]; exact Nat.not_lt.2 B3.out.size))
  obtain ⟨W0, hW0⟩ : ∃ W0, w3.alloc (.cells zc 37) = W0 := ⟨_, rfl⟩
  have G0 : W0.heap[N]? = some (.cells zc 37 (0, 0)) := by rw [← hW0, ← hN]; exact heap_alloc_new w3 _
  obtain ⟨⟨z0, z1, z2, z3, z4, z5, z6, z7, z8⟩, y0, y1, y2, y3, y4, y5, y6, y7, y8⟩ := box9 G0
  rw [hN, hW0] at F0
  have HR0 : Hid (PlaysRel w b N room 0 (all9 W0 N (.int .i64 room) (.slice none 0 0) (.slice none 0 0) (.slice none 0 0) (.int .i64 0) (.int .i64 0) (.bool false) (.bool false) (.slice none 0 0))) := Lib.hid ⟨_, _, F0.1, B3.out.trans (F0.2.toBelow B3.out.size fun g hg => lowCol_lt hg)⟩
  clear D1 hρ b3 F0 G0
  go_wp2_with fail
  go_loopg [9, 10, 11, 35] ln (fun gg _ _ _ s35 wr => ∃ k : Nat, s35 = .int .i64 k ∧ ln - k ≤ gg ∧ k ≤ ln ∧ Hid (PlaysRel w b N room k wr))
  case atStart => exact ⟨0, rfl, Nat.le_refl _, Nat.zero_le _, HR0⟩
  case round =>
    obtain ⟨k, rfl, hgk, hk, HS⟩ := hrel
    clear HR0 hW0 y0 y1 y2 y3 y4 y5 y6 y7 y8 z0 z1 z2 z3 z4 z5 z6 z7 z8
    obtain ⟨D, S, hPL, hbw⟩ := HS.out
    have P0 := Lib.hid hPL
    have BW := Lib.hid hbw
    clear hPL hbw HS
    by_cases hlt : k < ln
    · have hltz : decide (k < ln) = true := decide_eq_true hlt
      have hkz : (k : Int) < (ln : Int) := by omega
      obtain ⟨⟨okind, onum, oname, otext, okA, okL, okC⟩, ho⟩ : ∃ o, l[k]? = some o := ⟨_, List.getElem?_eq_getElem (by rw [HLN.out]; exact hlt)⟩
      obtain ⟨a, rfl, ha, ⟨k0, k1, k2, k3, k4, k5, k6⟩, hc⟩ := HC.out k _ ho
      obtain ⟨c0, c1, c2, c3, c4⟩ := hc.below BW.out (by rw [add_block]; exact ha)
      obtain ⟨t1, t2, t3⟩ := hos.out _ (List.mem_of_getElem? ho)
      have HDS := Lib.hid (HK.out _ (List.mem_of_getElem? ho))
      simp only at k0 k1 k2 k3 k4 k5 k6 c0 c1 c2 c3 c4 t1 t2 t3 HDS
      obtain ⟨⟨d0, d1, d2, d3, d4, d5, d6, d7, d8⟩, -⟩ := box9 P0.out.box
      obtain ⟨wa, hwa⟩ : ∃ wa, wr.alloc (Obj.cells #[Value.int IntKind.i64 okind, Value.int IntKind.i64 onum, Value.string oname, Value.string otext, Value.slice okA okL okC] 40) = wa := ⟨_, rfl⟩
      have bra : Below wr.heap.size wr wa := by rw [← hwa]; exact (Below.refl _ _).alloc (Nat.le_refl _) _
      have BA := Lib.hid (below_cat BW.out bra)
      have gx : wa.heap[wr.heap.size]? = some (Obj.cells #[Value.int IntKind.i64 okind, Value.int IntKind.i64 onum, Value.string oname, Value.string otext, Value.slice okA okL okC] 40 (0, 0)) := by rw [← hwa]; exact heap_alloc_new wr _
      have ga0 : wa.cell? ⟨wr.heap.size, 0, none⟩ = some (.int .i64 okind) := by simp [World.cell?, gx]
      have ga1 : wa.cell? ⟨wr.heap.size, 1, none⟩ = some (.int .i64 onum) := by simp [World.cell?, gx]
      have ga2 : wa.cell? ⟨wr.heap.size, 2, none⟩ = some (.string oname) := by simp [World.cell?, gx]
      have ga3 : wa.cell? ⟨wr.heap.size, 3, none⟩ = some (.string otext) := by simp [World.cell?, gx]
      have ga4 : wa.cell? ⟨wr.heap.size, 4, none⟩ = some (.slice okA okL okC) := by simp [World.cell?, gx]
      have PA := Lib.hid (P0.out.below bra)
      obtain ⟨⟨q0, q1, q2, q3, q4, q5, q6, q7, q8⟩, -⟩ := box9 PA.out.box
      have DO := Lib.hid (PA.out.act (B := w.heap.size) BA.out.size (fun g hg => lowCol_lt hg) (fun g hg => Nat.lt_of_lt_of_le (lowCol_ge hg) BA.out.size) (by omega) hr0 hn1 okind onum oname otext okA okL okC k2 k3 t2 t1 (let ⟨ds, hds⟩ := HDS.out; ⟨ds, hds.below BA.out⟩))
      unfold dv at DO
      clear hc ho gx bra t1 t2 t3 k0 k1 k2 k3 k4 k5 k6 P0 HDS
      go_upto_region 14 with fail
      go_cut [10, 11] from 39 to 45 (fun v10 v11 wx => v11 = .bool true ∧ ∃ M D2 S2, v10 = .pointer (some ⟨M, 0, none⟩) ∧ Hid (PL (lowCol w.heap.size) b N room (k + 1) D2 S2 (dc D S) wx ∧ wx.heap[M]? = some (.cells (dc D2 S2) 37 (0, 0)) ∧ Below w.heap.size w wx))
      case first =>
        go_wp2_with fail
        refine DO.out.mono ?_
        rintro e w1 ⟨D2, S2, rfl, hP, hK⟩
        obtain ⟨M, hM⟩ : ∃ M, w1.heap.size = M := ⟨_, rfl⟩
        obtain ⟨W1, hW1⟩ : ∃ W1, w1.alloc (.cells zc 37) = W1 := ⟨_, rfl⟩
        have G1 : W1.heap[M]? = some (.cells zc 37 (0, 0)) := by rw [← hW1, ← hM]; exact heap_alloc_new w1 _
        have b1 : Below w1.heap.size w1 W1 := by rw [← hW1]; exact (Below.refl _ _).alloc (Nat.le_refl _) _
        have b2 : Below w1.heap.size w1 (all9 W1 M (.int .i64 D2.room) (.slice S2.fo S2.fn S2.fc) (.slice S2.so S2.sn S2.sc) (.slice S2.wo S2.wn S2.wk) (.int .i64 D2.units) (.int .i64 D2.left) (.bool D2.armed) (.bool D2.gone) (.slice S2.ao S2.an S2.ac)) := below_all9 b1 (Nat.le_of_eq hM) _ _ _ _ _ _ _ _ _
        have HF : Hid (PL (lowCol w.heap.size) b N room (k + 1) D2 S2 (dc D S) (all9 W1 M (.int .i64 D2.room) (.slice S2.fo S2.fn S2.fc) (.slice S2.so S2.sn S2.sc) (.slice S2.wo S2.wn S2.wk) (.int .i64 D2.units) (.int .i64 D2.left) (.bool D2.armed) (.bool D2.gone) (.slice S2.ao S2.an S2.ac)) ∧ (all9 W1 M (.int .i64 D2.room) (.slice S2.fo S2.fn S2.fc) (.slice S2.so S2.sn S2.sc) (.slice S2.wo S2.wn S2.wk) (.int .i64 D2.units) (.int .i64 D2.left) (.bool D2.armed) (.bool D2.gone) (.slice S2.ao S2.an S2.ac)).heap[M]? = some (.cells (dc D2 S2) 37 (0, 0)) ∧ Below w.heap.size w (all9 W1 M (.int .i64 D2.room) (.slice S2.fo S2.fn S2.fc) (.slice S2.so S2.sn S2.sc) (.slice S2.wo S2.wn S2.wk) (.int .i64 D2.units) (.int .i64 D2.left) (.bool D2.armed) (.bool D2.gone) (.slice S2.ao S2.an S2.ac))) := Lib.hid ⟨hP.below b2, all9_box G1 _ _ _ _ _ _ _ _ _, (BA.out.trans (hK.toBelow BA.out.size fun g hg => lowCol_lt hg)).trans (b2.mono (Nat.le_trans BA.out.size hK.size))⟩
        obtain ⟨⟨z0, z1, z2, z3, z4, z5, z6, z7, z8⟩, y0, y1, y2, y3, y4, y5, y6, y7, y8⟩ := box9 G1
        clear DO hP hK G1 b1 b2 d0 d1 d2 d3 d4 d5 d6 d7 d8 q0 q1 q2 q3 q4 q5 q6 q7 q8 ga0 ga1 ga2 ga3 ga4 c0 c1 c2 c3 c4
        go_wp2_with fail
        go_meet
        exact ⟨rfl, _, _, _, rfl, HF⟩
      case rest =>
        obtain ⟨rfl, M, D2, S2, rfl, HF⟩ := hcut
        clear DO PA BA hwa d0 d1 d2 d3 d4 d5 d6 d7 d8 q0 q1 q2 q3 q4 q5 q6 q7 q8 ga0 ga1 ga2 ga3 ga4 c0 c1 c2 c3 c4
        obtain ⟨⟨d0, d1, d2, d3, d4, d5, d6, d7, d8⟩, e0, e1, e2, e3, e4, e5, e6, e7, e8⟩ := box9 HF.out.1.box
        obtain ⟨⟨q0, q1, q2, q3, q4, q5, q6, q7, q8⟩, -⟩ := box9 HF.out.2.1
        have HG : Hid (PL (lowCol w.heap.size) b N room (k + 1) D2 S2 (dc D2 S2) (all9 wc N (.int .i64 D2.room) (.slice S2.fo S2.fn S2.fc) (.slice S2.so S2.sn S2.sc) (.slice S2.wo S2.wn S2.wk) (.int .i64 D2.units) (.int .i64 D2.left) (.bool D2.armed) (.bool D2.gone) (.slice S2.ao S2.an S2.ac)) ∧ Below w.heap.size w (all9 wc N (.int .i64 D2.room) (.slice S2.fo S2.fn S2.fc) (.slice S2.so S2.sn S2.sc) (.slice S2.wo S2.wn S2.wk) (.int .i64 D2.units) (.int .i64 D2.left) (.bool D2.armed) (.bool D2.gone) (.slice S2.ao S2.an S2.ac))) := Lib.hid (by
          have h1 := HF.out.1.set HN.out
          exact ⟨h1.1, HF.out.2.2.trans (h1.2.toBelow HF.out.2.2.size fun g hg => lowCol_lt hg)⟩)
        clear HF
        go_upto_region 15 with fail
        go_cut [46] from 46 to 46 (fun v46 wx => Hid (PL (lowCol w.heap.size) b N room (k + 1) D2 S2 (dc D2 S2) wx ∧ Below w.heap.size w wx))
        case first =>
          go_wp2_with fail
          go_meet
          exact HG
        case rest =>
          rename_i wd
          have HZ := hcut
          clear HG d0 d1 d2 d3 d4 d5 d6 d7 d8 q0 q1 q2 q3 q4 q5 q6 q7 q8 e0 e1 e2 e3 e4 e5 e6 e7 e8 hcut
          obtain ⟨⟨d0, d1, d2, d3, d4, d5, d6, d7, d8⟩, -⟩ := box9 HZ.out.1.box
          have ST := Lib.hid (HZ.out.1.stands (by omega) hr0 hn1)
          unfold dv at ST
          go_wp2_with fail
          refine ST.out.mono ?_
          rintro e w4 ⟨rfl, hb4⟩
          have P4 : Hid (PlaysRel w b N room (k + 1) w4) := Lib.hid ⟨_, _, HZ.out.1.below hb4, HZ.out.2.trans (hb4.mono HZ.out.2.size)⟩
          clear hb4 ST HZ d0 d1 d2 d3 d4 d5 d6 d7 d8
          go_wp2_with fail
          go_roundg (ln - (k + 1))
          case measure => omega
          case rel => exact ⟨k + 1, by go_num, Nat.le_refl _, hlt, P4⟩
    · have hltz : decide (k < ln) = false := decide_eq_false hlt
      have ST := Lib.hid (P0.out.stands (by omega) hr0 hn1)
      unfold dv at ST
      obtain ⟨⟨d0, d1, d2, d3, d4, d5, d6, d7, d8⟩, -⟩ := box9 P0.out.box
      go_wp2_with fail
      refine ST.out.mono ?_
      rintro e w4 ⟨rfl, hb4⟩
      have B4 := Lib.hid (BW.out.trans (hb4.mono BW.out.size))
      clear hb4 ST
      go_wp2_with fail
      go_ret
      exact ⟨rfl, B4.out⟩
end Go.Proofs.YthfcmgbkhjnfjaaGreatDoor
