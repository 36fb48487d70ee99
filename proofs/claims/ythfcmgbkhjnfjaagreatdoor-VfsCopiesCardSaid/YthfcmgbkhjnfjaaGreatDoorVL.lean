/- The reference's SyncDir where no power is left. Bytes are written at a file's end: Write. The reference's SyncDir where there is power. The reference's disk for a walk: its slices written out, two boxes, its parts as steps. The plain law of the reference's Write: units one by one are the units at once. -/
import Derived.Test.YthfcmgbkhjnfjaaGreatDoorVK
import Derived.Test.YthfcmgbkhjnfjaaGreatDoorVE
import Derived.Test.YthfcmgbkhjnfjaaGreatDoorVJ
namespace Go.Proofs.YthfcmgbkhjnfjaaGreatDoor
open Go.RowKit Go.Maps

theorem set_one {w : World} {x i : Nat} {c c' : Array Value} {T : TypeId} (h : w.heap[x]? = some (.cells c T (0, 0))) (v : Value) (e : c.setIfInBounds i v = c') : (w.setCell ⟨x, i, none⟩ v).heap[x]? = some (.cells c' T (0, 0)) := by
  subst e
  simp [World.setCell, Array.getElem?_modify, h]
abbrev all9 (w : World) (x : Nat) (v0 v1 v2 v3 v4 v5 v6 v7 v8 : Value) : World := ((((((((w.setCell ⟨x, 0, none⟩ v0).setCell ⟨x, 1, none⟩ v1).setCell ⟨x, 2, none⟩ v2).setCell ⟨x, 3, none⟩ v3).setCell ⟨x, 4, none⟩ v4).setCell ⟨x, 5, none⟩ v5).setCell ⟨x, 6, none⟩ v6).setCell ⟨x, 7, none⟩ v7).setCell ⟨x, 8, none⟩ v8
/-- A whole disk is stored into a box. -/
theorem stored9 {w0 w : World} {x y : Nat} {a0 a1 a2 a3 a4 a5 a6 a7 a8 : Value} {T : TypeId} {o : Obj} (h : w.heap[x]? = some (.cells #[a0, a1, a2, a3, a4, a5, a6, a7, a8] T (0, 0))) (hy : w.heap[y]? = some o) (hne : y ≠ x) (hb : Below x w0 w) (v0 v1 v2 v3 v4 v5 v6 v7 v8 : Value) :
    (all9 w x v0 v1 v2 v3 v4 v5 v6 v7 v8).heap[x]? = some (.cells #[v0, v1, v2, v3, v4, v5, v6, v7, v8] T (0, 0)) ∧ (all9 w x v0 v1 v2 v3 v4 v5 v6 v7 v8).heap[y]? = some o ∧ Below x w0 (all9 w x v0 v1 v2 v3 v4 v5 v6 v7 v8) := by
  have h9 := set_one (i := 8) (set_one (i := 7) (set_one (i := 6) (set_one (i := 5) (set_one (i := 4) (set_one (i := 3) (set_one (i := 2) (set_one (i := 1) (set_one (i := 0) h v0 rfl) v1 rfl) v2 rfl) v3 rfl) v4 rfl) v5 rfl) v6 rfl) v7 rfl) v8 rfl
  refine ⟨by simpa using h9, ?_, ?_⟩
  · unfold all9
    rw [Below.heap_setCell _ _ _ _ hne, Below.heap_setCell _ _ _ _ hne, Below.heap_setCell _ _ _ _ hne, Below.heap_setCell _ _ _ _ hne, Below.heap_setCell _ _ _ _ hne, Below.heap_setCell _ _ _ _ hne, Below.heap_setCell _ _ _ _ hne, Below.heap_setCell _ _ _ _ hne, Below.heap_setCell _ _ _ _ hne]
    exact hy
  · exact ((((((((hb.setCell (Nat.le_refl _) _).setCell (Nat.le_refl _) _).setCell (Nat.le_refl _) _).setCell (Nat.le_refl _) _).setCell (Nat.le_refl _) _).setCell (Nat.le_refl _) _).setCell (Nat.le_refl _) _).setCell (Nat.le_refl _) _).setCell (Nat.le_refl _) _
/-- Two boxes. -/
theorem box_two {w W0 : World} {N : Nat} {o1 o2 : Obj} (h : (w.alloc o1).alloc o2 = W0) (hN : w.heap.size = N) : W0.heap[N]? = some o1 ∧ W0.heap[N + 1]? = some o2 ∧ Below N w W0 ∧ W0.heap.size = N + 1 + 1 := by
  subst h hN
  refine ⟨?_, ?_, ((Below.refl _ _).alloc (Nat.le_refl _) _).alloc (by simp) _, by simp⟩
  · rw [((Below.refl (w.heap.size + 1) (w.alloc o1)).alloc (by simp) o2).block w.heap.size (by omega)]
    exact heap_alloc_new w o1
  · have := heap_alloc_new (w.alloc o1) o2
    simpa using this
set_option maxRecDepth 20000 in
set_option maxHeartbeats 6400000 in
theorem syncDir_none (D : Dk) (R : RL) (w : World) (h : RAt w D R) (ok : D.Ok) (fo so wo ao : Option Addr) (fn fc sn sc wn wk an ac : Nat) (hsh : RSh R fo so wo ao fn fc sn sc wn wk an ac) (hg : D.gone = false) (hsp : D.spent 1 < 1) :
    Calls Tryz.prog 35 #[dval D fo so wo ao fn fc sn sc wn wk an ac] w (RefPost (D.spend 1) 3 w) := by
  have UN := Lib.hid (fun W => unit_ref D fo so wo ao fn fc sn sc wn wk an ac W ok.units0 (by have := ok.units1; omega) ok.left0 ok.left1)
  have hdec : (!decide (D.spent 1 < 1)) = false := by rw [decide_eq_true hsp]; rfl
  rw [hdec] at UN
  obtain ⟨u', hu'⟩ : ∃ u', (D.spend 1).units = u' := ⟨_, rfl⟩
  obtain ⟨l', hl'⟩ : ∃ l', (D.spend 1).left = l' := ⟨_, rfl⟩
  obtain ⟨a', ha'⟩ : ∃ a', (D.spend 1).armed = a' := ⟨_, rfl⟩
  obtain ⟨g', hg'⟩ : ∃ g', (D.spend 1).gone = g' := ⟨_, rfl⟩
  have hrm : (D.spend 1).room = D.room := rfl
  have HR : Hid (∀ w', Below w.heap.size w w' → IsR w' (.agg #[.int .i64 D.room, .slice fo fn fc, .slice so sn sc, .slice wo wn wk, .int .i64 u', .int .i64 l', .bool a', .bool g', .slice ao an ac]) (D.spend 1)) := Lib.hid fun w' hb => ⟨R, by rw [hsh.val, ← hu', ← hl', ← ha', ← hg']; rfl, (h.below hb).spend 1⟩
  unfold dval at UN ⊢
  rw [hu', hl', ha', hg', hrm] at UN
  rw [hg] at UN ⊢
  clear h hsh hu' hl' ha' hg' hrm
  obtain ⟨N, hN⟩ : ∃ N, w.heap.size = N := ⟨_, rfl⟩
  obtain ⟨W0, hW0⟩ : ∃ W0, (w.alloc (.cells #[.int .i64 D.room, .slice fo fn fc, .slice so sn sc, .slice wo wn wk, .int .i64 D.units, .int .i64 D.left, .bool D.armed, .bool false, .slice ao an ac] 37)).alloc (.cells #[.int .i64 0, .slice none 0 0, .slice none 0 0, .slice none 0 0, .int .i64 0, .int .i64 0, .bool false, .bool false, .slice none 0 0] 37) = W0 := ⟨_, rfl⟩
  obtain ⟨B0, B1, BB, hsz⟩ := box_two hW0 hN
  obtain ⟨⟨q0, q1, q2, q3, q4, q5, q6, q7, q8⟩, -⟩ := box9 B0
  have G0 := Lib.hid B0
  have G1 := Lib.hid B1
  have HBB := Lib.hid BB
  have hN1 : N < W0.heap.size := by omega
  have hN2 : N + 1 < W0.heap.size := by omega
  have HS := Lib.hid (And.intro hN1 hN2)
  clear B0 B1 BB hN1 hN2
  go_enter Tryz.func35, Tryz.ntmps35
  go_upto_region 3 with fail
  go_cut [4] (fun v4 wx => v4 = .bool false ∧ Hid (wx.heap[N]? = some (.cells #[.int .i64 D.room, .slice fo fn fc, .slice so sn sc, .slice wo wn wk, .int .i64 u', .int .i64 l', .bool a', .bool g', .slice ao an ac] 37 (0, 0)) ∧ wx.heap[N + 1]? = some (.cells #[.int .i64 0, .slice none 0 0, .slice none 0 0, .slice none 0 0, .int .i64 0, .int .i64 0, .bool false, .bool false, .slice none 0 0] 37 (0, 0)) ∧ Below N w wx))
  case first =>
    go_wp2_with fail
    refine (UN.out W0).mono ?_
    rintro e w1 ⟨rfl, hb1⟩
    obtain ⟨⟨c0, c1, c2, c3, c4, c5, c6, c7, c8⟩, f0, f1, f2, f3, f4, f5, f6, f7, f8⟩ := box9 ((hb1.block N HS.out.1).trans G0.out)
    have HF := Lib.hid (stored9 ((hb1.block N HS.out.1).trans G0.out) ((hb1.block (N + 1) HS.out.2).trans G1.out) (Nat.succ_ne_self N) (HBB.out.trans (hb1.mono (Nat.le_of_lt HS.out.1))) (.int .i64 D.room) (.slice fo fn fc) (.slice so sn sc) (.slice wo wn wk) (.int .i64 u') (.int .i64 l') (.bool a') (.bool g') (.slice ao an ac))
    clear hb1 q0 q1 q2 q3 q4 q5 q6 q7 q8 UN
    go_wp2_with fail
    go_meet
    exact ⟨rfl, HF⟩
  case rest =>
    obtain ⟨rfl, HF⟩ := hcut
    obtain ⟨E0, E1, EB⟩ := HF.out
    obtain ⟨⟨c0, c1, c2, c3, c4, c5, c6, c7, c8⟩, -⟩ := box9 E0
    obtain ⟨⟨d0, d1, d2, d3, d4, d5, d6, d7, d8⟩, e0, e1, e2, e3, e4, e5, e6, e7, e8⟩ := box9 E1
    have HB1 := Lib.hid EB
    clear q0 q1 q2 q3 q4 q5 q6 q7 q8 UN E0 E1 EB HF
    go_wp2_with fail
    refine bodyPost_ret (v := .tuple #[.agg #[.int .i64 D.room, .slice fo fn fc, .slice so sn sc, .slice wo wn wk, .int .i64 u', .int .i64 l', .bool a', .bool g', .slice ao an ac], .int .i64 3]) (by simp [results, Tryz.results35, go_sem, d0, d1, d2, d3, d4, d5, d6, d7, d8]) rfl ⟨_, rfl, HR.out _ ?_, ?_⟩
    all_goals
      rw [hN]
      repeat first | with_reducible exact HB1.out | with_reducible refine Below.setCell ?_ (show N ≤ N + 1 from Nat.le_add_right N 1) _
end Go.Proofs.YthfcmgbkhjnfjaaGreatDoor

namespace Go.Proofs.YthfcmgbkhjnfjaaGreatDoor
open Go.RowKit Go.Maps
attribute [local go_sem ↓] Go.wp_at_zero Go.wp_at_succ

def Dk.fileAt (D : Dk) (s : ByteArray) : Fl := D.files.getD (D.idx s) Fl.fresh
/-- The disk behind a write of n bytes that there was power for. -/
def Dk.wrote (D : Dk) (s text : ByteArray) (n : Int) : Dk :=
  if 0 < n then ((D.spend text.size).setFile (D.idx s) ((D.fileAt s).push ⟨text.extract 0 n.toNat, 0, false⟩)).did ⟨2, s, ⟨#[]⟩, text.extract 0 n.toNat, 0⟩ else D.spend text.size
def Dk.write (D : Dk) (s text : ByteArray) : Nat × Dk :=
  if D.fileN s ≠ 0 then (D.fileN s, D) else if D.free < text.size then (4, D) else
  (if D.spent text.size < text.size then 3 else 0, D.wrote s text (D.spent text.size))
theorem spent_bounds {D : Dk} {n : Int} (h0 : 0 ≤ D.left) (hn : 0 ≤ n) : 0 ≤ D.spent n ∧ D.spent n ≤ n := by
  unfold Dk.spent
  split
  · rename_i h; omega
  · omega
theorem below_one (w : World) (o : Obj) : Below w.heap.size w (w.alloc o).drew := ((Below.refl _ _).alloc (Nat.le_refl _) _).drew
set_option maxHeartbeats 3200000 in
set_option maxRecDepth 100000 in
theorem write_ok (s text : ByteArray) (hs : s.size ≤ 1000) (ht : text.size ≤ 1000000) (w : World) (ρ : Col) (b : Nat) (D : Dk) (L : Lay) (h : DiskAt w ρ b D L) (ok : D.Ok) (hr0 : 0 ≤ D.room) (hr1 : D.room ≤ 9223372036854775807) (h0 : D.fileN s = 0) (hfree : ¬ D.free < text.size) :
    Calls Tryz.prog 16 #[.pointer (some ⟨b, 0, none⟩), .string s, .string text] w fun e w' => e = .returned (errV (if D.spent text.size < text.size then 3 else 0)) ∧ Turned w ρ b (D.wrote s text (D.spent text.size)) w' := by
  have HD := Lib.hid h
  have OK := Lib.hid ok
  obtain ⟨h1, h2, f, F, h3, h4, h5⟩ := file_found' h ok h0
  have C := Lib.hid (file_ok s hs w ρ b D L h ok h1 h2 _ h5 f h3)
  have hFok := ok.files F (List.mem_of_getElem? h4)
  have hFA : D.fileAt s = F := by unfold Dk.fileAt; rw [List.getD_eq_getElem?_getD, h4]; rfl
  obtain ⟨hn0, hn1⟩ := spent_bounds (D := D) (n := text.size) ok.left0 (by omega)
  have hlf := ok.left1
  have hlf0 := ok.left0
  have hu0 := ok.units0
  have hu1 := ok.units1
  have SP := fun (w1 : World) (b1 : Below w.heap.size w w1) => spend_any text.size w1 ρ b D L (h.below b1) (by omega) (by omega) hu0 (by omega) hlf0 hlf
  have FR := fun (w1 : World) (b1 : Below w.heap.size w w1) => free_any w1 ρ b D L (h.below b1) ok hr0 hr1
  unfold Dk.wrote
  rw [hFA]
  generalize D.spent text.size = n at *
  have hwm : F.waits.length ≤ 10000000 := hFok.many
  obtain ⟨fr, hfr⟩ : ∃ fr, D.free = fr := ⟨_, rfl⟩
  rw [hfr] at FR hfree
  have hfree' : (text.size : Int) ≤ fr := by omega
  have SP' := Lib.hid SP
  have FR' := Lib.hid FR
  have H3 := Lib.hid h3
  have H4 := Lib.hid h4
  obtain ⟨i0, hi0, hz0, hz1, hz2⟩ := info_parts infoW
  clear h ok h0 h1 h2 h3 h4 h5 hFok hFA SP FR hfree hfr hlf hlf0 hu0 hu1
  have hacts := OK.out.acts
  by_cases hp : 0 < n
  · rw [if_pos hp]
    have hp1 : 1 ≤ n := hp
    have hlt : n.toNat ≤ text.size := by omega
    by_cases hlast : n < text.size
    · rw [if_pos hlast]
      go_enter Tryz.func16, Tryz.ntmps16
      go_wp2_with fail
      refine C.out.mono ?_
      rintro e w1 ⟨rfl, b1⟩
      have B1 := Lib.hid b1
      clear b1
      go_wp2_with fail
      refine (FR'.out w1 B1.out).mono ?_
      rintro e w2 ⟨rfl, b2⟩
      have B2 : Hid (Below w.heap.size w w2) := Lib.hid (B1.out.trans (b2.mono B1.out.size))
      clear b2
      go_wp2_with fail
      refine (SP'.out w2 B2.out).mono ?_
      rintro e w3 ⟨rfl, d3, k3⟩
      have D3 := Lib.hid d3
      have KW : Hid (Kept ρ w w3) := Lib.hid ((Kept.below B2.out).then k3.wide)
      have fa := d3.files _ f F H3.out H4.out
      have hfl := fa.1.lt
      obtain ⟨-, c1, -, f1⟩ := fa.cells
      have hown := fa.2.1
      have hne : f.2.ownBlock ≠ some f.1 := fun e => by have := fa.2.2 f.1 e; rw [fa.1.2] at this; simp at this
      clear d3 k3 fa
      go_wp2_with fail
      go_region_law
        ((refine step_append_lies _ (by rfl) _ _ _ (by rfl) 0 103 i0 _ 3 32 Tryz.underlying98 hi0 hz0 hz1 hz2 rfl (by omega) f.2 F.waits.length (F.waits.flatMap Wt.cells) (by rfl) ((hown.alloc _).drew)
              ⟨w3.heap.size, 0, none⟩ 1 1 (Wt.cells ⟨text.extract 0 n.toNat, 0, false⟩) (by rfl) (by rfl) (World.news_of_block (cs := (Wt.cells ⟨text.extract 0 n.toNat, 0, false⟩).toArray) (t := 103) (fr := (0, 0)) (heap_alloc_new w3 _)) (by simp [Wt.cells, Value.oneCell'])
              (by omega) (by unfold maxLen; omega) (by omega) (by simp) (w3.heap.size + 1) (by simp) ?_; intro gg cap w4 hown1 hgrow hat hltg; have g1 : w4.frozen? ⟨f.1, 1, none⟩ = false := (hgrow.frozen_far _ (by simp; omega) (Ne.symm hne)).trans (((below_one w3 _).frozen (p := ⟨f.1, 1, none⟩) hfl).trans f1); have k1 : w4.cell? ⟨f.1, 1, none⟩ = some f.2 := (hgrow.cell_far _ (by simp; omega) (Ne.symm hne)).trans (((below_one w3 _).cell (p := ⟨f.1, 1, none⟩) hfl).trans c1)))
      all_goals
        have T5 := Lib.hid (turned_push D3.out H3.out H4.out (below_one w3 _) ⟨text.extract 0 n.toNat, 0, false⟩ hown1 hgrow (by rcases hat with hat | hat; exact .inl hat; exact .inr (by rw [hat]; simp)) hltg)
        clear hown1 hgrow hat hltg g1 k1 c1 f1 hown hne hi0 hz0 hz1 hz2
        go_wp2_with fail
        obtain ⟨ρ5, ⟨L5, d5⟩, e5, k5⟩ := T5.out
        refine (did_any ⟨2, s, ⟨#[]⟩, text.extract 0 n.toNat, 0⟩ _ ρ5 b _ L5 d5 (Nat.le_trans hacts (by omega))).mono ?_
        rintro e w7 ⟨rfl, T7⟩
        have T7' := Lib.hid (Turned.next e5 k5 T7)
        clear T7 d5 e5 k5 T5
        go_wp2_with fail
        go_ret
        exact ⟨rfl, Turned.next (Ext.refl _ _) KW.out T7'.out⟩
    · have hlast' : (text.size : Int) ≤ n := by omega
      rw [if_neg hlast]
      go_enter Tryz.func16, Tryz.ntmps16
      go_wp2_with fail
      refine C.out.mono ?_
      rintro e w1 ⟨rfl, b1⟩
      have B1 := Lib.hid b1
      clear b1
      go_wp2_with fail
      refine (FR'.out w1 B1.out).mono ?_
      rintro e w2 ⟨rfl, b2⟩
      have B2 : Hid (Below w.heap.size w w2) := Lib.hid (B1.out.trans (b2.mono B1.out.size))
      clear b2
      go_wp2_with fail
      refine (SP'.out w2 B2.out).mono ?_
      rintro e w3 ⟨rfl, d3, k3⟩
      have D3 := Lib.hid d3
      have KW : Hid (Kept ρ w w3) := Lib.hid ((Kept.below B2.out).then k3.wide)
      have fa := d3.files _ f F H3.out H4.out
      have hfl := fa.1.lt
      obtain ⟨-, c1, -, f1⟩ := fa.cells
      have hown := fa.2.1
      have hne : f.2.ownBlock ≠ some f.1 := fun e => by have := fa.2.2 f.1 e; rw [fa.1.2] at this; simp at this
      clear d3 k3 fa
      go_wp2_with fail
      go_region_law
        ((refine step_append_lies _ (by rfl) _ _ _ (by rfl) 0 103 i0 _ 3 32 Tryz.underlying98 hi0 hz0 hz1 hz2 rfl (by omega) f.2 F.waits.length (F.waits.flatMap Wt.cells) (by rfl) ((hown.alloc _).drew)
              ⟨w3.heap.size, 0, none⟩ 1 1 (Wt.cells ⟨text.extract 0 n.toNat, 0, false⟩) (by rfl) (by rfl) (World.news_of_block (cs := (Wt.cells ⟨text.extract 0 n.toNat, 0, false⟩).toArray) (t := 103) (fr := (0, 0)) (heap_alloc_new w3 _)) (by simp [Wt.cells, Value.oneCell'])
              (by omega) (by unfold maxLen; omega) (by omega) (by simp) (w3.heap.size + 1) (by simp) ?_; intro gg cap w4 hown1 hgrow hat hltg; have g1 : w4.frozen? ⟨f.1, 1, none⟩ = false := (hgrow.frozen_far _ (by simp; omega) (Ne.symm hne)).trans (((below_one w3 _).frozen (p := ⟨f.1, 1, none⟩) hfl).trans f1); have k1 : w4.cell? ⟨f.1, 1, none⟩ = some f.2 := (hgrow.cell_far _ (by simp; omega) (Ne.symm hne)).trans (((below_one w3 _).cell (p := ⟨f.1, 1, none⟩) hfl).trans c1)))
      all_goals
        have T5 := Lib.hid (turned_push D3.out H3.out H4.out (below_one w3 _) ⟨text.extract 0 n.toNat, 0, false⟩ hown1 hgrow (by rcases hat with hat | hat; exact .inl hat; exact .inr (by rw [hat]; simp)) hltg)
        clear hown1 hgrow hat hltg g1 k1 c1 f1 hown hne hi0 hz0 hz1 hz2
        go_wp2_with fail
        obtain ⟨ρ5, ⟨L5, d5⟩, e5, k5⟩ := T5.out
        refine (did_any ⟨2, s, ⟨#[]⟩, text.extract 0 n.toNat, 0⟩ _ ρ5 b _ L5 d5 (Nat.le_trans hacts (by omega))).mono ?_
        rintro e w7 ⟨rfl, T7⟩
        have T7' := Lib.hid (Turned.next e5 k5 T7)
        clear T7 d5 e5 k5 T5
        go_wp2_with fail
        go_ret
        exact ⟨rfl, Turned.next (Ext.refl _ _) KW.out T7'.out⟩
  · rw [if_neg hp]
    have hp1 : n = 0 := by omega
    clear hi0 hz0 hz1 hz2 hp hn0 hn1
    subst hp1
    by_cases hlast : (0 : Int) < text.size
    · rw [if_pos hlast]
      go_enter Tryz.func16, Tryz.ntmps16
      go_wp2_with fail
      refine C.out.mono ?_
      rintro e w1 ⟨rfl, b1⟩
      have B1 := Lib.hid b1
      clear b1
      go_wp2_with fail
      refine (FR'.out w1 B1.out).mono ?_
      rintro e w2 ⟨rfl, b2⟩
      have B2 : Hid (Below w.heap.size w w2) := Lib.hid (B1.out.trans (b2.mono B1.out.size))
      clear b2
      go_wp2_with fail
      refine (SP'.out w2 B2.out).mono ?_
      rintro e w3 ⟨rfl, d3, k3⟩
      have T3 := Lib.hid (Turned.of0 B2.out d3 k3)
      clear d3 k3
      go_wp2_with fail
      go_ret
      exact ⟨rfl, T3.out⟩
    · have hlast' : (text.size : Int) ≤ 0 := by omega
      rw [if_neg hlast]
      go_enter Tryz.func16, Tryz.ntmps16
      go_wp2_with fail
      refine C.out.mono ?_
      rintro e w1 ⟨rfl, b1⟩
      have B1 := Lib.hid b1
      clear b1
      go_wp2_with fail
      refine (FR'.out w1 B1.out).mono ?_
      rintro e w2 ⟨rfl, b2⟩
      have B2 : Hid (Below w.heap.size w w2) := Lib.hid (B1.out.trans (b2.mono B1.out.size))
      clear b2
      go_wp2_with fail
      refine (SP'.out w2 B2.out).mono ?_
      rintro e w3 ⟨rfl, d3, k3⟩
      have T3 := Lib.hid (Turned.of0 B2.out d3 k3)
      clear d3 k3
      go_wp2_with fail
      go_ret
      exact ⟨rfl, T3.out⟩
set_option maxHeartbeats 1600000 in
set_option maxRecDepth 20000 in
theorem write_any (s text : ByteArray) (hs : s.size ≤ 1000) (ht : text.size ≤ 1000000) (w : World) (ρ : Col) (b : Nat) (D : Dk) (L : Lay) (h : DiskAt w ρ b D L) (ok : D.Ok) (hr0 : 0 ≤ D.room) (hr1 : D.room ≤ 9223372036854775807) :
    Calls Tryz.prog 16 #[.pointer (some ⟨b, 0, none⟩), .string s, .string text] w fun e w' => e = .returned (errV (D.write s text).1) ∧ Turned w ρ b (D.write s text).2 w' := by
  by_cases h0 : D.fileN s = 0
  · by_cases hfree : D.free < text.size
    · have hr : Hid (D.write s text = (4, D)) := Lib.hid (by unfold Dk.write; rw [if_neg (by omega), if_pos hfree])
      rw [hr.out]
      obtain ⟨h1, h2, f, F, h3, h4, h5⟩ := file_found' h ok h0
      have C := Lib.hid (file_ok s hs w ρ b D L h ok h1 h2 _ h5 f h3)
      have HD := Lib.hid h
      have FR := fun (w1 : World) (b1 : Below w.heap.size w w1) => free_any w1 ρ b D L (h.below b1) ok hr0 hr1
      obtain ⟨fr, hfr⟩ : ∃ fr, D.free = fr := ⟨_, rfl⟩
      rw [hfr] at FR hfree
      have FR' := Lib.hid FR
      clear h ok h0 h1 h2 h3 h4 h5 hfr FR hr
      go_enter Tryz.func16, Tryz.ntmps16
      go_wp2_with fail
      refine C.out.mono ?_
      rintro e w1 ⟨rfl, b1⟩
      have B1 := Lib.hid b1
      clear b1
      go_wp2_with fail
      refine (FR'.out w1 B1.out).mono ?_
      rintro e w2 ⟨rfl, b2⟩
      have B2 : Hid (Below w.heap.size w w2) := Lib.hid (B1.out.trans (b2.mono B1.out.size))
      clear b2
      go_wp2_with fail
      go_ret
      exact ⟨rfl, Turned.same ⟨L, HD.out⟩ B2.out⟩
    · have hr : Hid (D.write s text = (if D.spent text.size < text.size then 3 else 0, D.wrote s text (D.spent text.size))) := Lib.hid (by unfold Dk.write; rw [if_neg (by omega), if_neg hfree])
      rw [hr.out]
      exact write_ok s text hs ht w ρ b D L h ok hr0 hr1 h0 hfree
  · have hr : Hid (D.write s text = (D.fileN s, D)) := Lib.hid (by unfold Dk.write; rw [if_pos h0])
    rw [hr.out]
    have C0 := file_err s hs w ρ b D L h ok h0
    rw [errV_pos h0] at C0
    have C := Lib.hid C0
    have EV := Lib.hid (errV_pos h0)
    have HD := Lib.hid h
    clear h ok h0 C0
    go_enter Tryz.func16, Tryz.ntmps16
    go_wp2_with fail
    refine C.out.mono ?_
    rintro e w1 ⟨rfl, b1⟩
    have B1 := Lib.hid b1
    clear b1
    go_wp2_with fail
    go_ret
    exact ⟨by rw [EV.out]; rfl, Turned.same ⟨L, HD.out⟩ B1.out⟩
end Go.Proofs.YthfcmgbkhjnfjaaGreatDoor

namespace Go.Proofs.YthfcmgbkhjnfjaaGreatDoor
open Go.RowKit Go.Maps

/-- A row of another type than a box's stands when the box is stored into. -/
theorem own_box {W W' : World} {e T : TypeId} {size n x : Nat} {v : Value} {xs : List Value} {cs : Array Value} (h : W.ownsRow 0 e size v n xs) (hx : W.heap[x]? = some (.cells cs T (0, 0))) (hT : T ≠ e) (hk : ∀ g, g ≠ x → W'.heap[g]? = W.heap[g]?) : W'.ownsRow 0 e size v n xs :=
  ownsRow_of_block h fun g hg => hk g fun e' => by
    subst e'
    rcases h.2 with ⟨h1, -⟩ | ⟨g', c', cur, h1, h2, h3, -⟩
    · rw [h1] at hg; cases hg
    · rw [h1] at hg
      injection hg with hg
      subst hg
      rw [hx] at h3
      injection h3 with h3
      injection h3 with _ h3
      exact hT h3
theorem heap_size_of {w : World} {x : Nat} {o : Obj} (h : w.heap[x]? = some o) : x < w.heap.size := (Array.getElem?_eq_some_iff.1 h).1
theorem okSpend {D : Dk} (ok : D.Ok) (hu : D.units ≤ 90000000) (hsp : ¬ D.spent 1 < 1) : (D.spend 1).Ok where
  points := ok.points
  waits := ok.waits
  fits := ok.fits
  names := ok.names
  many := ok.many
  files := ok.files
  lots := ok.lots
  acts := ok.acts
  units0 := by have := ok.units0; have h2 := spent_bounds (D := D) (n := 1) ok.left0 (by decide); show 0 ≤ D.units + D.spent 1; omega
  units1 := by have := ok.units0; have h2 := spent_bounds (D := D) (n := 1) ok.left0 (by decide); show D.units + D.spent 1 ≤ _; omega
  left0 := by
    have := ok.left0
    show 0 ≤ if D.armed = true then D.left - D.spent 1 else D.left
    split
    · rename_i ha
      unfold Dk.spent
      split
      · omega
      · rename_i hx; have : ¬ D.left < 1 := fun hl => hx ⟨ha, hl⟩; omega
    · omega
  left1 := by
    have := ok.left1
    have h2 := spent_bounds (D := D) (n := 1) ok.left0 (by decide)
    show (if D.armed = true then D.left - D.spent 1 else D.left) ≤ _
    split <;> omega
theorem all9_heap (w : World) (x : Nat) (v0 v1 v2 v3 v4 v5 v6 v7 v8 : Value) (g : Nat) (hg : g ≠ x) : (all9 w x v0 v1 v2 v3 v4 v5 v6 v7 v8).heap[g]? = w.heap[g]? := by
  unfold all9
  rw [Below.heap_setCell _ _ _ _ hg, Below.heap_setCell _ _ _ _ hg, Below.heap_setCell _ _ _ _ hg, Below.heap_setCell _ _ _ _ hg, Below.heap_setCell _ _ _ _ hg, Below.heap_setCell _ _ _ _ hg, Below.heap_setCell _ _ _ _ hg, Below.heap_setCell _ _ _ _ hg, Below.heap_setCell _ _ _ _ hg]
theorem below_all9 {B x : Nat} {w0 w : World} (h : Below B w0 w) (hx : B ≤ x) (v0 v1 v2 v3 v4 v5 v6 v7 v8 : Value) : Below B w0 (all9 w x v0 v1 v2 v3 v4 v5 v6 v7 v8) :=
  ((((((((h.setCell hx _).setCell hx _).setCell hx _).setCell hx _).setCell hx _).setCell hx _).setCell hx _).setCell hx _).setCell hx _
/-- A store into a box: a row of names. -/
theorem stored_named {w0 w : World} {x y : Nat} {a0 a1 a2 a3 a4 a5 a6 a7 a8 : Value} {T : TypeId} {o : Obj} (h : w.heap[x]? = some (.cells #[a0, a1, a2, a3, a4, a5, a6, a7, a8] T (0, 0))) (hy : w.heap[y]? = some o) (hne : y ≠ x) (hb : Below x w0 w) (v2 : Value) :
    (w.setCell ⟨x, 2, none⟩ v2).heap[x]? = some (.cells #[a0, a1, v2, a3, a4, a5, a6, a7, a8] T (0, 0)) ∧ (w.setCell ⟨x, 2, none⟩ v2).heap[y]? = some o ∧ Below x w0 (w.setCell ⟨x, 2, none⟩ v2) :=
  ⟨set_one (i := 2) h v2 rfl, (Below.heap_setCell _ _ _ _ hne).trans hy, hb.setCell (Nat.le_refl _) _⟩
set_option maxRecDepth 20000 in
set_option maxHeartbeats 6400000 in
theorem syncDir_ok (D : Dk) (R : RL) (w : World) (h : RAt w D R) (ok : D.Ok) (hu : D.units ≤ 90000000) (fo so wo ao : Option Addr) (fn fc sn sc wn wk an ac : Nat) (hsh : RSh R fo so wo ao fn fc sn sc wn wk an ac) (hg : D.gone = false) (hsp : ¬ D.spent 1 < 1) :
    Calls Tryz.prog 35 #[dval D fo so wo ao fn fc sn sc wn wk an ac] w (RefPost (((D.spend 1).named D.dirOf).did ⟨7, ⟨#[]⟩, ⟨#[]⟩, ⟨#[]⟩, 0⟩) 0 w) := by
  have UN := Lib.hid (fun W => unit_ref D fo so wo ao fn fc sn sc wn wk an ac W ok.units0 (by have := ok.units1; omega) ok.left0 ok.left1)
  have hdec : (!decide (D.spent 1 < 1)) = true := by rw [decide_eq_false hsp]; rfl
  rw [hdec] at UN
  obtain ⟨u', hu'⟩ : ∃ u', (D.spend 1).units = u' := ⟨_, rfl⟩
  obtain ⟨l', hl'⟩ : ∃ l', (D.spend 1).left = l' := ⟨_, rfl⟩
  obtain ⟨a', ha'⟩ : ∃ a', (D.spend 1).armed = a' := ⟨_, rfl⟩
  obtain ⟨g', hg'⟩ : ∃ g', (D.spend 1).gone = g' := ⟨_, rfl⟩
  have hrm : (D.spend 1).room = D.room := rfl
  have HR : Hid (∀ w' uo uc v, EntsAt w' (.slice uo (playL R.ls D.waits).length uc) (playL R.ls D.waits) → ActsAt w' v (D.acts ++ [⟨7, ⟨#[]⟩, ⟨#[]⟩, ⟨#[]⟩, 0⟩]) → Below w.heap.size w w' → IsR w' (.agg #[.int .i64 D.room, .slice fo fn fc, .slice uo (playL R.ls D.waits).length uc, .slice none 0 0, .int .i64 u', .int .i64 l', .bool a', .bool g', v]) (((D.spend 1).named D.dirOf).did ⟨7, ⟨#[]⟩, ⟨#[]⟩, ⟨#[]⟩, 0⟩)) := Lib.hid fun w' uo uc v h1 h2 hb => by
    have hn := (((h.below hb).spend 1).named (playL_null D.waits h.null) h1 (playL_pts D.waits h.pts ok.waits)).did ⟨7, ⟨#[]⟩, ⟨#[]⟩, ⟨#[]⟩, 0⟩ (v := v) h2
    rw [← h.seen] at hn
    refine ⟨_, ?_, hn⟩
    show _ = RL.val _ _
    unfold RL.val
    rw [← hu', ← hl', ← ha', ← hg', ← hsh.f]
    rfl
  have DR := Lib.hid (fun W (hb : Below w.heap.size w W) => dir_ref (D.spend 1) R W ((h.below hb).spend 1) (okSpend ok hu hsp))
  rw [hsh.f, hsh.s, hsh.w, hsh.a, hu', hl', ha', hg', hrm] at DR
  have HAA : Hid (ActsAt w (.slice ao an ac) D.acts) := Lib.hid (by rw [← hsh.a]; exact h.aa)
  have hac := ok.acts
  unfold dval at UN ⊢
  rw [hu', hl', ha', hg', hrm] at UN
  rw [hg] at UN ⊢
  clear h hsh hu' hl' ha' hg' hrm
  obtain ⟨N, hN⟩ : ∃ N, w.heap.size = N := ⟨_, rfl⟩
  obtain ⟨W0, hW0⟩ : ∃ W0, (w.alloc (.cells #[.int .i64 D.room, .slice fo fn fc, .slice so sn sc, .slice wo wn wk, .int .i64 D.units, .int .i64 D.left, .bool D.armed, .bool false, .slice ao an ac] 37)).alloc (.cells #[.int .i64 0, .slice none 0 0, .slice none 0 0, .slice none 0 0, .int .i64 0, .int .i64 0, .bool false, .bool false, .slice none 0 0] 37) = W0 := ⟨_, rfl⟩
  obtain ⟨B0, B1, BB, hsz⟩ := box_two hW0 hN
  obtain ⟨⟨q0, q1, q2, q3, q4, q5, q6, q7, q8⟩, -⟩ := box9 B0
  have G0 := Lib.hid B0
  have G1 := Lib.hid B1
  have HBB := Lib.hid BB
  have hN1 : N < W0.heap.size := by omega
  have hN2 : N + 1 < W0.heap.size := by omega
  have HS := Lib.hid (And.intro hN1 hN2)
  clear B0 B1 BB hN1 hN2
  go_enter Tryz.func35, Tryz.ntmps35
  go_upto_region 3 with fail
  go_cut [4] (fun v4 wx => v4 = .bool true ∧ Hid (wx.heap[N]? = some (.cells #[.int .i64 D.room, .slice fo fn fc, .slice so sn sc, .slice wo wn wk, .int .i64 u', .int .i64 l', .bool a', .bool g', .slice ao an ac] 37 (0, 0)) ∧ wx.heap[N + 1]? = some (.cells #[.int .i64 0, .slice none 0 0, .slice none 0 0, .slice none 0 0, .int .i64 0, .int .i64 0, .bool false, .bool false, .slice none 0 0] 37 (0, 0)) ∧ Below N w wx))
  case first =>
    go_wp2_with fail
    refine (UN.out W0).mono ?_
    rintro e w1 ⟨rfl, hb1⟩
    obtain ⟨⟨c0, c1, c2, c3, c4, c5, c6, c7, c8⟩, f0, f1, f2, f3, f4, f5, f6, f7, f8⟩ := box9 ((hb1.block N HS.out.1).trans G0.out)
    have HF := Lib.hid (stored9 ((hb1.block N HS.out.1).trans G0.out) ((hb1.block (N + 1) HS.out.2).trans G1.out) (Nat.succ_ne_self N) (HBB.out.trans (hb1.mono (Nat.le_of_lt HS.out.1))) (.int .i64 D.room) (.slice fo fn fc) (.slice so sn sc) (.slice wo wn wk) (.int .i64 u') (.int .i64 l') (.bool a') (.bool g') (.slice ao an ac))
    clear hb1 q0 q1 q2 q3 q4 q5 q6 q7 q8 UN
    go_wp2_with fail
    go_meet
    exact ⟨rfl, HF⟩
  case rest =>
    obtain ⟨rfl, HF⟩ := hcut
    obtain ⟨E0, E1, EB⟩ := HF.out
    obtain ⟨⟨c0, c1, c2, c3, c4, c5, c6, c7, c8⟩, -⟩ := box9 E0
    have DR1 := Lib.hid (DR.out wc (by rw [hN]; exact EB))
    clear q0 q1 q2 q3 q4 q5 q6 q7 q8 UN E0 E1 EB DR
    go_upto_region 6 with fail
    clear c0 c1 c3 c4 c5 c6 c7 c8 c2
    go_cut [] (fun wx => ∃ uo uc, Hid (wx.heap[N]? = some (.cells #[.int .i64 D.room, .slice fo fn fc, .slice uo (playL R.ls D.waits).length uc, .slice wo wn wk, .int .i64 u', .int .i64 l', .bool a', .bool g', .slice ao an ac] 37 (0, 0)) ∧ wx.heap[N + 1]? = some (.cells #[.int .i64 0, .slice none 0 0, .slice none 0 0, .slice none 0 0, .int .i64 0, .int .i64 0, .bool false, .bool false, .slice none 0 0] 37 (0, 0)) ∧ Below N w wx ∧ EntsAt wx (.slice uo (playL R.ls D.waits).length uc) (playL R.ls D.waits)))
    case first =>
      obtain ⟨E0, E1, EB⟩ := HF.out
      obtain ⟨⟨c0, c1, c2, c3, c4, c5, c6, c7, c8⟩, -⟩ := box9 E0
      clear E0 E1 EB
      go_wp2_with fail
      refine DR1.out.mono ?_
      rintro e w1 ⟨u, rfl, hu, hb1⟩
      obtain ⟨uo, uc, rfl⟩ := own_shape0 hu
      obtain ⟨E0, E1, EB⟩ := HF.out
      have hs0 := heap_size_of E0
      have K0 := (hb1.block N hs0).trans E0
      have K1 := (hb1.block (N + 1) (heap_size_of E1)).trans E1
      have K := Lib.hid (stored_named K0 K1 (Nat.succ_ne_self N) (EB.trans (hb1.mono (Nat.le_of_lt hs0))) (.slice uo (playL R.ls D.waits).length uc))
      have KO : Hid (EntsAt (w1.setCell ⟨N, 2, none⟩ (.slice uo (playL R.ls D.waits).length uc)) (.slice uo (playL R.ls D.waits).length uc) (playL R.ls D.waits)) := Lib.hid (own_box hu K0 (by decide) fun g hg => Below.heap_setCell _ _ _ _ hg)
      obtain ⟨⟨d0, d1, d2, d3, d4, d5, d6, d7, d8⟩, e0, e1, e2, e3, e4, e5, e6, e7, e8⟩ := box9 K0
      clear E0 E1 EB K0 K1 hu hb1 c0 c1 c2 c3 c4 c5 c6 c7 c8 DR1 HF
      go_wp2_with fail
      go_meet
      exact ⟨_, _, Lib.hid ⟨K.out.1, K.out.2.1, K.out.2.2, KO.out⟩⟩
    case rest =>
      obtain ⟨uo, uc, HK⟩ := hcut
      obtain ⟨K0, K1, KB, KO⟩ := HK.out
      obtain ⟨⟨d0, d1, d2, d3, d4, d5, d6, d7, d8⟩, e0, e1, e2, e3, e4, e5, e6, e7, e8⟩ := box9 K0
      have HM : Hid ((wc.setCell ⟨N, 3, none⟩ (.slice none 0 0)).heap[N]? = some (.cells #[.int .i64 D.room, .slice fo fn fc, .slice uo (playL R.ls D.waits).length uc, .slice none 0 0, .int .i64 u', .int .i64 l', .bool a', .bool g', .slice ao an ac] 37 (0, 0)) ∧ (wc.setCell ⟨N, 3, none⟩ (.slice none 0 0)).heap[N + 1]? = some (.cells #[.int .i64 0, .slice none 0 0, .slice none 0 0, .slice none 0 0, .int .i64 0, .int .i64 0, .bool false, .bool false, .slice none 0 0] 37 (0, 0)) ∧ Below N w (wc.setCell ⟨N, 3, none⟩ (.slice none 0 0)) ∧ EntsAt (wc.setCell ⟨N, 3, none⟩ (.slice none 0 0)) (.slice uo (playL R.ls D.waits).length uc) (playL R.ls D.waits)) :=
        Lib.hid ⟨set_one (i := 3) K0 _ rfl, (Below.heap_setCell _ _ _ _ (Nat.succ_ne_self N)).trans K1, KB.setCell (Nat.le_refl _) _, own_box KO K0 (by decide) fun g hg => Below.heap_setCell _ _ _ _ hg⟩
      clear K0 K1 KB KO HK DR1 HF d0 d1 d2 d4 d5 d6 d7 d8 e0 e1 e2 e4 e5 e6 e7 e8
      go_upto_region 7 with fail
      go_cut [] (fun wx => ∃ un, (playL R.ls D.waits).length = un ∧ Hid (wx.heap[N]? = some (.cells #[.int .i64 D.room, .slice fo fn fc, .slice uo un uc, .slice none 0 0, .int .i64 u', .int .i64 l', .bool a', .bool g', .slice ao an ac] 37 (0, 0)) ∧ wx.heap[N + 1]? = some (.cells #[.int .i64 0, .slice none 0 0, .slice none 0 0, .slice none 0 0, .int .i64 0, .int .i64 0, .bool false, .bool false, .slice none 0 0] 37 (0, 0)) ∧ Below N w wx ∧ EntsAt wx (.slice uo un uc) (playL R.ls D.waits)))
      case first =>
        go_wp2_with fail
        go_meet
        exact ⟨_, rfl, HM⟩
      case rest =>
        obtain ⟨un, hun, HQ⟩ := hcut
        obtain ⟨K0, K1, KB, KO⟩ := HQ.out
        obtain ⟨⟨c0, c1, c2, c3, c4, c5, c6, c7, c8⟩, -⟩ := box9 K0
        have DI := Lib.hid (did_ref D.room u' l' a' g' fo uo none ao fn fc un uc 0 0 an ac D.acts ⟨7, ⟨#[]⟩, ⟨#[]⟩, ⟨#[]⟩, 0⟩ wc (own0_below HAA.out (by rw [hN]; exact KB)) (by omega))
        clear HM K0 K1 KB KO d3 e3
        go_wp2_with fail
        refine DI.out.mono ?_
        rintro e w1 ⟨v, rfl, hv, hb1⟩
        obtain ⟨vo, vc, rfl⟩ := own_shape0 hv
        obtain ⟨K0, K1, KB, KO⟩ := HQ.out
        obtain ⟨am, ham⟩ : ∃ am, (D.acts ++ [(⟨7, ⟨#[]⟩, ⟨#[]⟩, ⟨#[]⟩, 0⟩ : Ac)]).length = am := ⟨_, rfl⟩
        rw [ham] at hv ⊢
        have L1 := (hb1.block (N + 1) (heap_size_of K1)).trans K1
        have FE : Hid (∀ w', w' = (all9 w1 (N + 1) (.int .i64 D.room) (.slice fo fn fc) (.slice uo un uc) (.slice none 0 0) (.int .i64 u') (.int .i64 l') (.bool a') (.bool g') (.slice vo am vc)) → IsR w' (.agg #[.int .i64 D.room, .slice fo fn fc, .slice uo un uc, .slice none 0 0, .int .i64 u', .int .i64 l', .bool a', .bool g', .slice vo am vc]) (((D.spend 1).named D.dirOf).did ⟨7, ⟨#[]⟩, ⟨#[]⟩, ⟨#[]⟩, 0⟩) ∧ Below N w w') := Lib.hid (by
          rintro w' rfl
          have hB := below_all9 (x := N + 1) (KB.trans (hb1.mono (Nat.le_of_lt (heap_size_of K0)))) (Nat.le_succ N) (.int .i64 D.room) (.slice fo fn fc) (.slice uo un uc) (.slice none 0 0) (.int .i64 u') (.int .i64 l') (.bool a') (.bool g') (.slice vo am vc)
          refine ⟨?_, hB⟩
          rw [← hun]
          refine HR.out _ _ _ _ ?_ ?_ (by rw [hN, hun]; exact hB)
          · rw [hun]; exact own_box (own0_below KO hb1) L1 (by decide) fun g hg => all9_heap _ _ _ _ _ _ _ _ _ _ _ g hg
          · rw [hun]; exact own_box hv L1 (by decide) fun g hg => all9_heap _ _ _ _ _ _ _ _ _ _ _ g hg)
        obtain ⟨⟨z0, z1, z2, z3, z4, z5, z6, z7, z8⟩, y0, y1, y2, y3, y4, y5, y6, y7, y8⟩ := box9 L1
        clear L1 hv hb1 K0 K1 KB KO c0 c1 c2 c3 c4 c5 c6 c7 c8 DI ham hun HQ
        go_wp2_with fail
        refine bodyPost_ret (v := .tuple #[.agg #[.int .i64 D.room, .slice fo fn fc, .slice uo un uc, .slice none 0 0, .int .i64 u', .int .i64 l', .bool a', .bool g', .slice vo am vc], .int .i64 0]) (by simp [results, Tryz.results35, go_sem, z0, z1, z2, z3, z4, z5, z6, z7, z8]) rfl ⟨_, rfl, (FE.out _ rfl).1, ?_⟩
        rw [hN]
        exact (FE.out _ rfl).2
end Go.Proofs.YthfcmgbkhjnfjaaGreatDoor

namespace Go.Proofs.YthfcmgbkhjnfjaaGreatDoor
open Go.RowKit Go.Maps

/-- The slices of a disk's rows. -/
structure Sh where
  fo : Option Addr
  fn : Nat
  fc : Nat
  so : Option Addr
  sn : Nat
  sc : Nat
  wo : Option Addr
  wn : Nat
  wk : Nat
  ao : Option Addr
  an : Nat
  ac : Nat
abbrev dv (D : Dk) (S : Sh) : Value := .agg #[.int .i64 D.room, .slice S.fo S.fn S.fc, .slice S.so S.sn S.sc, .slice S.wo S.wn S.wk, .int .i64 D.units, .int .i64 D.left, .bool D.armed, .bool D.gone, .slice S.ao S.an S.ac]
abbrev dc (D : Dk) (S : Sh) : Array Value := #[.int .i64 D.room, .slice S.fo S.fn S.fc, .slice S.so S.sn S.sc, .slice S.wo S.wn S.wk, .int .i64 D.units, .int .i64 D.left, .bool D.armed, .bool D.gone, .slice S.ao S.an S.ac]
abbrev zc : Array Value := #[.int .i64 0, .slice none 0 0, .slice none 0 0, .slice none 0 0, .int .i64 0, .int .i64 0, .bool false, .bool false, .slice none 0 0]
/-- The disk D by its slices. -/
structure IsD (w : World) (D : Dk) (S : Sh) : Prop where
  ex : ∃ R : RL, RSh R S.fo S.so S.wo S.ao S.fn S.fc S.sn S.sc S.wn S.wk S.an S.ac ∧ RAt w D R
theorem IsD.below {w w' : World} {D : Dk} {S : Sh} (h : IsD w D S) (hb : Below w.heap.size w w') : IsD w' D S := let ⟨R, h1, h2⟩ := h.ex; ⟨R, h1, h2.below hb⟩
theorem RAt.isD {w : World} {D : Dk} {R : RL} (h : RAt w D R) : ∃ S : Sh, R.val D = dv D S ∧ IsD w D S := by
  obtain ⟨fo, so, wo, ao, fn, fc, sn, sc, wn, wc, an, ac, h1, -⟩ := h.shapes
  exact ⟨⟨fo, fn, fc, so, sn, sc, wo, wn, wc, ao, an, ac⟩, h1.val D, ⟨R, h1, h⟩⟩
theorem IsR.isD {w : World} {v : Value} {D : Dk} (h : IsR w v D) : ∃ S : Sh, v = dv D S ∧ IsD w D S := by
  obtain ⟨R, rfl, h2⟩ := h
  exact h2.isD
theorem IsD.spend {w : World} {D : Dk} {S : Sh} (h : IsD w D S) (m : Int) : IsD w (D.spend m) S := let ⟨R, h1, h2⟩ := h.ex; ⟨R, h1, h2.spend m⟩
theorem IsD.fn {w : World} {D : Dk} {S : Sh} (h : IsD w D S) : S.fn = D.files.length := by
  obtain ⟨R, h1, h2⟩ := h.ex
  obtain ⟨ao, cp, h3⟩ := own_shape0 h2.ff
  rw [h1.f] at h3
  injection h3 with _ h3
  rw [h3, h2.len]
/-- A method of the reference's disk ended: the disk that stands as D', an error's number. -/
def RefS (D' : Dk) (k : Nat) (w : World) (e : Ending) (w' : World) : Prop := ∃ S : Sh, e = .returned (.tuple #[dv D' S, .int .i64 k]) ∧ IsD w' D' S ∧ Below w.heap.size w w'
theorem RefPost.refS {D' : Dk} {k : Nat} {w w' : World} {e : Ending} (h : RefPost D' k w e w') : RefS D' k w e w' := by
  obtain ⟨v, he, hv, hb⟩ := h
  obtain ⟨S, rfl, hS⟩ := hv.isD
  exact ⟨S, he, hS, hb⟩
/-- All rows stand where a box alone is stored into. -/
theorem IsD.box {W W' : World} {D : Dk} {S : Sh} (h : IsD W D S) {x : Nat} {cs : Array Value} (hx : W.heap[x]? = some (.cells cs 37 (0, 0))) (hk : ∀ g, g ≠ x → W'.heap[g]? = W.heap[g]?) : IsD W' D S := by
  obtain ⟨R, h1, h⟩ := h.ex
  exact ⟨R, h1, own_box h.ff hx (by decide) hk, h.len, fun i F p h1 h2 => ⟨(h.fb i F p h1 h2).1, own_box (h.fb i F p h1 h2).2 hx (by decide) hk⟩, own_box h.ss hx (by decide) hk, h.dir, h.null, own_box h.ww hx (by decide) hk, own_box h.aa hx (by decide) hk, h.pts⟩
/-- Two boxes: a disk's cells, and those of the result. -/
structure Bx (w : World) (N : Nat) (d : Array Value) (W : World) : Prop where
  b0 : W.heap[N]? = some (.cells d 37 (0, 0))
  b1 : W.heap[N + 1]? = some (.cells zc 37 (0, 0))
  bb : Below N w W
theorem Bx.lt {w : World} {N : Nat} {d : Array Value} {W : World} (h : Bx w N d W) : N + 1 < W.heap.size := heap_size_of h.b1
theorem Bx.below {w : World} {N : Nat} {d : Array Value} {W W' : World} (h : Bx w N d W) (hb : Below W.heap.size W W') : Bx w N d W' :=
  ⟨(hb.block N (Nat.lt_of_succ_lt h.lt)).trans h.b0, (hb.block (N + 1) h.lt).trans h.b1, h.bb.trans (hb.mono (Nat.le_of_lt (Nat.lt_of_succ_lt h.lt)))⟩
theorem Bx.made {w W : World} {N : Nat} {d : Array Value} (h : (w.alloc (.cells d 37)).alloc (.cells zc 37) = W) (hN : w.heap.size = N) : Bx w N d W :=
  let ⟨h1, h2, h3, _⟩ := box_two h hN; ⟨h1, h2, h3⟩
/-- The disk's box anew. -/
theorem Bx.all {w : World} {N : Nat} {a0 a1 a2 a3 a4 a5 a6 a7 a8 : Value} {W : World} (h : Bx w N #[a0, a1, a2, a3, a4, a5, a6, a7, a8] W) (v0 v1 v2 v3 v4 v5 v6 v7 v8 : Value) : Bx w N #[v0, v1, v2, v3, v4, v5, v6, v7, v8] (all9 W N v0 v1 v2 v3 v4 v5 v6 v7 v8) :=
  let ⟨h1, h2, h3⟩ := stored9 h.b0 h.b1 (Nat.succ_ne_self N) h.bb v0 v1 v2 v3 v4 v5 v6 v7 v8; ⟨h1, h2, h3⟩
/-- A disk is stored into the disk's box. -/
theorem Bx.disk {w : World} {N : Nat} {a0 a1 a2 a3 a4 a5 a6 a7 a8 : Value} {W : World} (h : Bx w N #[a0, a1, a2, a3, a4, a5, a6, a7, a8] W) {D : Dk} {S : Sh} (hD : IsD W D S) :
    Bx w N (dc D S) (all9 W N (.int .i64 D.room) (.slice S.fo S.fn S.fc) (.slice S.so S.sn S.sc) (.slice S.wo S.wn S.wk) (.int .i64 D.units) (.int .i64 D.left) (.bool D.armed) (.bool D.gone) (.slice S.ao S.an S.ac)) ∧
    IsD (all9 W N (.int .i64 D.room) (.slice S.fo S.fn S.fc) (.slice S.so S.sn S.sc) (.slice S.wo S.wn S.wk) (.int .i64 D.units) (.int .i64 D.left) (.bool D.armed) (.bool D.gone) (.slice S.ao S.an S.ac)) D S :=
  ⟨h.all _ _ _ _ _ _ _ _ _, hD.box h.b0 fun g hg => all9_heap _ _ _ _ _ _ _ _ _ _ _ g hg⟩
/-- A disk is stored into the result's box. -/
theorem Bx.done {w : World} {N : Nat} {d : Array Value} {W : World} (h : Bx w N d W) (hN : w.heap.size = N) {D : Dk} {S : Sh} (hD : IsD W D S) {k : Nat} :
    ∀ W', W' = all9 W (N + 1) (.int .i64 D.room) (.slice S.fo S.fn S.fc) (.slice S.so S.sn S.sc) (.slice S.wo S.wn S.wk) (.int .i64 D.units) (.int .i64 D.left) (.bool D.armed) (.bool D.gone) (.slice S.ao S.an S.ac) → RefS D k w (.returned (.tuple #[dv D S, .int .i64 k])) W' := by
  rintro W' rfl
  refine ⟨S, rfl, hD.box h.b1 fun g hg => all9_heap _ _ _ _ _ _ _ _ _ _ _ g hg, ?_⟩
  rw [hN]
  exact below_all9 h.bb (Nat.le_succ N) _ _ _ _ _ _ _ _ _
/-- What a walk reads and stores of a box. -/
theorem Bx.c0 {w : World} {N : Nat} {x0 x1 x2 x3 x4 x5 x6 x7 x8 : Value} {W : World} (h : Bx w N #[x0, x1, x2, x3, x4, x5, x6, x7, x8] W) :
    (W.cell? ⟨N, 0, none⟩ = some x0 ∧ W.cell? ⟨N, 1, none⟩ = some x1 ∧ W.cell? ⟨N, 2, none⟩ = some x2 ∧ W.cell? ⟨N, 3, none⟩ = some x3 ∧ W.cell? ⟨N, 4, none⟩ = some x4 ∧ W.cell? ⟨N, 5, none⟩ = some x5 ∧ W.cell? ⟨N, 6, none⟩ = some x6 ∧ W.cell? ⟨N, 7, none⟩ = some x7 ∧ W.cell? ⟨N, 8, none⟩ = some x8) ∧
    (W.frozen? ⟨N, 0, none⟩ = false ∧ W.frozen? ⟨N, 1, none⟩ = false ∧ W.frozen? ⟨N, 2, none⟩ = false ∧ W.frozen? ⟨N, 3, none⟩ = false ∧ W.frozen? ⟨N, 4, none⟩ = false ∧ W.frozen? ⟨N, 5, none⟩ = false ∧ W.frozen? ⟨N, 6, none⟩ = false ∧ W.frozen? ⟨N, 7, none⟩ = false ∧ W.frozen? ⟨N, 8, none⟩ = false) := box9 h.b0
theorem Bx.c1 {w : World} {N : Nat} {d : Array Value} {W : World} (h : Bx w N d W) :
    (W.cell? ⟨N + 1, 0, none⟩ = some (.int .i64 0) ∧ W.cell? ⟨N + 1, 1, none⟩ = some (.slice none 0 0) ∧ W.cell? ⟨N + 1, 2, none⟩ = some (.slice none 0 0) ∧ W.cell? ⟨N + 1, 3, none⟩ = some (.slice none 0 0) ∧ W.cell? ⟨N + 1, 4, none⟩ = some (.int .i64 0) ∧ W.cell? ⟨N + 1, 5, none⟩ = some (.int .i64 0) ∧ W.cell? ⟨N + 1, 6, none⟩ = some (.bool false) ∧ W.cell? ⟨N + 1, 7, none⟩ = some (.bool false) ∧ W.cell? ⟨N + 1, 8, none⟩ = some (.slice none 0 0)) ∧
    (W.frozen? ⟨N + 1, 0, none⟩ = false ∧ W.frozen? ⟨N + 1, 1, none⟩ = false ∧ W.frozen? ⟨N + 1, 2, none⟩ = false ∧ W.frozen? ⟨N + 1, 3, none⟩ = false ∧ W.frozen? ⟨N + 1, 4, none⟩ = false ∧ W.frozen? ⟨N + 1, 5, none⟩ = false ∧ W.frozen? ⟨N + 1, 6, none⟩ = false ∧ W.frozen? ⟨N + 1, 7, none⟩ = false ∧ W.frozen? ⟨N + 1, 8, none⟩ = false) := box9 h.b1

/-! ### The steps -/
theorem unit_S (D : Dk) (S : Sh) (w : World) (h : IsD w D S) (ok : D.Ok) :
    Calls Tryz.prog 58 #[dv D S] w fun e w' => e = .returned (.tuple #[dv (D.spend 1) S, .bool (!decide (D.spent 1 < 1))]) ∧ IsD w' (D.spend 1) S ∧ Below w.heap.size w w' :=
  (unit_ref D S.fo S.so S.wo S.ao S.fn S.fc S.sn S.sc S.wn S.wk S.an S.ac w ok.units0 (by have := ok.units1; omega) ok.left0 ok.left1).mono fun _ _ p => ⟨p.1, (h.below p.2).spend 1, p.2⟩
theorem asked_S (s : ByteArray) (hs : s.size ≤ 1000000) (D : Dk) (S : Sh) (w : World) (h : IsD w D S) (ok : D.Ok) : Calls Tryz.prog 57 #[dv D S, .string s] w (AskP D s w) := by
  obtain ⟨R, h1, h2⟩ := h.ex
  have := asked_ref s hs D R w h2 ok
  rwa [h1.f, h1.s, h1.w, h1.a] at this
theorem did_S (D : Dk) (S : Sh) (a : Ac) (w : World) (h : IsD w D S) (hn : D.acts.length ≤ 10000000) :
    Calls Tryz.prog 60 #[dv D S, .agg #[.int .i64 a.kind, .string a.name, .string a.other, .string a.bytes, .int .i64 a.place]] w fun e w' =>
      ∃ S' : Sh, e = .returned (dv (D.did a) S') ∧ IsD w' (D.did a) S' ∧ Below w.heap.size w w' := by
  obtain ⟨R, h1, h2⟩ := h.ex
  refine (did_ref D.room D.units D.left D.armed D.gone S.fo S.so S.wo S.ao S.fn S.fc S.sn S.sc S.wn S.wk S.an S.ac D.acts a w (by rw [← h1.a]; exact h2.aa) hn).mono ?_
  rintro e w' ⟨v, rfl, hv, hb⟩
  obtain ⟨ao, ac, rfl⟩ := own_shape0 hv
  exact ⟨{ S with ao := ao, an := (D.acts ++ [a]).length, ac := ac }, rfl, ⟨{ R with va := .slice ao (D.acts ++ [a]).length ac }, ⟨h1.f, h1.s, h1.w, rfl⟩, (h2.below hb).did a hv⟩, hb⟩
theorem moved_S (D : Dk) (S : Sh) (a : En) (w : World) (h : IsD w D S) (hn : D.waits.length ≤ 10000000) :
    Calls Tryz.prog 59 #[dv D S, .agg #[.string a.put, .string a.take, .int .i64 a.file]] w fun e w' =>
      ∃ S' : Sh, e = .returned (dv (D.moved a) S') ∧ IsD w' (D.moved a) S' ∧ Below w.heap.size w w' := by
  obtain ⟨R, h1, h2⟩ := h.ex
  refine (moved_ref D.room D.units D.left D.armed D.gone S.fo S.so S.wo S.ao S.fn S.fc S.sn S.sc S.wn S.wk S.an S.ac D.waits a w (by rw [← h1.w]; exact h2.ww) hn).mono ?_
  rintro e w' ⟨v, rfl, hv, hb⟩
  obtain ⟨wo, wc, rfl⟩ := own_shape0 hv
  exact ⟨{ S with wo := wo, wn := (D.waits ++ [a]).length, wk := wc }, rfl, ⟨{ R with vw := .slice wo (D.waits ++ [a]).length wc }, ⟨h1.f, h1.s, rfl, h1.a⟩, (h2.below hb).moved a hv⟩, hb⟩
theorem with_S (D : Dk) (S : Sh) (i : Nat) (F : Fl) (bo : Option Addr) (bn bk : Nat) (w : World) (h : IsD w D S) (hn : D.files.length ≤ 10000000) (hi : i < D.files.length) (hF : BitsAt w (.slice bo bn bk) F.bits) :
    Calls Tryz.prog 61 #[dv D S, .int .i64 i, .agg #[.string F.sure, .slice bo bn bk]] w fun e w' =>
      ∃ S' : Sh, e = .returned (dv (D.setFile i F) S') ∧ IsD w' (D.setFile i F) S' ∧ Below w.heap.size w w' := by
  obtain ⟨R, h1, h2⟩ := h.ex
  have hl := h2.len
  refine (with_ref D.room D.units D.left D.armed D.gone S.fo S.so S.wo S.ao S.fn S.fc S.sn S.sc S.wn S.wk S.an S.ac R.fs i F.sure bo bn bk w (by rw [← h1.f]; exact h2.ff) (by omega) (by omega) ?_).mono ?_
  · intro p hp
    obtain ⟨j, hj, rfl⟩ := List.getElem_of_mem hp
    obtain ⟨ao, ac, hv⟩ := own_shape0 (h2.fb j D.files[j] R.fs[j] (List.getElem?_eq_getElem (by omega)) (List.getElem?_eq_getElem hj)).2
    rw [hv]
    rfl
  · rintro e w' ⟨v, rfl, hv, hb⟩
    obtain ⟨fo, fc, rfl⟩ := own_shape0 hv
    exact ⟨{ S with fo := fo, fn := (R.fs.set i (F.sure, .slice bo bn bk)).length, fc := fc }, rfl, ⟨{ R with vf := .slice fo (R.fs.set i (F.sure, .slice bo bn bk)).length fc, fs := R.fs.set i (F.sure, .slice bo bn bk) }, ⟨rfl, h1.s, h1.w, h1.a⟩, (h2.below hb).with_ i F (F.sure, .slice bo bn bk) hv rfl (own0_below hF hb)⟩, hb⟩
/-- A file's cells in the row of files. -/
theorem IsD.file {w : World} {D : Dk} {S : Sh} (h : IsD w D S) {i : Nat} {F : Fl} (hF : D.files[i]? = some F) : ∃ g bo bn bk, S.fo = some ⟨g, 0, none⟩ ∧ g < w.heap.size ∧ BitsAt w (.slice bo bn bk) F.bits ∧ (∀ W : World, W.heap[g]? = w.heap[g]? → W.cell? ⟨g, i * 2, none⟩ = some (.string F.sure) ∧ W.cell? ⟨g, i * 2 + 1, none⟩ = some (.slice bo bn bk)) ∧ ∃ cs, w.heap[g]? = some (.cells cs 86 (0, 0)) := by
  obtain ⟨R, h1, h2⟩ := h.ex
  obtain ⟨fo', fc', hvf, hfc⟩ := files_cells h2.ff
  rw [h1.f] at hvf
  injection hvf with q1 q2 q3
  have hi : i < D.files.length := (List.getElem?_eq_some_iff.1 hF).1
  have hi2 : i < R.fs.length := by rw [h2.len]; exact hi
  have hp : R.fs[i]? = some R.fs[i] := List.getElem?_eq_getElem hi2
  obtain ⟨g, hg, hgl, hc⟩ := hfc i _ hp
  obtain ⟨b1, b2⟩ := h2.fb i F _ hF hp
  obtain ⟨bo, bk, hv⟩ := own_shape0 b2
  refine ⟨g, bo, F.bits.length, bk, by rw [q1, hg], hgl, by rw [← hv]; exact b2, fun W hW => ?_, ?_⟩
  · obtain ⟨c1, c2⟩ := hc W hW
    rw [← b1, ← hv]
    exact ⟨c1, c2⟩
  · rcases h2.ff.2 with ⟨e1, -⟩ | ⟨g', c', cur, e1, -, e3, -⟩
    · rw [h1.f, q1, hg] at e1; cases e1
    · rw [h1.f, q1, hg] at e1
      injection e1 with e1
      injection e1 with e1
      injection e1 with e1
      subst e1
      exact ⟨_, e3⟩
theorem free_S (D : Dk) (S : Sh) (w : World) (h : IsD w D S) (ok : D.Ok) (hr0 : 0 ≤ D.room) (hr1 : D.room ≤ 9223372036854775807) :
    Calls Tryz.prog 41 #[dv D S] w fun e w' => e = .returned (.int .i64 D.free) ∧ Below w.heap.size w w' := by
  obtain ⟨R, h1, h2⟩ := h.ex
  exact free_ref D R w h2 ok hr0 hr1 _ _ _ _ _ _ _ _ _ _ _ _ h1
theorem syncDir_S (D : Dk) (S : Sh) (w : World) (h : IsD w D S) (ok : D.Ok) (hu : D.units ≤ 90000000) : Calls Tryz.prog 35 #[dv D S] w (RefS D.syncDir.2 D.syncDir.1 w) := by
  obtain ⟨R, h1, h2⟩ := h.ex
  unfold Dk.syncDir
  cases hg : D.gone with
  | true => simp only [if_true]; exact (syncDir_gone D R w h2 _ _ _ _ _ _ _ _ _ _ _ _ h1 hg).mono fun _ _ p => p.refS
  | false =>
    simp only [Bool.false_eq_true, if_false]
    by_cases hsp : D.spent 1 < 1
    · rw [if_pos hsp]
      exact (syncDir_none D R w h2 ok _ _ _ _ _ _ _ _ _ _ _ _ h1 hg hsp).mono fun _ _ p => p.refS
    · rw [if_neg hsp]
      exact (syncDir_ok D R w h2 ok hu _ _ _ _ _ _ _ _ _ _ _ _ h1 hg hsp).mono fun _ _ p => p.refS
theorem wait_S (sure : ByteArray) (bo : Option Addr) (bn bk : Nat) (bs : List Bit) (a : Bit) (w : World) (h : BitsAt w (.slice bo bn bk) bs) (hn : bs.length ≤ 20000000) :
    Calls Tryz.prog 63 #[.agg #[.string sure, .slice bo bn bk], .agg #[.int .u8 a.byte.toNat, .int .i64 a.place, .bool a.cut]] w fun e w' =>
      ∃ bo' bn' bk', e = .returned (.agg #[.string sure, .slice bo' bn' bk']) ∧ BitsAt w' (.slice bo' bn' bk') (bs ++ [a]) ∧ Below w.heap.size w w' := by
  refine (wait_ref sure bo bn bk bs a w h hn).mono ?_
  rintro e w' ⟨v, rfl, hv, hb⟩
  obtain ⟨ao, ac, rfl⟩ := own_shape0 hv
  exact ⟨_, _, _, rfl, hv, hb⟩
/-- A new file behind a copy of the files: the runs of both appends. -/
theorem grow_runs {W : World} {D : Dk} {S : Sh} (h : IsD W D S) (hn : D.files.length ≤ 10000000) : ∃ v1 w1 fo fn fc w2,
    Hid ((Builtin.append_ #[32, 32] 32 #[.slice (some ⟨W.heap.size, 0, none⟩) 0 0, .slice S.fo S.fn S.fc]).run Tryz.prog (W.alloc (.cells #[] 86)) = .ok v1 w1) ∧
    Hid ((Builtin.append_ #[32, 32] 32 #[v1, .slice (some ⟨w1.heap.size, 0, none⟩) 1 1]).run Tryz.prog (w1.alloc (.cells #[.string ⟨#[]⟩, .slice none 0 0] 86)) = .ok (.slice fo fn fc) w2) ∧
    Hid (Below W.heap.size W w2 ∧ IsD w2 D.grew { S with fo := fo, fn := fn, fc := fc }) := by
  obtain ⟨i0, hi0, hz0, hz1, hz2⟩ := info_parts infoRFile
  obtain ⟨R, h1, h2⟩ := h.ex
  have hl := h2.len
  have hone : ∀ u ∈ R.fs.flatMap filC, u.oneCell' = true := by
    intro u hu
    obtain ⟨p, hp, hu⟩ := List.mem_flatMap.1 hu
    obtain ⟨j, hj, rfl⟩ := List.getElem_of_mem hp
    obtain ⟨ao, ac, hv⟩ := own_shape0 (h2.fb j (D.files[j]'(by omega)) R.fs[j] (List.getElem?_eq_getElem (by omega)) (List.getElem?_eq_getElem hj)).2
    simp only [filC, List.mem_cons, List.not_mem_nil, or_false] at hu
    rcases hu with rfl | rfl
    · rfl
    · rw [hv]; rfl
  obtain ⟨⟨v1, w1, v2, w2, r1, b1, r2, p2⟩, -, -⟩ := push_runs Tryz.underlying32 hi0 hz0 hz1 hz2 rfl (by omega) W W.heap.size rfl (.slice S.fo S.fn S.fc) R.fs.length (R.fs.flatMap filC) [.string ⟨#[]⟩, .slice none 0 0] (by rw [← h1.f]; exact h2.ff) (flat_len (c := filC) (n := 2) (fun _ => rfl) R.fs) hone rfl (by intro u hu; simp at hu; rcases hu with rfl | rfl <;> rfl) (by omega) (by omega)
  obtain ⟨y, z, rfl, -, -⟩ := p2.1.form (by omega)
  refine ⟨v1, w1, some ⟨y, 0, none⟩, R.fs.length + 1, z, w2, Lib.hid r1, Lib.hid r2, Lib.hid ⟨p2.2, ⟨{ R with vf := .slice (some ⟨y, 0, none⟩) (R.fs.length + 1) z, fs := R.fs ++ [(⟨#[]⟩, .slice none 0 0)] }, ⟨rfl, h1.s, h1.w, h1.a⟩, (h2.below p2.2).grew ?_⟩⟩⟩
  have := own_to0 p2.1
  show w2.ownsRow 0 _ 2 _ (R.fs ++ [_]).length _
  rw [List.length_append, List.length_singleton, List.flatMap_append, flatMap_one]
  exact this
theorem Bx.set1 {w : World} {N : Nat} {a0 a1 a2 a3 a4 a5 a6 a7 a8 : Value} {W : World} (h : Bx w N #[a0, a1, a2, a3, a4, a5, a6, a7, a8] W) (v : Value) : Bx w N #[a0, v, a2, a3, a4, a5, a6, a7, a8] (W.setCell ⟨N, 1, none⟩ v) :=
  ⟨set_one (i := 1) h.b0 v rfl, (Below.heap_setCell _ _ _ _ (Nat.succ_ne_self N)).trans h.b1, h.bb.setCell (Nat.le_refl _) _⟩
theorem IsD.found {w : World} {D : Dk} {S : Sh} (h : IsD w D S) (ok : D.Ok) {s : ByteArray} (h0 : D.fileN s = 0) : ∃ F, D.files[D.idx s]? = some F ∧ D.idx s < D.files.length := by
  obtain ⟨R, -, h2⟩ := h.ex
  obtain ⟨F, p, h3, h4, h5⟩ := h2.found ok h0
  exact ⟨F, h3, h5⟩
theorem text_of {D : Dk} {s : ByteArray} {F : Fl} (h : D.files[D.idx s]? = some F) : D.text s = F.seen := by unfold Dk.text; rw [h]
theorem fileAt_of {D : Dk} {s : ByteArray} {F : Fl} (h : D.files[D.idx s]? = some F) : D.fileAt s = F := by unfold Dk.fileAt; rw [List.getD_eq_getElem?_getD, h]; rfl
theorem seen_S (F : Fl) (ok : F.Ok) (bo : Option Addr) (bn bk : Nat) (w : World) (h : BitsAt w (.slice bo bn bk) F.bits) :
    Calls Tryz.prog 62 #[.agg #[.string F.sure, .slice bo bn bk]] w fun e w' => e = .returned (.string F.seen) ∧ Below w.heap.size w w' := by
  have hm := ok.mass
  unfold Fl.mass at hm
  refine (seen_ref F.sure (.slice bo bn bk) F.bits w h (Fl.bits_le ok) (by omega) ?_).mono fun _ _ p => ?_
  · intro b hb hc
    unfold Fl.bits at hb
    obtain ⟨x, hx, hb⟩ := List.mem_flatMap.1 hb
    unfold Wt.bits at hb
    split at hb
    · rename_i hxc
      obtain rfl := List.mem_singleton.1 hb
      exact ok.cuts x hx hxc
    · obtain ⟨c, -, rfl⟩ := List.mem_map.1 hb
      cases hc
  · rw [Fl.seen_bits ok.cuts] at p
    exact p
end Go.Proofs.YthfcmgbkhjnfjaaGreatDoor

namespace Go.Proofs.YthfcmgbkhjnfjaaGreatDoor
open Go.RowKit Go.Maps

theorem spend_eq {D : Dk} {a b : Int} {g : Bool} {x y : Int} {h : Bool} (h1 : a = x) (h2 : b = y) (h3 : g = h) : ({ D with units := a, left := b, gone := g } : Dk) = { D with units := x, left := y, gone := h } := by rw [h1, h2, h3]
theorem spend_zero {D : Dk} (hl : 0 ≤ D.left) : D.spend 0 = D ∧ D.spent 0 = 0 := by
  have hs : D.spent 0 = 0 := by unfold Dk.spent; rw [if_neg (by omega)]
  refine ⟨?_, hs⟩
  unfold Dk.spend
  rw [hs, show decide (D.left < 0) = false from decide_eq_false (by omega)]
  cases D
  simp
/-- One unit more, or none. -/
theorem spend_step {D : Dk} {k : Nat} (hk : D.spent k = k) :
    ((D.spend k).spent 1 = 1 ∧ D.spent (k + 1 : Nat) = (k + 1 : Nat) ∧ (D.spend k).spend 1 = D.spend (k + 1 : Nat)) ∨
    ((D.spend k).spent 1 = 0 ∧ ∀ n : Nat, k + 1 ≤ n → D.spent n = k ∧ (D.spend k).spend 1 = D.spend n) := by
  cases ha : D.armed with
  | false =>
    have s1 : ∀ n, D.spent n = n := fun n => by unfold Dk.spent; rw [if_neg (by simp [ha])]
    have s2 : (D.spend k).spent 1 = 1 := by unfold Dk.spent; rw [if_neg (by show ¬ (D.armed = true ∧ _); simp [ha])]
    refine .inl ⟨s2, s1 _, ?_⟩
    show ({ D with units := D.units + D.spent k + (D.spend k).spent 1, left := if D.armed then (if D.armed then D.left - D.spent k else D.left) - (D.spend k).spent 1 else (if D.armed then D.left - D.spent k else D.left), gone := (D.gone || (D.armed && decide (D.left < k))) || (D.armed && decide ((if D.armed then D.left - D.spent k else D.left) < 1)) } : Dk) = { D with units := D.units + D.spent (k + 1 : Nat), left := if D.armed then D.left - D.spent (k + 1 : Nat) else D.left, gone := D.gone || (D.armed && decide (D.left < (k + 1 : Nat))) }
    refine spend_eq ?_ ?_ ?_
    · rw [s2, s1, s1]; omega
    · simp [ha]
    · simp [ha]
  | true =>
    have hle : (k : Int) ≤ D.left := by
      rcases Int.lt_or_le D.left k with h | h
      · unfold Dk.spent at hk; rw [if_pos ⟨ha, h⟩] at hk; omega
      · exact h
    have s2 : (D.spend k).spent 1 = if D.left - k < 1 then D.left - k else 1 := by
      show (if D.armed = true ∧ (if D.armed then D.left - D.spent k else D.left) < 1 then (if D.armed then D.left - D.spent k else D.left) else 1) = _
      simp [ha, hk]
    have un : ∀ m, (D.spend k).spend 1 = { D with units := D.units + D.spent k + (D.spend k).spent 1, left := D.left - D.spent k - (D.spend k).spent 1, gone := D.gone || decide (D.left < k) || decide (D.left - D.spent k < 1) } ∧ D.spend m = { D with units := D.units + D.spent m, left := D.left - D.spent m, gone := D.gone || decide (D.left < m) } := fun m => by
      constructor
      · show ({ D with units := D.units + D.spent k + (D.spend k).spent 1, left := if D.armed then (if D.armed then D.left - D.spent k else D.left) - (D.spend k).spent 1 else (if D.armed then D.left - D.spent k else D.left), gone := (D.gone || (D.armed && decide (D.left < k))) || (D.armed && decide ((if D.armed then D.left - D.spent k else D.left) < 1)) } : Dk) = _
        refine spend_eq rfl ?_ ?_ <;> simp [ha]
      · show ({ D with units := D.units + D.spent m, left := if D.armed then D.left - D.spent m else D.left, gone := D.gone || (D.armed && decide (D.left < m)) } : Dk) = _
        refine spend_eq rfl ?_ ?_ <;> simp [ha]
    rcases Int.lt_or_le D.left ((k + 1 : Nat) : Int) with h | h
    · have h2 : (D.spend k).spent 1 = 0 := by rw [s2, if_pos (by omega)]; omega
      refine .inr ⟨h2, fun n hn => ?_⟩
      have h3 : D.spent n = k := by unfold Dk.spent; rw [if_pos ⟨ha, by omega⟩]; omega
      refine ⟨h3, ?_⟩
      rw [(un n).1, (un n).2, h2, hk, h3]
      refine spend_eq (by omega) (by omega) ?_
      rw [show decide (D.left - k < 1) = true from decide_eq_true (by omega), show decide (D.left < n) = true from decide_eq_true (by omega)]
      simp
    · have h2 : (D.spend k).spent 1 = 1 := by rw [s2, if_neg (by omega)]
      have h3 : D.spent (k + 1 : Nat) = (k + 1 : Nat) := by unfold Dk.spent; rw [if_neg (by omega)]
      refine .inl ⟨h2, h3, ?_⟩
      rw [(un (k + 1 : Nat)).1, (un (k + 1 : Nat)).2, h2, hk, h3]
      refine spend_eq (by omega) (by omega) ?_
      rw [show decide (D.left - k < 1) = false from decide_eq_false (by omega), show decide (D.left < k) = false from decide_eq_false (by omega), show decide (D.left < (k + 1 : Nat)) = false from decide_eq_false (by omega)]
      simp
/-- How the units stand: k are done of n; c: there is power for more. -/
structure Powr (D : Dk) (n k : Nat) (c : Bool) (D' : Dk) : Prop where
  le : k ≤ n
  on : c = true → D' = D.spend k ∧ D.spent k = k
  off : c = false → D' = D.spend n ∧ D.spent n = k ∧ k < n
theorem Powr.zero {D : Dk} (hl : 0 ≤ D.left) (n : Nat) : Powr D n 0 true D := ⟨Nat.zero_le _, fun _ => ⟨(spend_zero hl).1.symm, (spend_zero hl).2⟩, fun h => by cases h⟩
theorem Powr.step {D : Dk} {n k : Nat} {D' : Dk} (h : Powr D n k true D') (hk : k < n) : Powr D n (if (!decide (D'.spent 1 < 1)) = true then k + 1 else k) (!decide (D'.spent 1 < 1)) (D'.spend 1) := by
  obtain ⟨h1, h2⟩ := h.on rfl
  subst h1
  rcases spend_step h2 with ⟨s, s2, s3⟩ | ⟨s, s2⟩
  · rw [s]
    refine ⟨hk, fun _ => ⟨s3, s2⟩, fun h => by simp at h⟩
  · rw [s]
    obtain ⟨s3, s4⟩ := s2 n hk
    refine ⟨Nat.le_of_lt hk, fun h => by simp at h, fun _ => ⟨s4, s3, hk⟩⟩
/-- The end: all that there was power for. -/
theorem Powr.done {D : Dk} {n k : Nat} {c : Bool} {D' : Dk} (h : Powr D n k c D') (he : (decide (k < n) && c) = false) : D' = D.spend n ∧ D.spent n = k ∧ c = decide (k = n) := by
  cases c with
  | false => obtain ⟨h1, h2, h3⟩ := h.off rfl; exact ⟨h1, h2, (decide_eq_false (by omega)).symm⟩
  | true =>
    have hk : ¬ k < n := by simpa using he
    have hn : k = n := by have := h.le; omega
    obtain ⟨h1, h2⟩ := h.on rfl
    subst hn
    exact ⟨h1, h2, by simp⟩
/-- What is asked of a disk behind some units. -/
theorem okSpendK {D D' : Dk} {n k : Nat} {c : Bool} (ok : D.Ok) (hu : D.units ≤ 90000000) (hk : n ≤ 1000000) (h : Powr D n k c D') : D'.Ok := by
  have key : ∀ m : Nat, m ≤ 1000000 → (D.spend m).Ok := fun m hm => by
    have h0 := ok.left0
    have h1 := ok.left1
    have h2 : 0 ≤ D.spent m ∧ D.spent m ≤ m := by unfold Dk.spent; split <;> omega
    have h3 : D.armed = true → D.spent m ≤ D.left := fun ha => by
      unfold Dk.spent
      split
      · omega
      · rename_i hx; have : ¬ D.left < m := fun hl => hx ⟨ha, hl⟩; omega
    have h4 := ok.units0
    refine ⟨ok.points, ok.waits, ok.fits, ok.names, ok.many, ok.files, ok.lots, ok.acts, ?_, ?_, ?_, ?_⟩
    · show 0 ≤ D.units + D.spent m; omega
    · show D.units + D.spent m ≤ _; omega
    · show 0 ≤ if D.armed = true then D.left - D.spent m else D.left
      split
      · rename_i ha; have := h3 ha; omega
      · omega
    · show (if D.armed = true then D.left - D.spent m else D.left) ≤ _
      split <;> omega
  cases c with
  | true => obtain ⟨rfl, -⟩ := h.on rfl; exact key k (by have := h.le; omega)
  | false => obtain ⟨rfl, -⟩ := h.off rfl; exact key n hk
/-- The bits of a text's first k bytes. -/
def byteBits (t : ByteArray) (k : Nat) : List Bit := (t.data.toList.take k).map fun c => ⟨c, 0, false⟩
theorem byteBits_zero (t : ByteArray) : byteBits t 0 = [] := rfl
theorem byteBits_len {t : ByteArray} {k : Nat} (h : k ≤ t.size) : (byteBits t k).length = k := by
  unfold byteBits
  rw [List.length_map, List.length_take, list_size]; omega
theorem byteBits_succ {t : ByteArray} {k : Nat} (h : k < t.size) : byteBits t (k + 1) = byteBits t k ++ [⟨t[k], 0, false⟩] := by
  have hl := list_size t
  unfold byteBits
  rw [List.take_add_one, List.getElem?_eq_getElem (by omega)]
  simp
  rfl
theorem Fl.push_text (F : Fl) (t : ByteArray) (n : Nat) : (F.push ⟨t.extract 0 n, 0, false⟩).bits = F.bits ++ byteBits t n := by
  unfold Fl.bits Fl.push byteBits
  rw [List.flatMap_append, ← extract_bytes]
  simp [Wt.bits]
theorem setFile_same {D : Dk} {i : Nat} {F : Fl} (h : D.files[i]? = some F) : D.setFile i F = D := by
  obtain ⟨hi, rfl⟩ := List.getElem?_eq_some_iff.1 h
  unfold Dk.setFile
  rw [List.set_getElem_self]
/-- The file under way: its box, and what waits in a row of its own. -/
structure FB (W : World) (M : Nat) (sure : ByteArray) (bo : Option Addr) (bn bk : Nat) (bs : List Bit) : Prop where
  box : W.heap[M]? = some (.cells #[.string sure, .slice bo bn bk] 86 (0, 0))
  own : W.ownsRow (M + 1) 131 3 (.slice bo bn bk) bs.length (bs.flatMap Bit.cells)
theorem FB.lt {W : World} {M : Nat} {sure : ByteArray} {bo : Option Addr} {bn bk : Nat} {bs : List Bit} (h : FB W M sure bo bn bk bs) : M < W.heap.size := heap_size_of h.box
theorem FB.keep {W W' : World} {M : Nat} {sure : ByteArray} {bo : Option Addr} {bn bk : Nat} {bs : List Bit} (h : FB W M sure bo bn bk bs) {N : Nat} (hN : N < M) (hk : ∀ g, g < W.heap.size → g ≠ N → W'.heap[g]? = W.heap[g]?) : FB W' M sure bo bn bk bs :=
  ⟨(hk M h.lt (by omega)).trans h.box, ownsRow_of_block h.own fun g hg => hk g (h.own.lt g hg).2 (by have := (h.own.lt g hg).1; omega)⟩
theorem FB.below {W W' : World} {M : Nat} {sure : ByteArray} {bo : Option Addr} {bn bk : Nat} {bs : List Bit} (h : FB W M sure bo bn bk bs) (hM : 0 < M) (hb : Below W.heap.size W W') : FB W' M sure bo bn bk bs :=
  h.keep (N := 0) hM fun g hg _ => hb.block g hg
theorem FB.bits {W : World} {M : Nat} {sure : ByteArray} {bo : Option Addr} {bn bk : Nat} {bs : List Bit} (h : FB W M sure bo bn bk bs) : BitsAt W (.slice bo bn bk) bs := own_to0 h.own
theorem FB.cells {W : World} {M : Nat} {sure : ByteArray} {bo : Option Addr} {bn bk : Nat} {bs : List Bit} (h : FB W M sure bo bn bk bs) : W.cell? ⟨M, 0, none⟩ = some (.string sure) ∧ W.cell? ⟨M, 1, none⟩ = some (.slice bo bn bk) ∧ W.frozen? ⟨M, 0, none⟩ = false ∧ W.frozen? ⟨M, 1, none⟩ = false :=
  ⟨by simp [World.cell?, h.box], by simp [World.cell?, h.box], by simp [World.frozen?, h.box], by simp [World.frozen?, h.box]⟩
/-- What waits, copied into a row of its own. -/
theorem bits_copy {W : World} {bo : Option Addr} {bn bk : Nat} {bs : List Bit} (h : BitsAt W (.slice bo bn bk) bs) (hn : bs.length ≤ 20000000) : ∃ bo' bn' bk' w1,
    Hid ((Builtin.append_ #[84, 84] 84 #[.slice (some ⟨W.heap.size, 0, none⟩) 0 0, .slice bo bn bk]).run Tryz.prog (W.alloc (.cells #[] 131)) = .ok (.slice bo' bn' bk') w1) ∧
    Hid (Below W.heap.size W w1 ∧ w1.ownsRow W.heap.size 131 3 (.slice bo' bn' bk') bs.length (bs.flatMap Bit.cells)) := by
  obtain ⟨i0, hi0, hz0, hz1, hz2⟩ := info_parts infoPWait
  have bE : Below W.heap.size W (W.alloc (.cells #[] 131)) := (Below.refl _ _).alloc (Nat.le_refl _) _
  have hmade := World.ownsRow_made (base := W.heap.size) (e := 131) (size := 3) W #[] 0 (Nat.le_refl _) (Nat.zero_le _) rfl
  obtain ⟨v1, w1, r1, o1, b1, -⟩ := copy_run Tryz.underlying84 hi0 hz0 hz1 hz2 rfl (by omega) (W.alloc (.cells #[] 131)) W.heap.size W.heap.size (.slice bo bn bk) bs.length (bs.flatMap Bit.cells) hmade (own0_below h bE) (flat_len (c := Bit.cells) (n := 3) (fun _ => rfl) bs) (oneWait bs) (by omega) (by omega) (by simp)
  obtain ⟨bo', bk', rfl⟩ := own_shape0 o1
  exact ⟨bo', _, bk', w1, Lib.hid r1, Lib.hid ⟨bE.trans b1, o1⟩⟩
/-- A byte more that waits. -/
theorem bits_push {W : World} {M : Nat} {sure : ByteArray} {bo : Option Addr} {bn bk : Nat} {bs : List Bit} (h : FB W M sure bo bn bk bs) (b : Bit) (hn : bs.length ≤ 29000000) : ∃ bo' bn' bk' w1,
    Hid ((Builtin.append_ #[84, 84] 84 #[.slice bo bn bk, .slice (some ⟨W.heap.size, 0, none⟩) 1 1]).run Tryz.prog (W.alloc (.cells #[.int .u8 b.byte.toNat, .int .i64 b.place, .bool b.cut] 131)).drew = .ok (.slice bo' bn' bk') w1) ∧
    Hid (Below (M + 1) W w1 ∧ w1.ownsRow (M + 1) 131 3 (.slice bo' bn' bk') (bs ++ [b]).length ((bs ++ [b]).flatMap Bit.cells)) := by
  obtain ⟨i0, hi0, hz0, hz1, hz2⟩ := info_parts infoPWait
  have hM := h.lt
  have bE : Below (M + 1) W (W.alloc (.cells #[.int .u8 b.byte.toNat, .int .i64 b.place, .bool b.cut] 131)).drew := ((Below.refl _ _).alloc hM _).drew
  have hown : (W.alloc (.cells #[.int .u8 b.byte.toNat, .int .i64 b.place, .bool b.cut] 131)).drew.ownsRow (M + 1) 131 3 (.slice bo bn bk) bs.length (bs.flatMap Bit.cells) :=
    ownsRow_of_block h.own fun g hg => ((Below.refl W.heap.size W).alloc (Nat.le_refl _) (.cells #[.int .u8 b.byte.toNat, .int .i64 b.place, .bool b.cut] 131)).block g (h.own.lt g hg).2
  obtain ⟨v1, w1, r1, o1, b1⟩ := push_run Tryz.underlying84 hi0 hz0 hz1 hz2 rfl (by omega) (W.alloc (.cells #[.int .u8 b.byte.toNat, .int .i64 b.place, .bool b.cut] 131)).drew (M + 1) W.heap.size (.slice bo bn bk) bs.length (bs.flatMap Bit.cells) (Bit.cells b) hown (heap_alloc_new W _) rfl (by intro u hu; simp [Bit.cells] at hu; rcases hu with rfl | rfl | rfl <;> rfl) (by omega) (by omega) (by have := bE.size; omega)
  obtain ⟨bo', bk', rfl⟩ := own_shape0 o1
  refine ⟨bo', _, bk', w1, Lib.hid r1, Lib.hid ⟨bE.trans b1, ?_⟩⟩
  rw [List.length_append, List.length_singleton, List.flatMap_append, flatMap_one]
  exact o1
theorem Bx.keepM {w : World} {N : Nat} {d : Array Value} {W W' : World} (h : Bx w N d W) {M : Nat} (hM : N + 1 < M) (hb : Below M W W') : Bx w N d W' :=
  ⟨(hb.block N (by omega)).trans h.b0, (hb.block (N + 1) hM).trans h.b1, h.bb.trans (hb.mono (by omega))⟩
/-- The byte more, stored. -/
theorem FB.pushed {w W w1 : World} {N M : Nat} {d : Array Value} {sure : ByteArray} {bo bo' : Option Addr} {bn bk bn' bk' : Nat} {bs bs' : List Bit} (h : FB W M sure bo bn bk bs) (hx : Bx w N d W) (hM : N + 1 < M) (hb : Below (M + 1) W w1) (ho : w1.ownsRow (M + 1) 131 3 (.slice bo' bn' bk') bs'.length (bs'.flatMap Bit.cells)) :
    Bx w N d (w1.setCell ⟨M, 1, none⟩ (.slice bo' bn' bk')) ∧ FB (w1.setCell ⟨M, 1, none⟩ (.slice bo' bn' bk')) M sure bo' bn' bk' bs' :=
  ⟨(hx.keepM hM (hb.mono (Nat.le_succ M))).keepM hM ((Below.refl M w1).setCell (Nat.le_refl _) _), set_one (i := 1) ((hb.block M (Nat.lt_succ_self M)).trans h.box) _ rfl, ownsRow_setCell_below ho (Nat.lt_succ_self M) _⟩
theorem write_res {D D' : Dk} {s t : ByteArray} {k : Nat} {c : Bool} {F : Fl} (h0 : D.fileN s = 0) (hb : ¬ D.free < (t.size : Int)) (hD : D' = D.spend t.size) (hk : D.spent t.size = k) (hc : c = decide (k = t.size)) (hkn : k ≤ t.size) (hF : D.files[D.idx s]? = some F) :
    D.write s t = (if c = true then 0 else 3, if k = 0 then D' else (D'.setFile (D.idx s) (F.push ⟨t.extract 0 k, 0, false⟩)).did ⟨2, s, ⟨#[]⟩, t.extract 0 k, 0⟩) := by
  unfold Dk.write Dk.wrote
  rw [if_neg (by simp [h0]), if_neg hb, hk, ← hD, fileAt_of hF, hc]
  refine Prod.ext ?_ ?_
  · show (if (k : Int) < (t.size : Int) then 3 else 0) = _
    by_cases h : k = t.size
    · rw [if_neg (by omega), if_pos (decide_eq_true h)]
    · rw [if_pos (by omega), if_neg (by simp [h])]
  · show (if 0 < (k : Int) then _ else _) = _
    by_cases h : k = 0
    · rw [if_neg (by omega), if_pos h]
    · rw [if_pos (by omega), if_neg h]
      simp
/-- How the loop stands. -/
def RWr (w : World) (N M : Nat) (D : Dk) (S : Sh) (sure : ByteArray) (bits : List Bit) (t : ByteArray) (gg : Nat) (v10 v11 : Value) (wr : World) : Prop :=
  ∃ (k : Nat) (c : Bool) (D' : Dk) (bo : Option Addr) (bn bk : Nat), v10 = .int .i64 k ∧ v11 = .bool c ∧ t.size - k + (if c then 1 else 0) ≤ gg ∧ Hid (Powr D t.size k c D' ∧ Bx w N (dc D' S) wr ∧ FB wr M sure bo bn bk (bits ++ byteBits t k))
end Go.Proofs.YthfcmgbkhjnfjaaGreatDoor
