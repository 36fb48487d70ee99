/- Bytes are written at a file's end: Write. -/
import Derived.Test.YtalonkenchcfbaaDoorSync
namespace Go.Proofs.YtalonkenchcfbaaDoor
open Go.RowKit Go.Maps
attribute [local go_sem ↓] Go.wp_at_zero Go.wp_at_succ

def Dk.fileAt (D : Dk) (s : ByteArray) : Fl := D.files.getD (D.idx s) Fl.fresh
/-- The disk behind a write of n bytes that there was power for. -/
def Dk.wrote (D : Dk) (s text : ByteArray) (n : Int) : Dk :=
  if 0 < n then ((D.spend text.size).setFile (D.idx s) ((D.fileAt s).push ⟨text.extract 0 n.toNat, 0, false⟩)).did ⟨2, s, ⟨#[]⟩, text.extract 0 n.toNat, 0⟩ else D.spend text.size
def Dk.write (D : Dk) (s text : ByteArray) : Nat × Dk :=
  if D.fileN s ≠ 0 then (D.fileN s, D) else if D.free < text.size then (4, D) else
  (if D.spent text.size < text.size then 3 else 0, D.wrote s text (D.spent text.size))
theorem spent_bounds {D : Dk} {n : Int} (h0 : 0 ≤ D.left) (hn : 0 ≤ n) : 0 ≤ D.spent n ∧ D.spent n ≤ n := by
  unfold Dk.spent
  split
  · rename_i h; omega
  · omega
theorem below_one (w : World) (o : Obj) : Below w.heap.size w (w.alloc o).drew := ((Below.refl _ _).alloc (Nat.le_refl _) _).drew
set_option maxHeartbeats 3200000 in
set_option maxRecDepth 100000 in
theorem write_ok (s text : ByteArray) (hs : s.size ≤ 1000) (ht : text.size ≤ 1000000) (w : World) (ρ : Col) (b : Nat) (D : Dk) (L : Lay) (h : DiskAt w ρ b D L) (ok : D.Ok) (hr0 : 0 ≤ D.room) (hr1 : D.room ≤ 9223372036854775807) (h0 : D.fileN s = 0) (hfree : ¬ D.free < text.size) :
    Calls Tryd.prog 11 #[.pointer (some ⟨b, 0, none⟩), .string s, .string text] w fun e w' => e = .returned (errV (if D.spent text.size < text.size then 3 else 0)) ∧ Turned w ρ b (D.wrote s text (D.spent text.size)) w' := by
  have HD := Lib.hid h
  have OK := Lib.hid ok
  obtain ⟨h1, h2, f, F, h3, h4, h5⟩ := file_found' h ok h0
  have C := Lib.hid (file_ok s hs w ρ b D L h ok h1 h2 _ h5 f h3)
  have hFok := ok.files F (List.mem_of_getElem? h4)
  have hFA : D.fileAt s = F := by unfold Dk.fileAt; rw [List.getD_eq_getElem?_getD, h4]; rfl
  obtain ⟨hn0, hn1⟩ := spent_bounds (D := D) (n := text.size) ok.left0 (by omega)
  have hlf := ok.left1
  have hlf0 := ok.left0
  have hu0 := ok.units0
  have hu1 := ok.units1
  have SP := fun (w1 : World) (b1 : Below w.heap.size w w1) => spend_any text.size w1 ρ b D L (h.below b1) (by omega) (by omega) hu0 (by omega) hlf0 hlf
  have FR := fun (w1 : World) (b1 : Below w.heap.size w w1) => free_any w1 ρ b D L (h.below b1) ok hr0 hr1
  unfold Dk.wrote
  rw [hFA]
  generalize D.spent text.size = n at *
  have hwm : F.waits.length ≤ 10000000 := hFok.many
  obtain ⟨fr, hfr⟩ : ∃ fr, D.free = fr := ⟨_, rfl⟩
  rw [hfr] at FR hfree
  have hfree' : (text.size : Int) ≤ fr := by omega
  have SP' := Lib.hid SP
  have FR' := Lib.hid FR
  have H3 := Lib.hid h3
  have H4 := Lib.hid h4
  obtain ⟨i0, hi0, hz0, hz1, hz2⟩ := info_parts infoW
  clear h ok h0 h1 h2 h3 h4 h5 hFok hFA SP FR hfree hfr hlf hlf0 hu0 hu1
  have hacts := OK.out.acts
  by_cases hp : 0 < n
  · rw [if_pos hp]
    have hp1 : 1 ≤ n := hp
    have hlt : n.toNat ≤ text.size := by omega
    by_cases hlast : n < text.size
    · rw [if_pos hlast]
      go_enter Tryd.func11, Tryd.ntmps11
      go_wp2_with fail
      refine C.out.mono ?_
      rintro e w1 ⟨rfl, b1⟩
      have B1 := Lib.hid b1
      clear b1
      go_wp2_with fail
      refine (FR'.out w1 B1.out).mono ?_
      rintro e w2 ⟨rfl, b2⟩
      have B2 : Hid (Below w.heap.size w w2) := Lib.hid (B1.out.trans (b2.mono B1.out.size))
      clear b2
      go_wp2_with fail
      refine (SP'.out w2 B2.out).mono ?_
      rintro e w3 ⟨rfl, d3, k3⟩
      have D3 := Lib.hid d3
      have KW : Hid (Kept ρ w w3) := Lib.hid ((Kept.below B2.out).then k3.wide)
      have fa := d3.files _ f F H3.out H4.out
      have hfl := fa.1.lt
      obtain ⟨-, c1, -, f1⟩ := fa.cells
      have hown := fa.2.1
      have hne : f.2.ownBlock ≠ some f.1 := fun e => by have := fa.2.2 f.1 e; rw [fa.1.2] at this; simp at this
      clear d3 k3 fa
      go_wp2_with fail
      go_region_law
        ((refine step_append_lies _ (by rfl) _ _ _ (by rfl) 0 81 i0 _ 3 32 Tryd.underlying71 hi0 hz0 hz1 hz2 rfl (by omega) f.2 F.waits.length (F.waits.flatMap Wt.cells) (by rfl) ((hown.alloc _).drew)
              ⟨w3.heap.size, 0, none⟩ 1 1 (Wt.cells ⟨text.extract 0 n.toNat, 0, false⟩) (by rfl) (by rfl) (World.news_of_block (cs := (Wt.cells ⟨text.extract 0 n.toNat, 0, false⟩).toArray) (t := 81) (fr := (0, 0)) (heap_alloc_new w3 _)) (by simp [Wt.cells, Value.oneCell'])
              (by omega) (by unfold maxLen; omega) (by omega) (by simp) (w3.heap.size + 1) (by simp) ?_; intro gg cap w4 hown1 hgrow hat hltg; have g1 : w4.frozen? ⟨f.1, 1, none⟩ = false := (hgrow.frozen_far _ (by simp; omega) (Ne.symm hne)).trans (((below_one w3 _).frozen (p := ⟨f.1, 1, none⟩) hfl).trans f1); have k1 : w4.cell? ⟨f.1, 1, none⟩ = some f.2 := (hgrow.cell_far _ (by simp; omega) (Ne.symm hne)).trans (((below_one w3 _).cell (p := ⟨f.1, 1, none⟩) hfl).trans c1)))
      all_goals
        have T5 := Lib.hid (turned_push D3.out H3.out H4.out (below_one w3 _) ⟨text.extract 0 n.toNat, 0, false⟩ hown1 hgrow (by rcases hat with hat | hat; exact .inl hat; exact .inr (by rw [hat]; simp)) hltg)
        clear hown1 hgrow hat hltg g1 k1 c1 f1 hown hne hi0 hz0 hz1 hz2
        go_wp2_with fail
        obtain ⟨ρ5, ⟨L5, d5⟩, e5, k5⟩ := T5.out
        refine (did_any ⟨2, s, ⟨#[]⟩, text.extract 0 n.toNat, 0⟩ _ ρ5 b _ L5 d5 (Nat.le_trans hacts (by omega))).mono ?_
        rintro e w7 ⟨rfl, T7⟩
        have T7' := Lib.hid (Turned.next e5 k5 T7)
        clear T7 d5 e5 k5 T5
        go_wp2_with fail
        go_ret
        exact ⟨rfl, Turned.next (Ext.refl _ _) KW.out T7'.out⟩
    · have hlast' : (text.size : Int) ≤ n := by omega
      rw [if_neg hlast]
      go_enter Tryd.func11, Tryd.ntmps11
      go_wp2_with fail
      refine C.out.mono ?_
      rintro e w1 ⟨rfl, b1⟩
      have B1 := Lib.hid b1
      clear b1
      go_wp2_with fail
      refine (FR'.out w1 B1.out).mono ?_
      rintro e w2 ⟨rfl, b2⟩
      have B2 : Hid (Below w.heap.size w w2) := Lib.hid (B1.out.trans (b2.mono B1.out.size))
      clear b2
      go_wp2_with fail
      refine (SP'.out w2 B2.out).mono ?_
      rintro e w3 ⟨rfl, d3, k3⟩
      have D3 := Lib.hid d3
      have KW : Hid (Kept ρ w w3) := Lib.hid ((Kept.below B2.out).then k3.wide)
      have fa := d3.files _ f F H3.out H4.out
      have hfl := fa.1.lt
      obtain ⟨-, c1, -, f1⟩ := fa.cells
      have hown := fa.2.1
      have hne : f.2.ownBlock ≠ some f.1 := fun e => by have := fa.2.2 f.1 e; rw [fa.1.2] at this; simp at this
      clear d3 k3 fa
      go_wp2_with fail
      go_region_law
        ((refine step_append_lies _ (by rfl) _ _ _ (by rfl) 0 81 i0 _ 3 32 Tryd.underlying71 hi0 hz0 hz1 hz2 rfl (by omega) f.2 F.waits.length (F.waits.flatMap Wt.cells) (by rfl) ((hown.alloc _).drew)
              ⟨w3.heap.size, 0, none⟩ 1 1 (Wt.cells ⟨text.extract 0 n.toNat, 0, false⟩) (by rfl) (by rfl) (World.news_of_block (cs := (Wt.cells ⟨text.extract 0 n.toNat, 0, false⟩).toArray) (t := 81) (fr := (0, 0)) (heap_alloc_new w3 _)) (by simp [Wt.cells, Value.oneCell'])
              (by omega) (by unfold maxLen; omega) (by omega) (by simp) (w3.heap.size + 1) (by simp) ?_; intro gg cap w4 hown1 hgrow hat hltg; have g1 : w4.frozen? ⟨f.1, 1, none⟩ = false := (hgrow.frozen_far _ (by simp; omega) (Ne.symm hne)).trans (((below_one w3 _).frozen (p := ⟨f.1, 1, none⟩) hfl).trans f1); have k1 : w4.cell? ⟨f.1, 1, none⟩ = some f.2 := (hgrow.cell_far _ (by simp; omega) (Ne.symm hne)).trans (((below_one w3 _).cell (p := ⟨f.1, 1, none⟩) hfl).trans c1)))
      all_goals
        have T5 := Lib.hid (turned_push D3.out H3.out H4.out (below_one w3 _) ⟨text.extract 0 n.toNat, 0, false⟩ hown1 hgrow (by rcases hat with hat | hat; exact .inl hat; exact .inr (by rw [hat]; simp)) hltg)
        clear hown1 hgrow hat hltg g1 k1 c1 f1 hown hne hi0 hz0 hz1 hz2
        go_wp2_with fail
        obtain ⟨ρ5, ⟨L5, d5⟩, e5, k5⟩ := T5.out
        refine (did_any ⟨2, s, ⟨#[]⟩, text.extract 0 n.toNat, 0⟩ _ ρ5 b _ L5 d5 (Nat.le_trans hacts (by omega))).mono ?_
        rintro e w7 ⟨rfl, T7⟩
        have T7' := Lib.hid (Turned.next e5 k5 T7)
        clear T7 d5 e5 k5 T5
        go_wp2_with fail
        go_ret
        exact ⟨rfl, Turned.next (Ext.refl _ _) KW.out T7'.out⟩
  · rw [if_neg hp]
    have hp1 : n = 0 := by omega
    clear hi0 hz0 hz1 hz2 hp hn0 hn1
    subst hp1
    by_cases hlast : (0 : Int) < text.size
    · rw [if_pos hlast]
      go_enter Tryd.func11, Tryd.ntmps11
      go_wp2_with fail
      refine C.out.mono ?_
      rintro e w1 ⟨rfl, b1⟩
      have B1 := Lib.hid b1
      clear b1
      go_wp2_with fail
      refine (FR'.out w1 B1.out).mono ?_
      rintro e w2 ⟨rfl, b2⟩
      have B2 : Hid (Below w.heap.size w w2) := Lib.hid (B1.out.trans (b2.mono B1.out.size))
      clear b2
      go_wp2_with fail
      refine (SP'.out w2 B2.out).mono ?_
      rintro e w3 ⟨rfl, d3, k3⟩
      have T3 := Lib.hid (Turned.of0 B2.out d3 k3)
      clear d3 k3
      go_wp2_with fail
      go_ret
      exact ⟨rfl, T3.out⟩
    · have hlast' : (text.size : Int) ≤ 0 := by omega
      rw [if_neg hlast]
      go_enter Tryd.func11, Tryd.ntmps11
      go_wp2_with fail
      refine C.out.mono ?_
      rintro e w1 ⟨rfl, b1⟩
      have B1 := Lib.hid b1
      clear b1
      go_wp2_with fail
      refine (FR'.out w1 B1.out).mono ?_
      rintro e w2 ⟨rfl, b2⟩
      have B2 : Hid (Below w.heap.size w w2) := Lib.hid (B1.out.trans (b2.mono B1.out.size))
      clear b2
      go_wp2_with fail
      refine (SP'.out w2 B2.out).mono ?_
      rintro e w3 ⟨rfl, d3, k3⟩
      have T3 := Lib.hid (Turned.of0 B2.out d3 k3)
      clear d3 k3
      go_wp2_with fail
      go_ret
      exact ⟨rfl, T3.out⟩
set_option maxHeartbeats 1600000 in
set_option maxRecDepth 20000 in
theorem write_any (s text : ByteArray) (hs : s.size ≤ 1000) (ht : text.size ≤ 1000000) (w : World) (ρ : Col) (b : Nat) (D : Dk) (L : Lay) (h : DiskAt w ρ b D L) (ok : D.Ok) (hr0 : 0 ≤ D.room) (hr1 : D.room ≤ 9223372036854775807) :
    Calls Tryd.prog 11 #[.pointer (some ⟨b, 0, none⟩), .string s, .string text] w fun e w' => e = .returned (errV (D.write s text).1) ∧ Turned w ρ b (D.write s text).2 w' := by
  by_cases h0 : D.fileN s = 0
  · by_cases hfree : D.free < text.size
    · have hr : Hid (D.write s text = (4, D)) := Lib.hid (by unfold Dk.write; rw [if_neg (by omega), if_pos hfree])
      rw [hr.out]
      obtain ⟨h1, h2, f, F, h3, h4, h5⟩ := file_found' h ok h0
      have C := Lib.hid (file_ok s hs w ρ b D L h ok h1 h2 _ h5 f h3)
      have HD := Lib.hid h
      have FR := fun (w1 : World) (b1 : Below w.heap.size w w1) => free_any w1 ρ b D L (h.below b1) ok hr0 hr1
      obtain ⟨fr, hfr⟩ : ∃ fr, D.free = fr := ⟨_, rfl⟩
      rw [hfr] at FR hfree
      have FR' := Lib.hid FR
      clear h ok h0 h1 h2 h3 h4 h5 hfr FR hr
      go_enter Tryd.func11, Tryd.ntmps11
      go_wp2_with fail
      refine C.out.mono ?_
      rintro e w1 ⟨rfl, b1⟩
      have B1 := Lib.hid b1
      clear b1
      go_wp2_with fail
      refine (FR'.out w1 B1.out).mono ?_
      rintro e w2 ⟨rfl, b2⟩
      have B2 : Hid (Below w.heap.size w w2) := Lib.hid (B1.out.trans (b2.mono B1.out.size))
      clear b2
      go_wp2_with fail
      go_ret
      exact ⟨rfl, Turned.same ⟨L, HD.out⟩ B2.out⟩
    · have hr : Hid (D.write s text = (if D.spent text.size < text.size then 3 else 0, D.wrote s text (D.spent text.size))) := Lib.hid (by unfold Dk.write; rw [if_neg (by omega), if_neg hfree])
      rw [hr.out]
      exact write_ok s text hs ht w ρ b D L h ok hr0 hr1 h0 hfree
  · have hr : Hid (D.write s text = (D.fileN s, D)) := Lib.hid (by unfold Dk.write; rw [if_pos h0])
    rw [hr.out]
    have C0 := file_err s hs w ρ b D L h ok h0
    rw [errV_pos h0] at C0
    have C := Lib.hid C0
    have EV := Lib.hid (errV_pos h0)
    have HD := Lib.hid h
    clear h ok h0 C0
    go_enter Tryd.func11, Tryd.ntmps11
    go_wp2_with fail
    refine C.out.mono ?_
    rintro e w1 ⟨rfl, b1⟩
    have B1 := Lib.hid b1
    clear b1
    go_wp2_with fail
    go_ret
    exact ⟨by rw [EV.out]; rfl, Turned.same ⟨L, HD.out⟩ B1.out⟩
end Go.Proofs.YtalonkenchcfbaaDoor
