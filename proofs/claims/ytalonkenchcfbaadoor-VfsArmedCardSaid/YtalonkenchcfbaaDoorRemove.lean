/- A name is taken away: Remove. A file is cut: Cut. -/
import Derived.Test.YtalonkenchcfbaaDoorRename
namespace Go.Proofs.YtalonkenchcfbaaDoor
open Go.RowKit Go.Maps
attribute [local go_sem ↓] Go.wp_at_zero Go.wp_at_succ

def Dk.remove (D : Dk) (s : ByteArray) : Nat × Dk :=
  if D.fileN s ≠ 0 then (D.fileN s, D) else if D.spent 1 < 1 then (3, D.spend 1) else (0, ((D.spend 1).moved ⟨⟨#[]⟩, s, 0⟩).did ⟨6, s, ⟨#[]⟩, ⟨#[]⟩, 0⟩)
set_option maxHeartbeats 1600000 in
set_option maxRecDepth 20000 in
theorem remove_any (s : ByteArray) (hs : s.size ≤ 1000) (w : World) (ρ : Col) (b : Nat) (D : Dk) (L : Lay) (h : DiskAt w ρ b D L) (ok : D.Ok) :
    Calls Tryd.prog 39 #[.pointer (some ⟨b, 0, none⟩), .string s] w fun e w' => e = .returned (errV (D.remove s).1) ∧ Turned w ρ b (D.remove s).2 w' := by
  have HD := Lib.hid h
  have OK := Lib.hid ok
  by_cases h0 : D.fileN s = 0
  · obtain ⟨h1, h2, f, F, h3, h4, h5⟩ := file_found' h ok h0
    have C := Lib.hid (file_ok s hs w ρ b D L h ok h1 h2 _ h5 f h3)
    by_cases hsp : D.spent 1 < 1
    · have hr : Hid (D.remove s = (3, D.spend 1)) := Lib.hid (by unfold Dk.remove; rw [if_neg (by omega), if_pos hsp])
      rw [hr.out]
      clear h ok h0 h1 h2 h3 h4 h5
      go_enter Tryd.func39, Tryd.ntmps39
      go_wp2_with fail
      refine C.out.mono ?_
      rintro e w1 ⟨rfl, b1⟩
      have B1 := Lib.hid b1
      have S0 := step_any w1 ρ b D L (HD.out.below b1) OK.out.units0 (by have := OK.out.units1; omega) OK.out.left0 OK.out.left1
      rw [if_pos hsp] at S0
      have S : Hid (Calls Tryd.prog 23 #[.pointer (some ⟨b, 0, none⟩)] w1 fun e w' => e = .returned (.iface 57 (.int .i64 3)) ∧ DiskAt w' ρ b (D.spend 1) L ∧ Kept (Only 0 ρ) w1 w') := Lib.hid S0
      clear b1 S0
      go_wp2_with fail
      refine S.out.mono ?_
      rintro e w2 ⟨rfl, d2, k2⟩
      have D2 := Lib.hid d2
      have K2 := Lib.hid k2
      clear d2 k2
      go_wp2_with fail
      go_ret
      exact ⟨rfl, Turned.of0 B1.out D2.out K2.out⟩
    · have hr : Hid (D.remove s = (0, ((D.spend 1).moved ⟨⟨#[]⟩, s, 0⟩).did ⟨6, s, ⟨#[]⟩, ⟨#[]⟩, 0⟩)) := Lib.hid (by unfold Dk.remove; rw [if_neg (by omega), if_neg hsp])
      rw [hr.out]
      obtain ⟨i0, hi0, hz0, hz1, hz2⟩ := info_parts infoE
      have hmany := OK.out.many
      clear h ok h0 h1 h2 h3 h4 h5
      go_enter Tryd.func39, Tryd.ntmps39
      go_wp2_with fail
      refine C.out.mono ?_
      rintro e w1 ⟨rfl, b1⟩
      have B1 := Lib.hid b1
      have S0 := step_any w1 ρ b D L (HD.out.below b1) OK.out.units0 (by have := OK.out.units1; omega) OK.out.left0 OK.out.left1
      rw [if_neg (by omega)] at S0
      have S : Hid (Calls Tryd.prog 23 #[.pointer (some ⟨b, 0, none⟩)] w1 fun e w' => e = .returned .nilIface ∧ DiskAt w' ρ b (D.spend 1) L ∧ Kept (Only 0 ρ) w1 w') := Lib.hid S0
      clear b1 S0
      go_wp2_with fail
      refine S.out.mono ?_
      rintro e w4 ⟨rfl, d2, k2⟩
      have D4 := Lib.hid d2
      have KW : Hid (Kept ρ w w4) := Lib.hid ((Kept.below B1.out).then k2.wide)
      have hb := d2.blk.lt
      have c7 := d2.cells.c7
      have f7 := d2.cells.f7
      have hown := d2.rowW.1
      have hmany2 : (D.spend 1).waits.length ≤ 1000000 := hmany
      have hne : L.vw.ownBlock ≠ some b := fun e => by have := d2.rowW.2 b e; rw [d2.blk.2] at this; cases this
      clear d2 k2
      go_wp2_with (at_builtin; refine wpList_append_lies _ rfl _ _ _ rfl 0 70 i0 _ 3 40 Tryd.underlying63 hi0 hz0 hz1 hz2 rfl (by omega) L.vw (D.spend 1).waits.length ((D.spend 1).waits.flatMap En.cells) rfl (hown.alloc _) ⟨w4.heap.size, 0, none⟩ 1 1 (En.cells ⟨⟨#[]⟩, s, 0⟩) rfl rfl (World.news_of_block (cs := (En.cells ⟨⟨#[]⟩, s, 0⟩).toArray) (t := 70) (fr := (0, 0)) (heap_alloc_new w4 _)) (by simp [En.cells, Value.oneCell']) (by omega) (by unfold maxLen; omega) (by omega) (by simp) (w4.heap.size + 1) (by simp) ?_; intro gg cap w5 hown1 hgrow hat hlt; refine Hid.out ?_)
      refine Lib.hid ?_
      have hbel : Below w4.heap.size w4 (w4.alloc (.cells (En.cells ⟨⟨#[]⟩, s, 0⟩).toArray 70)) := (Below.refl _ _).alloc (Nat.le_refl _) _
      have g7 : w5.frozen? ⟨b, 7, none⟩ = false := (hgrow.frozen_far _ (by simp; omega) (Ne.symm hne)).trans ((hbel.frozen (p := ⟨b, 7, none⟩) hb).trans f7)
      have k7 : w5.cell? ⟨b, 7, none⟩ = some L.vw := (hgrow.cell_far _ (by simp; omega) (Ne.symm hne)).trans ((hbel.cell (p := ⟨b, 7, none⟩) hb).trans c7)
      have T3 := turned_waits (x := ⟨⟨#[]⟩, s, 0⟩) D4.out hbel hown1 hgrow (by rcases hat with hat | hat; exact .inl hat; exact .inr (by rw [hat]; simp)) hlt
      have T3' := Lib.hid T3
      clear T3 hown1 hgrow hat hlt c7 f7 hown hne hmany2 hi0 hz0 hz1 hz2 hbel
      go_wp2_with fail
      obtain ⟨ρ5, ⟨L5, d5⟩, e5, k5⟩ := T3'.out
      refine (did_any ⟨6, s, ⟨#[]⟩, ⟨#[]⟩, 0⟩ _ ρ5 b _ L5 d5 (Nat.le_trans OK.out.acts (by omega))).mono ?_
      rintro e w7 ⟨rfl, T7⟩
      have T7' := Lib.hid (Turned.next (Ext.refl _ _) KW.out (Turned.next e5 k5 T7))
      clear T7 d5 e5 k5 T3'
      go_wp2_with fail
      go_ret
      exact ⟨rfl, T7'.out⟩
  · have C0 := file_err s hs w ρ b D L h ok h0
    rw [errV_pos h0] at C0
    have C := Lib.hid C0
    have hr : Hid (D.remove s = (D.fileN s, D)) := Lib.hid (by unfold Dk.remove; rw [if_pos h0])
    rw [hr.out]
    have EV := Lib.hid (errV_pos h0)
    clear h ok h0 C0
    go_enter Tryd.func39, Tryd.ntmps39
    go_wp2_with fail
    refine C.out.mono ?_
    rintro e w1 ⟨rfl, b1⟩
    have B1 := Lib.hid b1
    clear b1
    go_wp2_with fail
    go_ret
    exact ⟨by rw [EV.out]; rfl, Turned.same ⟨L, HD.out⟩ B1.out⟩
end Go.Proofs.YtalonkenchcfbaaDoor
