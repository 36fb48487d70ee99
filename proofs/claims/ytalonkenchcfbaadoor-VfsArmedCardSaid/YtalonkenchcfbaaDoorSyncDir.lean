/- The names are made sure: SyncDir. -/
import Derived.Test.YtalonkenchcfbaaDoorCreate
namespace Go.Proofs.YtalonkenchcfbaaDoor
open Go.RowKit Go.Maps
attribute [local go_sem ↓] Go.wp_at_zero Go.wp_at_succ

theorem owns_size {w : World} {P : Program} {k : TypeId} {R : Value → Option (DataW Unit × List MemPlace)} {b n : Nat} {M : DataW Unit} (h : w.ownsMap P k R b n M) : w.ownsMap P k R b (Maps.size M) M := by
  obtain ⟨es, clock, hb, F, _, rfl⟩ := h
  exact ⟨es, clock, hb, F, by rw [Maps.size_eq, length_read]; exact Nat.le_refl _, rfl⟩
/-- The disk with these names for sure. -/
def Dk.named (D : Dk) (M : DataW Unit) : Dk := { D with dir := M, waits := [] }
theorem turned_dir {w w0 : World} {ρ : Col} {b : Nat} {D : Dk} {L : Lay} (h : DiskAt w ρ b D L) (hb0 : Below w.heap.size w w0) {mb n : Nat} {M : DataW Unit} (hm : w0.ownsMap Tryd.prog 9 RI mb n M) (hmb : w.heap.size ≤ mb) :
    Turned w ρ b (D.named M) ((w0.setCell ⟨b, 6, none⟩ (.map (some mb))).setCell ⟨b, 7, none⟩ (.slice none 0 0)) := by
  have h0 := h.below hb0
  have hml := hm.lt
  have hbb : b ≠ mb := by have := h.blk.lt; omega
  obtain ⟨s1, k1⟩ := h0.blk.store (i := 6) (v := .map (some mb))
  obtain ⟨s2, k2⟩ := s1.store (i := 7) (v := .slice none 0 0)
  have k12 := k1.then k2
  have p2 := k12.only (p := fun c => c == 0) rfl
  have he : Ext w ρ (paint ρ mb 1) := paint_ext ρ 1 hmb
  have hk0 : Kept (Those (fun c => c == 0) ρ) w _ := (Kept.below hb0).then p2
  obtain ⟨-, -, q2, -, q4, q5⟩ := h.parts he hk0
  refine ⟨paint ρ mb 1, ⟨{ L with mb := mb, vw := .slice none 0 0 }, ⟨⟨s2.1, by rw [paint_else _ hbb]; exact h.blk.2⟩, ⟨owns_size (ownsMap_of_block hm ?_), paint_here _ _ _⟩, q2 rfl, Row.nil _ _ _ _ _, q4 rfl, h.len, fun i f F a c => q5 i f F a c (by simp) (by simp), ?_⟩⟩, he, hk0.those⟩
  · rw [Below.heap_setCell _ _ _ _ (by simpa using hbb.symm), Below.heap_setCell _ _ _ _ (by simpa using hbb.symm)]
  · exact ((h.fits.more hb0.size).paint hml).more k12.size
/-- The disk behind SyncDir, and its error. -/
def Dk.syncDir (D : Dk) : Nat × Dk :=
  if D.gone = true then (3, D) else if D.spent 1 < 1 then (3, D.spend 1) else (0, ((D.spend 1).named D.dirOf).did ⟨7, ⟨#[]⟩, ⟨#[]⟩, ⟨#[]⟩, 0⟩)
set_option maxHeartbeats 1600000 in
set_option maxRecDepth 20000 in
theorem syncDir_any (w : World) (ρ : Col) (b : Nat) (D : Dk) (L : Lay) (h : DiskAt w ρ b D L) (ok : D.Ok) :
    Calls Tryd.prog 10 #[.pointer (some ⟨b, 0, none⟩)] w fun e w' => e = .returned (errV D.syncDir.1) ∧ Turned w ρ b D.syncDir.2 w' := by
  have HD := Lib.hid h
  have OK := Lib.hid ok
  have A0 := asked_any _ [] w (names_none w) b D h.blk.lt h.cells.c3
  have ha : D.askedN [] = if D.gone then 3 else 0 := by unfold Dk.askedN; simp
  rw [ha] at A0
  cases hg : D.gone with
  | true =>
    rw [hg, if_pos rfl] at A0
    have A : Hid (Calls Tryd.prog 25 #[.pointer (some ⟨b, 0, none⟩), .slice none 0 0] w fun e w' => e = .returned (.iface 57 (.int .i64 3)) ∧ Below w.heap.size w w') := Lib.hid A0
    have hr : Hid (D.syncDir = (3, D)) := Lib.hid (by unfold Dk.syncDir; rw [if_pos hg])
    rw [hr.out]
    clear h ok A0 ha hg
    go_enter Tryd.func10, Tryd.ntmps10
    go_wp2_with fail
    refine A.out.mono ?_
    rintro e w1 ⟨rfl, b1⟩
    have B1 := Lib.hid b1
    clear b1
    go_wp2_with fail
    go_ret
    exact ⟨rfl, Turned.same ⟨L, HD.out⟩ B1.out⟩
  | false =>
    rw [hg, if_neg (by simp)] at A0
    have A : Hid (Calls Tryd.prog 25 #[.pointer (some ⟨b, 0, none⟩), .slice none 0 0] w fun e w' => e = .returned .nilIface ∧ Below w.heap.size w w') := Lib.hid A0
    by_cases hsp : D.spent 1 < 1
    · have hr : Hid (D.syncDir = (3, D.spend 1)) := Lib.hid (by unfold Dk.syncDir; rw [if_neg (by rw [hg]; simp), if_pos hsp])
      rw [hr.out]
      clear h ok A0 ha hg
      go_enter Tryd.func10, Tryd.ntmps10
      go_wp2_with fail
      refine A.out.mono ?_
      rintro e w1 ⟨rfl, b1⟩
      have B1 := Lib.hid b1
      have S0 := step_any w1 ρ b D L (HD.out.below b1) OK.out.units0 (by have := OK.out.units1; omega) OK.out.left0 OK.out.left1
      rw [if_pos hsp] at S0
      have S : Hid (Calls Tryd.prog 23 #[.pointer (some ⟨b, 0, none⟩)] w1 fun e w' => e = .returned (.iface 57 (.int .i64 3)) ∧ DiskAt w' ρ b (D.spend 1) L ∧ Kept (Only 0 ρ) w1 w') := Lib.hid S0
      clear b1 S0
      go_wp2_with fail
      refine S.out.mono ?_
      rintro e w2 ⟨rfl, d2, k2⟩
      have D2 := Lib.hid d2
      have K2 := Lib.hid k2
      clear d2 k2
      go_wp2_with fail
      go_ret
      exact ⟨rfl, Turned.of0 B1.out D2.out K2.out⟩
    · have hr : Hid (D.syncDir = (0, ((D.spend 1).named D.dirOf).did ⟨7, ⟨#[]⟩, ⟨#[]⟩, ⟨#[]⟩, 0⟩)) := Lib.hid (by unfold Dk.syncDir; rw [if_neg (by rw [hg]; simp), if_neg hsp])
      rw [hr.out]
      clear h ok A0 ha hg
      go_enter Tryd.func10, Tryd.ntmps10
      go_wp2_with fail
      refine A.out.mono ?_
      rintro e w1 ⟨rfl, b1⟩
      have B1 := Lib.hid b1
      have S0 := step_any w1 ρ b D L (HD.out.below b1) OK.out.units0 (by have := OK.out.units1; omega) OK.out.left0 OK.out.left1
      rw [if_neg (by omega)] at S0
      have S : Hid (Calls Tryd.prog 23 #[.pointer (some ⟨b, 0, none⟩)] w1 fun e w' => e = .returned .nilIface ∧ DiskAt w' ρ b (D.spend 1) L ∧ Kept (Only 0 ρ) w1 w') := Lib.hid S0
      clear b1 S0
      go_wp2_with fail
      refine S.out.mono ?_
      rintro e w2 ⟨rfl, d2, k2⟩
      have D2 := Lib.hid d2
      have KW : Hid (Kept ρ w w2) := Lib.hid ((Kept.below B1.out).then k2.wide)
      have R2 := Lib.hid (dir_any w2 ρ b (D.spend 1) L d2 (Nat.le_trans OK.out.names (by omega)) (Nat.le_trans OK.out.many (by omega)) OK.out.fits)
      have hb := d2.blk.lt
      have c6 := d2.cells.c6
      have f6 := d2.cells.f6
      have c7 := d2.cells.c7
      have f7 := d2.cells.f7
      clear d2 k2
      go_wp2_with fail
      refine R2.out.mono ?_
      rintro e w3 ⟨rfl, m3, b3⟩
      have k6 := (b3.cell (p := ⟨b, 6, none⟩) hb).trans c6
      have k7 := (b3.cell (p := ⟨b, 7, none⟩) hb).trans c7
      have g6 := (b3.frozen (p := ⟨b, 6, none⟩) hb).trans f6
      have g7 := (b3.frozen (p := ⟨b, 7, none⟩) hb).trans f7
      have T3 := Lib.hid (turned_dir D2.out b3 m3 (Nat.le_refl _))
      clear m3 b3 c6 c7 f6 f7
      go_wp2_with fail
      obtain ⟨ρ4, ⟨L4, d4⟩, e4, k4⟩ := T3.out
      refine (did_any ⟨7, ⟨#[]⟩, ⟨#[]⟩, ⟨#[]⟩, 0⟩ _ ρ4 b _ L4 d4 (Nat.le_trans OK.out.acts (by omega))).mono ?_
      rintro e w7 ⟨rfl, T7⟩
      have T7' := Lib.hid (Turned.next e4 k4 T7)
      clear T7 d4 e4 k4 T3
      go_wp2_with fail
      go_ret
      exact ⟨rfl, Turned.next (Ext.refl _ _) KW.out T7'.out⟩
end Go.Proofs.YtalonkenchcfbaaDoor
