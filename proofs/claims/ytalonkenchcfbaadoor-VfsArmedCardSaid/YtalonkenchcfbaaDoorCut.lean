/- A file is cut: Cut. -/
import Derived.Test.YtalonkenchcfbaaDoorRemove
namespace Go.Proofs.YtalonkenchcfbaaDoor
open Go.RowKit Go.Maps
attribute [local go_sem ↓] Go.wp_at_zero Go.wp_at_succ

def Dk.cutFile (D : Dk) (s : ByteArray) (n : Int) : Nat × Dk :=
  if D.fileN s ≠ 0 then (D.fileN s, D) else if n < 0 ∨ (D.text s).size < n then (1, D) else
  if D.spent 1 < 1 then (3, D.spend 1) else (0, ((D.spend 1).setFile (D.idx s) ((D.fileAt s).push ⟨⟨#[]⟩, n, true⟩)).did ⟨3, s, ⟨#[]⟩, ⟨#[]⟩, n⟩)
set_option maxHeartbeats 1600000 in
set_option maxRecDepth 20000 in
theorem cut_any (s : ByteArray) (hs : s.size ≤ 1000) (n : Int) (w : World) (ρ : Col) (b : Nat) (D : Dk) (L : Lay) (h : DiskAt w ρ b D L) (ok : D.Ok) :
    Calls Tryd.prog 35 #[.pointer (some ⟨b, 0, none⟩), .string s, .int .i64 n] w fun e w' => e = .returned (errV (D.cutFile s n).1) ∧ Turned w ρ b (D.cutFile s n).2 w' := by
  have HD := Lib.hid h
  have OK := Lib.hid ok
  by_cases h0 : D.fileN s = 0
  · obtain ⟨h1, h2, f, F, h3, h4, h5⟩ := file_found' h ok h0
    have C := Lib.hid (file_ok s hs w ρ b D L h ok h1 h2 _ h5 f h3)
    have hFok := ok.files F (List.mem_of_getElem? h4)
    have htx : D.text s = F.seen := by unfold Dk.text; rw [h4]
    have hFA : D.fileAt s = F := by unfold Dk.fileAt; rw [List.getD_eq_getElem?_getD, h4]; rfl
    have hsz : F.seen.size ≤ 10000000 := Nat.le_trans (F.behind_size (-1)) hFok.mass
    have H3 := Lib.hid h3
    have H4 := Lib.hid h4
    have HF := Lib.hid hFok
    by_cases hneg : n < 0
    · have hr : Hid (D.cutFile s n = (1, D)) := Lib.hid (by unfold Dk.cutFile; rw [if_neg (by omega), if_pos (.inl hneg)])
      rw [hr.out]
      clear h ok h0 h1 h2 h3 h4 h5 hFok htx hFA
      go_enter Tryd.func35, Tryd.ntmps35
      go_wp2_with fail
      refine C.out.mono ?_
      rintro e w1 ⟨rfl, b1⟩
      have B1 := Lib.hid b1
      clear b1
      go_wp2_with fail
      go_ret
      exact ⟨rfl, Turned.same ⟨L, HD.out⟩ B1.out⟩
    · by_cases hbig : (F.seen.size : Int) < n
      · have hr : Hid (D.cutFile s n = (1, D)) := Lib.hid (by unfold Dk.cutFile; rw [if_neg (by omega), if_pos (.inr (by rw [htx]; exact hbig))])
        rw [hr.out]
        clear h ok h0 h1 h2 h3 h4 h5 hFok htx hFA
        go_enter Tryd.func35, Tryd.ntmps35
        go_wp2_with fail
        refine C.out.mono ?_
        rintro e w1 ⟨rfl, b1⟩
        have B1 := Lib.hid b1
        have R2 := Lib.hid (seen_any w1 ρ _ f F ((HD.out.below b1).files _ f F H3.out H4.out) HF.out)
        clear b1
        go_wp2_with fail
        refine R2.out.mono ?_
        rintro e w2 ⟨rfl, b2⟩
        have B2 : Hid (Below w.heap.size w w2) := Lib.hid (B1.out.trans (b2.mono B1.out.size))
        clear b2
        go_wp2_with fail
        go_ret
        exact ⟨rfl, Turned.same ⟨L, HD.out⟩ B2.out⟩
      · have hin : ¬ (n < 0 ∨ ((D.text s).size : Int) < n) := by rw [htx]; omega
        have hn0 : 0 ≤ n := by omega
        have hn1 : n ≤ F.seen.size := by omega
        by_cases hsp : D.spent 1 < 1
        · have hr : Hid (D.cutFile s n = (3, D.spend 1)) := Lib.hid (by unfold Dk.cutFile; rw [if_neg (by omega), if_neg hin, if_pos hsp])
          rw [hr.out]
          clear h ok h0 h1 h2 h3 h4 h5 hFok htx hFA hin hneg hbig
          go_enter Tryd.func35, Tryd.ntmps35
          go_wp2_with fail
          refine C.out.mono ?_
          rintro e w1 ⟨rfl, b1⟩
          have B1 := Lib.hid b1
          have R2 := Lib.hid (seen_any w1 ρ _ f F ((HD.out.below b1).files _ f F H3.out H4.out) HF.out)
          clear b1
          go_wp2_with fail
          refine R2.out.mono ?_
          rintro e w2 ⟨rfl, b2⟩
          have B2 : Hid (Below w.heap.size w w2) := Lib.hid (B1.out.trans (b2.mono B1.out.size))
          clear b2
          have S0 := step_any w2 ρ b D L (HD.out.below B2.out) OK.out.units0 (by have := OK.out.units1; omega) OK.out.left0 OK.out.left1
          rw [if_pos hsp] at S0
          have S : Hid (Calls Tryd.prog 23 #[.pointer (some ⟨b, 0, none⟩)] w2 fun e w' => e = .returned (.iface 57 (.int .i64 3)) ∧ DiskAt w' ρ b (D.spend 1) L ∧ Kept (Only 0 ρ) w2 w') := Lib.hid S0
          clear S0
          go_wp2_with fail
          refine S.out.mono ?_
          rintro e w3 ⟨rfl, d2, k2⟩
          have D2 := Lib.hid d2
          have K2 := Lib.hid k2
          clear d2 k2
          go_wp2_with fail
          go_ret
          exact ⟨rfl, Turned.of0 B2.out D2.out K2.out⟩
        · have hr : Hid (D.cutFile s n = (0, ((D.spend 1).setFile (D.idx s) (F.push ⟨⟨#[]⟩, n, true⟩)).did ⟨3, s, ⟨#[]⟩, ⟨#[]⟩, n⟩)) := Lib.hid (by unfold Dk.cutFile; rw [if_neg (by omega), if_neg hin, if_neg hsp, hFA])
          rw [hr.out]
          obtain ⟨i0, hi0, hz0, hz1, hz2⟩ := info_parts infoW
          have hwm : F.waits.length ≤ 10000000 := hFok.many
          clear h ok h0 h1 h2 h3 h4 h5 hFok htx hFA hin hneg hbig
          go_enter Tryd.func35, Tryd.ntmps35
          go_wp2_with fail
          refine C.out.mono ?_
          rintro e w1 ⟨rfl, b1⟩
          have B1 := Lib.hid b1
          have R2 := Lib.hid (seen_any w1 ρ _ f F ((HD.out.below b1).files _ f F H3.out H4.out) HF.out)
          clear b1
          go_wp2_with fail
          refine R2.out.mono ?_
          rintro e w2 ⟨rfl, b2⟩
          have B2 : Hid (Below w.heap.size w w2) := Lib.hid (B1.out.trans (b2.mono B1.out.size))
          clear b2
          have S0 := step_any w2 ρ b D L (HD.out.below B2.out) OK.out.units0 (by have := OK.out.units1; omega) OK.out.left0 OK.out.left1
          rw [if_neg (by omega)] at S0
          have S : Hid (Calls Tryd.prog 23 #[.pointer (some ⟨b, 0, none⟩)] w2 fun e w' => e = .returned .nilIface ∧ DiskAt w' ρ b (D.spend 1) L ∧ Kept (Only 0 ρ) w2 w') := Lib.hid S0
          clear S0
          go_wp2_with fail
          refine S.out.mono ?_
          rintro e w3 ⟨rfl, d3, k3⟩
          have D3 := Lib.hid d3
          have KW : Hid (Kept ρ w w3) := Lib.hid ((Kept.below B2.out).then k3.wide)
          have fa := d3.files _ f F H3.out H4.out
          have hfl := fa.1.lt
          obtain ⟨-, c1, -, f1⟩ := fa.cells
          have hown := fa.2.1
          have hne : f.2.ownBlock ≠ some f.1 := fun e => by have := fa.2.2 f.1 e; rw [fa.1.2] at this; simp at this
          clear d3 k3 fa
          go_wp2_with (at_builtin; refine wpList_append_lies _ rfl _ _ _ rfl 0 81 i0 _ 3 32 Tryd.underlying71 hi0 hz0 hz1 hz2 rfl (by omega) f.2 F.waits.length (F.waits.flatMap Wt.cells) rfl (hown.alloc _) ⟨w3.heap.size, 0, none⟩ 1 1 (Wt.cells ⟨⟨#[]⟩, n, true⟩) rfl rfl (World.news_of_block (cs := (Wt.cells ⟨⟨#[]⟩, n, true⟩).toArray) (t := 81) (fr := (0, 0)) (heap_alloc_new w3 _)) (by simp [Wt.cells, Value.oneCell']) (by omega) (by unfold maxLen; omega) (by omega) (by simp) (w3.heap.size + 1) (by simp) ?_; intro gg cap w5 hown1 hgrow hat hlt; refine Hid.out ?_)
          refine Lib.hid ?_
          have hbel : Below w3.heap.size w3 (w3.alloc (.cells (Wt.cells ⟨⟨#[]⟩, n, true⟩).toArray 81)) := (Below.refl _ _).alloc (Nat.le_refl _) _
          have g1 : w5.frozen? ⟨f.1, 1, none⟩ = false := (hgrow.frozen_far _ (by simp; omega) (Ne.symm hne)).trans ((hbel.frozen (p := ⟨f.1, 1, none⟩) hfl).trans f1)
          have k1 : w5.cell? ⟨f.1, 1, none⟩ = some f.2 := (hgrow.cell_far _ (by simp; omega) (Ne.symm hne)).trans ((hbel.cell (p := ⟨f.1, 1, none⟩) hfl).trans c1)
          have T5 := Lib.hid (turned_push D3.out H3.out H4.out hbel ⟨⟨#[]⟩, n, true⟩ hown1 hgrow (by rcases hat with hat | hat; exact .inl hat; exact .inr (by rw [hat]; simp)) hlt)
          clear hown1 hgrow hat hlt c1 f1 hown hne hi0 hz0 hz1 hz2 hbel
          go_wp2_with fail
          obtain ⟨ρ5, ⟨L5, d5⟩, e5, k5⟩ := T5.out
          refine (did_any ⟨3, s, ⟨#[]⟩, ⟨#[]⟩, n⟩ _ ρ5 b _ L5 d5 (Nat.le_trans OK.out.acts (by omega))).mono ?_
          rintro e w7 ⟨rfl, T7⟩
          have T7' := Lib.hid (Turned.next (Ext.refl _ _) KW.out (Turned.next e5 k5 T7))
          clear T7 d5 e5 k5 T5
          go_wp2_with fail
          go_ret
          exact ⟨rfl, T7'.out⟩
  · have C0 := file_err s hs w ρ b D L h ok h0
    rw [errV_pos h0] at C0
    have C := Lib.hid C0
    have hr : Hid (D.cutFile s n = (D.fileN s, D)) := Lib.hid (by unfold Dk.cutFile; rw [if_pos h0])
    rw [hr.out]
    have EV := Lib.hid (errV_pos h0)
    clear h ok h0 C0
    go_enter Tryd.func35, Tryd.ntmps35
    go_wp2_with fail
    refine C.out.mono ?_
    rintro e w1 ⟨rfl, b1⟩
    have B1 := Lib.hid b1
    clear b1
    go_wp2_with fail
    go_ret
    exact ⟨by rw [EV.out]; rfl, Turned.same ⟨L, HD.out⟩ B1.out⟩
end Go.Proofs.YtalonkenchcfbaaDoor
