/- What was done, as a copy (Acts): how many there are. And a disk that is armed (Arm). -/
import Derived.Test.YtalonkenchcfbaaDoorWrite
import Derived.WalkSpells
namespace Go.Proofs.YtalonkenchcfbaaDoor
open Go.RowKit Go.Maps
attribute [local go_sem ↓] Go.wp_at_zero Go.wp_at_succ

def Dk.arm (D : Dk) (n : Int) : Dk := { D with armed := true, left := n }
set_option maxHeartbeats 400000 in
theorem arm_ok (n : Int) (h0 : 0 ≤ n) (w : World) (ρ : Col) (b : Nat) (D : Dk) (L : Lay) (h : DiskAt w ρ b D L) :
    Calls Tryd.prog 17 #[.pointer (some ⟨b, 0, none⟩), .int .i64 n] w fun e w' => e = .returned .nilIface ∧ DiskAt w' ρ b (D.arm n) L ∧ Kept (Only 0 ρ) w w' := by
  obtain ⟨c0, c1, c2, c3, -, -, -, -, -, f0, f1, f2, f3, -, -, -, -⟩ := h.cells
  obtain ⟨s1, k1⟩ := h.blk.store (i := 2) (v := .bool true)
  obtain ⟨s2, k2⟩ := s1.store (i := 1) (v := .int .i64 n)
  have T := Lib.hid (show DiskAt _ ρ b (D.arm n) L ∧ Kept (Only 0 ρ) w _ from ⟨h.change (k1.then k2) (set_eq s2.1 rfl) rfl rfl rfl rfl, k1.then k2⟩)
  clear h s1 s2 k1 k2
  go_enter Tryd.func17, Tryd.ntmps17
  go_wp2_with fail
  go_ret
  exact ⟨rfl, T.out⟩
theorem arm_bad (n : Int) (h0 : n < 0) (w : World) (b : Nat) :
    Calls Tryd.prog 17 #[.pointer (some ⟨b, 0, none⟩), .int .i64 n] w fun e w' => e = .returned (.iface 57 (.int .i64 1)) ∧ w = w' := by
  go_enter Tryd.func17, Tryd.ntmps17
  go_wp2_with fail
  go_ret
  exact ⟨rfl, rfl⟩
/-- A copy of a row of acts: so many. -/
def CountPost (n : Nat) (w : World) (e : Ending) (w' : World) : Prop := ∃ ao cp, e = .returned (.slice ao n cp) ∧ Below w.heap.size w w'
set_option maxHeartbeats 800000 in
set_option maxRecDepth 20000 in
theorem clone_any (v : Value) (xs : List Value) (n : Nat) (w : World) (hown : w.ownsRow 0 76 5 v n xs) (hn : 0 < n) (hn1 : n ≤ 1000000) (h1 : ∀ u ∈ xs, u.oneCell' = true) :
    Calls Tryd.prog 45 #[v] w (CountPost n w) := by
  obtain ⟨i0, hi0, hz0, hz1, hz2⟩ := info_parts infoA
  obtain ⟨g, c, hv, -, hg⟩ := hown.form hn
  have hcells := hown.cells (g := g) (by rw [hv]; rfl)
  have hlen := Lib.hid hown.1
  have HC := Lib.hid hcells
  have H1 := Lib.hid h1
  have hq : ∀ w, (binOp .eql 55 (.slice (some ⟨g, 0, none⟩) n c) (.slice none 0 0)).run Tryd.prog w = .ok (.bool false) w := fun w => by kernel_rfl
  subst hv
  clear hown hcells h1
  go_enter Tryd.func45, Tryd.ntmps45
  have hm := World.ownsRow_made (base := 0) (e := 76) (size := 5) w #[] 0 (Nat.zero_le _) (Nat.zero_le _) rfl
  have hb1 : Below w.heap.size w (w.alloc (.cells #[] 76)) := (Below.refl _ _).alloc (Nat.le_refl _) _
  have HM := Lib.hid hm
  have HB1 := Lib.hid hb1
  clear hm hb1
  go_wp2_with (at_builtin; refine wpList_append_lies _ rfl _ _ _ rfl 0 76 i0 _ 5 64 Tryd.underlying55 hi0 hz0 hz1 hz2 rfl (by omega) (.slice (some ⟨w.heap.size, 0, none⟩) 0 0) 0 [] rfl HM.out ⟨g, 0, none⟩ n c xs rfl hlen.out (fun j u hu => by rw [HB1.out.cell (p := (⟨g, 0, none⟩ : Addr).add j) (by rw [add_at]; exact hg)]; exact HC.out j u hu) H1.out hn (by unfold maxLen; omega) (by omega) (Nat.zero_le _) _ rfl ?_; intro gg cap w1 hown1 hgrow hat hlt; clear hown1 hlt)
  go_ret
  exact ⟨some ⟨gg, 0, none⟩, cap, rfl, HB1.out.grown hgrow HB1.out.size (fun k hk => by cases hk; exact Nat.le_refl _)⟩
theorem acts_any (w : World) (ρ : Col) (b : Nat) (D : Dk) (L : Lay) (h : DiskAt w ρ b D L) (h0 : 0 < D.acts.length) (h1 : D.acts.length ≤ 1000000) :
    Calls Tryd.prog 21 #[.pointer (some ⟨b, 0, none⟩)] w (CountPost D.acts.length w) := by
  have c8 := h.cells.c8
  have C := Lib.hid (clone_any L.va _ _ w h.rowA.1 h0 h1 (by
    intro u hu
    obtain ⟨a, _, ha⟩ := List.mem_flatMap.1 hu
    unfold Ac.cells at ha
    simp at ha
    rcases ha with rfl | rfl | rfl | rfl | rfl <;> rfl))
  clear h
  go_enter Tryd.func21, Tryd.ntmps21
  go_wp2_with fail
  refine C.out.mono ?_
  rintro e w' ⟨ao, cp, rfl, hb⟩
  go_wp2_with fail
  go_ret
  exact ⟨ao, cp, rfl, hb⟩
end Go.Proofs.YtalonkenchcfbaaDoor
