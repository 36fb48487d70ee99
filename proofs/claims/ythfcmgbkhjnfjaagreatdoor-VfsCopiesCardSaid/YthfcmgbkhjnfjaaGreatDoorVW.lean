/- What was done, as a copy (Acts): how many there are. And a disk that is armed (Arm). Copies of rows: slices.Clone; Acts. -/
import Derived.Test.YthfcmgbkhjnfjaaGreatDoorVL
import Derived.WalkSpells
import Derived.Test.YthfcmgbkhjnfjaaGreatDoorPWith
namespace Go.Proofs.YthfcmgbkhjnfjaaGreatDoor
open Go.RowKit Go.Maps
attribute [local go_sem ↓] Go.wp_at_zero Go.wp_at_succ

def Dk.arm (D : Dk) (n : Int) : Dk := { D with armed := true, left := n }
set_option maxHeartbeats 400000 in
theorem arm_ok (n : Int) (h0 : 0 ≤ n) (w : World) (ρ : Col) (b : Nat) (D : Dk) (L : Lay) (h : DiskAt w ρ b D L) :
    Calls Tryz.prog 22 #[.pointer (some ⟨b, 0, none⟩), .int .i64 n] w fun e w' => e = .returned .nilIface ∧ DiskAt w' ρ b (D.arm n) L ∧ Kept (Only 0 ρ) w w' := by
  obtain ⟨c0, c1, c2, c3, -, -, -, -, -, f0, f1, f2, f3, -, -, -, -⟩ := h.cells
  obtain ⟨s1, k1⟩ := h.blk.store (i := 2) (v := .bool true)
  obtain ⟨s2, k2⟩ := s1.store (i := 1) (v := .int .i64 n)
  have T := Lib.hid (show DiskAt _ ρ b (D.arm n) L ∧ Kept (Only 0 ρ) w _ from ⟨h.change (k1.then k2) (set_eq s2.1 rfl) rfl rfl rfl rfl, k1.then k2⟩)
  clear h s1 s2 k1 k2
  go_enter Tryz.func22, Tryz.ntmps22
  go_wp2_with fail
  go_ret
  exact ⟨rfl, T.out⟩
theorem arm_bad (n : Int) (h0 : n < 0) (w : World) (b : Nat) :
    Calls Tryz.prog 22 #[.pointer (some ⟨b, 0, none⟩), .int .i64 n] w fun e w' => e = .returned (.iface 31 (.int .i64 1)) ∧ w = w' := by
  go_enter Tryz.func22, Tryz.ntmps22
  go_wp2_with fail
  go_ret
  exact ⟨rfl, rfl⟩
/-- A copy of a row of acts: so many. -/
def CountPost (n : Nat) (w : World) (e : Ending) (w' : World) : Prop := ∃ ao cp, e = .returned (.slice ao n cp) ∧ Below w.heap.size w w'
set_option maxHeartbeats 800000 in
set_option maxRecDepth 20000 in
theorem clone_any (v : Value) (xs : List Value) (n : Nat) (w : World) (hown : w.ownsRow 0 88 5 v n xs) (hn : 0 < n) (hn1 : n ≤ 1000000) (h1 : ∀ u ∈ xs, u.oneCell' = true) :
    Calls Tryz.prog 44 #[v] w (CountPost n w) := by
  obtain ⟨i0, hi0, hz0, hz1, hz2⟩ := info_parts infoA
  obtain ⟨g, c, hv, -, hg⟩ := hown.form hn
  have hcells := hown.cells (g := g) (by rw [hv]; rfl)
  have hlen := Lib.hid hown.1
  have HC := Lib.hid hcells
  have H1 := Lib.hid h1
  have hq : ∀ w, (binOp .eql 60 (.slice (some ⟨g, 0, none⟩) n c) (.slice none 0 0)).run Tryz.prog w = .ok (.bool false) w := fun w => by kernel_rfl
  subst hv
  clear hown hcells h1
  go_enter Tryz.func44, Tryz.ntmps44
  have hm := World.ownsRow_made (base := 0) (e := 88) (size := 5) w #[] 0 (Nat.zero_le _) (Nat.zero_le _) rfl
  have hb1 : Below w.heap.size w (w.alloc (.cells #[] 88)) := (Below.refl _ _).alloc (Nat.le_refl _) _
  have HM := Lib.hid hm
  have HB1 := Lib.hid hb1
  clear hm hb1
  go_wp2_with (at_builtin; refine wpList_append_lies _ rfl _ _ _ rfl 0 88 i0 _ 5 64 Tryz.underlying60 hi0 hz0 hz1 hz2 rfl (by omega) (.slice (some ⟨w.heap.size, 0, none⟩) 0 0) 0 [] rfl HM.out ⟨g, 0, none⟩ n c xs rfl hlen.out (fun j u hu => by rw [HB1.out.cell (p := (⟨g, 0, none⟩ : Addr).add j) (by rw [add_at]; exact hg)]; exact HC.out j u hu) H1.out hn (by unfold maxLen; omega) (by omega) (Nat.zero_le _) _ rfl ?_; intro gg cap w1 hown1 hgrow hat hlt; clear hown1 hlt)
  go_ret
  exact ⟨some ⟨gg, 0, none⟩, cap, rfl, HB1.out.grown hgrow HB1.out.size (fun k hk => by cases hk; exact Nat.le_refl _)⟩
theorem acts_any (w : World) (ρ : Col) (b : Nat) (D : Dk) (L : Lay) (h : DiskAt w ρ b D L) (h0 : 0 < D.acts.length) (h1 : D.acts.length ≤ 1000000) :
    Calls Tryz.prog 27 #[.pointer (some ⟨b, 0, none⟩)] w (CountPost D.acts.length w) := by
  have c8 := h.cells.c8
  have C := Lib.hid (clone_any L.va _ _ w h.rowA.1 h0 h1 (by
    intro u hu
    obtain ⟨a, _, ha⟩ := List.mem_flatMap.1 hu
    unfold Ac.cells at ha
    simp at ha
    rcases ha with rfl | rfl | rfl | rfl | rfl <;> rfl))
  clear h
  go_enter Tryz.func27, Tryz.ntmps27
  go_wp2_with fail
  refine C.out.mono ?_
  rintro e w' ⟨ao, cp, rfl, hb⟩
  go_wp2_with fail
  go_ret
  exact ⟨ao, cp, rfl, hb⟩
end Go.Proofs.YthfcmgbkhjnfjaaGreatDoor

namespace Go.Proofs.YthfcmgbkhjnfjaaGreatDoor
open Go.RowKit Go.Maps

theorem infoCloneAct : (Tryz.prog.info? 88).map (fun i => (i.zero, i.size, i.bytes)) = some (some (.agg #[.int .i64 0, .string ⟨#[]⟩, .string ⟨#[]⟩, .string ⟨#[]⟩, .int .i64 0]), 5, 64) := by kernel_rfl
set_option maxHeartbeats 1600000 in
set_option maxRecDepth 20000 in
theorem cloneAct (v : Value) (xs : List Value) (n : Nat) (w : World) (hown : w.ownsRow 0 88 5 v n xs) (hn1 : n ≤ 20000000) (hl : xs.length = n * 5) (h1 : ∀ u ∈ xs, u.oneCell' = true) :
    Calls Tryz.prog 44 #[v] w fun e w' => ∃ u, e = .returned u ∧ w'.ownsRow w.heap.size 88 5 u n xs ∧ Below w.heap.size w w' := by
  obtain ⟨i0, hi0, hz0, hz1, hz2⟩ := info_parts infoCloneAct
  rcases hown.2 with ⟨hv, hx⟩ | ⟨g, c, cur, hv, -⟩
  · subst hv
    have hx0 : xs = [] := List.length_eq_zero_iff.1 (by rw [hl, hx])
    subst hx0 hx
    clear hown h1 hl hi0 hz0 hz1 hz2
    have hq : ∀ w, (binOp .eql 60 (.slice none 0 0) (.slice none 0 0)).run Tryz.prog w = .ok (.bool true) w := fun w => by kernel_rfl
    go_enter Tryz.func44, Tryz.ntmps44
    go_wp2_with fail
    go_ret
    exact ⟨_, rfl, World.ownsRow_nil _ _ _ _, Below.refl _ _⟩
  · subst hv
    have hq : ∀ w, (binOp .eql 60 (.slice (some ⟨g, 0, none⟩) n c) (.slice none 0 0)).run Tryz.prog w = .ok (.bool false) w := fun w => by kernel_rfl
    have bE : Below w.heap.size w (w.alloc (.cells #[] 88)) := (Below.refl _ _).alloc (Nat.le_refl _) _
    have hmade := World.ownsRow_made (base := w.heap.size) (e := 88) (size := 5) w #[] 0 (Nat.le_refl _) (Nat.zero_le _) rfl
    obtain ⟨v1, w1, r1, o1, b1, -⟩ := copy_run Tryz.underlying60 hi0 hz0 hz1 hz2 rfl (by omega) (w.alloc (.cells #[] 88)) w.heap.size w.heap.size (.slice (some ⟨g, 0, none⟩) n c) n xs hmade (own0_below hown bE) hl h1 (by omega) (by omega) (by simp)
    have R1 := Lib.hid r1
    have HO := Lib.hid (And.intro o1 (bE.trans b1))
    clear hown h1 hl hi0 hz0 hz1 hz2 bE hmade r1 o1 b1
    go_enter Tryz.func44, Tryz.ntmps44
    go_wp2_with (at_builtin; refine wpList_append_run rfl _ _ _ rfl (v := .slice (some ⟨w.heap.size, 0, none⟩) 0 0) (u := .slice (some ⟨g, 0, none⟩) n c) rfl rfl R1.out ?_; refine Hid.out ?_)
    refine Lib.hid ?_
    go_wp2_with fail
    go_ret
    exact ⟨_, rfl, HO.out.1, HO.out.2⟩
theorem infoCloneEntry : (Tryz.prog.info? 95).map (fun i => (i.zero, i.size, i.bytes)) = some (some (.agg #[.string ⟨#[]⟩, .string ⟨#[]⟩, .int .i64 0]), 3, 40) := by kernel_rfl
set_option maxHeartbeats 1600000 in
set_option maxRecDepth 20000 in
theorem cloneEntry (v : Value) (xs : List Value) (n : Nat) (w : World) (hown : w.ownsRow 0 95 3 v n xs) (hn1 : n ≤ 20000000) (hl : xs.length = n * 3) (h1 : ∀ u ∈ xs, u.oneCell' = true) :
    Calls Tryz.prog 43 #[v] w fun e w' => ∃ u, e = .returned u ∧ w'.ownsRow w.heap.size 95 3 u n xs ∧ Below w.heap.size w w' := by
  obtain ⟨i0, hi0, hz0, hz1, hz2⟩ := info_parts infoCloneEntry
  rcases hown.2 with ⟨hv, hx⟩ | ⟨g, c, cur, hv, -⟩
  · subst hv
    have hx0 : xs = [] := List.length_eq_zero_iff.1 (by rw [hl, hx])
    subst hx0 hx
    clear hown h1 hl hi0 hz0 hz1 hz2
    have hq : ∀ w, (binOp .eql 68 (.slice none 0 0) (.slice none 0 0)).run Tryz.prog w = .ok (.bool true) w := fun w => by kernel_rfl
    go_enter Tryz.func43, Tryz.ntmps43
    go_wp2_with fail
    go_ret
    exact ⟨_, rfl, World.ownsRow_nil _ _ _ _, Below.refl _ _⟩
  · subst hv
    have hq : ∀ w, (binOp .eql 68 (.slice (some ⟨g, 0, none⟩) n c) (.slice none 0 0)).run Tryz.prog w = .ok (.bool false) w := fun w => by kernel_rfl
    have bE : Below w.heap.size w (w.alloc (.cells #[] 95)) := (Below.refl _ _).alloc (Nat.le_refl _) _
    have hmade := World.ownsRow_made (base := w.heap.size) (e := 95) (size := 3) w #[] 0 (Nat.le_refl _) (Nat.zero_le _) rfl
    obtain ⟨v1, w1, r1, o1, b1, -⟩ := copy_run Tryz.underlying68 hi0 hz0 hz1 hz2 rfl (by omega) (w.alloc (.cells #[] 95)) w.heap.size w.heap.size (.slice (some ⟨g, 0, none⟩) n c) n xs hmade (own0_below hown bE) hl h1 (by omega) (by omega) (by simp)
    have R1 := Lib.hid r1
    have HO := Lib.hid (And.intro o1 (bE.trans b1))
    clear hown h1 hl hi0 hz0 hz1 hz2 bE hmade r1 o1 b1
    go_enter Tryz.func43, Tryz.ntmps43
    go_wp2_with (at_builtin; refine wpList_append_run rfl _ _ _ rfl (v := .slice (some ⟨w.heap.size, 0, none⟩) 0 0) (u := .slice (some ⟨g, 0, none⟩) n c) rfl rfl R1.out ?_; refine Hid.out ?_)
    refine Lib.hid ?_
    go_wp2_with fail
    go_ret
    exact ⟨_, rfl, HO.out.1, HO.out.2⟩
theorem infoCloneWait : (Tryz.prog.info? 103).map (fun i => (i.zero, i.size, i.bytes)) = some (some (.agg #[.string ⟨#[]⟩, .int .i64 0, .bool false]), 3, 32) := by kernel_rfl
set_option maxHeartbeats 1600000 in
set_option maxRecDepth 20000 in
theorem cloneWait (v : Value) (xs : List Value) (n : Nat) (w : World) (hown : w.ownsRow 0 103 3 v n xs) (hn1 : n ≤ 20000000) (hl : xs.length = n * 3) (h1 : ∀ u ∈ xs, u.oneCell' = true) :
    Calls Tryz.prog 45 #[v] w fun e w' => ∃ u, e = .returned u ∧ w'.ownsRow w.heap.size 103 3 u n xs ∧ Below w.heap.size w w' := by
  obtain ⟨i0, hi0, hz0, hz1, hz2⟩ := info_parts infoCloneWait
  rcases hown.2 with ⟨hv, hx⟩ | ⟨g, c, cur, hv, -⟩
  · subst hv
    have hx0 : xs = [] := List.length_eq_zero_iff.1 (by rw [hl, hx])
    subst hx0 hx
    clear hown h1 hl hi0 hz0 hz1 hz2
    have hq : ∀ w, (binOp .eql 98 (.slice none 0 0) (.slice none 0 0)).run Tryz.prog w = .ok (.bool true) w := fun w => by kernel_rfl
    go_enter Tryz.func45, Tryz.ntmps45
    go_wp2_with fail
    go_ret
    exact ⟨_, rfl, World.ownsRow_nil _ _ _ _, Below.refl _ _⟩
  · subst hv
    have hq : ∀ w, (binOp .eql 98 (.slice (some ⟨g, 0, none⟩) n c) (.slice none 0 0)).run Tryz.prog w = .ok (.bool false) w := fun w => by kernel_rfl
    have bE : Below w.heap.size w (w.alloc (.cells #[] 103)) := (Below.refl _ _).alloc (Nat.le_refl _) _
    have hmade := World.ownsRow_made (base := w.heap.size) (e := 103) (size := 3) w #[] 0 (Nat.le_refl _) (Nat.zero_le _) rfl
    obtain ⟨v1, w1, r1, o1, b1, -⟩ := copy_run Tryz.underlying98 hi0 hz0 hz1 hz2 rfl (by omega) (w.alloc (.cells #[] 103)) w.heap.size w.heap.size (.slice (some ⟨g, 0, none⟩) n c) n xs hmade (own0_below hown bE) hl h1 (by omega) (by omega) (by simp)
    have R1 := Lib.hid r1
    have HO := Lib.hid (And.intro o1 (bE.trans b1))
    clear hown h1 hl hi0 hz0 hz1 hz2 bE hmade r1 o1 b1
    go_enter Tryz.func45, Tryz.ntmps45
    go_wp2_with (at_builtin; refine wpList_append_run rfl _ _ _ rfl (v := .slice (some ⟨w.heap.size, 0, none⟩) 0 0) (u := .slice (some ⟨g, 0, none⟩) n c) rfl rfl R1.out ?_; refine Hid.out ?_)
    refine Lib.hid ?_
    go_wp2_with fail
    go_ret
    exact ⟨_, rfl, HO.out.1, HO.out.2⟩
/-- The acts, as the program's row. -/
def ActRow (w : World) (v : Value) (l : List Ac) : Prop := w.ownsRow 0 88 5 v l.length (l.flatMap Ac.cells)
set_option maxHeartbeats 1600000 in
set_option maxRecDepth 20000 in
theorem acts_all (w : World) (ρ : Col) (b : Nat) (D : Dk) (L : Lay) (h : DiskAt w ρ b D L) (h1 : D.acts.length ≤ 1000000) :
    Calls Tryz.prog 27 #[.pointer (some ⟨b, 0, none⟩)] w fun e w' => ∃ v, e = .returned v ∧ ActRow w' v D.acts ∧ Below w.heap.size w w' := by
  have c8 := h.cells.c8
  have C := Lib.hid (cloneAct L.va _ _ w h.rowA.1 (by omega) (flat_len (c := Ac.cells) (n := 5) (fun _ => rfl) D.acts) (by
    intro u hu
    obtain ⟨a, _, ha⟩ := List.mem_flatMap.1 hu
    unfold Ac.cells at ha
    simp at ha
    rcases ha with rfl | rfl | rfl | rfl | rfl <;> rfl))
  clear h
  go_enter Tryz.func27, Tryz.ntmps27
  go_wp2_with fail
  refine C.out.mono ?_
  rintro e w1 ⟨u, rfl, ho, hb⟩
  have HO : Hid (ActRow w1 u D.acts ∧ Below w.heap.size w w1) := Lib.hid ⟨own_to0 ho, hb⟩
  clear ho hb
  go_wp2_with fail
  go_ret
  exact ⟨_, rfl, HO.out.1, HO.out.2⟩
end Go.Proofs.YthfcmgbkhjnfjaaGreatDoor
