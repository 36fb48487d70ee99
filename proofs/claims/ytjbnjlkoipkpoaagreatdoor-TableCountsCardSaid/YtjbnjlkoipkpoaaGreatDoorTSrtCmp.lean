/- The comparison of two stanzas by their cells, walked. -/
import Derived.Test.YtjbnjlkoipkpoaaGreatDoorTSrtAns
import Derived.Deep.RegionHeld3
namespace Go.Proofs.YtjbnjlkoipkpoaaGreatDoor.T
open Go.RowKit Go.Shelf
open Go.Proofs.YtjbnjlkoipkpoaaGreatDoor.B

set_option maxRecDepth 100000 in
set_option maxHeartbeats 3200000 in
theorem cmp_any (key : ByteArray) (kb : Nat) (ia ib : Int) (va vb : Value) (fa fb : List Fld) (W : World) (hk : W.cell? ⟨kb, 0, none⟩ = some (.string key)) (ha : FieldsAt W.heap.size W va fa) (hb : FieldsAt W.heap.size W vb fb) (hfa : FsFine fa) (hfb : FsFine fb) (hr : Ready W) :
    Calls Tryz.prog 86 #[.agg #[.int .i64 ia, va], .agg #[.int .i64 ib, vb], .pointer (some ⟨kb, 0, none⟩)] W fun e w' => e = .returned (.int .i64 (Lib.compareBytes (cellL key.data.toList fa) (cellL key.data.toList fb))) ∧ Below W.heap.size W w' := by
  obtain ⟨ao, ca, rfl, -⟩ := id ha
  obtain ⟨bo, cb, rfl, -⟩ := id hb
  obtain ⟨ta, hta⟩ : ∃ t : ByteArray, (⟨(cellL key.data.toList fa).toArray⟩ : ByteArray) = t := ⟨_, rfl⟩
  obtain ⟨tb, htb⟩ : ∃ t : ByteArray, (⟨(cellL key.data.toList fb).toArray⟩ : ByteArray) = t := ⟨_, rfl⟩
  have ea : cellL key.data.toList fa = ta.data.toList := by rw [← hta]
  have eb : cellL key.data.toList fb = tb.data.toList := by rw [← htb]
  rw [ea, eb]
  obtain ⟨W2, hW2⟩ : ∃ W2, (W.alloc (.cells #[.int .i64 ia, .slice ao fa.length ca] 61)).alloc (.cells #[.int .i64 ib, .slice bo fb.length cb] 61) = W2 := ⟨_, rfl⟩
  have hB0 : Below W.heap.size W W2 := by rw [← hW2]; exact (below_grow1 W _).trans ((below_grow1 _ _).mono (by simp))
  have hz2 : W2.heap.size = W.heap.size + 2 := by rw [← hW2]; simp
  have CA : Hid (∀ W', Below W2.heap.size W2 W' → Calls Tryz.prog 31 #[.string key, .slice ao fa.length ca] W' fun e w' => e = .returned (.string ta) ∧ Below W'.heap.size W' w') := Lib.hid fun W' hb' => hta ▸ cell_any key _ fa W' ((ha.below (hB0.trans (hb'.mono hB0.size)) (Nat.le_refl _)).up (Nat.le_trans hB0.size hb'.size)) hfa (hr.stays (hB0.trans (hb'.mono hB0.size)))
  have CB : Hid (∀ W', Below W2.heap.size W2 W' → Calls Tryz.prog 31 #[.string key, .slice bo fb.length cb] W' fun e w' => e = .returned (.string tb) ∧ Below W'.heap.size W' w') := Lib.hid fun W' hb' => htb ▸ cell_any key _ fb W' ((hb.below (hB0.trans (hb'.mono hB0.size)) (Nat.le_refl _)).up (Nat.le_trans hB0.size hb'.size)) hfb (hr.stays (hB0.trans (hb'.mono hB0.size)))
  have hkl := World.block_lt_of_cell? _ _ hk
  have p0 : W2.cell? ⟨kb, 0, none⟩ = some (.string key) := (hB0.cell (p := ⟨kb, 0, none⟩) hkl).trans hk
  have hE1 : W2.heap[W.heap.size]? = some (.cells #[.int .i64 ia, .slice ao fa.length ca] 61 (0, 0)) := by
    rw [← hW2, Below.heap_alloc _ _ _ (by simp)]; exact heap_alloc_new W _
  have hE2 : W2.heap[W.heap.size + 1]? = some (.cells #[.int .i64 ib, .slice bo fb.length cb] 61 (0, 0)) := by
    rw [← hW2]
    have := heap_alloc_new (W.alloc (.cells #[.int .i64 ia, .slice ao fa.length ca] 61)) (.cells #[.int .i64 ib, .slice bo fb.length cb] 61)
    simpa using this
  have p1 : W2.cell? ⟨W.heap.size, 1, none⟩ = some (.slice ao fa.length ca) := B.cell_of_row _ _ 1 _ _ hE1
  have p2 : W2.cell? ⟨W.heap.size + 1, 1, none⟩ = some (.slice bo fb.length cb) := B.cell_of_row _ _ 1 _ _ hE2
  have B0 := Lib.hid (Below.refl W2.heap.size W2).drew
  have hB0 := Lib.hid hB0
  have HW2 := Lib.hid hW2
  have hk0 : kb < W2.heap.size := by have hkl' : kb < W.heap.size := hkl; omega
  have hk1 : W.heap.size < W2.heap.size := by omega
  have hk2 : W.heap.size + 1 < W2.heap.size := by omega
  clear hk ha hb hfa hfb hr hkl hE1 hE2 hta htb ea eb hW2 hz2
  go_enter Tryz.func86, Tryz.ntmps86
  go_wp2_with fail
  rw [HW2.out]
  go_region_held3 (fun W' => W'.cell? ⟨kb, 0, none⟩ = some (.string key) ∧ W'.cell? ⟨W.heap.size, 1, none⟩ = some (.slice ao fa.length ca) ∧ W'.cell? ⟨W.heap.size + 1, 1, none⟩ = some (.slice bo fb.length cb)) (first | exact ⟨p0, p1, p2⟩ | exact ⟨q0, q1, q2⟩ | exact ⟨r0, r1, r2⟩) (first
    | (go_at_call 31; refine (CB.out _ B7).mono ?_; rintro e w8 ⟨rfl, hb8⟩; have B8 := B7.trans (hb8.mono B7.size); have r0 := (B8.cell (p := ⟨kb, 0, none⟩) hk0).trans p0; have r1 := (B8.cell (p := ⟨W.heap.size, 1, none⟩) hk1).trans p1; have r2 := (B8.cell (p := ⟨W.heap.size + 1, 1, none⟩) hk2).trans p2)
    | (go_at_call 31; refine (CA.out _ B0.out).mono ?_; rintro e w7 ⟨rfl, hb7⟩; have B7 := B0.out.trans (hb7.mono (Nat.le_refl _)); have q0 := (B7.cell (p := ⟨kb, 0, none⟩) hk0).trans p0; have q1 := (B7.cell (p := ⟨W.heap.size, 1, none⟩) hk1).trans p1; have q2 := (B7.cell (p := ⟨W.heap.size + 1, 1, none⟩) hk2).trans p2)
    | (go_at_call 87; refine (Tryz.strings_Compare ta tb _).mono ?_; rintro e w' ⟨rfl, rfl⟩))
  have HB := Lib.hid (hB0.out.trans (B8.mono hB0.out.size))
  clear B8 B7 hb7 hb8
  go_wp2
  go_ret
  exact ⟨rfl, HB.out⟩
end Go.Proofs.YtjbnjlkoipkpoaaGreatDoor.T
