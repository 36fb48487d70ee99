/- What was done is written down: did. And a disk's rows behind an append. -/
import Derived.Test.YtalonkenchcfbaaDoorLook
import Derived.Deep.AppendLies
import Derived.Deep.RegionLaw
namespace Go.Proofs.YtalonkenchcfbaaDoor
open Go.RowKit Go.Maps
attribute [local go_sem ↓] Go.wp_at_zero Go.wp_at_succ

theorem infoA : (Tryd.prog.info? 76).map (fun i => (i.zero, i.size, i.bytes)) = some (some (.agg #[.int .i64 0, .string ⟨#[]⟩, .string ⟨#[]⟩, .string ⟨#[]⟩, .int .i64 0]), 5, 64) := by kernel_rfl
theorem infoE : (Tryd.prog.info? 70).map (fun i => (i.zero, i.size, i.bytes)) = some (some (.agg #[.string ⟨#[]⟩, .string ⟨#[]⟩, .int .i64 0]), 3, 40) := by kernel_rfl
theorem infoW : (Tryd.prog.info? 81).map (fun i => (i.zero, i.size, i.bytes)) = some (some (.agg #[.string ⟨#[]⟩, .int .i64 0, .bool false]), 3, 32) := by kernel_rfl
theorem infoF : (Tryd.prog.info? 66).map (fun i => (i.zero, i.size, i.bytes)) = some (some (.pointer none), 1, 8) := by kernel_rfl
theorem heap_two (w : World) (o1 o2 : Obj) : ((w.alloc o1).alloc o2).heap[w.heap.size + 1]? = some o2 := by
  have := heap_alloc_new (w.alloc o1) o2
  simpa using this
def Dk.did (D : Dk) (a : Ac) : Dk := { D with acts := D.acts ++ [a] }
theorem flat_snoc {α : Type} (c : α → List Value) (l : List α) (x : α) : (l ++ [x]).flatMap c = l.flatMap c ++ c x := by simp
/-- The world behind an append to a row of the disk's, and the store of the new slice into the disk's block. -/
theorem below_alloc2 (w : World) (o1 o2 : Obj) : Below w.heap.size w ((w.alloc o1).alloc o2).drew := (((Below.refl _ _).alloc (Nat.le_refl _) _).alloc (by simp) _).drew
theorem turned_acts {w w0 w1 : World} {ρ : Col} {b : Nat} {D : Dk} {L : Lay} (h : DiskAt w ρ b D L) (hb0 : Below w.heap.size w w0) (x : Ac) {gg cap : Nat}
    (hown : w1.ownsRow 0 76 5 (.slice (some ⟨gg, 0, none⟩) (D.acts.length + 1) cap) (D.acts.length + 1) (D.acts.flatMap Ac.cells ++ x.cells)) (hgrow : w0.grownBy w1 L.va.ownBlock) (hat : L.va.ownBlock = some gg ∨ w0.heap.size ≤ gg) (hlt : gg < w1.heap.size) :
    Turned w ρ b (D.did x) (w1.setCell ⟨b, 8, none⟩ (.slice (some ⟨gg, 0, none⟩) (D.acts.length + 1) cap)) := by
  have h0 := h.below hb0
  obtain ⟨hr1, he1, hk1⟩ := h0.rowA.append hown hgrow hat
  have p1 := hk1.only (p := fun c => c == 0 || c == 4) rfl
  have hblk := (h0.parts he1 (hk1.only (p := fun c => c == 4) rfl)).1 rfl
  obtain ⟨hs, hk2⟩ := hblk.store (i := 8) (v := .slice (some ⟨gg, 0, none⟩) (D.acts.length + 1) cap)
  have p2 := p1.thoseTrans he1 (hk2.only (p := fun c => c == 0 || c == 4) rfl)
  obtain ⟨-, q1, q2, q3, -, q5⟩ := h0.parts he1 p2
  have q4 := hr1.keep (Ext.refl _ _) hk2 fun g hg => only_none (by rw [hg]; simp)
  refine ⟨paint ρ gg 4, ⟨{ L with va := .slice (some ⟨gg, 0, none⟩) (D.acts.length + 1) cap }, ⟨hs, q1 rfl, q2 rfl, q3 rfl, ?_, h.len, fun i f F a c => q5 i f F a c (by simp; omega) (by simp; omega), ?_⟩⟩, ?_, ?_⟩
  · show Row _ _ _ _ _ _ (D.acts ++ [x]).length ((D.acts ++ [x]).flatMap Ac.cells)
    rw [List.length_append, flat_snoc]
    exact q4
  · exact ((h.fits.more hb0.size).more hk1.size).paint hlt |>.more hk2.size
  · exact fun k hk => he1 k (Nat.lt_of_lt_of_le hk hb0.size)
  · exact (Kept.below hb0).then p2.those
set_option maxRecDepth 100000 in
set_option maxHeartbeats 1600000 in
theorem did_any (x : Ac) (w : World) (ρ : Col) (b : Nat) (D : Dk) (L : Lay) (h : DiskAt w ρ b D L) (hn : D.acts.length ≤ 10000000) :
    Calls Tryd.prog 24 #[.pointer (some ⟨b, 0, none⟩), .agg #[.int .i64 x.kind, .string x.name, .string x.other, .string x.bytes, .int .i64 x.place]] w fun e w' => e = .returned (.tuple #[]) ∧ Turned w ρ b (D.did x) w' := by
  obtain ⟨i0, hi0, hz0, hz1, hz2⟩ := info_parts infoA
  have hb := h.blk.lt
  have c8 := h.cells.c8
  have f8 := h.cells.f8
  have hown := h.rowA.1
  have HR := Lib.hid h.rowA
  have hne : L.va.ownBlock ≠ some b := fun e => by have := h.rowA.2 b e; rw [h.blk.2] at this; cases this
  have hnew : some w.heap.size ≠ L.va.ownBlock := fun e => by have := (hown.lt _ e.symm).2; omega
  have HD := Lib.hid h
  clear h
  go_enter Tryd.func24, Tryd.ntmps24
  go_wp2_with fail
  go_region_law
    ((refine step_append_lies _ (by rfl) _ _ _ (by rfl) 0 76 i0 _ 5 64 Tryd.underlying55 hi0 hz0 hz1 hz2 rfl (by omega) L.va D.acts.length (D.acts.flatMap Ac.cells) (by rfl) (((hown.alloc _).alloc _).drew)
        ⟨w.heap.size + 1, 0, none⟩ 1 1 x.cells (by rfl) (by rfl) (World.news_of_block (cs := x.cells.toArray) (t := 76) (fr := (0, 0)) (heap_two w _ _)) (by simp [Ac.cells, Value.oneCell'])
        (by omega) (by unfold maxLen; omega) (by omega) (by simp) (w.heap.size + 2) (by simp) ?_; intro gg cap w1 hown1 hgrow hat hlt; have g8 : w1.frozen? ⟨b, 8, none⟩ = false := (hgrow.frozen_far _ (by simp; omega) (Ne.symm hne)).trans (((below_alloc2 w _ _).frozen (p := ⟨b, 8, none⟩) hb).trans f8); have k8 : w1.cell? ⟨b, 8, none⟩ = some L.va := (hgrow.cell_far _ (by simp; omega) (Ne.symm hne)).trans (((below_alloc2 w _ _).cell (p := ⟨b, 8, none⟩) hb).trans c8)))
  all_goals
    go_wp2_with fail
    go_end0
    exact ⟨rfl, turned_acts HD.out (below_alloc2 w _ _) x hown1 hgrow (by rcases hat with hat | hat; exact .inl hat; exact .inr (by rw [hat]; simp)) hlt⟩
end Go.Proofs.YtalonkenchcfbaaDoor
