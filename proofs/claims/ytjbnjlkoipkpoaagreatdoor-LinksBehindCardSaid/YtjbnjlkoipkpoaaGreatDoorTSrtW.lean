/- A stable sort's row of stanzas in memory; the library's small walks. -/
import Derived.Test.YtjbnjlkoipkpoaaGreatDoorTSrtLaw
import Derived.Test.YtjbnjlkoipkpoaaGreatDoorBMoves
import Derived.Deep.RegionLaw
import Derived.BigRegion
import Derived.Deep.RegionHeld3
namespace Go.Proofs.YtjbnjlkoipkpoaaGreatDoor.T
open Go.RowKit Go.Shelf
open Go.Proofs.YtjbnjlkoipkpoaaGreatDoor.B

/-- All but one block of w0's stands. -/
structure KeepBut (w0 : World) (rb : Nat) (W : World) : Prop where
  os : W.os = w0.os
  tape : W.tape = w0.tape
  output : W.output = w0.output
  size : w0.heap.size ≤ W.heap.size
  block : ∀ k, k < w0.heap.size → k ≠ rb → W.heap[k]? = w0.heap[k]?
theorem KeepBut.below {w0 W W' : World} {rb : Nat} (h : KeepBut w0 rb W) (hb : Below W.heap.size W W') : KeepBut w0 rb W' :=
  ⟨hb.os.trans h.os, hb.tape.trans h.tape, hb.output.trans h.output, Nat.le_trans h.size hb.size, fun k h1 h2 => (hb.block k (Nat.lt_of_lt_of_le h1 h.size)).trans (h.block k h1 h2)⟩
theorem KeepBut.refl (w0 : World) (rb : Nat) : KeepBut w0 rb w0 := ⟨rfl, rfl, rfl, Nat.le_refl _, fun _ _ _ => rfl⟩
theorem KeepBut.setCell {w0 W : World} {rb : Nat} (h : KeepBut w0 rb W) (o : Nat) (v : Value) : KeepBut w0 rb (W.setCell ⟨rb, o, none⟩ v) :=
  ⟨h.os, h.tape, h.output, by rw [World.size_setCell]; exact h.size, fun k h1 h2 => (Below.heap_setCell _ _ _ _ h2).trans (h.block k h1 h2)⟩
/-- A stanza as it stands in a row. -/
structure El where
  id : Int
  o : Option Addr
  l : Nat
  c : Nat
/-- Element d p stands at place p. -/
structure SrtW (w0 : World) (rb n : Nat) (E : Nat → El) (d : Nat → Nat) (W : World) : Prop where
  keep : KeepBut w0 rb W
  lt : rb < w0.heap.size
  c0 : ∀ p, p < n → W.cell? ⟨rb, p * 2, none⟩ = some (.int .i64 (E (d p)).id)
  c1 : ∀ p, p < n → W.cell? ⟨rb, p * 2 + 1, none⟩ = some (.slice (E (d p)).o (E (d p)).l (E (d p)).c)
  f0 : ∀ p, p < n → W.frozen? ⟨rb, p * 2, none⟩ = false
  f1 : ∀ p, p < n → W.frozen? ⟨rb, p * 2 + 1, none⟩ = false
theorem SrtW.below {w0 W W' : World} {rb n : Nat} {E : Nat → El} {d : Nat → Nat} (h : SrtW w0 rb n E d W) (hb : Below W.heap.size W W') : SrtW w0 rb n E d W' :=
  have hl : rb < W.heap.size := Nat.lt_of_lt_of_le h.lt h.keep.size
  ⟨h.keep.below hb, h.lt, fun p hp => (hb.cell (p := ⟨rb, _, none⟩) hl).trans (h.c0 p hp), fun p hp => (hb.cell (p := ⟨rb, _, none⟩) hl).trans (h.c1 p hp), fun p hp => (hb.frozen (p := ⟨rb, _, none⟩) hl).trans (h.f0 p hp), fun p hp => (hb.frozen (p := ⟨rb, _, none⟩) hl).trans (h.f1 p hp)⟩
theorem addr_ne {rb x y : Nat} (h : x ≠ y) : (⟨rb, x, none⟩ : Addr) ≠ ⟨rb, y, none⟩ := fun e => h (by injection e)
theorem cell_set2 {W : World} {rb x y : Nat} {v : Value} (h : ∃ z, W.cell? ⟨rb, x, none⟩ = some z) : (W.setCell ⟨rb, x, none⟩ v).cell? ⟨rb, y, none⟩ = if x = y then some v else W.cell? ⟨rb, y, none⟩ := by
  obtain ⟨z, hz⟩ := h
  by_cases e : x = y
  · subst e; rw [if_pos rfl]; exact World.cell?_setCell_same _ _ _ hz
  · rw [if_neg e]; exact World.cell?_setCell_other _ _ _ _ (addr_ne e)
theorem cell_ex {W : World} {rb x y : Nat} {v : Value} (h : ∃ z, W.cell? ⟨rb, x, none⟩ = some z) (k : ∃ z, W.cell? ⟨rb, y, none⟩ = some z) : ∃ z, (W.setCell ⟨rb, x, none⟩ v).cell? ⟨rb, y, none⟩ = some z := by
  rw [cell_set2 h]
  split
  · exact ⟨_, rfl⟩
  · exact k
theorem cell_set4 {W : World} {rb x1 x2 x3 x4 y : Nat} {v1 v2 v3 v4 : Value} (h1 : ∃ z, W.cell? ⟨rb, x1, none⟩ = some z) (h2 : ∃ z, W.cell? ⟨rb, x2, none⟩ = some z) (h3 : ∃ z, W.cell? ⟨rb, x3, none⟩ = some z) (h4 : ∃ z, W.cell? ⟨rb, x4, none⟩ = some z) :
    ((((W.setCell ⟨rb, x1, none⟩ v1).setCell ⟨rb, x2, none⟩ v2).setCell ⟨rb, x3, none⟩ v3).setCell ⟨rb, x4, none⟩ v4).cell? ⟨rb, y, none⟩ = if x4 = y then some v4 else if x3 = y then some v3 else if x2 = y then some v2 else if x1 = y then some v1 else W.cell? ⟨rb, y, none⟩ := by
  have k2 : ∃ z, (W.setCell ⟨rb, x1, none⟩ v1).cell? ⟨rb, x2, none⟩ = some z := cell_ex h1 h2
  have k3 : ∃ z, ((W.setCell ⟨rb, x1, none⟩ v1).setCell ⟨rb, x2, none⟩ v2).cell? ⟨rb, x3, none⟩ = some z := cell_ex k2 (cell_ex h1 h3)
  have k4 : ∃ z, (((W.setCell ⟨rb, x1, none⟩ v1).setCell ⟨rb, x2, none⟩ v2).setCell ⟨rb, x3, none⟩ v3).cell? ⟨rb, x4, none⟩ = some z := cell_ex k3 (cell_ex k2 (cell_ex h1 h4))
  rw [cell_set2 k4, cell_set2 k3, cell_set2 k2, cell_set2 h1]
/-- Two elements change their places. -/
theorem SrtW.swap {w0 W W' : World} {rb n : Nat} {E : Nat → El} {d : Nat → Nat} (h : SrtW w0 rb n E d W) {i j : Nat} (hi : i < n) (hj : j < n)
    (he : W' = (((W.setCell ⟨rb, i * 2, none⟩ (.int .i64 (E (d j)).id)).setCell ⟨rb, i * 2 + 1, none⟩ (.slice (E (d j)).o (E (d j)).l (E (d j)).c)).setCell ⟨rb, j * 2, none⟩ (.int .i64 (E (d i)).id)).setCell ⟨rb, j * 2 + 1, none⟩ (.slice (E (d i)).o (E (d i)).l (E (d i)).c)) : SrtW w0 rb n E (swf d i j) W' := by
  subst he
  have a0 : ∃ z, W.cell? ⟨rb, i * 2, none⟩ = some z := ⟨_, h.c0 i hi⟩
  have a1 : ∃ z, W.cell? ⟨rb, i * 2 + 1, none⟩ = some z := ⟨_, h.c1 i hi⟩
  have b0 : ∃ z, W.cell? ⟨rb, j * 2, none⟩ = some z := ⟨_, h.c0 j hj⟩
  have b1 : ∃ z, W.cell? ⟨rb, j * 2 + 1, none⟩ = some z := ⟨_, h.c1 j hj⟩
  refine ⟨(((h.keep.setCell _ _).setCell _ _).setCell _ _).setCell _ _, h.lt, fun p hp => ?_, fun p hp => ?_, fun p hp => ?_, fun p hp => ?_⟩
  · rw [cell_set4 a0 a1 b0 b1, if_neg (by omega)]
    unfold swf
    by_cases e : p = j
    · subst e
      rw [if_pos rfl]
      by_cases e2 : p = i
      · subst e2; rw [if_pos rfl]
      · rw [if_neg e2, if_pos rfl]
    · rw [if_neg (by omega), if_neg (by omega)]
      by_cases e2 : p = i
      · subst e2; rw [if_pos rfl, if_pos rfl]
      · rw [if_neg (by omega), if_neg e2, if_neg e]; exact h.c0 p hp
  · rw [cell_set4 a0 a1 b0 b1]
    unfold swf
    by_cases e : p = j
    · subst e
      rw [if_pos rfl]
      by_cases e2 : p = i
      · subst e2; rw [if_pos rfl]
      · rw [if_neg e2, if_pos rfl]
    · rw [if_neg (by omega), if_neg (by omega)]
      by_cases e2 : p = i
      · subst e2; rw [if_pos rfl, if_pos rfl]
      · rw [if_neg (by omega), if_neg (by omega), if_neg e2, if_neg e]; exact h.c1 p hp
  · simp only [World.frozen?_setCell]; exact h.f0 p hp
  · simp only [World.frozen?_setCell]; exact h.f1 p hp
theorem SrtW.swapped {w0 W : World} {rb n : Nat} {E : Nat → El} {d : Nat → Nat} (h : SrtW w0 rb n E d W) {i j : Nat} (hi : i < n) (hj : j < n) {ea eb : El} (ha : E (d i) = ea) (hb : E (d j) = eb) :
    SrtW w0 rb n E (swf d i j) ((((W.setCell ⟨rb, i * 2, none⟩ (.int .i64 eb.id)).setCell ⟨rb, i * 2 + 1, none⟩ (.slice eb.o eb.l eb.c)).setCell ⟨rb, j * 2, none⟩ (.int .i64 ea.id)).setCell ⟨rb, j * 2 + 1, none⟩ (.slice ea.o ea.l ea.c)).drew := by
  subst ha hb
  exact (h.swap hi hj rfl).below (Below.refl _ _).drew
end Go.Proofs.YtjbnjlkoipkpoaaGreatDoor.T
