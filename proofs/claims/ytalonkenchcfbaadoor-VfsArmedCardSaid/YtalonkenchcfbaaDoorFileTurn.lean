/- A disk behind a change of one of its files: one change more that waits, or a text made sure. -/
import Derived.Test.YtalonkenchcfbaaDoorFree
namespace Go.Proofs.YtalonkenchcfbaaDoor
open Go.RowKit Go.Maps

def Dk.setFile (D : Dk) (i : Nat) (F : Fl) : Dk := { D with files := D.files.set i F }
def Fl.push (F : Fl) (x : Wt) : Fl := { F with waits := F.waits ++ [x] }
theorem map_set_same {fs : List (Nat × Value)} {i : Nat} {f : Nat × Value} {v : Value} (h : fs[i]? = some f) : (fs.set i (f.1, v)).map (fun f => Value.pointer (some ⟨f.1, 0, none⟩)) = fs.map fun f => Value.pointer (some ⟨f.1, 0, none⟩) := by
  apply List.ext_getElem?
  intro j
  simp only [List.getElem?_map, List.getElem?_set]
  by_cases hij : i = j
  · subst hij
    rw [h]
    have : i < fs.length := (List.getElem?_eq_some_iff.1 h).1
    simp [this]
  · simp [hij]
theorem set_get {α : Type} {l : List α} {i j : Nat} {x y : α} (h : (l.set i x)[j]? = some y) : (i = j ∧ y = x) ∨ (i ≠ j ∧ l[j]? = some y) := by
  rw [List.getElem?_set] at h
  split at h
  · split at h
    · cases h; exact .inl ⟨by assumption, rfl⟩
    · cases h
  · exact .inr ⟨by assumption, h⟩
/-- The disk with another file in place i: w2: the world with the file as it is now. -/
theorem DiskAt.refile {w w2 : World} {ρ ρ' : Col} {b i : Nat} {D : Dk} {L : Lay} {f : Nat × Value} {F' : Fl} {v : Value} (h : DiskAt w ρ b D L) (hf : L.fs[i]? = some f) (he : Ext w ρ ρ')
    (K : Kept (Those (fun c => c == 5 + 2 * i || c == 6 + 2 * i) ρ) w w2) (hn : FileAt w2 ρ' i (f.1, v) F') (hfit : Fits w2 ρ') : DiskAt w2 ρ' b (D.setFile i F') { L with fs := L.fs.set i (f.1, v) } := by
  obtain ⟨q0, q1, q2, q3, q4, q5⟩ := h.parts he K
  refine ⟨q0 (by simp; omega), q1 (by simp; omega), ?_, q3 (by simp; omega), q4 (by simp; omega), ?_, ?_, hfit⟩
  · show Row _ _ _ _ _ _ (D.files.set i F').length ((L.fs.set i (f.1, v)).map fun f => Value.pointer (some ⟨f.1, 0, none⟩))
    rw [List.length_set, map_set_same hf]
    exact q2 (by simp; omega)
  · show (L.fs.set i _).length = (D.files.set i F').length
    rw [List.length_set, List.length_set, h.len]
  · intro j g G hg hG
    rcases set_get hg with ⟨rfl, rfl⟩ | ⟨hij, hg⟩
    · rcases set_get hG with ⟨_, rfl⟩ | ⟨hne, _⟩
      · exact hn
      · exact absurd rfl hne
    · rcases set_get hG with ⟨rfl, _⟩ | ⟨_, hG⟩
      · exact absurd rfl hij
      · exact q5 j g G hg hG (by simp; omega) (by simp; omega)
theorem turned_push {w w0 w1 : World} {ρ : Col} {b i : Nat} {D : Dk} {L : Lay} {f : Nat × Value} {F : Fl} (h : DiskAt w ρ b D L) (hf : L.fs[i]? = some f) (hF : D.files[i]? = some F) (hb0 : Below w.heap.size w w0) (x : Wt) {gg cap : Nat}
    (hown : w1.ownsRow 0 81 3 (.slice (some ⟨gg, 0, none⟩) (F.waits.length + 1) cap) (F.waits.length + 1) (F.waits.flatMap Wt.cells ++ x.cells)) (hgrow : w0.grownBy w1 f.2.ownBlock) (hat : f.2.ownBlock = some gg ∨ w0.heap.size ≤ gg) (hlt : gg < w1.heap.size) :
    Turned w ρ b (D.setFile i (F.push x)) (w1.setCell ⟨f.1, 1, none⟩ (.slice (some ⟨gg, 0, none⟩) (F.waits.length + 1) cap)) := by
  have h0 := h.below hb0
  have hfa := h0.files i f F hf hF
  obtain ⟨hr1, he1, hk1⟩ := hfa.2.append hown hgrow hat
  have p1 := hk1.only (p := fun c => c == 5 + 2 * i || c == 6 + 2 * i) (by simp)
  have hblk := hfa.1.keep he1 hk1 (only_none (by rw [hfa.1.2]; simp <;> omega))
  obtain ⟨hs, hk2⟩ := hblk.store (i := 1) (v := .slice (some ⟨gg, 0, none⟩) (F.waits.length + 1) cap)
  have p2 := p1.thoseTrans he1 (hk2.only (p := fun c => c == 5 + 2 * i || c == 6 + 2 * i) (by simp))
  have hr2 := hr1.keep (Ext.refl _ _) hk2 fun g hg => only_none (by rw [hg]; simp <;> omega)
  refine ⟨paint ρ gg (6 + 2 * i), ⟨_, h0.refile hf he1 p2 (v := .slice (some ⟨gg, 0, none⟩) (F.waits.length + 1) cap) (F' := F.push x) ⟨hs, ?_⟩ ?_⟩, fun k hk => he1 k (Nat.lt_of_lt_of_le hk hb0.size), (Kept.below hb0).then p2.those⟩
  · show Row _ _ _ _ _ _ (F.waits ++ [x]).length ((F.waits ++ [x]).flatMap Wt.cells)
    rw [List.length_append, flat_snoc]
    exact hr2
  · exact ((h.fits.more hb0.size).more hk1.size).paint hlt |>.more hk2.size
theorem turned_sure {w w0 : World} {ρ : Col} {b i : Nat} {D : Dk} {L : Lay} {f : Nat × Value} {F : Fl} (h : DiskAt w ρ b D L) (hf : L.fs[i]? = some f) (hF : D.files[i]? = some F) (hb0 : Below w.heap.size w w0) (s : ByteArray) :
    DiskAt ((w0.setCell ⟨f.1, 0, none⟩ (.string s)).setCell ⟨f.1, 1, none⟩ (.slice none 0 0)) ρ b (D.setFile i ⟨s, []⟩) { L with fs := L.fs.set i (f.1, .slice none 0 0) } ∧ Kept ρ w ((w0.setCell ⟨f.1, 0, none⟩ (.string s)).setCell ⟨f.1, 1, none⟩ (.slice none 0 0)) := by
  have h0 := h.below hb0
  have hfa := h0.files i f F hf hF
  obtain ⟨hs1, hk1⟩ := hfa.1.store (i := 0) (v := .string s)
  obtain ⟨hs2, hk2⟩ := hs1.store (i := 1) (v := .slice none 0 0)
  have k := hk1.then hk2
  have p := k.only (p := fun c => c == 5 + 2 * i || c == 6 + 2 * i) (by simp)
  exact ⟨h0.refile hf (Ext.refl _ _) p ⟨hs2, Row.nil _ _ _ _ _⟩ (h0.fits.more k.size), (Kept.below hb0).then p.those⟩
/-- A file's cells, for a walk. -/
structure FileCells (w : World) (f : Nat × Value) (F : Fl) : Prop where
  c0 : w.cell? ⟨f.1, 0, none⟩ = some (.string F.sure)
  c1 : w.cell? ⟨f.1, 1, none⟩ = some f.2
  f0 : w.frozen? ⟨f.1, 0, none⟩ = false
  f1 : w.frozen? ⟨f.1, 1, none⟩ = false
theorem FileAt.cells {w : World} {ρ : Col} {i : Nat} {f : Nat × Value} {F : Fl} (h : FileAt w ρ i f F) : FileCells w f F :=
  ⟨cell_of_row w f.1 0 _ _ _ h.1.1, cell_of_row w f.1 1 _ _ _ h.1.1, frozen_of_row w f.1 0 _ _ h.1.1, frozen_of_row w f.1 1 _ _ h.1.1⟩
end Go.Proofs.YtalonkenchcfbaaDoor
