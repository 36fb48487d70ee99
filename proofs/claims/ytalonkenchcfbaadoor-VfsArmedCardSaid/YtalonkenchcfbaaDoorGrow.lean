/- A disk's rows behind an append: the changes that wait, the files. -/
import Derived.Test.YtalonkenchcfbaaDoorDid
namespace Go.Proofs.YtalonkenchcfbaaDoor
open Go.RowKit Go.Maps

def Dk.moved (D : Dk) (x : En) : Dk := { D with waits := D.waits ++ [x] }
/-- A new file. -/
def Fl.fresh : Fl := ⟨⟨#[]⟩, []⟩
def Dk.grew (D : Dk) : Dk := { D with files := D.files ++ [Fl.fresh] }
theorem Row.shape {w : World} {ρ : Col} {c : Nat} {e : TypeId} {size : Nat} {v : Value} {n : Nat} {xs : List Value} (h : Row w ρ c e size v n xs) : ∃ ao cp, v = .slice ao n cp := by
  rcases h.1.2 with ⟨rfl, rfl⟩ | ⟨g, cp, cur, rfl, _⟩
  · exact ⟨_, _, rfl⟩
  · exact ⟨_, _, rfl⟩
theorem turned_waits {w w0 w1 : World} {ρ : Col} {b : Nat} {D : Dk} {L : Lay} (h : DiskAt w ρ b D L) (hb0 : Below w.heap.size w w0) (x : En) {gg cap : Nat}
    (hown : w1.ownsRow 0 70 3 (.slice (some ⟨gg, 0, none⟩) (D.waits.length + 1) cap) (D.waits.length + 1) (D.waits.flatMap En.cells ++ x.cells)) (hgrow : w0.grownBy w1 L.vw.ownBlock) (hat : L.vw.ownBlock = some gg ∨ w0.heap.size ≤ gg) (hlt : gg < w1.heap.size) :
    Turned w ρ b (D.moved x) (w1.setCell ⟨b, 7, none⟩ (.slice (some ⟨gg, 0, none⟩) (D.waits.length + 1) cap)) := by
  have h0 := h.below hb0
  obtain ⟨hr1, he1, hk1⟩ := h0.rowW.append hown hgrow hat
  have p1 := hk1.only (p := fun c => c == 0 || c == 3) rfl
  have hblk := (h0.parts he1 (hk1.only (p := fun c => c == 3) rfl)).1 rfl
  obtain ⟨hs, hk2⟩ := hblk.store (i := 7) (v := .slice (some ⟨gg, 0, none⟩) (D.waits.length + 1) cap)
  have p2 := p1.thoseTrans he1 (hk2.only (p := fun c => c == 0 || c == 3) rfl)
  obtain ⟨-, q1, q2, -, q4, q5⟩ := h0.parts he1 p2
  have q3 := hr1.keep (Ext.refl _ _) hk2 fun g hg => only_none (by rw [hg]; simp)
  refine ⟨paint ρ gg 3, ⟨{ L with vw := .slice (some ⟨gg, 0, none⟩) (D.waits.length + 1) cap }, ⟨hs, q1 rfl, q2 rfl, ?_, q4 rfl, h.len, fun i f F a c => q5 i f F a c (by simp; omega) (by simp; omega), ?_⟩⟩, ?_, ?_⟩
  · show Row _ _ _ _ _ _ (D.waits ++ [x]).length ((D.waits ++ [x]).flatMap En.cells)
    rw [List.length_append, flat_snoc]
    exact q3
  · exact ((h.fits.more hb0.size).more hk1.size).paint hlt |>.more hk2.size
  · exact fun k hk => he1 k (Nat.lt_of_lt_of_le hk hb0.size)
  · exact (Kept.below hb0).then p2.those
theorem get_snoc {α : Type} {l : List α} {x : α} {i : Nat} {f : α} (h : (l ++ [x])[i]? = some f) : (i < l.length ∧ l[i]? = some f) ∨ (i = l.length ∧ f = x) := by
  rcases Nat.lt_trichotomy i l.length with g | g | g
  · rw [List.getElem?_append_left g] at h; exact .inl ⟨g, h⟩
  · subst g; rw [List.getElem?_append_right (Nat.le_refl _)] at h; simp at h; exact .inr ⟨rfl, h.symm⟩
  · rw [List.getElem?_eq_none (by simp; omega)] at h; cases h
/-- A new file: its block fb is new in w0. -/
theorem turned_files {w w0 w1 : World} {ρ : Col} {b : Nat} {D : Dk} {L : Lay} (h : DiskAt w ρ b D L) (hb0 : Below w.heap.size w w0) {fb : Nat} (hfb : w.heap.size ≤ fb) (hfh : w0.heap[fb]? = some (.cells #[.string ⟨#[]⟩, .slice none 0 0] 73 (0, 0))) {gg cap : Nat}
    (hown : w1.ownsRow 0 66 1 (.slice (some ⟨gg, 0, none⟩) (D.files.length + 1) cap) (D.files.length + 1) ((L.fs.map fun f => Value.pointer (some ⟨f.1, 0, none⟩)) ++ [.pointer (some ⟨fb, 0, none⟩)])) (hgrow : w0.grownBy w1 L.vf.ownBlock) (hat : L.vf.ownBlock = some gg ∨ w0.heap.size ≤ gg) (hlt : gg < w1.heap.size) :
    Turned w ρ b D.grew (w1.setCell ⟨b, 5, none⟩ (.slice (some ⟨gg, 0, none⟩) (D.files.length + 1) cap)) := by
  have h0 := h.below hb0
  have hfl : fb < w0.heap.size := (Array.getElem?_eq_some_iff.1 hfh).1
  have hfn : ρ fb = none := by
    cases hh : ρ fb with
    | none => rfl
    | some c => have := h.fits fb (by rw [hh]; simp); omega
  have hfv : L.vf.ownBlock ≠ some fb := fun e => by have := h.rowF.2 fb e; rw [hfn] at this; cases this
  obtain ⟨hr1, he1, hk1⟩ := h0.rowF.append hown hgrow hat
  have hgf : fb ≠ gg := by
    rcases hat with hat | hat
    · rintro rfl; exact hfv hat
    · omega
  have p1 := hk1.only (p := fun c => c == 0 || c == 2) rfl
  have hblk := (h0.parts he1 (hk1.only (p := fun c => c == 2) rfl)).1 rfl
  have hbf : fb ≠ b := by have := h.blk.lt; omega
  obtain ⟨hs, hk2⟩ := hblk.store (i := 5) (v := .slice (some ⟨gg, 0, none⟩) (D.files.length + 1) cap)
  have p2 := p1.thoseTrans he1 (hk2.only (p := fun c => c == 0 || c == 2) rfl)
  have hf2 : (w1.setCell ⟨b, 5, none⟩ (.slice (some ⟨gg, 0, none⟩) (D.files.length + 1) cap)).heap[fb]? = some (.cells #[.string ⟨#[]⟩, .slice none 0 0] 73 (0, 0)) := by
    rw [Below.heap_setCell _ _ _ _ (by simpa using hbf), hgrow.block fb hfl (by intro e; exact hfv e.symm), hfh]
  -- the new file's colour
  have e2 : ∀ k, k ≠ fb → paint (paint ρ gg 2) fb (5 + 2 * D.files.length) k = paint ρ gg 2 k := fun k hk => paint_else _ hk
  have he3 : Ext w ρ (paint (paint ρ gg 2) fb (5 + 2 * D.files.length)) := fun k hk => by
    rw [e2 k (by omega)]
    exact he1 k (Nat.lt_of_lt_of_le hk hb0.size)
  have hk0 : Kept (Those (fun c => c == 0 || c == 2) ρ) w (w1.setCell ⟨b, 5, none⟩ (.slice (some ⟨gg, 0, none⟩) (D.files.length + 1) cap)) := (Kept.below hb0).then p2
  obtain ⟨-, q1, -, q3, q4, q5⟩ := h.parts he3 hk0
  refine ⟨paint (paint ρ gg 2) fb (5 + 2 * D.files.length), ⟨{ L with vf := .slice (some ⟨gg, 0, none⟩) (D.files.length + 1) cap, fs := L.fs ++ [(fb, .slice none 0 0)] }, ⟨⟨hs.1, by rw [e2 b hbf.symm]; exact hs.2⟩, q1 rfl, ?_, q3 rfl, q4 rfl, ?_, ?_, ?_⟩⟩, he3, hk0.those⟩
  · show Row _ _ _ _ _ _ (D.files ++ [Fl.fresh]).length ((L.fs ++ [(fb, Value.slice none 0 0)]).map fun f => Value.pointer (some ⟨f.1, 0, none⟩))
    have hr2 := hr1.keep (Ext.refl _ _) hk2 fun g hg => only_none (by rw [hg]; simp)
    rw [List.length_append, List.map_append]
    refine ⟨hr2.1, fun g hg => ?_⟩
    rw [e2 g ?_]
    · exact hr2.2 g hg
    · simp only [Value.ownBlock, Option.some.injEq] at hg
      rw [← hg]; exact hgf.symm
  · show (L.fs ++ [_]).length = (D.files ++ [Fl.fresh]).length
    rw [List.length_append, List.length_append, h.len]; rfl
  · intro i f F hf hF
    rcases get_snoc hf with ⟨hi, hf⟩ | ⟨hi, rfl⟩
    · rcases get_snoc hF with ⟨hj, hF⟩ | ⟨hj, rfl⟩
      · exact q5 i f F hf hF (by simp; omega) (by simp; omega)
      · rw [h.len] at hi; omega
    · rcases get_snoc hF with ⟨hj, hF⟩ | ⟨hj, rfl⟩
      · rw [h.len] at hi; omega
      · exact ⟨⟨hf2, by rw [hj]; exact paint_here _ _ _⟩, Row.nil _ _ _ _ _⟩
  · have hfit : Fits (w1.setCell ⟨b, 5, none⟩ (.slice (some ⟨gg, 0, none⟩) (D.files.length + 1) cap)) (paint ρ gg 2) := (((h.fits.more hb0.size).more hk1.size).paint hlt).more hk2.size
    exact hfit.paint (Nat.lt_of_lt_of_le hfl (Nat.le_trans hk1.size hk2.size))
end Go.Proofs.YtalonkenchcfbaaDoor
