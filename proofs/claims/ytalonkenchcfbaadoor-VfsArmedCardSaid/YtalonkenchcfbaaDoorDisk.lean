/- Where a disk lies in the heap: its own block, its names' map, its rows and its files. -/
import Derived.Test.YtalonkenchcfbaaDoorFoot
import Derived.Test.YtalonkenchcfbaaDoorModel
import Derived.Test.YtalonkenchcfbaaDoorProg
import Derived.Handy
import Derived.PlainAid
import Derived.Lib.Hide
import Derived.Lib.SmallJoins
import Derived.Deep.QuietTactic
import Derived.BigQuiet
import Derived.Outline
namespace Go.Proofs.YtalonkenchcfbaaDoor
open Go.RowKit

def Wt.cells (w : Wt) : List Value := [.string w.text, .int .i64 w.place, .bool w.cut]
def En.cells (e : En) : List Value := [.string e.put, .string e.take, .int .i64 e.file]
def Ac.cells (a : Ac) : List Value := [.int .i64 a.kind, .string a.name, .string a.other, .string a.bytes, .int .i64 a.place]
/-- The values that the disk's block holds, and its files' blocks and rows. -/
structure Lay where
  vf : Value
  mb : Nat
  vw : Value
  va : Value
  fs : List (Nat × Value)
def Dk.cells (D : Dk) (L : Lay) : Array Value := #[.int .i64 D.units, .int .i64 D.left, .bool D.armed, .bool D.gone, .int .i64 D.room, L.vf, .map (some L.mb), L.vw, L.va]
/-- A file lies in its block. -/
def FileAt (w : World) (ρ : Col) (i : Nat) (f : Nat × Value) (F : Fl) : Prop :=
  Blk w ρ (5 + 2 * i) f.1 (.cells #[.string F.sure, f.2] 73 (0, 0)) ∧ Row w ρ (6 + 2 * i) 81 3 f.2 F.waits.length (F.waits.flatMap Wt.cells)
/-- The disk lies in block b. -/
structure DiskAt (w : World) (ρ : Col) (b : Nat) (D : Dk) (L : Lay) : Prop where
  blk : Blk w ρ 0 b (.cells (D.cells L) 65 (0, 0))
  map : MapIs w ρ 1 Tryd.prog 9 (plainElem Tryd.prog 3) L.mb (Maps.size D.dir) D.dir
  rowF : Row w ρ 2 66 1 L.vf D.files.length (L.fs.map fun f => .pointer (some ⟨f.1, 0, none⟩))
  rowW : Row w ρ 3 70 3 L.vw D.waits.length (D.waits.flatMap En.cells)
  rowA : Row w ρ 4 76 5 L.va D.acts.length (D.acts.flatMap Ac.cells)
  len : L.fs.length = D.files.length
  files : ∀ (i : Nat) f F, L.fs[i]? = some f → D.files[i]? = some F → FileAt w ρ i f F
  fits : Fits w ρ
theorem FileAt.keep {w w' : World} {ρ ρ' σ : Col} {i : Nat} {f : Nat × Value} {F : Fl} (h : FileAt w ρ i f F) (he : Ext w ρ ρ') (k : Kept σ w w') (hσ : ∀ g, ρ g = some (5 + 2 * i) ∨ ρ g = some (6 + 2 * i) → σ g = none) : FileAt w' ρ' i f F :=
  ⟨h.1.keep he k (hσ _ (.inl h.1.2)), h.2.keep he k fun g hg => hσ g (.inr hg)⟩
/-- What changes nothing of the disk leaves it where it lies. -/
theorem DiskAt.keep {w w' : World} {ρ ρ' σ : Col} {b : Nat} {D : Dk} {L : Lay} (h : DiskAt w ρ b D L) (he : Ext w ρ ρ') (k : Kept σ w w') (hσ : ∀ g, ρ g ≠ none → σ g = none) (hf : Fits w' ρ') : DiskAt w' ρ' b D L where
  blk := h.blk.keep he k (hσ _ (by rw [h.blk.2]; simp))
  map := h.map.keep he k (hσ _ (by rw [h.map.2]; simp))
  rowF := h.rowF.keep he k fun g hg => hσ g (by rw [hg]; simp)
  rowW := h.rowW.keep he k fun g hg => hσ g (by rw [hg]; simp)
  rowA := h.rowA.keep he k fun g hg => hσ g (by rw [hg]; simp)
  len := h.len
  files := fun i f F h1 h2 => (h.files i f F h1 h2).keep he k fun g hg => hσ g (by rcases hg with hg | hg <;> rw [hg] <;> simp)
  fits := hf
theorem kept_none {w w' : World} (h : Below w.heap.size w w') : Kept (fun _ => none) w w' := Kept.below h
theorem DiskAt.below {w w' : World} {ρ : Col} {b : Nat} {D : Dk} {L : Lay} (h : DiskAt w ρ b D L) (hb : Below w.heap.size w w') : DiskAt w' ρ b D L :=
  h.keep (Ext.refl _ _) (kept_none hb) (fun _ _ => rfl) (h.fits.more hb.size)
/-- The disk D lies in block b, somehow. -/
def IsDisk (w : World) (ρ : Col) (b : Nat) (D : Dk) : Prop := ∃ L, DiskAt w ρ b D L
theorem IsDisk.below {w w' : World} {ρ : Col} {b : Nat} {D : Dk} (h : IsDisk w ρ b D) (hb : Below w.heap.size w w') : IsDisk w' ρ b D := let ⟨L, hL⟩ := h; ⟨L, hL.below hb⟩
/-- A call turned the disk into D'; what is not the disk's is as it was. -/
def Turned (w : World) (ρ : Col) (b : Nat) (D' : Dk) (w' : World) : Prop := ∃ ρ', IsDisk w' ρ' b D' ∧ Ext w ρ ρ' ∧ Kept ρ w w'
theorem Turned.same {w w' : World} {ρ : Col} {b : Nat} {D : Dk} (h : IsDisk w ρ b D) (hb : Below w.heap.size w w') : Turned w ρ b D w' := ⟨ρ, h.below hb, Ext.refl _ _, Kept.below hb⟩
theorem Turned.below {w w' w'' : World} {ρ : Col} {b : Nat} {D : Dk} (h : Turned w ρ b D w') (hb : Below w'.heap.size w' w'') : Turned w ρ b D w'' := by
  obtain ⟨ρ', h1, h2, h3⟩ := h
  exact ⟨ρ', h1.below hb, h2, h3.trans h2 (Kept.below hb)⟩
theorem Turned.next {w w' w'' : World} {ρ ρ' : Col} {b : Nat} {D : Dk} (he : Ext w ρ ρ') (hk : Kept ρ w w') (h : Turned w' ρ' b D w'') : Turned w ρ b D w'' := by
  obtain ⟨ρ'', h1, h2, h3⟩ := h
  exact ⟨ρ'', h1, he.trans h2 hk.size, hk.trans he h3⟩
/-- The disk's own cells, for a walk. -/
structure DiskCells (w : World) (b : Nat) (D : Dk) (L : Lay) : Prop where
  c0 : w.cell? ⟨b, 0, none⟩ = some (.int .i64 D.units)
  c1 : w.cell? ⟨b, 1, none⟩ = some (.int .i64 D.left)
  c2 : w.cell? ⟨b, 2, none⟩ = some (.bool D.armed)
  c3 : w.cell? ⟨b, 3, none⟩ = some (.bool D.gone)
  c4 : w.cell? ⟨b, 4, none⟩ = some (.int .i64 D.room)
  c5 : w.cell? ⟨b, 5, none⟩ = some L.vf
  c6 : w.cell? ⟨b, 6, none⟩ = some (.map (some L.mb))
  c7 : w.cell? ⟨b, 7, none⟩ = some L.vw
  c8 : w.cell? ⟨b, 8, none⟩ = some L.va
  f0 : w.frozen? ⟨b, 0, none⟩ = false
  f1 : w.frozen? ⟨b, 1, none⟩ = false
  f2 : w.frozen? ⟨b, 2, none⟩ = false
  f3 : w.frozen? ⟨b, 3, none⟩ = false
  f5 : w.frozen? ⟨b, 5, none⟩ = false
  f6 : w.frozen? ⟨b, 6, none⟩ = false
  f7 : w.frozen? ⟨b, 7, none⟩ = false
  f8 : w.frozen? ⟨b, 8, none⟩ = false
theorem DiskAt.cells {w : World} {ρ : Col} {b : Nat} {D : Dk} {L : Lay} (h : DiskAt w ρ b D L) : DiskCells w b D L := by
  have c := fun j => cell_of_row w b j _ _ _ h.blk.1
  have f := fun j => frozen_of_row w b j _ _ h.blk.1
  exact ⟨c 0, c 1, c 2, c 3, c 4, c 5, c 6, c 7, c 8, f 0, f 1, f 2, f 3, f 5, f 6, f 7, f 8⟩
/-- A store into a block that is known whole. -/
theorem Blk.store {w : World} {ρ : Col} {c b i : Nat} {cs : Array Value} {T : TypeId} {v : Value} (h : Blk w ρ c b (.cells cs T (0, 0))) : Blk (w.setCell ⟨b, i, none⟩ v) ρ c b (.cells (cs.setIfInBounds i v) T (0, 0)) ∧ Kept (Only c ρ) w (w.setCell ⟨b, i, none⟩ v) := by
  refine ⟨⟨?_, h.2⟩, Kept.setCell (by rw [only_some h.2]; simp)⟩
  simp only [World.setCell, Array.getElem?_modify]
  rw [if_pos trivial, h.1]
  rfl
/-- The disk behind a change of its own block alone. -/
theorem DiskAt.change {w w' : World} {ρ : Col} {b : Nat} {D D' : Dk} {L : Lay} (h : DiskAt w ρ b D L) (k : Kept (Only 0 ρ) w w') (hb : w'.heap[b]? = some (.cells (D'.cells L) 65 (0, 0)))
    (h1 : D'.files = D.files) (h2 : D'.dir = D.dir) (h3 : D'.waits = D.waits) (h4 : D'.acts = D.acts) : DiskAt w' ρ b D' L where
  blk := ⟨hb, h.blk.2⟩
  map := by rw [h2]; exact h.map.keep (Ext.refl _ _) k (only_none (by rw [h.map.2]; simp))
  rowF := by rw [h1]; exact h.rowF.keep (Ext.refl _ _) k fun g hg => only_none (by rw [hg]; simp)
  rowW := by rw [h3]; exact h.rowW.keep (Ext.refl _ _) k fun g hg => only_none (by rw [hg]; simp)
  rowA := by rw [h4]; exact h.rowA.keep (Ext.refl _ _) k fun g hg => only_none (by rw [hg]; simp)
  len := by rw [h1]; exact h.len
  files := by rw [h1]; exact fun i f F a b => (h.files i f F a b).keep (Ext.refl _ _) k fun g hg => only_none (by rcases hg with hg | hg <;> rw [hg] <;> simp <;> omega)
  fits := h.fits.more k.size
/-- The parts of the disk that a change of some colours leaves as they were. -/
theorem DiskAt.parts {w w' : World} {ρ ρ' : Col} {b : Nat} {D : Dk} {L : Lay} {p : Nat → Bool} (h : DiskAt w ρ b D L) (he : Ext w ρ ρ') (K : Kept (Those p ρ) w w') :
    (p 0 = false → Blk w' ρ' 0 b (.cells (D.cells L) 65 (0, 0))) ∧
    (p 1 = false → MapIs w' ρ' 1 Tryd.prog 9 (plainElem Tryd.prog 3) L.mb (Maps.size D.dir) D.dir) ∧
    (p 2 = false → Row w' ρ' 2 66 1 L.vf D.files.length (L.fs.map fun f => .pointer (some ⟨f.1, 0, none⟩))) ∧
    (p 3 = false → Row w' ρ' 3 70 3 L.vw D.waits.length (D.waits.flatMap En.cells)) ∧
    (p 4 = false → Row w' ρ' 4 76 5 L.va D.acts.length (D.acts.flatMap Ac.cells)) ∧
    (∀ (i : Nat) f F, L.fs[i]? = some f → D.files[i]? = some F → p (5 + 2 * i) = false → p (6 + 2 * i) = false → FileAt w' ρ' i f F) :=
  ⟨fun hp => h.blk.keep he K (those_at h.blk.2 hp), fun hp => h.map.keep he K (those_at h.map.2 hp), fun hp => h.rowF.keep he K fun g hg => those_at hg hp, fun hp => h.rowW.keep he K fun g hg => those_at hg hp, fun hp => h.rowA.keep he K fun g hg => those_at hg hp,
    fun i f F a b h5 h6 => (h.files i f F a b).keep he K fun g hg => by rcases hg with hg | hg; exact those_at hg h5; exact those_at hg h6⟩
end Go.Proofs.YtalonkenchcfbaaDoor
