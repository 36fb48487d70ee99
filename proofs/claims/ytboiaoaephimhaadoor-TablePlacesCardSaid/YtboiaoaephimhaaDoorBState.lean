/- Where a parser lies in the heap: its own block and its rows. -/
import Derived.Test.YtboiaoaephimhaaDoorBLaw
import Derived.Lib.SmallJoins
import Derived.Deep.AppendLies
namespace Go.Proofs.YtboiaoaephimhaaDoor.B
open Go.RowKit Go.Shelf

def strC (l : List UInt8) : List Value := [.string ⟨l.toArray⟩]
def Fd.cells (f : Fd) : List Value := [.string ⟨f.key.toArray⟩, .string ⟨f.val.toArray⟩]
/-- The values that the parser's block holds, and its items' rows of fields. -/
structure Pay where
  vl : Value
  vi : Value
  vb : Value
  vf : Value
  vis : List Value
def It.cells (x : It) (v : Value) : List Value := [.int .i64 x.kind, .string ⟨x.raw.toArray⟩, v]
def itemCells (xs : List It) (vs : List Value) : List Value := (xs.zip vs).flatMap fun p => p.1.cells p.2
def Ps.cells (p : Ps) (L : Pay) : Array Value := #[L.vl, .int .i64 p.from_, .bool p.full, L.vi, L.vb, L.vf, .int .i64 p.records]
/-- The parser lies in block b. -/
structure ParserAt (w : World) (ρ : Col) (b : Nat) (p : Ps) (L : Pay) : Prop where
  blk : Blk w ρ 0 b (.cells (p.cells L) 86 (0, 0))
  rowL : Row w ρ 1 9 1 L.vl p.lines.length (p.lines.flatMap strC)
  rowI : Row w ρ 2 63 3 L.vi p.items.length (itemCells p.items L.vis)
  rowB : Row w ρ 3 9 1 L.vb p.block.length (p.block.flatMap strC)
  rowF : Row w ρ (5 + p.items.length) 100 2 L.vf p.fields.length (p.fields.flatMap Fd.cells)
  len : L.vis.length = p.items.length
  its : ∀ (i : Nat) v x, L.vis[i]? = some v → p.items[i]? = some x → Row w ρ (5 + i) 100 2 v x.fields.length (x.fields.flatMap Fd.cells)
  nilF : p.fields = [] → L.vf = .slice none 0 0
  fits : Fits w ρ
theorem ParserAt.keep {w w' : World} {ρ ρ' σ : Col} {b : Nat} {p : Ps} {L : Pay} (h : ParserAt w ρ b p L) (he : Ext w ρ ρ') (k : Kept σ w w') (hσ : ∀ g, ρ g ≠ none → σ g = none) (hf : Fits w' ρ') : ParserAt w' ρ' b p L where
  blk := h.blk.keep he k (hσ _ (by rw [h.blk.2]; simp))
  rowL := h.rowL.keep he k fun g hg => hσ g (by rw [hg]; simp)
  rowI := h.rowI.keep he k fun g hg => hσ g (by rw [hg]; simp)
  rowB := h.rowB.keep he k fun g hg => hσ g (by rw [hg]; simp)
  rowF := h.rowF.keep he k fun g hg => hσ g (by rw [hg]; simp)
  len := h.len
  its := fun i v x h1 h2 => (h.its i v x h1 h2).keep he k fun g hg => hσ g (by rw [hg]; simp)
  nilF := h.nilF
  fits := hf
theorem ParserAt.below {w w' : World} {ρ : Col} {b : Nat} {p : Ps} {L : Pay} (h : ParserAt w ρ b p L) (hb : Below w.heap.size w w') : ParserAt w' ρ b p L :=
  h.keep (Ext.refl _ _) (σ := fun _ => none) (Kept.below hb) (fun _ _ => rfl) (h.fits.more hb.size)
def IsParser (w : World) (ρ : Col) (b : Nat) (p : Ps) : Prop := ∃ L, ParserAt w ρ b p L
theorem IsParser.below {w w' : World} {ρ : Col} {b : Nat} {p : Ps} (h : IsParser w ρ b p) (hb : Below w.heap.size w w') : IsParser w' ρ b p := let ⟨L, hL⟩ := h; ⟨L, hL.below hb⟩
/-- A call turned the parser into p'; what is not the parser's is as it was. -/
def Became (w : World) (ρ : Col) (b : Nat) (p' : Ps) (w' : World) : Prop := ∃ ρ', IsParser w' ρ' b p' ∧ Ext w ρ ρ' ∧ Kept ρ w w'
theorem Became.same {w w' : World} {ρ : Col} {b : Nat} {p : Ps} (h : IsParser w ρ b p) (hb : Below w.heap.size w w') : Became w ρ b p w' := ⟨ρ, h.below hb, Ext.refl _ _, Kept.below hb⟩
theorem Became.below {w w' w'' : World} {ρ : Col} {b : Nat} {p : Ps} (h : Became w ρ b p w') (hb : Below w'.heap.size w' w'') : Became w ρ b p w'' := by
  obtain ⟨ρ', h1, h2, h3⟩ := h
  exact ⟨ρ', h1.below hb, h2, h3.trans h2 (Kept.below hb)⟩
theorem Became.next {w w' w'' : World} {ρ ρ' : Col} {b : Nat} {p : Ps} (he : Ext w ρ ρ') (hk : Kept ρ w w') (h : Became w' ρ' b p w'') : Became w ρ b p w'' := by
  obtain ⟨ρ'', h1, h2, h3⟩ := h
  exact ⟨ρ'', h1, he.trans h2 hk.size, hk.trans he h3⟩
theorem Became.from {w w' w'' : World} {ρ : Col} {b : Nat} {p : Ps} (hb : Below w.heap.size w w') (h : Became w' ρ b p w'') : Became w ρ b p w'' := h.next (Ext.refl _ _) (Kept.below hb)
/-- The parser's own cells, for a walk. -/
structure ParserCells (w : World) (b : Nat) (p : Ps) (L : Pay) : Prop where
  c0 : w.cell? ⟨b, 0, none⟩ = some L.vl
  c1 : w.cell? ⟨b, 1, none⟩ = some (.int .i64 p.from_)
  c2 : w.cell? ⟨b, 2, none⟩ = some (.bool p.full)
  c3 : w.cell? ⟨b, 3, none⟩ = some L.vi
  c4 : w.cell? ⟨b, 4, none⟩ = some L.vb
  c5 : w.cell? ⟨b, 5, none⟩ = some L.vf
  c6 : w.cell? ⟨b, 6, none⟩ = some (.int .i64 p.records)
  f0 : w.frozen? ⟨b, 0, none⟩ = false
  f1 : w.frozen? ⟨b, 1, none⟩ = false
  f2 : w.frozen? ⟨b, 2, none⟩ = false
  f3 : w.frozen? ⟨b, 3, none⟩ = false
  f4 : w.frozen? ⟨b, 4, none⟩ = false
  f5 : w.frozen? ⟨b, 5, none⟩ = false
  f6 : w.frozen? ⟨b, 6, none⟩ = false
theorem cell_of_row (w : World) (b i : Nat) (cs : Array Value) (T : TypeId) (h : w.heap[b]? = some (.cells cs T (0, 0))) : w.cell? ⟨b, i, none⟩ = cs[i]? := by simp [World.cell?, h]
theorem frozen_of_row (w : World) (b i : Nat) (cs : Array Value) (T : TypeId) (h : w.heap[b]? = some (.cells cs T (0, 0))) : w.frozen? ⟨b, i, none⟩ = false := by simp [World.frozen?, h]
theorem ParserAt.cells {w : World} {ρ : Col} {b : Nat} {p : Ps} {L : Pay} (h : ParserAt w ρ b p L) : ParserCells w b p L := by
  have c := fun j => cell_of_row w b j _ _ h.blk.1
  have f := fun j => frozen_of_row w b j _ _ h.blk.1
  exact ⟨c 0, c 1, c 2, c 3, c 4, c 5, c 6, f 0, f 1, f 2, f 3, f 4, f 5, f 6⟩
/-- A store into a block that is known whole. -/
theorem Blk.store {w : World} {ρ : Col} {c b i : Nat} {cs : Array Value} {T : TypeId} {v : Value} (h : Blk w ρ c b (.cells cs T (0, 0))) : Blk (w.setCell ⟨b, i, none⟩ v) ρ c b (.cells (cs.setIfInBounds i v) T (0, 0)) ∧ Kept (Only c ρ) w (w.setCell ⟨b, i, none⟩ v) := by
  refine ⟨⟨?_, h.2⟩, Kept.setCell (by rw [only_some h.2]; simp)⟩
  simp only [World.setCell, Array.getElem?_modify]
  rw [if_pos trivial, h.1]
  rfl
theorem Row.shape {w : World} {ρ : Col} {c : Nat} {e : TypeId} {size : Nat} {v : Value} {n : Nat} {xs : List Value} (h : Row w ρ c e size v n xs) : ∃ ao cp, v = .slice ao n cp := by
  rcases h.1.2 with ⟨rfl, rfl⟩ | ⟨g, cp, cur, rfl, _⟩
  · exact ⟨_, _, rfl⟩
  · exact ⟨_, _, rfl⟩
/-- The parts of the parser that a change of some colours leaves as they were. -/
theorem ParserAt.parts {w w' : World} {ρ ρ' : Col} {b : Nat} {p : Ps} {L : Pay} {q : Nat → Bool} (h : ParserAt w ρ b p L) (he : Ext w ρ ρ') (K : Kept (Those q ρ) w w') :
    (q 0 = false → Blk w' ρ' 0 b (.cells (p.cells L) 86 (0, 0))) ∧
    (q 1 = false → Row w' ρ' 1 9 1 L.vl p.lines.length (p.lines.flatMap strC)) ∧
    (q 2 = false → Row w' ρ' 2 63 3 L.vi p.items.length (itemCells p.items L.vis)) ∧
    (q 3 = false → Row w' ρ' 3 9 1 L.vb p.block.length (p.block.flatMap strC)) ∧
    (q (5 + p.items.length) = false → Row w' ρ' (5 + p.items.length) 100 2 L.vf p.fields.length (p.fields.flatMap Fd.cells)) ∧
    (∀ (i : Nat) v x, L.vis[i]? = some v → p.items[i]? = some x → q (5 + i) = false → Row w' ρ' (5 + i) 100 2 v x.fields.length (x.fields.flatMap Fd.cells)) :=
  ⟨fun hp => h.blk.keep he K (those_at h.blk.2 hp), fun hp => h.rowL.keep he K fun _ hg => those_at hg hp, fun hp => h.rowI.keep he K fun _ hg => those_at hg hp, fun hp => h.rowB.keep he K fun _ hg => those_at hg hp, fun hp => h.rowF.keep he K fun _ hg => those_at hg hp,
    fun i v x a b h5 => (h.its i v x a b).keep he K fun _ hg => those_at hg h5⟩
/-- A fault at a line. -/
def faultV (g : Nat) : Value := .iface 125 (.pointer (some ⟨g, 0, none⟩))
def errnoV (k : Nat) : Value := .iface 66 (.int .i64 k)
/-- An error: a fault at a place, by an error's number, that lies in block g. -/
def FaultAt (w : World) (g : Nat) (at_ : Int) (k : Nat) : Prop := w.heap[g]? = some (.cells #[.int .i64 at_, errnoV k] 127 (0, 0))
/-- How a step of the parser ends: no error and the parser so, or a fault. -/
def StepPost (w : World) (ρ : Col) (b : Nat) (r : Res) (e : Ending) (w' : World) : Prop :=
  if r.err = 0 then e = .returned .nilIface ∧ Became w ρ b r.st w' else ∃ g, e = .returned (faultV g) ∧ w.heap.size ≤ g ∧ FaultAt w' g r.at_ r.err ∧ Kept ρ w w'
end Go.Proofs.YtboiaoaephimhaaDoor.B
