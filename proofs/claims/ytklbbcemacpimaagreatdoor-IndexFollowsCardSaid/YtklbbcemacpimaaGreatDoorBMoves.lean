/- A parser behind a change of one of its rows. A field that is under way ends: flush. -/
import Derived.Test.YtklbbcemacpimaaGreatDoorBUnfold
import Derived.Deep.RegionLaw
namespace Go.Proofs.YtklbbcemacpimaaGreatDoor.B
open Go.RowKit Go.Shelf

theorem flat_snoc {α : Type} (c : α → List Value) (l : List α) (x : α) : (l ++ [x]).flatMap c = l.flatMap c ++ c x := by simp
theorem get_snoc {α : Type} {l : List α} {x : α} {i : Nat} {f : α} (h : (l ++ [x])[i]? = some f) : (i < l.length ∧ l[i]? = some f) ∨ (i = l.length ∧ f = x) := by
  rcases Nat.lt_trichotomy i l.length with g | g | g
  · rw [List.getElem?_append_left g] at h; exact .inl ⟨g, h⟩
  · subst g; rw [List.getElem?_append_right (Nat.le_refl _)] at h; simp at h; exact .inr ⟨rfl, h.symm⟩
  · rw [List.getElem?_eq_none (by simp; omega)] at h; cases h
theorem itemCells_snoc {xs : List It} {vs : List Value} (h : vs.length = xs.length) (x : It) (v : Value) : itemCells (xs ++ [x]) (vs ++ [v]) = itemCells xs vs ++ x.cells v := by
  unfold itemCells
  rw [List.zip_append h.symm, List.flatMap_append]
  simp
section
variable {w w0 w1 : World} {ρ : Col} {b : Nat} {p : Ps} {L : Pay} (h : ParserAt w ρ b p L) (hb0 : Below w.heap.size w w0) {gg cap : Nat}
include h hb0
theorem became_lines (x : List UInt8) (hown : w1.ownsRow 0 9 1 (.slice (some ⟨gg, 0, none⟩) (p.lines.length + 1) cap) (p.lines.length + 1) (p.lines.flatMap strC ++ strC x)) (hgrow : w0.grownBy w1 L.vl.ownBlock) (hat : L.vl.ownBlock = some gg ∨ w0.heap.size ≤ gg) (hlt : gg < w1.heap.size) :
    Became w ρ b { p with lines := p.lines ++ [x] } (w1.setCell ⟨b, 0, none⟩ (.slice (some ⟨gg, 0, none⟩) (p.lines.length + 1) cap)) := by
  have h0 := h.below hb0
  obtain ⟨hr1, he1, hk1⟩ := h0.rowL.append hown hgrow hat
  have p1 := hk1.only (p := fun c => c == 0 || c == 1) rfl
  have hblk := (h0.parts he1 (hk1.only (p := fun c => c == 1) rfl)).1 rfl
  obtain ⟨hs, hk2⟩ := Blk.store hblk (i := 0) (v := .slice (some ⟨gg, 0, none⟩) (p.lines.length + 1) cap)
  have p2 := p1.thoseTrans he1 (hk2.only (p := fun c => c == 0 || c == 1) rfl)
  obtain ⟨-, -, q2, q3, q4, q5⟩ := h0.parts he1 p2
  have q1 := hr1.keep (Ext.refl _ _) hk2 fun g hg => only_none (by rw [hg]; simp)
  refine ⟨paint ρ gg 1, ⟨{ L with vl := .slice (some ⟨gg, 0, none⟩) (p.lines.length + 1) cap }, ⟨hs, ?_, q2 rfl, q3 rfl, q4 (by simp; omega), h.len, fun i v x a c => q5 i v x a c (by simp; omega), h.nilF, ?_⟩⟩, ?_, ?_⟩
  · show Row _ _ _ _ _ _ (p.lines ++ [x]).length ((p.lines ++ [x]).flatMap strC)
    rw [List.length_append, flat_snoc]
    exact q1
  · exact ((h.fits.more hb0.size).more hk1.size).paint hlt |>.more hk2.size
  · exact fun k hk => he1 k (Nat.lt_of_lt_of_le hk hb0.size)
  · exact (Kept.below hb0).then p2.those
theorem became_block (x : List UInt8) (hown : w1.ownsRow 0 9 1 (.slice (some ⟨gg, 0, none⟩) (p.block.length + 1) cap) (p.block.length + 1) (p.block.flatMap strC ++ strC x)) (hgrow : w0.grownBy w1 L.vb.ownBlock) (hat : L.vb.ownBlock = some gg ∨ w0.heap.size ≤ gg) (hlt : gg < w1.heap.size) :
    Became w ρ b { p with block := p.block ++ [x] } (w1.setCell ⟨b, 4, none⟩ (.slice (some ⟨gg, 0, none⟩) (p.block.length + 1) cap)) := by
  have h0 := h.below hb0
  obtain ⟨hr1, he1, hk1⟩ := h0.rowB.append hown hgrow hat
  have p1 := hk1.only (p := fun c => c == 0 || c == 3) rfl
  have hblk := (h0.parts he1 (hk1.only (p := fun c => c == 3) rfl)).1 rfl
  obtain ⟨hs, hk2⟩ := Blk.store hblk (i := 4) (v := .slice (some ⟨gg, 0, none⟩) (p.block.length + 1) cap)
  have p2 := p1.thoseTrans he1 (hk2.only (p := fun c => c == 0 || c == 3) rfl)
  obtain ⟨-, q1, q2, -, q4, q5⟩ := h0.parts he1 p2
  have q3 := hr1.keep (Ext.refl _ _) hk2 fun g hg => only_none (by rw [hg]; simp)
  refine ⟨paint ρ gg 3, ⟨{ L with vb := .slice (some ⟨gg, 0, none⟩) (p.block.length + 1) cap }, ⟨hs, q1 rfl, q2 rfl, ?_, q4 (by simp; omega), h.len, fun i v x a c => q5 i v x a c (by simp; omega), h.nilF, ?_⟩⟩, ?_, ?_⟩
  · show Row _ _ _ _ _ _ (p.block ++ [x]).length ((p.block ++ [x]).flatMap strC)
    rw [List.length_append, flat_snoc]
    exact q3
  · exact ((h.fits.more hb0.size).more hk1.size).paint hlt |>.more hk2.size
  · exact fun k hk => he1 k (Nat.lt_of_lt_of_le hk hb0.size)
  · exact (Kept.below hb0).then p2.those
/-- A field is taken over: the lines are gone. -/
theorem became_field (x : Fd) (hown : w1.ownsRow 0 57 2 (.slice (some ⟨gg, 0, none⟩) (p.fields.length + 1) cap) (p.fields.length + 1) (p.fields.flatMap Fd.cells ++ x.cells)) (hgrow : w0.grownBy w1 L.vf.ownBlock) (hat : L.vf.ownBlock = some gg ∨ w0.heap.size ≤ gg) (hlt : gg < w1.heap.size)
    {W : World} (hW : W = (w1.setCell ⟨b, 5, none⟩ (.slice (some ⟨gg, 0, none⟩) (p.fields.length + 1) cap)).setCell ⟨b, 0, none⟩ (.slice none 0 0) ∨ W = (w1.setCell ⟨b, 0, none⟩ (.slice none 0 0)).setCell ⟨b, 5, none⟩ (.slice (some ⟨gg, 0, none⟩) (p.fields.length + 1) cap)) :
    Became w ρ b { p with fields := p.fields ++ [x], lines := [] } W := by
  have h0 := h.below hb0
  obtain ⟨hr1, he1, hk1⟩ := h0.rowF.append hown hgrow hat
  have p1 := hk1.only (p := fun c => c == 0 || c == 5 + p.items.length) (by simp)
  have hblk := (h0.parts he1 (hk1.only (p := fun c => c == 5 + p.items.length) (by simp))).1 (by simp; omega)
  have hw : (W.heap[b]? = some (.cells (({ p with fields := p.fields ++ [x], lines := [] } : Ps).cells { L with vf := .slice (some ⟨gg, 0, none⟩) (p.fields.length + 1) cap, vl := .slice none 0 0 }) 106 (0, 0)) ∧ paint ρ gg (5 + p.items.length) b = some 0) ∧ Kept (Only 0 (paint ρ gg (5 + p.items.length))) w1 W := by
    rcases hW with rfl | rfl
    · obtain ⟨s1, k1⟩ := Blk.store hblk (i := 5) (v := .slice (some ⟨gg, 0, none⟩) (p.fields.length + 1) cap)
      obtain ⟨s2, k2⟩ := Blk.store s1 (i := 0) (v := .slice none 0 0)
      exact ⟨s2, k1.then k2⟩
    · obtain ⟨s1, k1⟩ := Blk.store hblk (i := 0) (v := .slice none 0 0)
      obtain ⟨s2, k2⟩ := Blk.store s1 (i := 5) (v := .slice (some ⟨gg, 0, none⟩) (p.fields.length + 1) cap)
      exact ⟨s2, k1.then k2⟩
  obtain ⟨hs, hk2⟩ := hw
  have p2 := p1.thoseTrans he1 (hk2.only (p := fun c => c == 0 || c == 5 + p.items.length) rfl)
  obtain ⟨-, -, q2, q3, -, q5⟩ := h0.parts he1 p2
  have q4 := hr1.keep (Ext.refl _ _) hk2 fun g hg => only_none (by rw [hg]; simp)
  refine ⟨paint ρ gg (5 + p.items.length), ⟨{ L with vf := .slice (some ⟨gg, 0, none⟩) (p.fields.length + 1) cap, vl := .slice none 0 0 }, ⟨hs, Row.nil _ _ _ _ _, q2 (by simp; omega), q3 (by simp; omega), ?_, h.len, fun i v x a c => q5 i v x a c ?_, fun hn => ?_, ?_⟩⟩, ?_, ?_⟩
  · show Row _ _ _ _ _ _ (p.fields ++ [x]).length ((p.fields ++ [x]).flatMap Fd.cells)
    rw [List.length_append, flat_snoc]
    exact q4
  · have h9 : i < p.items.length := (List.getElem?_eq_some_iff.1 c).1
    have h8 : (5 + i == 5 + p.items.length) = false := by simp; omega
    show (5 + i == 0 || 5 + i == 5 + p.items.length) = false
    rw [h8]; simp
  · simp at hn
  · exact ((h.fits.more hb0.size).more hk1.size).paint hlt |>.more hk2.size
  · exact fun k hk => he1 k (Nat.lt_of_lt_of_le hk hb0.size)
  · exact (Kept.below hb0).then p2.those
/-- An item more; nothing is left of the fields. -/
theorem became_item (x : It) (v : Value) (hx : Row w ρ (5 + p.items.length) 57 2 v x.fields.length (x.fields.flatMap Fd.cells)) (hown : w1.ownsRow 0 65 3 (.slice (some ⟨gg, 0, none⟩) (p.items.length + 1) cap) (p.items.length + 1) (itemCells p.items L.vis ++ x.cells v)) (hgrow : w0.grownBy w1 L.vi.ownBlock) (hat : L.vi.ownBlock = some gg ∨ w0.heap.size ≤ gg) (hlt : gg < w1.heap.size)
    {W : World} {vb' : Value} {p' : Ps} (e1 : p'.lines = p.lines) (e2 : p'.items = p.items ++ [x]) (e3 : p'.fields = []) (e4 : (vb' = L.vb ∧ p'.block = p.block) ∨ (vb' = .slice none 0 0 ∧ p'.block = []))
    (hs : w1.heap[b]? = some (.cells (p.cells L) 106 (0, 0)) → W.heap[b]? = some (.cells (p'.cells { vl := L.vl, vi := .slice (some ⟨gg, 0, none⟩) (p.items.length + 1) cap, vb := vb', vf := .slice none 0 0, vis := L.vis ++ [v] }) 106 (0, 0)))
    (hk : ∀ σ : Col, σ b = some 0 → Kept σ w1 W) : Became w ρ b p' W := by
  have h0 := h.below hb0
  obtain ⟨hr1, he1, hk1⟩ := h0.rowI.append hown hgrow hat
  have p1 := hk1.only (p := fun c => c == 0 || c == 2) rfl
  have hblk := (h0.parts he1 (hk1.only (p := fun c => c == 2) rfl)).1 rfl
  have hk2 := hk (Only 0 (paint ρ gg 2)) (only_some hblk.2)
  have p2 := p1.thoseTrans he1 (hk2.only (p := fun c => c == 0 || c == 2) rfl)
  obtain ⟨-, q1, -, q3, -, q5⟩ := h0.parts he1 p2
  have q2 := hr1.keep (Ext.refl _ _) hk2 fun g hg => only_none (by rw [hg]; simp)
  have hx0 : Row w0 ρ (5 + p.items.length) 57 2 v x.fields.length (x.fields.flatMap Fd.cells) := hx.keep (Ext.refl _ _) (σ := fun _ => none) (Kept.below hb0) fun _ _ => rfl
  have hx2 := hx0.keep he1 p2 fun g hg => those_at hg (by simp; omega)
  refine ⟨paint ρ gg 2, ⟨{ vl := L.vl, vi := .slice (some ⟨gg, 0, none⟩) (p.items.length + 1) cap, vb := vb', vf := .slice none 0 0, vis := L.vis ++ [v] }, ⟨⟨hs hblk.1, hblk.2⟩, ?_, ?_, ?_, ?_, ?_, ?_, fun _ => rfl, ?_⟩⟩, ?_, ?_⟩
  · rw [e1]; exact q1 rfl
  · rw [e2, List.length_append]
    show Row _ _ _ _ _ _ _ (itemCells (p.items ++ [x]) (L.vis ++ [v]))
    rw [itemCells_snoc h.len]
    exact q2
  · rcases e4 with ⟨rfl, e4⟩ | ⟨rfl, e4⟩
    · rw [e4]; exact q3 rfl
    · rw [e4]; exact Row.nil _ _ _ _ _
  · rw [e3]; exact Row.nil _ _ _ _ _
  · show (L.vis ++ [v]).length = _
    rw [e2, List.length_append, List.length_append, h.len]; rfl
  · intro i u y hu hy
    rw [e2] at hy
    rcases get_snoc hu with ⟨hi, hu⟩ | ⟨hi, rfl⟩
    · rcases get_snoc hy with ⟨hj, hy⟩ | ⟨hj, rfl⟩
      · exact q5 i u y hu hy (by simp; omega)
      · rw [h.len] at hi; omega
    · rcases get_snoc hy with ⟨hj, hy⟩ | ⟨hj, rfl⟩
      · rw [h.len] at hi; omega
      · rw [hj]; exact hx2
  · exact ((h.fits.more hb0.size).more hk1.size).paint hlt |>.more hk2.size
  · exact fun k hk => he1 k (Nat.lt_of_lt_of_le hk hb0.size)
  · exact (Kept.below hb0).then p2.those
/-- A new field's first line: a row of its own, new in w1. -/
theorem became_begun (x : List UInt8) (n : Int) (f : Bool) (g : Nat) (hg : w0.heap.size ≤ g) (hb1 : Below w0.heap.size w0 w1) (hx : w1.heap[g]? = some (.cells #[.string ⟨x.toArray⟩] 9 (0, 0))) :
    Became w ρ b { p with lines := [x], from_ := n, full := f } (((w1.setCell ⟨b, 0, none⟩ (.slice (some ⟨g, 0, none⟩) 1 1)).setCell ⟨b, 1, none⟩ (.int .i64 n)).setCell ⟨b, 2, none⟩ (.bool f)) := by
  have h1 := h.below (hb0.trans (hb1.mono hb0.size))
  have hgl : g < w1.heap.size := (Array.getElem?_eq_some_iff.1 hx).1
  have hgw : w.heap.size ≤ g := Nat.le_trans hb0.size hg
  have hbg : b ≠ g := by have := h.blk.lt; omega
  have he : Ext w ρ (paint ρ g 1) := paint_ext ρ 1 hgw
  obtain ⟨s1, k1⟩ := Blk.store h1.blk (i := 0) (v := .slice (some ⟨g, 0, none⟩) 1 1)
  obtain ⟨s2, k2⟩ := Blk.store s1 (i := 1) (v := .int .i64 n)
  obtain ⟨s3, k3⟩ := Blk.store s2 (i := 2) (v := .bool f)
  have K : Kept (Only 0 ρ) w1 (((w1.setCell ⟨b, 0, none⟩ (.slice (some ⟨g, 0, none⟩) 1 1)).setCell ⟨b, 1, none⟩ (.int .i64 n)).setCell ⟨b, 2, none⟩ (.bool f)) := (k1.then k2).then k3
  have K0 : Kept (Only 0 ρ) w (((w1.setCell ⟨b, 0, none⟩ (.slice (some ⟨g, 0, none⟩) 1 1)).setCell ⟨b, 1, none⟩ (.int .i64 n)).setCell ⟨b, 2, none⟩ (.bool f)) := (Kept.below (hb0.trans (hb1.mono hb0.size))).then K
  have hrow : Row (((w1.setCell ⟨b, 0, none⟩ (.slice (some ⟨g, 0, none⟩) 1 1)).setCell ⟨b, 1, none⟩ (.int .i64 n)).setCell ⟨b, 2, none⟩ (.bool f)) (paint ρ g 1) 1 9 1 (.slice (some ⟨g, 0, none⟩) 1 1) 1 ([x].flatMap strC) := by
    refine ⟨⟨rfl, .inr ⟨g, 1, #[.string ⟨x.toArray⟩], rfl, Nat.zero_le _, ?_, Nat.le_refl _, by decide, rfl, rfl⟩⟩, fun g' hg' => ?_⟩
    · rw [Below.heap_setCell _ _ _ _ (Ne.symm hbg), Below.heap_setCell _ _ _ _ (Ne.symm hbg), Below.heap_setCell _ _ _ _ (Ne.symm hbg)]
      exact hx
    · simp only [Value.ownBlock, Option.some.injEq] at hg'
      rw [← hg']; exact paint_here _ _ _
  refine ⟨paint ρ g 1, ⟨{ L with vl := .slice (some ⟨g, 0, none⟩) 1 1 }, ⟨⟨s3.1, by rw [paint_else ρ hbg]; exact s3.2⟩, hrow, ?_, ?_, ?_, h.len, ?_, h.nilF, ?_⟩⟩, he, K0.wide⟩
  · exact h.rowI.keep he K0 fun y hy => only_none (by rw [hy]; simp)
  · exact h.rowB.keep he K0 fun y hy => only_none (by rw [hy]; simp)
  · exact h.rowF.keep he K0 fun y hy => only_none (by rw [hy]; simp)
  · exact fun i v x a c => (h.its i v x a c).keep he K0 fun y hy => only_none (by rw [hy]; simp)
  · exact ((h.fits.more (Nat.le_trans hb0.size hb1.size)).paint hgl).more K.size
end
/-- A change of the parser's own block that keeps its rows. -/
theorem became_set {w : World} {ρ : Col} {b : Nat} {p p' : Ps} {L : Pay} (h : ParserAt w ρ b p L) {W : World} (hk : Kept (Only 0 ρ) w W) (hs : W.heap[b]? = some (.cells (p'.cells L) 106 (0, 0)))
    (e1 : p'.lines = p.lines) (e2 : p'.items = p.items) (e3 : p'.block = p.block) (e4 : p'.fields = p.fields) : ParserAt W ρ b p' L where
  blk := ⟨hs, h.blk.2⟩
  rowL := by rw [e1]; exact h.rowL.keep (Ext.refl _ _) hk fun g hg => only_none (by rw [hg]; simp)
  rowI := by rw [e2]; exact h.rowI.keep (Ext.refl _ _) hk fun g hg => only_none (by rw [hg]; simp)
  rowB := by rw [e3]; exact h.rowB.keep (Ext.refl _ _) hk fun g hg => only_none (by rw [hg]; simp)
  rowF := by rw [e2, e4]; exact h.rowF.keep (Ext.refl _ _) hk fun g hg => only_none (by rw [hg]; simp)
  len := by rw [e2]; exact h.len
  its := by rw [e2]; exact fun i v x a c => (h.its i v x a c).keep (Ext.refl _ _) hk fun g hg => only_none (by rw [hg]; simp)
  nilF := by rw [e4]; exact h.nilF
  fits := h.fits.more hk.size
/-- The block and the fields are let go. -/
theorem became_clear {w : World} {ρ : Col} {b : Nat} {p : Ps} {L : Pay} (h : ParserAt w ρ b p L) : Became w ρ b { p with block := [], fields := [] } ((w.setCell ⟨b, 4, none⟩ (.slice none 0 0)).setCell ⟨b, 5, none⟩ (.slice none 0 0)) := by
  obtain ⟨s1, k1⟩ := Blk.store h.blk (i := 4) (v := .slice none 0 0)
  obtain ⟨s2, k2⟩ := Blk.store s1 (i := 5) (v := .slice none 0 0)
  have hk := k1.then k2
  refine ⟨ρ, ⟨{ L with vb := .slice none 0 0, vf := .slice none 0 0 }, ⟨s2, ?_, ?_, Row.nil _ _ _ _ _, Row.nil _ _ _ _ _, h.len, ?_, fun _ => rfl, h.fits.more hk.size⟩⟩, Ext.refl _ _, hk.wide⟩
  · exact h.rowL.keep (Ext.refl _ _) hk fun g hg => only_none (by rw [hg]; simp)
  · exact h.rowI.keep (Ext.refl _ _) hk fun g hg => only_none (by rw [hg]; simp)
  · exact fun i v x a c => (h.its i v x a c).keep (Ext.refl _ _) hk fun g hg => only_none (by rw [hg]; simp)
end Go.Proofs.YtklbbcemacpimaaGreatDoor.B

namespace Go.Proofs.YtklbbcemacpimaaGreatDoor.B
open Go.RowKit Go.Shelf

/-- A bound on texts that are joined by one byte. -/
def massOf (ls : List (List UInt8)) : Nat := (ls.map fun s => s.length + 1).sum
theorem join_len (ls : List (List UInt8)) (c : UInt8) : (Lib.join ls [c]).length ≤ massOf ls := by
  induction ls with
  | nil => simp [Lib.join, massOf]
  | cons a r ih =>
    cases r with
    | nil => simp [Lib.join, massOf]
    | cons a2 r2 =>
      have e : Lib.join (a :: a2 :: r2) [c] = a ++ [c] ++ Lib.join (a2 :: r2) [c] := by simp [Lib.join]
      rw [e, List.length_append, List.length_append]
      have e2 : massOf (a :: a2 :: r2) = a.length + 1 + massOf (a2 :: r2) := by simp [massOf]
      rw [e2]
      simp
      omega
theorem trim_len (l p : List UInt8) : (Lib.trimPrefix l p).length ≤ l.length := by
  unfold Lib.trimPrefix
  split
  · rw [List.length_drop]; omega
  · exact Nat.le_refl _
theorem behind_le' (c : UInt8) (l : List UInt8) : (behind c l).length ≤ l.length := by
  unfold behind
  have h1 := (List.dropWhile_sublist (fun x => x != c) (l := l)).length_le
  rw [List.length_tail]
  omega
theorem massOf_cons (a : List UInt8) (r : List (List UInt8)) : massOf (a :: r) = a.length + 1 + massOf r := by simp [massOf]
theorem massOf_snoc (a : List UInt8) (r : List (List UInt8)) : massOf (r ++ [a]) = massOf r + (a.length + 1) := by simp [massOf]
theorem massOf_len (ls : List (List UInt8)) : ls.length ≤ massOf ls := by
  induction ls with
  | nil => exact Nat.le_refl _
  | cons a r ih => rw [massOf_cons, List.length_cons]; omega
theorem massOf_mem {ls : List (List UInt8)} {s : List UInt8} (h : s ∈ ls) : s.length ≤ massOf ls := by
  induction ls with
  | nil => cases h
  | cons a r ih =>
    rw [massOf_cons]
    rcases List.mem_cons.1 h with rfl | h
    · omega
    · have := ih h; omega
theorem field_len (l0 : List UInt8) (r : List (List UInt8)) : (fieldOf l0 r).val.length ≤ massOf (l0 :: r) := by
  refine Nat.le_trans (join_len _ _) ?_
  rw [massOf_cons, massOf_cons]
  have h1 := trim_len (behind 58 l0) [32]
  have h2 := behind_le' 58 l0
  have h3 : massOf (r.map fun s => Lib.trimPrefix (s.drop 1) [46]) ≤ massOf r := by
    induction r with
    | nil => exact Nat.le_refl _
    | cons a r ih =>
      rw [List.map_cons, massOf_cons, massOf_cons]
      have h4 := trim_len (a.drop 1) [46]
      rw [List.length_drop] at h4
      omega
  omega
/-- How much a parser may hold. -/
structure PsOk (p : Ps) (N : Nat) : Prop where
  lines : massOf p.lines ≤ N
  block : massOf p.block ≤ N
  items : p.items.length ≤ N
  fields : p.fields.length ≤ N
  records : p.records ≤ N
theorem unfoldN_cases (l0 : List UInt8) (r : List (List UInt8)) : unfoldN (l0 :: r) = 0 ∨ unfoldN (l0 :: r) = 2 ∨ unfoldN (l0 :: r) = 6 := by
  rw [unfoldN_cons]
  split
  · exact .inr (.inl rfl)
  split
  · exact .inr (.inl rfl)
  split
  · exact .inr (.inr rfl)
  · exact .inl rfl
theorem kept_alloc {w : World} {ρ : Col} (o : Obj) : Kept ρ w (w.alloc o) := Kept.below (below_grow1 w o)
theorem StepPost.fault {w w1 : World} {ρ : Col} {b : Nat} {r : Res} {n : Int} {k g : Nat} (hb : Below w.heap.size w w1) (h1 : r.err = k) (h2 : r.at_ = n) (hk : k ≠ 0) (hg : w1.heap.size = g) :
    StepPost w ρ b r (.returned (faultV g)) (w1.alloc (.cells #[.int .i64 n, errnoV k] 152)) := by
  unfold StepPost
  subst hg
  rw [if_neg (by rw [h1]; exact hk)]
  exact ⟨_, rfl, hb.size, by rw [h1, h2]; exact fault_at n k w1, (Kept.below hb).then (kept_alloc _)⟩
set_option maxRecDepth 100000 in
set_option maxHeartbeats 3200000 in
theorem flush_any (w : World) (ρ : Col) (b : Nat) (p : Ps) (L : Pay) (h : ParserAt w ρ b p L) (ok : PsOk p 1000000) :
    Calls Tryz.prog 67 #[.pointer (some ⟨b, 0, none⟩)] w (StepPost w ρ b p.flush) := by
  have c0 := h.cells.c0
  obtain ⟨ao, cp, hvl⟩ := h.rowL.shape
  rw [hvl] at c0
  have hb := h.blk.lt
  have HD := Lib.hid h
  by_cases hl : p.lines = []
  · have hn : p.lines.length = 0 := by rw [hl]; rfl
    rw [hn] at c0
    have hr : Hid (p.flush = ⟨0, 0, p⟩) := Lib.hid (by unfold Ps.flush; rw [if_pos hl])
    clear h hvl hl hn
    go_enter Tryz.func67, Tryz.ntmps67
    go_wp2
    go_ret
    rw [hr.out]
    exact ⟨rfl, Became.same ⟨L, HD.out⟩ (Below.refl _ _)⟩
  · obtain ⟨l0, r, hlr⟩ : ∃ l0 r, p.lines = l0 :: r := by
      cases hp : p.lines with
      | nil => exact absurd hp hl
      | cons l0 r => exact ⟨l0, r, rfl⟩
    have hm := ok.lines
    rw [hlr] at hm
    have hlen : p.lines.length = r.length + 1 := by rw [hlr]; rfl
    rw [hlen] at c0
    have hT : TextsAt w (.slice ao (r.length + 1) cp) (l0 :: r) := by
      have h1 := h.rowL.1
      rw [hvl, hlr] at h1
      exact TextsAt.of h1 rfl (by simp)
    have U := unfold_any l0 r _ w hT (by have := massOf_len (l0 :: r); simp at this; omega) (fun s hs => Nat.le_trans (massOf_mem hs) hm) (Nat.le_trans (field_len l0 r) hm)
    have c1 := h.cells.c1
    have c2 := h.cells.c2
    by_cases hu : unfoldN (l0 :: r) = 0
    · rw [if_pos hu, hu] at U
      have U' : Hid (Calls Tryz.prog 85 #[.slice ao (r.length + 1) cp] w fun e w' => e = .returned (.tuple #[.agg #[.string ⟨(fieldOf l0 r).key.toArray⟩, .string ⟨(fieldOf l0 r).val.toArray⟩], .nilIface]) ∧ Below w.heap.size w w') := Lib.hid U
      clear U hT
      cases hfull : p.full with
      | true =>
        rw [hfull] at c2
        have hr : Hid (p.flush = ⟨11, p.from_, p⟩) := Lib.hid (by unfold Ps.flush; rw [if_neg hl, hlr, hu, if_neg (by simp), if_pos hfull])
        clear h hvl hl hlr hlen hu hfull
        go_enter Tryz.func67, Tryz.ntmps67
        go_wp2_with fail
        refine U'.out.mono ?_
        rintro e w1 ⟨rfl, b1⟩
        have k1 : w1.cell? ⟨b, 1, none⟩ = some (.int .i64 p.from_) := (b1.cell (p := ⟨b, 1, none⟩) hb).trans c1
        have k2 : w1.cell? ⟨b, 2, none⟩ = some (.bool true) := (b1.cell (p := ⟨b, 2, none⟩) hb).trans c2
        have hb1 := Nat.lt_of_lt_of_le hb b1.size
        have B1 := Lib.hid b1
        clear b1
        go_wp2_with fail
        refine (fault_any p.from_ 11 _).mono ?_
        rintro e w2 ⟨rfl, rfl⟩
        go_wp2
        go_ret
        rw [hr.out]
        exact StepPost.fault (r := ⟨11, p.from_, p⟩) (n := p.from_) (k := 11) (B1.out.alloc B1.out.size _) rfl rfl (by decide) (by simp)
      | false =>
        rw [hfull] at c2
        obtain ⟨f, hf⟩ : ∃ f, fieldOf l0 r = f := ⟨_, rfl⟩
        rw [hf] at U'
        have hr : Hid (p.flush = ⟨0, 0, { p with fields := p.fields ++ [f], lines := [] }⟩) := Lib.hid (by unfold Ps.flush; rw [if_neg hl, hlr, hu, if_neg (by simp), if_neg (by rw [hfull]; simp)]; unfold Ps.flushed; rw [hlr, ← hf]; rfl)
        obtain ⟨i0, hi0, hz0, hz1, hz2⟩ := info_parts infoFd
        have c5 := h.cells.c5
        have f5 := h.cells.f5
        have f0 := h.cells.f0
        have hown := h.rowF.1
        have hne : L.vf.ownBlock ≠ some b := fun e => by have := h.rowF.2 b e; rw [h.blk.2] at this; simp at this; omega
        have hnf := ok.fields
        clear h hvl hl hlr hlen hu hfull hf
        go_enter Tryz.func67, Tryz.ntmps67
        go_wp2_with fail
        refine U'.out.mono ?_
        rintro e w1 ⟨rfl, b1⟩
        obtain ⟨w2, hw2⟩ : ∃ w2, w1.alloc (.cells #[.string ⟨f.key.toArray⟩, .string ⟨f.val.toArray⟩] 57) = w2 := ⟨_, rfl⟩
        have b2 : Below w.heap.size w w2 := by rw [← hw2]; exact b1.alloc b1.size _
        have hF2 : w2.heap[w1.heap.size]? = some (.cells #[.string ⟨f.key.toArray⟩, .string ⟨f.val.toArray⟩] 57 (0, 0)) := by rw [← hw2]; exact heap_alloc_new _ _
        have m0 : w2.cell? ⟨w1.heap.size, 0, none⟩ = some (.string ⟨f.key.toArray⟩) := by simp [World.cell?, hF2]
        have m1 : w2.cell? ⟨w1.heap.size, 1, none⟩ = some (.string ⟨f.val.toArray⟩) := by simp [World.cell?, hF2]
        have k2 : w1.cell? ⟨b, 2, none⟩ = some (.bool false) := (b1.cell (p := ⟨b, 2, none⟩) hb).trans c2
        have k2' : w2.cell? ⟨b, 2, none⟩ = some (.bool false) := (b2.cell (p := ⟨b, 2, none⟩) hb).trans c2
        have k5 : w2.cell? ⟨b, 5, none⟩ = some L.vf := (b2.cell (p := ⟨b, 5, none⟩) hb).trans c5
        have k0 : w2.cell? ⟨b, 0, none⟩ = some (.slice ao (r.length + 1) cp) := (b2.cell (p := ⟨b, 0, none⟩) hb).trans c0
        have g5 : w2.frozen? ⟨b, 5, none⟩ = false := (b2.frozen (p := ⟨b, 5, none⟩) hb).trans f5
        have g0 : w2.frozen? ⟨b, 0, none⟩ = false := (b2.frozen (p := ⟨b, 0, none⟩) hb).trans f0
        have hb2 := Nat.lt_of_lt_of_le hb b2.size
        have hl1 : w1.heap.size < w2.heap.size := (Array.getElem?_eq_some_iff.1 hF2).1
        have hown2 := ownsRow_of_block hown (fun y hy => b2.block y (hown.lt y hy).2)
        have hnew : some w2.heap.size ≠ L.vf.ownBlock := fun e => by have := (hown2.lt _ e.symm).2; omega
        have HF2 := Lib.hid hF2
        have B2 := Lib.hid b2
        clear b1 b2 hF2 hown c0 c1 c5 f5 f0 c2
        go_wp2_with fail
        go_region_law
          ((refine step_append_lies _ (by rfl) _ _ _ (by rfl) 0 57 i0 _ 2 32 Tryz.underlying44 hi0 hz0 hz1 hz2 rfl (by omega) L.vf p.fields.length (p.fields.flatMap Fd.cells) (by rfl) ((hown2.alloc _).drew)
              ⟨w2.heap.size, 0, none⟩ 1 1 (Fd.cells f) (by rfl) (by rfl) (World.news_of_block (cs := (Fd.cells f).toArray) (t := 57) (fr := (0, 0)) (heap_alloc_new w2 _)) (by simp [Fd.cells, Value.oneCell'])
              (by omega) (by unfold maxLen; omega) (by omega) (by simp) (w2.heap.size + 1) (by simp) ?_; intro gg cap w3 hown1 hgrow hat hlt; have q5 : w3.frozen? ⟨b, 5, none⟩ = false := (hgrow.frozen_far _ (by simp; omega) (Ne.symm hne)).trans (((below_grow1 w2 _).frozen (p := ⟨b, 5, none⟩) hb2).trans g5); have q0 : w3.frozen? ⟨b, 0, none⟩ = false := (hgrow.frozen_far _ (by simp; omega) (Ne.symm hne)).trans (((below_grow1 w2 _).frozen (p := ⟨b, 0, none⟩) hb2).trans g0); have n5 : w3.cell? ⟨b, 5, none⟩ = some L.vf := (hgrow.cell_far _ (by simp; omega) (Ne.symm hne)).trans (((below_grow1 w2 _).cell (p := ⟨b, 5, none⟩) hb2).trans k5); have n0 : w3.cell? ⟨b, 0, none⟩ = some (.slice ao (r.length + 1) cp) := (hgrow.cell_far _ (by simp; omega) (Ne.symm hne)).trans (((below_grow1 w2 _).cell (p := ⟨b, 0, none⟩) hb2).trans k0)))
        all_goals
          go_wp2_with fail
          go_ret
          rw [hr.out]
          refine ⟨rfl, ?_⟩
          refine became_field HD.out (B2.out.trans (((below_grow1 w2 _).drew).mono B2.out.size)) f hown1 hgrow (by rcases hat with hat | hat; exact .inl hat; exact .inr (by rw [hat]; simp)) hlt ?_
          first | exact .inl rfl | exact .inr rfl
    · have hk : unfoldN (l0 :: r) = 2 ∨ unfoldN (l0 :: r) = 6 := by rcases unfoldN_cases l0 r with h | h | h; exact absurd h hu; exact .inl h; exact .inr h
      rw [if_neg hu] at U
      have hr : Hid (p.flush = ⟨unfoldN (l0 :: r), p.from_, p⟩) := Lib.hid (by unfold Ps.flush; rw [if_neg hl, hlr, if_pos hu])
      obtain ⟨k, hkk⟩ : ∃ k, unfoldN (l0 :: r) = k := ⟨_, rfl⟩
      rw [hkk] at U hk hr
      have hk0 : k ≠ 0 := by rcases hk with rfl | rfl <;> decide
      rw [show errV k = errnoV k from if_neg hk0] at U
      have U' : Hid (Calls Tryz.prog 85 #[.slice ao (r.length + 1) cp] w fun e w' => e = .returned (.tuple #[.agg #[.string ⟨#[]⟩, .string ⟨#[]⟩], .iface 94 (.int .i64 k)]) ∧ Below w.heap.size w w') := Lib.hid U
      clear U hT h hvl hl hlr hlen hu hkk hk
      go_enter Tryz.func67, Tryz.ntmps67
      go_wp2_with fail
      refine U'.out.mono ?_
      rintro e w1 ⟨rfl, b1⟩
      have k1' : w1.cell? ⟨b, 1, none⟩ = some (.int .i64 p.from_) := (b1.cell (p := ⟨b, 1, none⟩) hb).trans c1
      have hb1 := Nat.lt_of_lt_of_le hb b1.size
      have B1 := Lib.hid b1
      clear b1
      go_wp2_with fail
      refine (fault_any p.from_ k _).mono ?_
      rintro e w3 ⟨rfl, rfl⟩
      go_wp2
      go_ret
      rw [hr.out]
      exact StepPost.fault (r := ⟨k, p.from_, p⟩) (n := p.from_) (k := k) (B1.out.alloc B1.out.size _) rfl rfl hk0 (by simp)
end Go.Proofs.YtklbbcemacpimaaGreatDoor.B
