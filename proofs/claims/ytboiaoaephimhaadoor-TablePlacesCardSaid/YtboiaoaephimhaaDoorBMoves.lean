/- A parser behind a change of one of its rows. -/
import Derived.Test.YtboiaoaephimhaaDoorBUnfold
namespace Go.Proofs.YtboiaoaephimhaaDoor.B
open Go.RowKit Go.Shelf

theorem flat_snoc {α : Type} (c : α → List Value) (l : List α) (x : α) : (l ++ [x]).flatMap c = l.flatMap c ++ c x := by simp
theorem get_snoc {α : Type} {l : List α} {x : α} {i : Nat} {f : α} (h : (l ++ [x])[i]? = some f) : (i < l.length ∧ l[i]? = some f) ∨ (i = l.length ∧ f = x) := by
  rcases Nat.lt_trichotomy i l.length with g | g | g
  · rw [List.getElem?_append_left g] at h; exact .inl ⟨g, h⟩
  · subst g; rw [List.getElem?_append_right (Nat.le_refl _)] at h; simp at h; exact .inr ⟨rfl, h.symm⟩
  · rw [List.getElem?_eq_none (by simp; omega)] at h; cases h
theorem itemCells_snoc {xs : List It} {vs : List Value} (h : vs.length = xs.length) (x : It) (v : Value) : itemCells (xs ++ [x]) (vs ++ [v]) = itemCells xs vs ++ x.cells v := by
  unfold itemCells
  rw [List.zip_append h.symm, List.flatMap_append]
  simp
section
variable {w w0 w1 : World} {ρ : Col} {b : Nat} {p : Ps} {L : Pay} (h : ParserAt w ρ b p L) (hb0 : Below w.heap.size w w0) {gg cap : Nat}
include h hb0
theorem became_lines (x : List UInt8) (hown : w1.ownsRow 0 9 1 (.slice (some ⟨gg, 0, none⟩) (p.lines.length + 1) cap) (p.lines.length + 1) (p.lines.flatMap strC ++ strC x)) (hgrow : w0.grownBy w1 L.vl.ownBlock) (hat : L.vl.ownBlock = some gg ∨ w0.heap.size ≤ gg) (hlt : gg < w1.heap.size) :
    Became w ρ b { p with lines := p.lines ++ [x] } (w1.setCell ⟨b, 0, none⟩ (.slice (some ⟨gg, 0, none⟩) (p.lines.length + 1) cap)) := by
  have h0 := h.below hb0
  obtain ⟨hr1, he1, hk1⟩ := h0.rowL.append hown hgrow hat
  have p1 := hk1.only (p := fun c => c == 0 || c == 1) rfl
  have hblk := (h0.parts he1 (hk1.only (p := fun c => c == 1) rfl)).1 rfl
  obtain ⟨hs, hk2⟩ := Blk.store hblk (i := 0) (v := .slice (some ⟨gg, 0, none⟩) (p.lines.length + 1) cap)
  have p2 := p1.thoseTrans he1 (hk2.only (p := fun c => c == 0 || c == 1) rfl)
  obtain ⟨-, -, q2, q3, q4, q5⟩ := h0.parts he1 p2
  have q1 := hr1.keep (Ext.refl _ _) hk2 fun g hg => only_none (by rw [hg]; simp)
  refine ⟨paint ρ gg 1, ⟨{ L with vl := .slice (some ⟨gg, 0, none⟩) (p.lines.length + 1) cap }, ⟨hs, ?_, q2 rfl, q3 rfl, q4 (by simp; omega), h.len, fun i v x a c => q5 i v x a c (by simp; omega), h.nilF, ?_⟩⟩, ?_, ?_⟩
  · show Row _ _ _ _ _ _ (p.lines ++ [x]).length ((p.lines ++ [x]).flatMap strC)
    rw [List.length_append, flat_snoc]
    exact q1
  · exact ((h.fits.more hb0.size).more hk1.size).paint hlt |>.more hk2.size
  · exact fun k hk => he1 k (Nat.lt_of_lt_of_le hk hb0.size)
  · exact (Kept.below hb0).then p2.those
theorem became_block (x : List UInt8) (hown : w1.ownsRow 0 9 1 (.slice (some ⟨gg, 0, none⟩) (p.block.length + 1) cap) (p.block.length + 1) (p.block.flatMap strC ++ strC x)) (hgrow : w0.grownBy w1 L.vb.ownBlock) (hat : L.vb.ownBlock = some gg ∨ w0.heap.size ≤ gg) (hlt : gg < w1.heap.size) :
    Became w ρ b { p with block := p.block ++ [x] } (w1.setCell ⟨b, 4, none⟩ (.slice (some ⟨gg, 0, none⟩) (p.block.length + 1) cap)) := by
  have h0 := h.below hb0
  obtain ⟨hr1, he1, hk1⟩ := h0.rowB.append hown hgrow hat
  have p1 := hk1.only (p := fun c => c == 0 || c == 3) rfl
  have hblk := (h0.parts he1 (hk1.only (p := fun c => c == 3) rfl)).1 rfl
  obtain ⟨hs, hk2⟩ := Blk.store hblk (i := 4) (v := .slice (some ⟨gg, 0, none⟩) (p.block.length + 1) cap)
  have p2 := p1.thoseTrans he1 (hk2.only (p := fun c => c == 0 || c == 3) rfl)
  obtain ⟨-, q1, q2, -, q4, q5⟩ := h0.parts he1 p2
  have q3 := hr1.keep (Ext.refl _ _) hk2 fun g hg => only_none (by rw [hg]; simp)
  refine ⟨paint ρ gg 3, ⟨{ L with vb := .slice (some ⟨gg, 0, none⟩) (p.block.length + 1) cap }, ⟨hs, q1 rfl, q2 rfl, ?_, q4 (by simp; omega), h.len, fun i v x a c => q5 i v x a c (by simp; omega), h.nilF, ?_⟩⟩, ?_, ?_⟩
  · show Row _ _ _ _ _ _ (p.block ++ [x]).length ((p.block ++ [x]).flatMap strC)
    rw [List.length_append, flat_snoc]
    exact q3
  · exact ((h.fits.more hb0.size).more hk1.size).paint hlt |>.more hk2.size
  · exact fun k hk => he1 k (Nat.lt_of_lt_of_le hk hb0.size)
  · exact (Kept.below hb0).then p2.those
/-- A field is taken over: the lines are gone. -/
theorem became_field (x : Fd) (hown : w1.ownsRow 0 100 2 (.slice (some ⟨gg, 0, none⟩) (p.fields.length + 1) cap) (p.fields.length + 1) (p.fields.flatMap Fd.cells ++ x.cells)) (hgrow : w0.grownBy w1 L.vf.ownBlock) (hat : L.vf.ownBlock = some gg ∨ w0.heap.size ≤ gg) (hlt : gg < w1.heap.size)
    {W : World} (hW : W = (w1.setCell ⟨b, 5, none⟩ (.slice (some ⟨gg, 0, none⟩) (p.fields.length + 1) cap)).setCell ⟨b, 0, none⟩ (.slice none 0 0) ∨ W = (w1.setCell ⟨b, 0, none⟩ (.slice none 0 0)).setCell ⟨b, 5, none⟩ (.slice (some ⟨gg, 0, none⟩) (p.fields.length + 1) cap)) :
    Became w ρ b { p with fields := p.fields ++ [x], lines := [] } W := by
  have h0 := h.below hb0
  obtain ⟨hr1, he1, hk1⟩ := h0.rowF.append hown hgrow hat
  have p1 := hk1.only (p := fun c => c == 0 || c == 5 + p.items.length) (by simp)
  have hblk := (h0.parts he1 (hk1.only (p := fun c => c == 5 + p.items.length) (by simp))).1 (by simp; omega)
  have hw : (W.heap[b]? = some (.cells (({ p with fields := p.fields ++ [x], lines := [] } : Ps).cells { L with vf := .slice (some ⟨gg, 0, none⟩) (p.fields.length + 1) cap, vl := .slice none 0 0 }) 86 (0, 0)) ∧ paint ρ gg (5 + p.items.length) b = some 0) ∧ Kept (Only 0 (paint ρ gg (5 + p.items.length))) w1 W := by
    rcases hW with rfl | rfl
    · obtain ⟨s1, k1⟩ := Blk.store hblk (i := 5) (v := .slice (some ⟨gg, 0, none⟩) (p.fields.length + 1) cap)
      obtain ⟨s2, k2⟩ := Blk.store s1 (i := 0) (v := .slice none 0 0)
      exact ⟨s2, k1.then k2⟩
    · obtain ⟨s1, k1⟩ := Blk.store hblk (i := 0) (v := .slice none 0 0)
      obtain ⟨s2, k2⟩ := Blk.store s1 (i := 5) (v := .slice (some ⟨gg, 0, none⟩) (p.fields.length + 1) cap)
      exact ⟨s2, k1.then k2⟩
  obtain ⟨hs, hk2⟩ := hw
  have p2 := p1.thoseTrans he1 (hk2.only (p := fun c => c == 0 || c == 5 + p.items.length) rfl)
  obtain ⟨-, -, q2, q3, -, q5⟩ := h0.parts he1 p2
  have q4 := hr1.keep (Ext.refl _ _) hk2 fun g hg => only_none (by rw [hg]; simp)
  refine ⟨paint ρ gg (5 + p.items.length), ⟨{ L with vf := .slice (some ⟨gg, 0, none⟩) (p.fields.length + 1) cap, vl := .slice none 0 0 }, ⟨hs, Row.nil _ _ _ _ _, q2 (by simp; omega), q3 (by simp; omega), ?_, h.len, fun i v x a c => q5 i v x a c ?_, fun hn => ?_, ?_⟩⟩, ?_, ?_⟩
  · show Row _ _ _ _ _ _ (p.fields ++ [x]).length ((p.fields ++ [x]).flatMap Fd.cells)
    rw [List.length_append, flat_snoc]
    exact q4
  · have h9 : i < p.items.length := (List.getElem?_eq_some_iff.1 c).1
    have h8 : (5 + i == 5 + p.items.length) = false := by simp; omega
    show (5 + i == 0 || 5 + i == 5 + p.items.length) = false
    rw [h8]; simp
  · simp at hn
  · exact ((h.fits.more hb0.size).more hk1.size).paint hlt |>.more hk2.size
  · exact fun k hk => he1 k (Nat.lt_of_lt_of_le hk hb0.size)
  · exact (Kept.below hb0).then p2.those
/-- An item more; nothing is left of the fields. -/
theorem became_item (x : It) (v : Value) (hx : Row w ρ (5 + p.items.length) 100 2 v x.fields.length (x.fields.flatMap Fd.cells)) (hown : w1.ownsRow 0 63 3 (.slice (some ⟨gg, 0, none⟩) (p.items.length + 1) cap) (p.items.length + 1) (itemCells p.items L.vis ++ x.cells v)) (hgrow : w0.grownBy w1 L.vi.ownBlock) (hat : L.vi.ownBlock = some gg ∨ w0.heap.size ≤ gg) (hlt : gg < w1.heap.size)
    {W : World} {vb' : Value} {p' : Ps} (e1 : p'.lines = p.lines) (e2 : p'.items = p.items ++ [x]) (e3 : p'.fields = []) (e4 : (vb' = L.vb ∧ p'.block = p.block) ∨ (vb' = .slice none 0 0 ∧ p'.block = []))
    (hs : w1.heap[b]? = some (.cells (p.cells L) 86 (0, 0)) → W.heap[b]? = some (.cells (p'.cells { vl := L.vl, vi := .slice (some ⟨gg, 0, none⟩) (p.items.length + 1) cap, vb := vb', vf := .slice none 0 0, vis := L.vis ++ [v] }) 86 (0, 0)))
    (hk : ∀ σ : Col, σ b = some 0 → Kept σ w1 W) : Became w ρ b p' W := by
  have h0 := h.below hb0
  obtain ⟨hr1, he1, hk1⟩ := h0.rowI.append hown hgrow hat
  have p1 := hk1.only (p := fun c => c == 0 || c == 2) rfl
  have hblk := (h0.parts he1 (hk1.only (p := fun c => c == 2) rfl)).1 rfl
  have hk2 := hk (Only 0 (paint ρ gg 2)) (only_some hblk.2)
  have p2 := p1.thoseTrans he1 (hk2.only (p := fun c => c == 0 || c == 2) rfl)
  obtain ⟨-, q1, -, q3, -, q5⟩ := h0.parts he1 p2
  have q2 := hr1.keep (Ext.refl _ _) hk2 fun g hg => only_none (by rw [hg]; simp)
  have hx0 : Row w0 ρ (5 + p.items.length) 100 2 v x.fields.length (x.fields.flatMap Fd.cells) := hx.keep (Ext.refl _ _) (σ := fun _ => none) (Kept.below hb0) fun _ _ => rfl
  have hx2 := hx0.keep he1 p2 fun g hg => those_at hg (by simp; omega)
  refine ⟨paint ρ gg 2, ⟨{ vl := L.vl, vi := .slice (some ⟨gg, 0, none⟩) (p.items.length + 1) cap, vb := vb', vf := .slice none 0 0, vis := L.vis ++ [v] }, ⟨⟨hs hblk.1, hblk.2⟩, ?_, ?_, ?_, ?_, ?_, ?_, fun _ => rfl, ?_⟩⟩, ?_, ?_⟩
  · rw [e1]; exact q1 rfl
  · rw [e2, List.length_append]
    show Row _ _ _ _ _ _ _ (itemCells (p.items ++ [x]) (L.vis ++ [v]))
    rw [itemCells_snoc h.len]
    exact q2
  · rcases e4 with ⟨rfl, e4⟩ | ⟨rfl, e4⟩
    · rw [e4]; exact q3 rfl
    · rw [e4]; exact Row.nil _ _ _ _ _
  · rw [e3]; exact Row.nil _ _ _ _ _
  · show (L.vis ++ [v]).length = _
    rw [e2, List.length_append, List.length_append, h.len]; rfl
  · intro i u y hu hy
    rw [e2] at hy
    rcases get_snoc hu with ⟨hi, hu⟩ | ⟨hi, rfl⟩
    · rcases get_snoc hy with ⟨hj, hy⟩ | ⟨hj, rfl⟩
      · exact q5 i u y hu hy (by simp; omega)
      · rw [h.len] at hi; omega
    · rcases get_snoc hy with ⟨hj, hy⟩ | ⟨hj, rfl⟩
      · rw [h.len] at hi; omega
      · rw [hj]; exact hx2
  · exact ((h.fits.more hb0.size).more hk1.size).paint hlt |>.more hk2.size
  · exact fun k hk => he1 k (Nat.lt_of_lt_of_le hk hb0.size)
  · exact (Kept.below hb0).then p2.those
/-- A new field's first line: a row of its own, new in w1. -/
theorem became_begun (x : List UInt8) (n : Int) (f : Bool) (g : Nat) (hg : w0.heap.size ≤ g) (hb1 : Below w0.heap.size w0 w1) (hx : w1.heap[g]? = some (.cells #[.string ⟨x.toArray⟩] 9 (0, 0))) :
    Became w ρ b { p with lines := [x], from_ := n, full := f } (((w1.setCell ⟨b, 0, none⟩ (.slice (some ⟨g, 0, none⟩) 1 1)).setCell ⟨b, 1, none⟩ (.int .i64 n)).setCell ⟨b, 2, none⟩ (.bool f)) := by
  have h1 := h.below (hb0.trans (hb1.mono hb0.size))
  have hgl : g < w1.heap.size := (Array.getElem?_eq_some_iff.1 hx).1
  have hgw : w.heap.size ≤ g := Nat.le_trans hb0.size hg
  have hbg : b ≠ g := by have := h.blk.lt; omega
  have he : Ext w ρ (paint ρ g 1) := paint_ext ρ 1 hgw
  obtain ⟨s1, k1⟩ := Blk.store h1.blk (i := 0) (v := .slice (some ⟨g, 0, none⟩) 1 1)
  obtain ⟨s2, k2⟩ := Blk.store s1 (i := 1) (v := .int .i64 n)
  obtain ⟨s3, k3⟩ := Blk.store s2 (i := 2) (v := .bool f)
  have K : Kept (Only 0 ρ) w1 (((w1.setCell ⟨b, 0, none⟩ (.slice (some ⟨g, 0, none⟩) 1 1)).setCell ⟨b, 1, none⟩ (.int .i64 n)).setCell ⟨b, 2, none⟩ (.bool f)) := (k1.then k2).then k3
  have K0 : Kept (Only 0 ρ) w (((w1.setCell ⟨b, 0, none⟩ (.slice (some ⟨g, 0, none⟩) 1 1)).setCell ⟨b, 1, none⟩ (.int .i64 n)).setCell ⟨b, 2, none⟩ (.bool f)) := (Kept.below (hb0.trans (hb1.mono hb0.size))).then K
  have hrow : Row (((w1.setCell ⟨b, 0, none⟩ (.slice (some ⟨g, 0, none⟩) 1 1)).setCell ⟨b, 1, none⟩ (.int .i64 n)).setCell ⟨b, 2, none⟩ (.bool f)) (paint ρ g 1) 1 9 1 (.slice (some ⟨g, 0, none⟩) 1 1) 1 ([x].flatMap strC) := by
    refine ⟨⟨rfl, .inr ⟨g, 1, #[.string ⟨x.toArray⟩], rfl, Nat.zero_le _, ?_, Nat.le_refl _, by decide, rfl, rfl⟩⟩, fun g' hg' => ?_⟩
    · rw [Below.heap_setCell _ _ _ _ (Ne.symm hbg), Below.heap_setCell _ _ _ _ (Ne.symm hbg), Below.heap_setCell _ _ _ _ (Ne.symm hbg)]
      exact hx
    · simp only [Value.ownBlock, Option.some.injEq] at hg'
      rw [← hg']; exact paint_here _ _ _
  refine ⟨paint ρ g 1, ⟨{ L with vl := .slice (some ⟨g, 0, none⟩) 1 1 }, ⟨⟨s3.1, by rw [paint_else ρ hbg]; exact s3.2⟩, hrow, ?_, ?_, ?_, h.len, ?_, h.nilF, ?_⟩⟩, he, K0.wide⟩
  · exact h.rowI.keep he K0 fun y hy => only_none (by rw [hy]; simp)
  · exact h.rowB.keep he K0 fun y hy => only_none (by rw [hy]; simp)
  · exact h.rowF.keep he K0 fun y hy => only_none (by rw [hy]; simp)
  · exact fun i v x a c => (h.its i v x a c).keep he K0 fun y hy => only_none (by rw [hy]; simp)
  · exact ((h.fits.more (Nat.le_trans hb0.size hb1.size)).paint hgl).more K.size
end
/-- A change of the parser's own block that keeps its rows. -/
theorem became_set {w : World} {ρ : Col} {b : Nat} {p p' : Ps} {L : Pay} (h : ParserAt w ρ b p L) {W : World} (hk : Kept (Only 0 ρ) w W) (hs : W.heap[b]? = some (.cells (p'.cells L) 86 (0, 0)))
    (e1 : p'.lines = p.lines) (e2 : p'.items = p.items) (e3 : p'.block = p.block) (e4 : p'.fields = p.fields) : ParserAt W ρ b p' L where
  blk := ⟨hs, h.blk.2⟩
  rowL := by rw [e1]; exact h.rowL.keep (Ext.refl _ _) hk fun g hg => only_none (by rw [hg]; simp)
  rowI := by rw [e2]; exact h.rowI.keep (Ext.refl _ _) hk fun g hg => only_none (by rw [hg]; simp)
  rowB := by rw [e3]; exact h.rowB.keep (Ext.refl _ _) hk fun g hg => only_none (by rw [hg]; simp)
  rowF := by rw [e2, e4]; exact h.rowF.keep (Ext.refl _ _) hk fun g hg => only_none (by rw [hg]; simp)
  len := by rw [e2]; exact h.len
  its := by rw [e2]; exact fun i v x a c => (h.its i v x a c).keep (Ext.refl _ _) hk fun g hg => only_none (by rw [hg]; simp)
  nilF := by rw [e4]; exact h.nilF
  fits := h.fits.more hk.size
/-- The block and the fields are let go. -/
theorem became_clear {w : World} {ρ : Col} {b : Nat} {p : Ps} {L : Pay} (h : ParserAt w ρ b p L) : Became w ρ b { p with block := [], fields := [] } ((w.setCell ⟨b, 4, none⟩ (.slice none 0 0)).setCell ⟨b, 5, none⟩ (.slice none 0 0)) := by
  obtain ⟨s1, k1⟩ := Blk.store h.blk (i := 4) (v := .slice none 0 0)
  obtain ⟨s2, k2⟩ := Blk.store s1 (i := 5) (v := .slice none 0 0)
  have hk := k1.then k2
  refine ⟨ρ, ⟨{ L with vb := .slice none 0 0, vf := .slice none 0 0 }, ⟨s2, ?_, ?_, Row.nil _ _ _ _ _, Row.nil _ _ _ _ _, h.len, ?_, fun _ => rfl, h.fits.more hk.size⟩⟩, Ext.refl _ _, hk.wide⟩
  · exact h.rowL.keep (Ext.refl _ _) hk fun g hg => only_none (by rw [hg]; simp)
  · exact h.rowI.keep (Ext.refl _ _) hk fun g hg => only_none (by rw [hg]; simp)
  · exact fun i v x a c => (h.its i v x a c).keep (Ext.refl _ _) hk fun g hg => only_none (by rw [hg]; simp)
end Go.Proofs.YtboiaoaephimhaaDoor.B
