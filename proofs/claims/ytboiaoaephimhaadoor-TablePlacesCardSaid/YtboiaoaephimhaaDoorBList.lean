/- A text's list: list.Of. -/
import Derived.Test.YtboiaoaephimhaaDoorBParsed
namespace Go.Proofs.YtboiaoaephimhaaDoor.B
open Go.RowKit Go.Shelf

/-- The stanzas get numbers; 0: no stanza. -/
def numberFrom : Nat → List It → List (It × Nat)
  | _, [] => []
  | n, x :: r => if x.kind = 3 then (x, n) :: numberFrom (n + 1) r else (x, 0) :: numberFrom n r
def recsOf (xs : List It) : Nat := (xs.filter fun x => x.kind = 3).length
theorem number_len : ∀ (n : Nat) (xs : List It), (numberFrom n xs).length = xs.length
  | _, [] => rfl
  | n, x :: r => by
    unfold numberFrom
    split <;> simp [number_len]
theorem number_get : ∀ (n k : Nat) (xs : List It) (x : It), xs[k]? = some x → (numberFrom n xs)[k]? = some (x, if x.kind = 3 then n + recsOf (xs.take k) else 0)
  | n, k, [], x, h => by simp at h
  | n, 0, y :: r, x, h => by
    simp at h; subst h
    unfold numberFrom
    split <;> simp [recsOf]
  | n, k + 1, y :: r, x, h => by
    have h' : r[k]? = some x := by simpa using h
    unfold numberFrom
    split
    · rename_i hy
      have := number_get (n + 1) k r x h'
      simp only [List.getElem?_cons_succ, this, List.take_succ_cons]
      have e : recsOf (y :: r.take k) = recsOf (r.take k) + 1 := by unfold recsOf; simp [hy]
      rw [e]
      split <;> simp <;> omega
    · rename_i hy
      have := number_get n k r x h'
      simp only [List.getElem?_cons_succ, this, List.take_succ_cons]
      have e : recsOf (y :: r.take k) = recsOf (r.take k) := by unfold recsOf; simp [hy]
      rw [e]
theorem recs_snoc (xs : List It) (x : It) : recsOf (xs ++ [x]) = recsOf xs + (if x.kind = 3 then 1 else 0) := by
  unfold recsOf
  rw [List.filter_append, List.length_append]
  congr 1
  by_cases h : x.kind = 3 <;> simp [h]
theorem recs_le (xs : List It) : recsOf xs ≤ xs.length := List.length_filter_le _ _
def entC (e : It × Nat) (u : Value) : List Value := [.int .i64 e.1.kind, .string ⟨e.1.raw.toArray⟩, u, .int .i64 e.2]
def entCells (es : List (It × Nat)) (vs : List Value) : List Value := (es.zip vs).flatMap fun p => entC p.1 p.2
theorem entCells_snoc {es : List (It × Nat)} {vs : List Value} (h : vs.length = es.length) (e : It × Nat) (u : Value) : entCells (es ++ [e]) (vs ++ [u]) = entCells es vs ++ entC e u := by
  unfold entCells
  rw [List.zip_append h.symm, List.flatMap_append]
  simp
/-- A list lies in block b. -/
structure ListAt (w : World) (ρ : Col) (b : Nat) (es : List (It × Nat)) (next many : Nat) (ve : Value) (vs : List Value) : Prop where
  blk : Blk w ρ 0 b (.cells #[ve, .int .i64 next, .int .i64 many] 61 (0, 0))
  row : Row w ρ 1 65 4 ve es.length (entCells es vs)
  len : vs.length = es.length
  its : ∀ (i : Nat) u e, vs[i]? = some u → es[i]? = some e → Row w ρ (5 + i) 100 2 u e.1.fields.length (e.1.fields.flatMap Fd.cells)
  fits : Fits w ρ
theorem ListAt.keep {w w' : World} {ρ ρ' σ : Col} {b next many : Nat} {es : List (It × Nat)} {ve : Value} {vs : List Value} (h : ListAt w ρ b es next many ve vs) (he : Ext w ρ ρ') (k : Kept σ w w') (hσ : ∀ g, ρ g ≠ none → σ g = none) (hf : Fits w' ρ') : ListAt w' ρ' b es next many ve vs where
  blk := h.blk.keep he k (hσ _ (by rw [h.blk.2]; simp))
  row := h.row.keep he k fun g hg => hσ g (by rw [hg]; simp)
  len := h.len
  its := fun i u x h1 h2 => (h.its i u x h1 h2).keep he k fun g hg => hσ g (by rw [hg]; simp)
  fits := hf
theorem ListAt.below {w w' : World} {ρ : Col} {b next many : Nat} {es : List (It × Nat)} {ve : Value} {vs : List Value} (h : ListAt w ρ b es next many ve vs) (hb : Below w.heap.size w w') : ListAt w' ρ b es next many ve vs :=
  h.keep (Ext.refl _ _) (σ := fun _ => none) (Kept.below hb) (fun _ _ => rfl) (h.fits.more hb.size)
/-- A list that is being made, of the items xs. -/
structure Making (w : World) (ρ : Col) (b : Nat) (es : List (It × Nat)) (next many : Nat) (ve : Value) (us : List Value) (v : Value) (xs : List It) (vs : List Value) : Prop where
  blk : Blk w ρ 0 b (.cells #[ve, .int .i64 next, .int .i64 many] 61 (0, 0))
  row : Row w ρ 1 65 4 ve es.length (entCells es us)
  items : ItemsAt w ρ v xs vs
theorem ItemsAt.keep {w w' : World} {ρ ρ' σ : Col} {v : Value} {xs : List It} {vs : List Value} (h : ItemsAt w ρ v xs vs) (he : Ext w ρ ρ') (k : Kept σ w w') (hσ : ∀ g c, ρ g = some c → 2 ≤ c → σ g = none) (hf : Fits w' ρ') : ItemsAt w' ρ' v xs vs where
  row := h.row.keep he k fun g hg => hσ g 2 hg (by omega)
  len := h.len
  its := fun i u x a c => (h.its i u x a c).keep he k fun g hg => hσ g (5 + i) hg (by omega)
  fits := hf
theorem Making.below {w w' : World} {ρ : Col} {b next many : Nat} {es : List (It × Nat)} {ve v : Value} {us vs : List Value} {xs : List It} (h : Making w ρ b es next many ve us v xs vs) (hb : Below w.heap.size w w') : Making w' ρ b es next many ve us v xs vs where
  blk := h.blk.keep (Ext.refl _ _) (σ := fun _ => none) (Kept.below hb) rfl
  row := h.row.keep (Ext.refl _ _) (σ := fun _ => none) (Kept.below hb) fun _ _ => rfl
  items := h.items.keep (Ext.refl _ _) (σ := fun _ => none) (Kept.below hb) (fun _ _ _ _ => rfl) (h.items.fits.more hb.size)
/-- The numbers change. -/
theorem Making.nums {w : World} {ρ : Col} {b next many next' many' : Nat} {es : List (It × Nat)} {ve v : Value} {us vs : List Value} {xs : List It} (h : Making w ρ b es next many ve us v xs vs) {W : World} (hk : Kept (Only 0 ρ) w W) (hs : W.heap[b]? = some (.cells #[ve, .int .i64 next', .int .i64 many'] 61 (0, 0))) : Making W ρ b es next' many' ve us v xs vs where
  blk := ⟨hs, h.blk.2⟩
  row := h.row.keep (Ext.refl _ _) hk fun g hg => only_none (by rw [hg]; simp)
  items := h.items.keep (Ext.refl _ _) hk (fun g c hg hc => only_none (by rw [hg]; simp; omega)) (h.items.fits.more hk.size)
/-- An entry more. -/
theorem Making.add {w w0 w1 : World} {ρ : Col} {b next many gg cap : Nat} {es : List (It × Nat)} {ve v : Value} {us vs : List Value} {xs : List It} (h : Making w ρ b es next many ve us v xs vs) (hl : us.length = es.length) (hb0 : Below w.heap.size w w0) (e : It × Nat) (u : Value)
    (hown : w1.ownsRow 0 65 4 (.slice (some ⟨gg, 0, none⟩) (es.length + 1) cap) (es.length + 1) (entCells es us ++ entC e u)) (hgrow : w0.grownBy w1 ve.ownBlock) (hat : ve.ownBlock = some gg ∨ w0.heap.size ≤ gg) (hlt : gg < w1.heap.size) :
    Making (w1.setCell ⟨b, 0, none⟩ (.slice (some ⟨gg, 0, none⟩) (es.length + 1) cap)) (paint ρ gg 1) b (es ++ [e]) next many (.slice (some ⟨gg, 0, none⟩) (es.length + 1) cap) (us ++ [u]) v xs vs ∧ Ext w ρ (paint ρ gg 1) ∧ Kept ρ w (w1.setCell ⟨b, 0, none⟩ (.slice (some ⟨gg, 0, none⟩) (es.length + 1) cap)) := by
  have h0 := h.below hb0
  obtain ⟨hr1, he1, hk1⟩ := h0.row.append hown hgrow hat
  have hblk := h0.blk.keep he1 hk1 (only_none (by rw [h0.blk.2]; simp))
  obtain ⟨hs, hk2⟩ := Blk.store hblk (i := 0) (v := .slice (some ⟨gg, 0, none⟩) (es.length + 1) cap)
  have p1 := hk1.only (p := fun c => c == 0 || c == 1) rfl
  have p2 := p1.thoseTrans he1 (hk2.only (p := fun c => c == 0 || c == 1) rfl)
  have hr2 := hr1.keep (Ext.refl _ _) hk2 fun g hg => only_none (by rw [hg]; simp)
  refine ⟨⟨hs, ?_, ?_⟩, fun k hk => he1 k (Nat.lt_of_lt_of_le hk hb0.size), (Kept.below hb0).then p2.those⟩
  · rw [List.length_append, entCells_snoc hl]
    exact hr2
  · refine h0.items.keep he1 p2 (fun g c hg hc => those_at hg (by simp; omega)) ?_
    exact ((h0.items.fits.more hk1.size).paint hlt).more hk2.size
theorem infoEn : (Tryd.prog.info? 65).map (fun i => (i.zero, i.size, i.bytes)) = some (some (.agg #[.int .i64 0, .string ⟨#[]⟩, .slice none 0 0, .int .i64 0]), 4, 56) := by kernel_rfl
end Go.Proofs.YtboiaoaephimhaaDoor.B
