/- A range over an iterator function whose loop variable lies in a box that each round makes anew (slot q). -/
import Derived.Test.YtboiaoaephimhaaDoorBRange
namespace Go.Proofs.YtboiaoaephimhaaDoor.B
open Go.RowKit Go.Shelf

theorem Touch2.alloc (D : Nat) (W : World) (o : Obj) : Touch2 D W (W.alloc o) := Touch2.below ((Below.refl _ _).alloc (Nat.le_refl _) o)
theorem wp_range_iter_box {α : Type} {g : Operand} {p0 : Tmp} {assign body : Code} {Q : Exit → Act → World → Prop} {a : Act} {w : World} (q : Tmp) (cells : α → List Value) (tid : TypeId)
    (F : FuncId) (caps : Array Value) (val : α → Value) (xs : List α) (Ctx : World → Prop) (hit : Iters F caps val xs Ctx 8) (hen : ∀ args w, (callFunc F args).run Tryd.prog w = .ok (.enter F args) w)
    (hg : a.eval g = .func (.func F) #[] caps) (hcx : ∀ W W', Ctx W → Touch2 w.heap.size W W' → Ctx W') (hc0 : Ctx w)
    (I : List α → World → Prop) (Ix : Code → List α → World → Prop)
    (hI : ∀ pre W W', I pre W → Touch2 w.heap.size W W' → I pre W') (hIx : ∀ c pre W W', Ix c pre W → Touch2 w.heap.size W W' → Ix c pre W') (h0 : I [] w)
    (hassign : ∀ (l : Nat) (x : α) (W : World) (K : Act → World → Prop), x ∈ xs →
      K { tmps := ((#[p0].zip #[val x]).foldl (fun t (p, v) => t.setIfInBounds p v) a.tmps).setIfInBounds q (.pointer (some ⟨W.heap.size, 0, none⟩)), defers := [] } (W.alloc (.cells (cells x).toArray tid)) →
      assign.wpIn (Fence.wide.inRound l) 7 Tryd.prog (Exit.then K (fun _ _ _ => False)) { tmps := (#[p0].zip #[val x]).foldl (fun t (p, v) => t.setIfInBounds p v) a.tmps, defers := [] } W)
    (hbody : ∀ (l : Nat) (pre : List α) (x : α) (Bx : Nat) (W : World), I pre W → Ctx W → w.heap.size + 2 ≤ Bx → W.heap[Bx]? = some (.cells (cells x).toArray tid (0, 0)) → pre ++ [x] <+: xs →
      body.wpIn (Fence.wide.inRound l) 7 Tryd.prog (iterPost w.heap.size Ctx I Ix (pre ++ [x]) W) { tmps := ((#[p0].zip #[val x]).foldl (fun t (p, v) => t.setIfInBounds p v) a.tmps).setIfInBounds q (.pointer (some ⟨Bx, 0, none⟩)), defers := [] } W)
    (hdone : ∀ (W : World), I xs W → w.heap.size + 2 ≤ W.heap.size → W.heap[w.heap.size]? = some (.deferred (some [])) → Q .normal { a with defers := { target := .collected w.heap.size, args := #[] } :: a.defers } W)
    (hstop : ∀ (c : Code) (pre : List α) (W : World), pre <+: xs → Ix c pre W → W.heap[w.heap.size]? = some (.deferred (some [])) →
      c.wp Tryd.prog Q { a with defers := { target := .collected w.heap.size, args := #[] } :: a.defers } W) :
    (Code.rangeFunc g #[p0] assign body).wp Tryd.prog Q a w := by
  refine wpIn_wide.1 (wpIn_range_iter (n := 9) F caps val xs Ctx hit hen hg hcx hc0 I Ix hI hIx h0
    (fun x b W => ∃ Bx, w.heap.size + 2 ≤ Bx ∧ W.heap[Bx]? = some (.cells (cells x).toArray tid (0, 0)) ∧ b = { tmps := ((#[p0].zip #[val x]).foldl (fun t (p, v) => t.setIfInBounds p v) a.tmps).setIfInBounds q (.pointer (some ⟨Bx, 0, none⟩)), defers := [] })
    ?_ ?_ ?_ hdone fun c pre W h1 h2 h3 => wpIn_wide.2 (hstop c pre W h1 h2 h3))
  · rintro x b W W' ⟨Bx, h1, h2, h3⟩ ht
    exact ⟨Bx, h1, (ht.block _ (Array.getElem?_eq_some_iff.1 h2).1 (by omega) (by omega)).trans h2, h3⟩
  · intro l pre x W K hi hpf hsz hK
    refine hassign l x W K (by obtain ⟨t, ht⟩ := hpf; rw [← ht]; simp) (hK _ _ ⟨by simp, ?_, ?_, fun h => hcx _ _ h (Touch2.alloc _ _ _)⟩ (hI _ _ _ hi (Touch2.alloc _ _ _)) ⟨W.heap.size, hsz, heap_alloc_new _ _, rfl⟩)
    · exact Below.heap_alloc _ _ _ (by omega)
    · exact Below.heap_alloc _ _ _ (by omega)
  · rintro l pre x b W hi hc ⟨Bx, h1, h2, rfl⟩ hpf hsz
    exact hbody l pre x Bx W hi hc h1 h2 hpf
end Go.Proofs.YtboiaoaephimhaaDoor.B
