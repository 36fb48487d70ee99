/- A range over a function, by what the function does: it yields a list's elements in turn, and whatever memory it makes is new. -/
import Derived.Test.YtboiaoaephimhaaDoorBSplit
namespace Go.Proofs.YtboiaoaephimhaaDoor.B
open Go.RowKit Go.Shelf
attribute [local go_sem] Oper.semAt_some

/-- All blocks but the loop's own two are as they were; others may be new. -/
structure Touch2 (D : Nat) (W W' : World) : Prop where
  os : W'.os = W.os
  tape : W'.tape = W.tape
  output : W'.output = W.output
  size : W.heap.size ≤ W'.heap.size
  block : ∀ k, k < W.heap.size → k ≠ D → k ≠ D + 1 → W'.heap[k]? = W.heap[k]?
theorem Touch2.below {D : Nat} {W W' : World} (h : Below W.heap.size W W') : Touch2 D W W' := ⟨h.os, h.tape, h.output, h.size, fun k hk _ _ => h.block k hk⟩
theorem Touch2.put (D : Nat) (W : World) (o : Obj) : Touch2 D W (W.putObj (D + 1) o) := ⟨rfl, rfl, rfl, by simp, fun k _ _ hk => World.putObj_heap_other hk⟩
/-- What an iterator does: it yields the list's elements; Ctx: what it needs of the memory. -/
def Iters {α : Type} (F : FuncId) (caps : Array Value) (val : α → Value) (xs : List α) (Ctx : World → Prop) (n : Nat) : Prop :=
  ∀ (l : Nat) (J Jx : List α → World → Prop) (W : World), Ctx W →
    (∀ pre W1 W2, J pre W1 → Below W1.heap.size W1 W2 → J pre W2) →
    (∀ pre x W1, J pre W1 → Ctx W1 → pre ++ [x] <+: xs → YieldAt Fence.wide (n - 1) Tryd.prog l #[val x] W1 fun e W' => (e = .returned (.bool true) ∧ J (pre ++ [x]) W' ∧ Ctx W') ∨ (e = .returned (.bool false) ∧ Jx (pre ++ [x]) W')) →
    J [] W → CallsIn Fence.wide n Tryd.prog F (#[.func (.yield l) #[] #[]] ++ caps) W fun e W' => (∃ v, e = .returned v) ∧ (J xs W' ∨ ∃ pre, pre <+: xs ∧ Jx pre W')
/-- What the body of a round leaves alone: the loop's own blocks; and what the iterator needs. -/
structure KeepC (D : Nat) (Ctx : World → Prop) (W W' : World) : Prop where
  size : W.heap.size ≤ W'.heap.size
  own0 : W'.heap[D]? = W.heap[D]?
  own1 : W'.heap[D + 1]? = W.heap[D + 1]?
  ctx : Ctx W → Ctx W'
def iterPost {α : Type} (D : Nat) (Ctx : World → Prop) (I : List α → World → Prop) (Ix : Code → List α → World → Prop) (xs : List α) (W : World) : Exit → Act → World → Prop
  | .normal, _, W' => KeepC D Ctx W W' ∧ I xs W'
  | .ret, _, W' => KeepC D Ctx W W' ∧ Ix .ret xs W'
  | .exit id, _, W' => KeepC D Ctx W W' ∧ Ix (.exit id) xs W'
  | .goto t, _, W' => KeepC D Ctx W W' ∧ Ix (.goto t) xs W'
  | .panic _, _, _ => False
  | .outgrown, _, _ => False
set_option maxHeartbeats 1000000 in
theorem wpIn_range_iter {α : Type} {n : Nat} {g : Operand} {p0 : Tmp} {assign body : Code} {Q : Exit → Act → World → Prop} {a : Act} {w : World}
    (F : FuncId) (caps : Array Value) (val : α → Value) (xs : List α) (Ctx : World → Prop) (hit : Iters F caps val xs Ctx (n - 1)) (hen : ∀ args w, (callFunc F args).run Tryd.prog w = .ok (.enter F args) w)
    (hg : a.eval g = .func (.func F) #[] caps) (hcx : ∀ W W', Ctx W → Touch2 w.heap.size W W' → Ctx W') (hc0 : Ctx w)
    (I : List α → World → Prop) (Ix : Code → List α → World → Prop)
    (hI : ∀ pre W W', I pre W → Touch2 w.heap.size W W' → I pre W') (hIx : ∀ c pre W W', Ix c pre W → Touch2 w.heap.size W W' → Ix c pre W') (h0 : I [] w)
    (Ax : α → Act → World → Prop) (hAx : ∀ x b W W', Ax x b W → Touch2 w.heap.size W W' → Ax x b W')
    (hassign : ∀ (l : Nat) (pre : List α) (x : α) (W : World) (K : Act → World → Prop), I pre W → pre ++ [x] <+: xs → w.heap.size + 2 ≤ W.heap.size → (∀ b W', KeepC w.heap.size Ctx W W' → I pre W' → Ax x b W' → K b W') →
      assign.wpIn (Fence.wide.inRound l) (n - 1 - 1) Tryd.prog (Exit.then K (fun _ _ _ => False)) { tmps := (#[p0].zip #[val x]).foldl (fun t (p, v) => t.setIfInBounds p v) a.tmps, defers := [] } W)
    (hbody : ∀ (l : Nat) (pre : List α) (x : α) (b : Act) (W : World), I pre W → Ctx W → Ax x b W → pre ++ [x] <+: xs → w.heap.size + 2 ≤ W.heap.size →
      body.wpIn (Fence.wide.inRound l) (n - 1 - 1) Tryd.prog (iterPost w.heap.size Ctx I Ix (pre ++ [x]) W) b W)
    (hdone : ∀ (W : World), I xs W → w.heap.size + 2 ≤ W.heap.size → W.heap[w.heap.size]? = some (.deferred (some [])) → Q .normal { a with defers := { target := .collected w.heap.size, args := #[] } :: a.defers } W)
    (hstop : ∀ (c : Code) (pre : List α) (W : World), pre <+: xs → Ix c pre W → W.heap[w.heap.size]? = some (.deferred (some [])) →
      c.wpIn Fence.wide n Tryd.prog Q { a with defers := { target := .collected w.heap.size, args := #[] } :: a.defers } W) :
    (Code.rangeFunc g #[p0] assign body).wpIn Fence.wide n Tryd.prog Q a w := by
  refine wpIn_rangeFunc ?_
  intro fn hfn
  obtain ⟨rec, hrec⟩ : ∃ rec : LoopState → Option Code → Loop, rec = fun st pe => { state := st, pending := pe, fn, tmps := a.tmps, params := #[p0], assign, body, defers := w.heap.size } := ⟨_, rfl⟩
  obtain ⟨W1, hW1⟩ : ∃ W1, (w.alloc (.deferred (some []))).alloc (.loop (rec .ready none)) = W1 := ⟨_, rfl⟩
  have hs1 : W1.heap.size = w.heap.size + 2 := by rw [← hW1]; simp
  have hL1 : W1.heap[w.heap.size + 1]? = some (.loop (rec .ready none)) := by
    rw [← hW1]; have := World.alloc_heap_new (w.alloc (.deferred (some []))) (.loop (rec .ready none)); rwa [World.size_alloc] at this
  have hK1 : W1.heap[w.heap.size]? = some (.deferred (some [])) := by
    rw [← hW1]; exact (Below.heap_alloc _ _ _ (by simp)).trans (World.alloc_heap_new w _)
  have hT1 : Touch2 w.heap.size w W1 := by
    refine ⟨by rw [← hW1]; rfl, by rw [← hW1]; rfl, by rw [← hW1]; rfl, by omega, fun k hk _ _ => ?_⟩
    rw [← hW1]; exact (Below.heap_alloc _ _ _ (by simp; omega)).trans (Below.heap_alloc _ _ _ hk)
  have hI1 : I [] W1 := hI _ _ _ h0 hT1
  have hc1 : Ctx W1 := hcx _ _ hc0 hT1
  refine ⟨w.heap.size + 1, [{ target := .collected w.heap.size, args := #[] }], W1, { target := .fn (.func F) caps, args := #[.func (.yield (w.heap.size + 1)) #[] #[]] }, W1, F,
    #[.func (.yield (w.heap.size + 1)) #[] #[]] ++ caps, W1, ?_, ?_, fun _ _ => trivial, ?_, wideOk, ?_⟩
  · rw [← hW1, hrec]; exact run_enterLoop_outer _ _ _ _ _
  · simp only [resolve, hg]
    simp [go_sem]
  · simp [invoke, go_sem, hen]
  · refine (hit (w.heap.size + 1)
      (fun pre W => I pre W ∧ w.heap.size + 2 ≤ W.heap.size ∧ W.heap[w.heap.size + 1]? = some (.loop (rec .ready none)) ∧ W.heap[w.heap.size]? = some (.deferred (some [])))
      (fun pre W => ∃ c, Ix c pre W ∧ W.heap[w.heap.size + 1]? = some (.loop (rec .done (some c))) ∧ W.heap[w.heap.size]? = some (.deferred (some [])))
      W1 hc1 ?_ ?_ ⟨hI1, by omega, hL1, hK1⟩).mono ?_
    · rintro pre Wa Wb ⟨hi, hz, hl, hk⟩ hb
      exact ⟨hI _ _ _ hi (Touch2.below hb), Nat.le_trans hz hb.size, (hb.block _ (by omega)).trans hl, (hb.block _ (by omega)).trans hk⟩
    · rintro pre x W ⟨hi, hz, hl, hk⟩ hcW hpf
      have hlt : w.heap.size + 1 < W.heap.size := by omega
      have hy := run_yield (P := Tryd.prog) (args := #[val x]) hl (by rw [hrec]; rfl)
      rw [hrec] at hy
      refine ⟨fn, _, assign, body, hy, roundIn_of_wpIn hfn (hassign _ pre x W _ hi hpf (by omega) (fun b Wb hkb hib haxb => ?_))⟩
      have hlb : Wb.heap[w.heap.size + 1]? = some (.loop (rec .ready none)) := hkb.own1.trans hl
      have hkkb : Wb.heap[w.heap.size]? = some (.deferred (some [])) := hkb.own0.trans hk
      have hltb : w.heap.size + 1 < Wb.heap.size := by have := hkb.size; omega
      refine ⟨_, run_beginRound hlb (by rw [hrec]), ?_⟩
      have hl2 : (Wb.putObj (w.heap.size + 1) (.loop { rec .ready none with state := .busy })).heap[w.heap.size + 1]? = some (.loop { rec .ready none with state := .busy }) := World.putObj_heap_same hltb
      have hk2 : (Wb.putObj (w.heap.size + 1) (.loop { rec .ready none with state := .busy })).heap[w.heap.size]? = some (.deferred (some [])) := (World.putObj_heap_other (by omega)).trans hkkb
      have hcb : Ctx (Wb.putObj (w.heap.size + 1) (.loop { rec .ready none with state := .busy })) := hcx _ _ (hkb.ctx hcW) (Touch2.put _ _ _)
      refine wpIn_mono (hbody _ pre x b _ (hI _ _ _ hib (Touch2.put _ _ _)) hcb (hAx _ _ _ _ haxb (Touch2.put _ _ _)) hpf (by simp; have := hkb.size; omega)) ?_
      have fin : ∀ (jump : Option Code) (W3 : World), KeepC w.heap.size Ctx (Wb.putObj (w.heap.size + 1) (.loop { rec .ready none with state := .busy })) W3 →
          (Instr.endRound (w.heap.size + 1) jump).run Tryd.prog W3 = .ok (.bool jump.isNone) (W3.putObj (w.heap.size + 1) (.loop (rec (if jump.isNone then .ready else .done) jump))) ∧
          (W3.putObj (w.heap.size + 1) (.loop (rec (if jump.isNone then .ready else .done) jump))).heap[w.heap.size + 1]? = some (.loop (rec (if jump.isNone then .ready else .done) jump)) ∧
          (W3.putObj (w.heap.size + 1) (.loop (rec (if jump.isNone then .ready else .done) jump))).heap[w.heap.size]? = some (.deferred (some [])) := fun jump W3 hk3 => by
        have hl3 := hk3.own1.trans hl2
        have := run_endRound (P := Tryd.prog) jump hl3
        rw [hrec] at this ⊢
        exact ⟨this, World.putObj_heap_same (Array.getElem?_eq_some_iff.1 hl3).1, (World.putObj_heap_other (by omega)).trans (hk3.own0.trans hk2)⟩
      rintro e a3 W3 hp
      cases e with
      | normal =>
        obtain ⟨hk3, hi3⟩ := hp
        obtain ⟨hr, hl4, hk4⟩ := fin none W3 hk3
        have hz3 := hk3.size
        exact ⟨_, _, hr, .inl ⟨rfl, ⟨hI _ _ _ hi3 (Touch2.put _ _ _), by simp at hz3 ⊢; omega, hl4, hk4⟩, hcx _ _ (hk3.ctx hcb) (Touch2.put _ _ _)⟩⟩
      | ret =>
        obtain ⟨hk3, hi3⟩ := hp
        obtain ⟨hr, hl4, hk4⟩ := fin (some .ret) W3 hk3
        exact ⟨_, _, hr, .inr ⟨rfl, .ret, hIx _ _ _ _ hi3 (Touch2.put _ _ _), hl4, hk4⟩⟩
      | exit id =>
        obtain ⟨hk3, hi3⟩ := hp
        obtain ⟨hr, hl4, hk4⟩ := fin (some (.exit id)) W3 hk3
        exact ⟨_, _, hr, .inr ⟨rfl, .exit id, hIx _ _ _ _ hi3 (Touch2.put _ _ _), hl4, hk4⟩⟩
      | goto t =>
        obtain ⟨hk3, hi3⟩ := hp
        obtain ⟨hr, hl4, hk4⟩ := fin (some (.goto t)) W3 hk3
        exact ⟨_, _, hr, .inr ⟨rfl, .goto t, hIx _ _ _ _ hi3 (Touch2.put _ _ _), hl4, hk4⟩⟩
      | panic ch => exact hp.elim
      | outgrown => exact hp.elim
    · rintro e W2 ⟨⟨v, rfl⟩, (⟨hi, hz, hl, hk⟩ | ⟨pre, hSp, c, hi, hl, hk⟩)⟩
      · exact ⟨none, _, by have := run_endLoop (P := Tryd.prog) hl (by rw [hrec]; simp); rw [hrec] at this; exact this, hdone _ (hI _ _ _ hi (Touch2.put _ _ _)) (by simp; omega) ((World.putObj_heap_other (by omega)).trans hk)⟩
      · exact ⟨some c, _, by have := run_endLoop (P := Tryd.prog) hl (by rw [hrec]; simp); rw [hrec] at this; exact this, hstop c pre _ hSp (hIx _ _ _ _ hi (Touch2.put _ _ _)) ((World.putObj_heap_other (by omega)).trans hk)⟩
end Go.Proofs.YtboiaoaephimhaaDoor.B
