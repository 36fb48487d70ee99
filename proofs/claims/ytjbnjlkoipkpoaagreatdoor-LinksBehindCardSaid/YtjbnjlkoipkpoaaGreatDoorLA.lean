/- A range over a function that yields some values at a time. slices.Backward at stanzas: what it yields. The stanza of a name: the plain law, and the map that says it. links.names, walked. links.Named and links.Of, walked. -/
import Derived.Test.YtjbnjlkoipkpoaaGreatDoorLB
import Derived.Test.YtjbnjlkoipkpoaaGreatDoorBAll
import Derived.Test.YtjbnjlkoipkpoaaGreatDoorTCounts
import Derived.Maps.OwnIn
namespace Go.Proofs.YtjbnjlkoipkpoaaGreatDoor.T
open Go.RowKit Go.Shelf
open Go.Proofs.YtjbnjlkoipkpoaaGreatDoor.B
attribute [local go_sem] Oper.semAt_some

/-- What an iterator does: it yields the list's elements; Ctx: what it needs of the memory. -/
def ItersA {α : Type} (F : FuncId) (caps : Array Value) (vals : α → Array Value) (xs : List α) (Ctx : World → Prop) (n : Nat) : Prop :=
  ∀ (l : Nat) (J Jx : List α → World → Prop) (W : World), Ctx W →
    (∀ pre W1 W2, J pre W1 → Below W1.heap.size W1 W2 → J pre W2) →
    (∀ pre x W1, J pre W1 → Ctx W1 → pre ++ [x] <+: xs → YieldAt Fence.wide (n - 1) Tryz.prog l (vals x) W1 fun e W' => (e = .returned (.bool true) ∧ J (pre ++ [x]) W' ∧ Ctx W') ∨ (e = .returned (.bool false) ∧ Jx (pre ++ [x]) W')) →
    J [] W → CallsIn Fence.wide n Tryz.prog F (#[.func (.yield l) #[] #[]] ++ caps) W fun e W' => (∃ v, e = .returned v) ∧ (J xs W' ∨ ∃ pre, pre <+: xs ∧ Jx pre W')
set_option maxHeartbeats 1000000 in
theorem wpIn_range_itersA {α : Type} {n : Nat} {g : Operand} {ps : Array Tmp} {assign body : Code} {Q : Exit → Act → World → Prop} {a : Act} {w : World}
    (F : FuncId) (caps : Array Value) (vals : α → Array Value) (xs : List α) (Ctx : World → Prop) (hit : ItersA F caps vals xs Ctx (n - 1)) (hen : ∀ args w, (callFunc F args).run Tryz.prog w = .ok (.enter F args) w)
    (hps : ∀ x, (vals x).size = ps.size) (hg : a.eval g = .func (.func F) #[] caps) (hcx : ∀ W W', Ctx W → Touch2 w.heap.size W W' → Ctx W') (hc0 : Ctx w)
    (I : List α → World → Prop) (Ix : Code → List α → World → Prop)
    (hI : ∀ pre W W', I pre W → Touch2 w.heap.size W W' → I pre W') (hIx : ∀ c pre W W', Ix c pre W → Touch2 w.heap.size W W' → Ix c pre W') (h0 : I [] w)
    (Ax : α → Act → World → Prop) (hAx : ∀ x b W W', Ax x b W → Touch2 w.heap.size W W' → Ax x b W')
    (hassign : ∀ (l : Nat) (pre : List α) (x : α) (W : World) (K : Act → World → Prop), I pre W → pre ++ [x] <+: xs → w.heap.size + 2 ≤ W.heap.size → (∀ b W', KeepC w.heap.size Ctx W W' → I pre W' → Ax x b W' → K b W') →
      assign.wpIn (Fence.wide.inRound l) (n - 1 - 1) Tryz.prog (Exit.then K (fun _ _ _ => False)) { tmps := (ps.zip (vals x)).foldl (fun t (p, v) => t.setIfInBounds p v) a.tmps, defers := [] } W)
    (hbody : ∀ (l : Nat) (pre : List α) (x : α) (b : Act) (W : World), I pre W → Ctx W → Ax x b W → pre ++ [x] <+: xs → w.heap.size + 2 ≤ W.heap.size →
      body.wpIn (Fence.wide.inRound l) (n - 1 - 1) Tryz.prog (iterPost w.heap.size Ctx I Ix (pre ++ [x]) W) b W)
    (hdone : ∀ (W : World), I xs W → w.heap.size + 2 ≤ W.heap.size → W.heap[w.heap.size]? = some (.deferred (some [])) → Q .normal { a with defers := { target := .collected w.heap.size, args := #[] } :: a.defers } W)
    (hstop : ∀ (c : Code) (pre : List α) (W : World), pre <+: xs → Ix c pre W → W.heap[w.heap.size]? = some (.deferred (some [])) →
      c.wpIn Fence.wide n Tryz.prog Q { a with defers := { target := .collected w.heap.size, args := #[] } :: a.defers } W) :
    (Code.rangeFunc g ps assign body).wpIn Fence.wide n Tryz.prog Q a w := by
  refine wpIn_rangeFunc ?_
  intro fn hfn
  obtain ⟨rec, hrec⟩ : ∃ rec : LoopState → Option Code → Loop, rec = fun st pe => { state := st, pending := pe, fn, tmps := a.tmps, params := ps, assign, body, defers := w.heap.size } := ⟨_, rfl⟩
  obtain ⟨W1, hW1⟩ : ∃ W1, (w.alloc (.deferred (some []))).alloc (.loop (rec .ready none)) = W1 := ⟨_, rfl⟩
  have hs1 : W1.heap.size = w.heap.size + 2 := by rw [← hW1]; simp
  have hL1 : W1.heap[w.heap.size + 1]? = some (.loop (rec .ready none)) := by
    rw [← hW1]; have := World.alloc_heap_new (w.alloc (.deferred (some []))) (.loop (rec .ready none)); rwa [World.size_alloc] at this
  have hK1 : W1.heap[w.heap.size]? = some (.deferred (some [])) := by
    rw [← hW1]; exact (Below.heap_alloc _ _ _ (by simp)).trans (World.alloc_heap_new w _)
  have hT1 : Touch2 w.heap.size w W1 := by
    refine ⟨by rw [← hW1]; rfl, by rw [← hW1]; rfl, by rw [← hW1]; rfl, by omega, fun k hk _ _ => ?_⟩
    rw [← hW1]; exact (Below.heap_alloc _ _ _ (by simp; omega)).trans (Below.heap_alloc _ _ _ hk)
  have hI1 : I [] W1 := hI _ _ _ h0 hT1
  have hc1 : Ctx W1 := hcx _ _ hc0 hT1
  refine ⟨w.heap.size + 1, [{ target := .collected w.heap.size, args := #[] }], W1, { target := .fn (.func F) caps, args := #[.func (.yield (w.heap.size + 1)) #[] #[]] }, W1, F,
    #[.func (.yield (w.heap.size + 1)) #[] #[]] ++ caps, W1, ?_, ?_, fun _ _ => trivial, ?_, wideOk, ?_⟩
  · rw [← hW1, hrec]; exact run_enterLoop_outer _ _ _ _ _
  · simp only [resolve, hg]
    simp [go_sem]
  · simp [invoke, go_sem, hen]
  · refine (hit (w.heap.size + 1)
      (fun pre W => I pre W ∧ w.heap.size + 2 ≤ W.heap.size ∧ W.heap[w.heap.size + 1]? = some (.loop (rec .ready none)) ∧ W.heap[w.heap.size]? = some (.deferred (some [])))
      (fun pre W => ∃ c, Ix c pre W ∧ W.heap[w.heap.size + 1]? = some (.loop (rec .done (some c))) ∧ W.heap[w.heap.size]? = some (.deferred (some [])))
      W1 hc1 ?_ ?_ ⟨hI1, by omega, hL1, hK1⟩).mono ?_
    · rintro pre Wa Wb ⟨hi, hz, hl, hk⟩ hb
      exact ⟨hI _ _ _ hi (Touch2.below hb), Nat.le_trans hz hb.size, (hb.block _ (by omega)).trans hl, (hb.block _ (by omega)).trans hk⟩
    · rintro pre x W ⟨hi, hz, hl, hk⟩ hcW hpf
      have hlt : w.heap.size + 1 < W.heap.size := by omega
      have hy := run_yield (P := Tryz.prog) (args := (vals x)) hl (by rw [hrec]; exact hps x)
      rw [hrec] at hy
      refine ⟨fn, _, assign, body, hy, roundIn_of_wpIn hfn (hassign _ pre x W _ hi hpf (by omega) (fun b Wb hkb hib haxb => ?_))⟩
      have hlb : Wb.heap[w.heap.size + 1]? = some (.loop (rec .ready none)) := hkb.own1.trans hl
      have hkkb : Wb.heap[w.heap.size]? = some (.deferred (some [])) := hkb.own0.trans hk
      have hltb : w.heap.size + 1 < Wb.heap.size := by have := hkb.size; omega
      refine ⟨_, run_beginRound hlb (by rw [hrec]), ?_⟩
      have hl2 : (Wb.putObj (w.heap.size + 1) (.loop { rec .ready none with state := .busy })).heap[w.heap.size + 1]? = some (.loop { rec .ready none with state := .busy }) := World.putObj_heap_same hltb
      have hk2 : (Wb.putObj (w.heap.size + 1) (.loop { rec .ready none with state := .busy })).heap[w.heap.size]? = some (.deferred (some [])) := (World.putObj_heap_other (by omega)).trans hkkb
      have hcb : Ctx (Wb.putObj (w.heap.size + 1) (.loop { rec .ready none with state := .busy })) := hcx _ _ (hkb.ctx hcW) (Touch2.put _ _ _)
      refine wpIn_mono (hbody _ pre x b _ (hI _ _ _ hib (Touch2.put _ _ _)) hcb (hAx _ _ _ _ haxb (Touch2.put _ _ _)) hpf (by simp; have := hkb.size; omega)) ?_
      have fin : ∀ (jump : Option Code) (W3 : World), KeepC w.heap.size Ctx (Wb.putObj (w.heap.size + 1) (.loop { rec .ready none with state := .busy })) W3 →
          (Instr.endRound (w.heap.size + 1) jump).run Tryz.prog W3 = .ok (.bool jump.isNone) (W3.putObj (w.heap.size + 1) (.loop (rec (if jump.isNone then .ready else .done) jump))) ∧
          (W3.putObj (w.heap.size + 1) (.loop (rec (if jump.isNone then .ready else .done) jump))).heap[w.heap.size + 1]? = some (.loop (rec (if jump.isNone then .ready else .done) jump)) ∧
          (W3.putObj (w.heap.size + 1) (.loop (rec (if jump.isNone then .ready else .done) jump))).heap[w.heap.size]? = some (.deferred (some [])) := fun jump W3 hk3 => by
        have hl3 := hk3.own1.trans hl2
        have := run_endRound (P := Tryz.prog) jump hl3
        rw [hrec] at this ⊢
        exact ⟨this, World.putObj_heap_same (Array.getElem?_eq_some_iff.1 hl3).1, (World.putObj_heap_other (by omega)).trans (hk3.own0.trans hk2)⟩
      rintro e a3 W3 hp
      cases e with
      | normal =>
        obtain ⟨hk3, hi3⟩ := hp
        obtain ⟨hr, hl4, hk4⟩ := fin none W3 hk3
        have hz3 := hk3.size
        exact ⟨_, _, hr, .inl ⟨rfl, ⟨hI _ _ _ hi3 (Touch2.put _ _ _), by simp at hz3 ⊢; omega, hl4, hk4⟩, hcx _ _ (hk3.ctx hcb) (Touch2.put _ _ _)⟩⟩
      | ret =>
        obtain ⟨hk3, hi3⟩ := hp
        obtain ⟨hr, hl4, hk4⟩ := fin (some .ret) W3 hk3
        exact ⟨_, _, hr, .inr ⟨rfl, .ret, hIx _ _ _ _ hi3 (Touch2.put _ _ _), hl4, hk4⟩⟩
      | exit id =>
        obtain ⟨hk3, hi3⟩ := hp
        obtain ⟨hr, hl4, hk4⟩ := fin (some (.exit id)) W3 hk3
        exact ⟨_, _, hr, .inr ⟨rfl, .exit id, hIx _ _ _ _ hi3 (Touch2.put _ _ _), hl4, hk4⟩⟩
      | goto t =>
        obtain ⟨hk3, hi3⟩ := hp
        obtain ⟨hr, hl4, hk4⟩ := fin (some (.goto t)) W3 hk3
        exact ⟨_, _, hr, .inr ⟨rfl, .goto t, hIx _ _ _ _ hi3 (Touch2.put _ _ _), hl4, hk4⟩⟩
      | panic ch => exact hp.elim
      | outgrown => exact hp.elim
    · rintro e W2 ⟨⟨v, rfl⟩, (⟨hi, hz, hl, hk⟩ | ⟨pre, hSp, c, hi, hl, hk⟩)⟩
      · exact ⟨none, _, by have := run_endLoop (P := Tryz.prog) hl (by rw [hrec]; simp); rw [hrec] at this; exact this, hdone _ (hI _ _ _ hi (Touch2.put _ _ _)) (by simp; omega) ((World.putObj_heap_other (by omega)).trans hk)⟩
      · exact ⟨some c, _, by have := run_endLoop (P := Tryz.prog) hl (by rw [hrec]; simp); rw [hrec] at this; exact this, hstop c pre _ hSp (hIx _ _ _ _ hi (Touch2.put _ _ _)) ((World.putObj_heap_other (by omega)).trans hk)⟩
theorem wp_range_itersA_box {α : Type} {g : Operand} {ps : Array Tmp} {assign body : Code} {Q : Exit → Act → World → Prop} {a : Act} {w : World} (q : Tmp) (cells : α → List Value) (tid : TypeId)
    (F : FuncId) (caps : Array Value) (vals : α → Array Value) (xs : List α) (Ctx : World → Prop) (hit : ItersA F caps vals xs Ctx 8) (hen : ∀ args w, (callFunc F args).run Tryz.prog w = .ok (.enter F args) w)
    (hps : ∀ x, (vals x).size = ps.size) (hg : a.eval g = .func (.func F) #[] caps) (hcx : ∀ W W', Ctx W → Touch2 w.heap.size W W' → Ctx W') (hc0 : Ctx w)
    (I : List α → World → Prop) (Ix : Code → List α → World → Prop)
    (hI : ∀ pre W W', I pre W → Touch2 w.heap.size W W' → I pre W') (hIx : ∀ c pre W W', Ix c pre W → Touch2 w.heap.size W W' → Ix c pre W') (h0 : I [] w)
    (hassign : ∀ (l : Nat) (x : α) (W : World) (K : Act → World → Prop), x ∈ xs →
      K { tmps := ((ps.zip (vals x)).foldl (fun t (p, v) => t.setIfInBounds p v) a.tmps).setIfInBounds q (.pointer (some ⟨W.heap.size, 0, none⟩)), defers := [] } (W.alloc (.cells (cells x).toArray tid)) →
      assign.wpIn (Fence.wide.inRound l) 7 Tryz.prog (Exit.then K (fun _ _ _ => False)) { tmps := (ps.zip (vals x)).foldl (fun t (p, v) => t.setIfInBounds p v) a.tmps, defers := [] } W)
    (hbody : ∀ (l : Nat) (pre : List α) (x : α) (Bx : Nat) (W : World), I pre W → Ctx W → w.heap.size + 2 ≤ Bx → W.heap[Bx]? = some (.cells (cells x).toArray tid (0, 0)) → pre ++ [x] <+: xs →
      body.wpIn (Fence.wide.inRound l) 7 Tryz.prog (iterPost w.heap.size Ctx I Ix (pre ++ [x]) W) { tmps := ((ps.zip (vals x)).foldl (fun t (p, v) => t.setIfInBounds p v) a.tmps).setIfInBounds q (.pointer (some ⟨Bx, 0, none⟩)), defers := [] } W)
    (hdone : ∀ (W : World), I xs W → w.heap.size + 2 ≤ W.heap.size → W.heap[w.heap.size]? = some (.deferred (some [])) → Q .normal { a with defers := { target := .collected w.heap.size, args := #[] } :: a.defers } W)
    (hstop : ∀ (c : Code) (pre : List α) (W : World), pre <+: xs → Ix c pre W → W.heap[w.heap.size]? = some (.deferred (some [])) →
      c.wp Tryz.prog Q { a with defers := { target := .collected w.heap.size, args := #[] } :: a.defers } W) :
    (Code.rangeFunc g ps assign body).wp Tryz.prog Q a w := by
  refine wpIn_wide.1 (wpIn_range_itersA (n := 9) F caps vals xs Ctx hit hen hps hg hcx hc0 I Ix hI hIx h0
    (fun x b W => ∃ Bx, w.heap.size + 2 ≤ Bx ∧ W.heap[Bx]? = some (.cells (cells x).toArray tid (0, 0)) ∧ b = { tmps := ((ps.zip (vals x)).foldl (fun t (p, v) => t.setIfInBounds p v) a.tmps).setIfInBounds q (.pointer (some ⟨Bx, 0, none⟩)), defers := [] })
    ?_ ?_ ?_ hdone fun c pre W h1 h2 h3 => wpIn_wide.2 (hstop c pre W h1 h2 h3))
  · rintro x b W W' ⟨Bx, h1, h2, h3⟩ ht
    exact ⟨Bx, h1, (ht.block _ (Array.getElem?_eq_some_iff.1 h2).1 (by omega) (by omega)).trans h2, h3⟩
  · intro l pre x W K hi hpf hsz hK
    refine hassign l x W K (by obtain ⟨t, ht⟩ := hpf; rw [← ht]; simp) (hK _ _ ⟨by simp, ?_, ?_, fun h => hcx _ _ h (Touch2.alloc _ _ _)⟩ (hI _ _ _ hi (Touch2.alloc _ _ _)) ⟨W.heap.size, hsz, heap_alloc_new _ _, rfl⟩)
    · exact Below.heap_alloc _ _ _ (by omega)
    · exact Below.heap_alloc _ _ _ (by omega)
  · rintro l pre x b W hi hc ⟨Bx, h1, h2, rfl⟩ hpf hsz
    exact hbody l pre x Bx W hi hc h1 h2 hpf
end Go.Proofs.YtjbnjlkoipkpoaaGreatDoor.T

namespace Go.Proofs.YtjbnjlkoipkpoaaGreatDoor.T
open Go.RowKit Go.Shelf
open Go.Proofs.YtjbnjlkoipkpoaaGreatDoor.B
attribute [local go_sem] Oper.semAt_some

/-- Stanzas and where their fields lie, from the last to the first. -/
def backs (ss : List St) (us : List Value) : List ((St × Value) × Nat) := (ss.zip us).zipIdx.reverse
def backVals (p : (St × Value) × Nat) : Array Value := #[.int .i64 p.2, .agg #[.int .i64 p.1.1.1, p.1.2]]
structure BackCtx (tb : Nat) (ρ : Col) (v : Value) (ss : List St) (us : List Value) (W : World) : Prop where
  box : W.heap[tb]? = some (.cells #[v] 57 (0, 0))
  at_ : StanzasAt W ρ v ss us
theorem BackCtx.below {tb : Nat} {ρ : Col} {v : Value} {ss : List St} {us : List Value} {W W' : World} (h : BackCtx tb ρ v ss us W) (hb : Below W.heap.size W W') : BackCtx tb ρ v ss us W' :=
  ⟨(hb.block tb (Array.getElem?_eq_some_iff.1 h.box).1).trans h.box, h.at_.below hb⟩
theorem backs_snoc (ss : List St) (us : List Value) (k : Nat) (x : St) (u : Value) (hx : ss[k]? = some x) (hu : us[k]? = some u) :
    ((ss.zip us).zipIdx.drop k).reverse = ((ss.zip us).zipIdx.drop (k + 1)).reverse ++ [((x, u), k)] := by
  have hz : (ss.zip us)[k]? = some (x, u) := by rw [List.getElem?_zip_eq_some]; exact ⟨hx, hu⟩
  have hi : (ss.zip us).zipIdx[k]? = some ((x, u), k) := by rw [List.getElem?_zipIdx, hz]; simp
  have hl := (List.getElem?_eq_some_iff.1 hi).1
  rw [List.drop_eq_getElem_cons hl, List.reverse_cons]
  rw [List.getElem?_eq_getElem hl] at hi
  injection hi with hi
  rw [hi]
theorem backs_prefix (ss : List St) (us : List Value) (k : Nat) : ((ss.zip us).zipIdx.drop k).reverse <+: backs ss us := by
  unfold backs
  refine ⟨((ss.zip us).zipIdx.take k).reverse, ?_⟩
  rw [← List.reverse_append, List.take_append_drop]
set_option maxRecDepth 100000 in
set_option maxHeartbeats 1600000 in
theorem back_iter (n tb : Nat) (ρ : Col) (v : Value) (ss : List St) (us : List Value) (hlen : ss.length ≤ 1000000) :
    ItersA 135 #[.pointer (some ⟨tb, 0, none⟩)] backVals (backs ss us) (BackCtx tb ρ v ss us) n := by
  intro l J Jx W hc hJ hY h0
  have hcb : W.cell? ⟨tb, 0, none⟩ = some v := by simp [World.cell?, hc.box]
  obtain ⟨so, sc, hv⟩ := hc.at_.row.shape
  subst hv
  have hul := hc.at_.len
  have htb : tb < W.heap.size := (Array.getElem?_eq_some_iff.1 hc.box).1
  have hjj : J ((ss.zip us).zipIdx.drop ss.length).reverse W := by
    rw [List.drop_of_length_le (by rw [List.length_zipIdx, List.length_zip]; omega)]; exact h0
  refine callsIn_of_wp Tryz.func135 rfl trivial ?_ rfl
  simp only [Tryz.ntmps135, List.size_toArray, List.length_cons, List.length_nil, Nat.reduceAdd, Nat.reduceSub, Array.replicate_succ, Array.replicate_zero, List.push_toArray, List.append_toArray, List.nil_append, List.cons_append]
  have HJ := Lib.hid hJ
  have HY := Lib.hid hY
  have H0 := Lib.hid hjj
  have HC := Lib.hid hc
  clear hJ hY h0 hc hjj
  gi_wp2
  gi_loopw [3] (fun v wr => ∃ k : Nat, v = .int .i64 ((k : Int) - 1) ∧ k ≤ ss.length ∧ Hid (BackCtx tb ρ (.slice so ss.length sc) ss us wr) ∧ Hid (J ((ss.zip us).zipIdx.drop k).reverse wr))
    (fun v _ => (intOf v + 1).toNat)
  case atStart => exact ⟨ss.length, by go_num, Nat.le_refl _, HC, H0⟩
  case round =>
    obtain ⟨k, rfl, hk, hC, hj⟩ := hrel
    rcases k with _ | j
    · gi_wp2
      go_end0
      exact ⟨⟨_, rfl⟩, .inl hj.out⟩
    · obtain ⟨x, hx⟩ : ∃ x, ss[j]? = some x := ⟨_, List.getElem?_eq_getElem (by omega)⟩
      obtain ⟨f, hf⟩ : ∃ f, us[j]? = some f := ⟨_, List.getElem?_eq_getElem (by omega)⟩
      have hsa := hC.out.at_
      have cb : wr.cell? ⟨tb, 0, none⟩ = some (.slice so ss.length sc) := by simp [World.cell?, hC.out.box]
      obtain ⟨g1, g2⟩ := stCells_get ss us j x f hx hf
      obtain ⟨g, hg, hao⟩ : ∃ g, (Value.slice so ss.length sc).ownBlock = some g ∧ so = some ⟨g, 0, none⟩ := by
        rcases hsa.row.1.2 with ⟨-, h0⟩ | ⟨g, cp', cur, hz, -⟩
        · omega
        · injection hz with z1 z2 z3
          exact ⟨g, by rw [z1]; rfl, z1⟩
      have e1 := hsa.row.1.cells hg _ _ g1
      have e2 := hsa.row.1.cells hg _ _ g2
      rw [addrO] at e1 e2
      subst hao
      have hsn := Lib.hid (backs_snoc ss us j x f hx hf)
      have hpf := Lib.hid (backs_prefix ss us j)
      have ej : (((j + 1 : Nat) : Int) - 1) = (j : Int) := by omega
      have hjl : j < ss.length := by omega
      rw [ej]
      have hpf2 : Hid (((ss.zip us).zipIdx.drop (j + 1)).reverse ++ [((x, f), j)] <+: backs ss us) := Lib.hid (by rw [← hsn.out]; exact hpf.out)
      have Y := HY.out _ ((x, f), j) wr hj.out hC.out hpf2.out
      have hpv : backVals ((x, f), j) = #[.int .i64 j, .agg #[.int .i64 x.1, f]] := rfl
      rw [hpv] at Y
      obtain ⟨fn, tmps, assign, body, hy, hR⟩ := Y
      have HR := Lib.hid hR
      obtain ⟨fo, fc, hfv⟩ := (hsa.its j f x hf hx).shape
      subst hfv
      clear hR hpv g1 g2 hg hx hf hsa ej hpf hj hC
      gi_wp2
      refine ⟨wideOk, HR.out.mono ?_⟩
      clear HR
      rintro e' W3 (⟨rfl, hJ3, hk3⟩ | ⟨rfl, hJx3⟩)
      · have HJ3 := Lib.hid hJ3
        have HC3 := Lib.hid hk3
        clear hJ3 hk3
        gi_wp2
        exact ⟨⟨j, rfl, by omega, HC3, by rw [hsn.out]; exact HJ3⟩, by simp [intOf]⟩
      · gi_wp2
        refine bodyPost_ret (results_none rfl _ _ _) rfl ?_
        exact ⟨⟨_, rfl⟩, .inr ⟨_, hpf2.out, hJx3⟩⟩
theorem back_any (so : Option Addr) (n sc : Nat) (w : World) :
    Calls Tryz.prog 89 #[.slice so n sc] w fun e w' => e = .returned (.func (.func 135) #[] #[.pointer (some ⟨w.heap.size, 0, none⟩)]) ∧ w' = w.alloc (.cells #[.slice so n sc] 57) := by
  go_enter Tryz.func89, Tryz.ntmps89
  go_wp2
  go_ret
  exact ⟨rfl, rfl⟩
end Go.Proofs.YtjbnjlkoipkpoaaGreatDoor.T

namespace Go.Proofs.YtjbnjlkoipkpoaaGreatDoor.T
open Go.RowKit Go.Shelf Go.Maps
open Go.Proofs.YtjbnjlkoipkpoaaGreatDoor.B

/-- Has a stanza the field? -/
def hasF (name l : L8) (fs : List Fld) : Bool := fs.any fun f => f.key == name && f.val == l
/-- The stanza of a name: the first that has the field; 0: none. -/
def namedL (name l : L8) : List St → Nat
  | [] => 0
  | x :: r => if hasF name l x.2 = true then x.1 else namedL name l r
theorem hasF_snoc (name l : L8) (fs : List Fld) (f : Fld) : hasF name l (fs ++ [f]) = (hasF name l fs || (f.key == name && f.val == l)) := by simp [hasF]
/-- A map from texts to numbers. -/
def MapN (w : World) (B n : Nat) (f : L8 → Nat) : Prop :=
  ∃ D : DataW Unit, w.ownsMap Tryz.prog 9 (plainElem Tryz.prog 3) B n D ∧ ∀ l : L8, D.atKey (.string l) (.lit (.int .i64 0)) = .lit (.int .i64 (f l))
theorem MapN.block {w w' : World} {B n : Nat} {f : L8 → Nat} (h : MapN w B n f) (hk : w'.heap[B]? = w.heap[B]?) : MapN w' B n f :=
  let ⟨D, h1, h2⟩ := h
  ⟨D, ownsMap_of_block h1 hk, h2⟩
theorem MapN.lt {w : World} {B n : Nat} {f : L8 → Nat} (h : MapN w B n f) : B < w.heap.size := let ⟨_, h1, _⟩ := h; h1.lt
theorem MapN.made (w : World) : MapN (w.alloc (.map #[] 0)) w.heap.size 0 (fun _ => 0) := ⟨.map [], World.ownsMap_made _ _ _ _, fun _ => rfl⟩
theorem MapN.eq {w : World} {B n : Nat} {f g : L8 → Nat} (h : MapN w B n f) (e : ∀ l, f l = g l) : MapN w B n g :=
  let ⟨D, h1, h2⟩ := h
  ⟨D, h1, fun l => by rw [h2, e]⟩
theorem MapN.put {w' : World} {B n c : Nat} {f : L8 → Nat} {D : DataW Unit} {l : L8} (hI : IsMap D) (h2 : ∀ l : L8, D.atKey (.string l) (.lit (.int .i64 0)) = .lit (.int .i64 (f l)))
    (h : w'.ownsMap Tryz.prog 9 (plainElem Tryz.prog 3) B (n + 1) (D.put (.string l) (.lit (.int .i64 (c : Int))))) : MapN w' B (n + 1) (fun x => if x = l then c else f x) := by
  refine ⟨_, h, fun x => ?_⟩
  by_cases e : x = l
  · subst e
    rw [atKey_put_same hI (show WideAt.IsKeyLit (.string x) from trivial)]
    simp
  · rw [atKey_put_other (fun k => e (by simpa using k)), h2]
    simp [e]
theorem MapN.more {w : World} {B n m : Nat} {f : L8 → Nat} (h : MapN w B n f) (hm : n ≤ m) : MapN w B m f := by
  obtain ⟨D, h1, h2⟩ := h
  exact ⟨D, h1.mono hm, h2⟩
theorem backs_all : ∀ {ss : List St} {us : List Value}, us.length = ss.length → ((backs ss us).map (·.1.1)).reverse = ss := by
  intro ss us h
  unfold backs
  rw [List.map_reverse, List.reverse_reverse]
  have e : (fun p : (St × Value) × Nat => p.1.1) = Prod.fst ∘ Prod.fst := rfl
  rw [e, ← List.map_map, List.zipIdx_map_fst, List.map_fst_zip (by omega)]
end Go.Proofs.YtjbnjlkoipkpoaaGreatDoor.T

namespace Go.Proofs.YtjbnjlkoipkpoaaGreatDoor.T
open Go.RowKit Go.Shelf Go.Maps
open Go.Proofs.YtjbnjlkoipkpoaaGreatDoor.B
attribute [local go_sem] Oper.semAt_some

/-- What the stanzas that have come say of a name. -/
def preN (name : L8) (pre : List ((St × Value) × Nat)) (l : L8) : Nat := namedL name l (pre.map (·.1.1)).reverse
theorem preN_snoc (name : L8) (pre : List ((St × Value) × Nat)) (p : (St × Value) × Nat) (l : L8) : preN name (pre ++ [p]) l = if hasF name l p.1.1.2 = true then p.1.1.1 else preN name pre l := by
  unfold preN
  rw [List.map_append, List.reverse_append]
  rfl
/-- Where the range stands. -/
structure NI (name : ByteArray) (N : Nat) (w : World) (pre : List ((St × Value) × Nat)) (W : World) : Prop where
  below : Below N w W
  size : N + 4 ≤ W.heap.size
  key : W.heap[N]? = some (.cells #[.string name] 9 (0, 0))
  out : W.heap[N + 2]? = some (.cells #[.map (some (N + 1))] 96 (0, 0))
  map : MapN W (N + 1) (pre.length * 40) (preN name.data.toList pre)
theorem NI.keep {name : ByteArray} {N : Nat} {w : World} {pre : List ((St × Value) × Nat)} {W W' : World} (h : NI name N w pre W) (ht : Touch2 (N + 4) W W') : NI name N w pre W' := by
  have hz := h.size
  refine ⟨⟨ht.os.trans h.below.os, ht.tape.trans h.below.tape, ht.output.trans h.below.output, Nat.le_trans h.below.size ht.size, fun k hk => (ht.block k (by omega) (by omega) (by omega)).trans (h.below.block k hk)⟩, Nat.le_trans hz ht.size, ?_, ?_, h.map.block (ht.block _ (by omega) (by omega) (by omega))⟩
  · exact (ht.block _ (by omega) (by omega) (by omega)).trans h.key
  · exact (ht.block _ (by omega) (by omega) (by omega)).trans h.out
theorem BackCtx.touch {tb D : Nat} {ρ : Col} {v : Value} {ss : List St} {us : List Value} {W W' : World} (h : BackCtx tb ρ v ss us W) (ht : Touch2 D W W') (htb : tb < D) (hρ : ∀ k, ρ k ≠ none → k < D) : BackCtx tb ρ v ss us W' := by
  refine ⟨(ht.block tb (Array.getElem?_eq_some_iff.1 h.box).1 (by omega) (by omega)).trans h.box, h.at_.keep (Ext.refl _ _) (σ := fun k => if k = D ∨ k = D + 1 then some 0 else none) ⟨ht.os, ht.tape, ht.output, ht.size, fun k h1 h2 => ht.block k h1 (fun e => ?_) (fun e => ?_)⟩ (fun g hg => if_neg fun e => ?_) (h.at_.fits.more ht.size)⟩
  · rw [if_pos (.inl e)] at h2; cases h2
  · rw [if_pos (.inr e)] at h2; cases h2
  · have := hρ g hg; omega
theorem backs_get {ss : List St} {us : List Value} {p : (St × Value) × Nat} (h : p ∈ backs ss us) : ss[p.2]? = some p.1.1 ∧ us[p.2]? = some p.1.2 := by
  unfold backs at h
  rw [List.mem_reverse, List.mem_zipIdx_iff_getElem?, List.getElem?_zip_eq_some] at h
  exact h
theorem backs_len {ss : List St} {us : List Value} (h : us.length = ss.length) : (backs ss us).length = ss.length := by
  unfold backs
  rw [List.length_reverse, List.length_zipIdx, List.length_zip, h, Nat.min_self]
set_option maxRecDepth 100000 in
set_option maxHeartbeats 3200000 in
theorem names_any (name : ByteArray) (v : Value) (ρ : Col) (ss : List St) (us : List Value) (w : World) (hS : StanzasAt w ρ v ss us) (hm : ss.length ≤ 1000) (hfine : ∀ x ∈ ss, FsFine x.2) (hids : ∀ x ∈ ss, x.1 ≤ 1000000) :
    Calls Tryz.prog 52 #[v, .string name] w fun e w' => ∃ B, e = .returned (.map (some B)) ∧ w.heap.size ≤ B ∧ MapN w' B (ss.length * 40) (fun l => namedL name.data.toList l ss) ∧ Below w.heap.size w w' := by
  obtain ⟨so, sc, hv⟩ := hS.row.shape
  subst hv
  obtain ⟨N, hN⟩ : ∃ N, w.heap.size = N := ⟨_, rfl⟩
  have hlow : ∀ k, ρ k ≠ none → k < N := fun k hk => by have := hS.fits k hk; omega
  have hmm := @run_makeMap Tryz.prog
  refine calls_marks Tryz.func52 rfl ?_
  simp only [Tryz.ntmps52, List.size_toArray, List.length_cons, List.length_nil, Nat.reduceAdd, Nat.reduceSub, Array.replicate_succ, Array.replicate_zero, List.push_toArray, List.append_toArray, List.nil_append, List.cons_append]
  go_wp2_with (go_at_call 89; refine (back_any _ _ _ _).mono ?_; rintro e w3 ⟨rfl, rfl⟩)
  simp only [Nat.add_assoc, Nat.reduceAdd]
  obtain ⟨W0, hW0⟩ : ∃ W0, (((w.alloc (.cells #[.string name] 9)).alloc (.map #[] 0)).alloc (.cells #[.map (some (N + 1))] 96)).alloc (.cells #[.slice so ss.length sc] 57) = W0 := ⟨_, rfl⟩
  have s0 : W0.heap.size = N + 4 := by rw [← hW0]; simp [hN]
  have g0 : W0.heap[N]? = some (.cells #[.string name] 9 (0, 0)) := by
    rw [← hW0, ← hN]
    exact (Below.heap_alloc _ _ _ (by simp; omega)).trans ((Below.heap_alloc _ _ _ (by simp; omega)).trans ((Below.heap_alloc _ _ _ (by simp)).trans (heap_alloc_new w _)))
  have g1 : MapN W0 (N + 1) 0 (fun _ => 0) := by
    have h := MapN.made (w.alloc (.cells #[.string name] 9))
    rw [World.size_alloc, hN] at h
    refine h.block ?_
    rw [← hW0]
    exact (Below.heap_alloc _ _ _ (by simp; omega)).trans (Below.heap_alloc _ _ _ (by simp; omega))
  have g2 : W0.heap[N + 2]? = some (.cells #[.map (some (N + 1))] 96 (0, 0)) := by
    have h := heap_alloc_new ((w.alloc (.cells #[.string name] 9)).alloc (.map #[] 0)) (.cells #[.map (some (N + 1))] 96)
    rw [show ((w.alloc (.cells #[.string name] 9)).alloc (.map #[] 0)).heap.size = N + 2 by simp [hN]] at h
    rw [← hW0]
    exact (Below.heap_alloc _ _ _ (by simp; omega)).trans h
  have g3 : W0.heap[N + 3]? = some (.cells #[.slice so ss.length sc] 57 (0, 0)) := by
    have h := heap_alloc_new (((w.alloc (.cells #[.string name] 9)).alloc (.map #[] 0)).alloc (.cells #[.map (some (N + 1))] 96)) (.cells #[.slice so ss.length sc] 57)
    rw [show (((w.alloc (.cells #[.string name] 9)).alloc (.map #[] 0)).alloc (.cells #[.map (some (N + 1))] 96)).heap.size = N + 3 by simp [hN]] at h
    rw [← hW0]
    exact h
  have b0 : Below N w W0 := by
    rw [← hW0, ← hN]
    exact (((below_grow1 w _).alloc (by simp) _).alloc (by simp; omega) _).alloc (by simp; omega) _
  have C0 := Lib.hid (show BackCtx (N + 3) ρ (.slice so ss.length sc) ss us W0 from ⟨g3, hS.below (hN ▸ b0)⟩)
  have I0 := Lib.hid (show NI name N w [] W0 from ⟨b0, by omega, g0, g2, (g1.more (Nat.zero_le _)).eq fun l => rfl⟩)
  have HUL := Lib.hid hS.len
  have HLOW := Lib.hid hlow
  have HFI := Lib.hid hfine
  have HIDS := Lib.hid hids
  have HN := Lib.hid hN
  rw [hW0]
  clear hW0 g0 g1 g2 g3 b0 hS hmm hfine hlow hids
  refine wp_range_itersA_box 7 (fun p : (St × Value) × Nat => [.int .i64 p.1.1.1, p.1.2]) 61 135 #[.pointer (some ⟨N + 3, 0, none⟩)] backVals (backs ss us) (BackCtx (N + 3) ρ (.slice so ss.length sc) ss us) (back_iter _ _ _ _ _ _ (by omega)) ?hen ?hps ?hg ?hcx C0.out
    (fun pre W => NI name N w pre W) (fun _ _ _ => False) ?hI ?hIx I0.out ?assign ?body ?done ?stop
  case hen => intro args w; rfl
  case hps => intro x; rfl
  case hg => rfl
  case hcx =>
    intro W W' hc ht
    rw [s0] at ht
    exact hc.touch ht (by omega) fun k hk => by have := HLOW.out k hk; omega
  case hI =>
    intro pre W W' hi ht
    rw [s0] at ht
    exact hi.keep ht
  case hIx => intro c pre W W' h; exact h.elim
  case assign =>
    intro l x W K hx hK
    obtain ⟨⟨x1, u1⟩, k1⟩ := x
    obtain ⟨hx1, hx2⟩ := backs_get hx
    obtain ⟨uo, uc, hus⟩ := (C0.out.at_.its _ _ _ hx2 hx1).shape
    simp only at hus
    subst hus
    have hv : backVals ((x1, .slice uo x1.2.length uc), k1) = #[.int .i64 k1, .agg #[.int .i64 x1.1, .slice uo x1.2.length uc]] := rfl
    rw [hv]
    rw [hv] at hK
    simp only at hK
    have HK := Lib.hid hK
    clear hK hv
    gi_wp2
    have h := HK.out
    simp at h
    exact h
  case body =>
    intro l pre x Bx W hi hc hBx hxB hpf
    rw [s0] at hBx ⊢
    have hx : x ∈ backs ss us := by obtain ⟨t, ht⟩ := hpf; rw [← ht]; simp
    obtain ⟨hx1, hx2⟩ := backs_get hx
    have hple : pre.length + 1 ≤ ss.length := by have h1 := hpf.length_le; rw [backs_len HUL.out] at h1; simpa using h1
    have hrow := hc.at_.its _ _ _ hx2 hx1
    have hfx := HFI.out _ (List.mem_of_getElem? hx1)
    have hxi := HIDS.out _ (List.mem_of_getElem? hx1)
    have hfl := hfx.1
    have HSN := Lib.hid (preN_snoc name.data.toList pre x)
    obtain ⟨⟨x1, u1⟩, k1⟩ := x
    simp only at hrow hfx hxi hfl hxB HSN
    obtain ⟨fo, fc, hu, hfc⟩ := FieldsAt.row hrow.1
    subst hu
    have hlg : ∀ g, fo = some ⟨g, 0, none⟩ → g < N := fun g e => HLOW.out g (by rw [hrow.2 g (by rw [e]; rfl)]; simp)
    have HLG := Lib.hid hlg
    have HFC := Lib.hid hfc
    have kx0 : W.cell? ⟨Bx, 0, none⟩ = some (.int .i64 x1.1) := by simp [World.cell?, hxB]
    have kx1 : W.cell? ⟨Bx, 1, none⟩ = some (.slice fo x1.2.length fc) := by simp [World.cell?, hxB]
    have hBl : Bx < W.heap.size := (Array.getElem?_eq_some_iff.1 hxB).1
    have hv : backVals ((x1, .slice fo x1.2.length fc), k1) = #[.int .i64 k1, .agg #[.int .i64 x1.1, .slice fo x1.2.length fc]] := rfl
    rw [hv]
    have HI := Lib.hid hi
    have HC := Lib.hid hc
    have HM0 := Lib.hid (hi.map.eq (g := fun l => if hasF name.data.toList l (x1.2.take 0) = true then x1.1 else preN name.data.toList pre l) fun l => by simp [hasF])
    have HFX := Lib.hid hfx.2
    have HKX := Lib.hid kx0
    have HK := Lib.hid (show ∀ l : List UInt8, (l = name.data.toList) ↔ ((⟨l.toArray⟩ : ByteArray) = name) from fun l => ⟨fun e => by rw [e], fun e => by rw [← e]⟩)
    obtain ⟨key, hkey⟩ : ∃ key, name.data.toList = key := ⟨_, rfl⟩
    rw [hkey] at HK HSN HM0
    have HKEYE := Lib.hid hkey
    clear hi hc hrow hfx hlg hfc hx hx1 hx2 hxB hv hpf kx0 hkey
    gi_wp2
    gi_loopw [18] (fun i wr => ∃ j : Nat, i = .int .i64 j ∧ j ≤ x1.2.length ∧ Hid (MapN wr (N + 1) (pre.length * 40 + j) (fun l => if hasF key l (x1.2.take j) = true then x1.1 else preN key pre l)) ∧ Hid (KeepBut W (N + 1) wr)) (fun i _ => x1.2.length - (intOf i).toNat)
    case atStart => exact ⟨0, rfl, Nat.zero_le _, HM0, Lib.hid (KeepBut.refl _ _)⟩
    case round =>
      clear HM0
      obtain ⟨j, rfl, hj, hM, hK⟩ := hrel
      have hzr := hK.out.size
      by_cases hlt : j < x1.2.length
      · obtain ⟨f, hf⟩ : ∃ f, x1.2[j]? = some f := ⟨_, List.getElem?_eq_getElem hlt⟩
        obtain ⟨g, rfl, hg, h1, h2⟩ := HFC.out j f hf
        have hgN := HLG.out g rfl
        have hfv := HFX.out f (List.mem_of_getElem? hf)
        have hbk := fun k (h1 : k < W.heap.size) (h2 : k ≠ N + 1) => hK.out.block k h1 h2
        have c1 : wr.cell? ⟨g, j * 2, none⟩ = some (.string ⟨f.key.toArray⟩) := (World.cell?_of_block (a := ⟨g, j * 2, none⟩) (hbk g hg (by omega))).trans h1
        have c2 : wr.cell? ⟨g, j * 2 + 1, none⟩ = some (.string ⟨f.val.toArray⟩) := (World.cell?_of_block (a := ⟨g, j * 2 + 1, none⟩) (hbk g hg (by omega))).trans h2
        have hzW := HI.out.size
        have k0 : wr.cell? ⟨N, 0, none⟩ = some (.string name) := (World.cell?_of_block (a := ⟨N, 0, none⟩) (hbk N (by omega) (by omega))).trans (by simp [World.cell?, HI.out.key])
        have k2 : wr.cell? ⟨N + 2, 0, none⟩ = some (.map (some (N + 1))) := (World.cell?_of_block (a := ⟨N + 2, 0, none⟩) (hbk (N + 2) (by omega) (by omega))).trans (by simp [World.cell?, HI.out.out])
        have kx : wr.cell? ⟨Bx, 0, none⟩ = some (.int .i64 x1.1) := (World.cell?_of_block (a := ⟨Bx, 0, none⟩) (hbk Bx hBl (by omega))).trans HKX.out
        have hN1 : N < wr.heap.size := by omega
        have hN2 : N + 2 < wr.heap.size := by omega
        have hBw : Bx < wr.heap.size := by omega
        have hNB : N + 1 < wr.heap.size := by omega
        have HTK : ∀ l, hasF key l (x1.2.take (j + 1)) = (hasF key l (x1.2.take j) || (f.key == key && f.val == l)) := fun l => by
          rw [List.take_add_one, hf]; exact hasF_snoc _ _ _ _
        have HT := Lib.hid HTK
        clear h1 h2 hf hbk HTK
        obtain ⟨fk, fv⟩ := f
        simp only at c1 c2 HT hfv
        obtain ⟨tv, htv⟩ : ∃ tv : ByteArray, (⟨fv.toArray⟩ : ByteArray) = tv := ⟨_, rfl⟩
        have htd : tv.data.toList = fv := by rw [← htv]
        rw [htv] at c2
        rw [← htd] at HT hfv
        have HK1 := Lib.hid (HK.out fk)
        obtain ⟨tk, htk⟩ : ∃ tk : ByteArray, (⟨fk.toArray⟩ : ByteArray) = tk := ⟨_, rfl⟩
        rw [htk] at c1 HK1
        clear htv htd htk
        by_cases hfk : tk = name
        · subst hfk
          have HT2 : Hid (∀ l, hasF key l (x1.2.take (j + 1)) = (hasF key l (x1.2.take j) || tv.data.toList == l)) := Lib.hid fun l => by
            rw [HT.out, HK1.out.2 rfl]; simp
          have hsz : tv.size ≤ maxLen := by rw [Lib.size_eq]; unfold maxLen; omega
          have HKEY := Lib.hid (WideMaps.keyOf_string_mk Tryz.underlying9 hsz)
          have hwf : (Lit.int .i64 (x1.1 : Int)).wf = true := WalkArith.wf_i64 (by omega)
          have HWF := Lib.hid (plainElem_int (H := Unit) Tryz.underlying3 hwf)
          obtain ⟨D, hown, h2⟩ := hM.out
          have hal := Below.heap_alloc wr (.cells #[.string tk, .string tv] 95) (N + 1) hNB
          have HO := Lib.hid (ownsMap_of_block hown hal)
          have H2 := Lib.hid h2
          have hK9 := Lib.hid (hK.out.below (below_grow1 wr (.cells #[.string tk, .string tv] 95)))
          clear HT HK1 hsz hwf hown h2 hal hM hK hfv
          gi_wp2_with (gi_at_mapUpdate; refine wpListIn_mapUpdate_own _ rfl _ _ _ 96 rfl 9 3 keyedS Tryz.underlying96 (plainElem Tryz.prog 3) (N + 1) (pre.length * 40 + j) D rfl HO.out (by unfold maxLen; omega) _ _ _ rfl rfl HKEY.out _ _ HWF.out ?_; intro w7 hm7 hg7; refine Hid.out ?_)
          refine Lib.hid ?_
          have HM7 := Lib.hid ((MapN.put (c := x1.1) (HO.out.tidy keyedS).isMap H2.out hm7).eq (g := fun l => if hasF key l (x1.2.take (j + 1)) = true then x1.1 else preN key pre l) fun l => by
            show (if l = tv.data.toList then x1.1 else if hasF key l (x1.2.take j) = true then x1.1 else preN key pre l) = _
            rw [HT2.out]
            by_cases e : l = tv.data.toList
            · subst e; simp
            · have e2 : ¬ tv.data.toList = l := fun k => e k.symm
              simp [e, e2])
          have HK7 := Lib.hid (hK9.out.grown hg7)
          clear hm7 hg7
          gi_wp2
          exact ⟨⟨j + 1, by go_num, by omega, HM7, HK7⟩, by simp [intOf]; omega⟩
        · have hfb : ¬ fk = key := fun e => hfk (HK1.out.1 e)
          have HT2 : Hid (∀ l, hasF key l (x1.2.take (j + 1)) = hasF key l (x1.2.take j)) := Lib.hid fun l => by
            rw [HT.out]; simp [hfb]
          have HE := Lib.hid (show (tk.toList == name.toList) = false by
            rw [beq_eq_false_iff_ne]; exact fun e => hfk (toList_inj e))
          have HE2 := HE.out
          have HM9 := Lib.hid (hM.out.block (Below.heap_alloc wr (.cells #[.string tk, .string tv] 95) (N + 1) hNB))
          have hK9 := Lib.hid (hK.out.below (below_grow1 wr (.cells #[.string tk, .string tv] 95)))
          clear HT HK1 hM hK hfv hfb
          gi_wp2
          exact ⟨⟨j + 1, by go_num, by omega, Lib.hid ((HM9.out.more (by omega)).eq fun l => by rw [HT2.out]), hK9⟩, by simp [intOf]; omega⟩
      · have HM8 := Lib.hid hM.out
        rw [List.take_of_length_le (by omega)] at HM8
        have HK8 := Lib.hid hK.out
        clear hM hK
        gi_wp2
        have hz := HI.out.size
        have hk := HK8.out
        refine ⟨⟨hzr, hk.block _ (by omega) (by omega), hk.block _ (by omega) (by omega), fun hc => ⟨(hk.block _ (by omega) (by omega)).trans hc.box, stanzas_but hc.at_ hk ?_⟩⟩, ⟨?_, by omega, (hk.block _ (by omega) (by omega)).trans HI.out.key, (hk.block _ (by omega) (by omega)).trans HI.out.out, ?_⟩⟩
        · cases hh : ρ (N + 1) with
          | none => rfl
          | some c => exact absurd (HLOW.out (N + 1) (by rw [hh]; simp)) (by omega)
        · exact ⟨hk.os.trans HI.out.below.os, hk.tape.trans HI.out.below.tape, hk.output.trans HI.out.below.output, Nat.le_trans HI.out.below.size hzr, fun k h1 => (hk.block k (by omega) (by omega)).trans (HI.out.below.block k h1)⟩
        · rw [List.length_append, List.length_singleton]
          refine (HM8.out.more (by omega)).eq fun l => ?_
          rw [HKEYE.out, HSN.out]
  case done =>
    intro W hi hz hK
    rw [s0] at hz hK ⊢
    have c2 : W.cell? ⟨N + 2, 0, none⟩ = some (.map (some (N + 1))) := by simp [World.cell?, hi.out]
    have HI := Lib.hid hi
    have HK := Lib.hid hK
    clear hi hK
    go_wp2_with fail
    have hsp : ∀ k, k ≠ N + 4 → (W.putObj (N + 4) (.deferred none)).heap[k]? = W.heap[k]? := fun k hk => World.putObj_heap_other (by omega)
    refine marks1 (v := .map (some (N + 1))) HK.out (by simp [results, Tryz.results52, go_sem]) ?_
    have hi := HI.out
    refine ⟨_, rfl, by omega, ?_, ⟨hi.below.os, hi.below.tape, hi.below.output, by have := hi.below.size; simp; omega, fun k hk => (hsp k (by omega)).trans (hi.below.block k (by omega))⟩⟩
    have h := hi.map.block (hsp (N + 1) (by omega))
    rw [backs_len HUL.out] at h
    refine h.eq fun l => ?_
    unfold preN
    rw [backs_all HUL.out]
  case stop => intro c pre W h1 h2; exact h2.elim
end Go.Proofs.YtjbnjlkoipkpoaaGreatDoor.T

namespace Go.Proofs.YtjbnjlkoipkpoaaGreatDoor.T
open Go.RowKit Go.Shelf Go.Maps
open Go.Proofs.YtjbnjlkoipkpoaaGreatDoor.B

theorem namedL_le {name l : L8} : ∀ {ss : List St}, (∀ x ∈ ss, x.1 ≤ 1000000) → namedL name l ss ≤ 1000000
  | [], _ => Nat.zero_le _
  | x :: r, h => by
    unfold namedL
    split
    · exact h x (by simp)
    · exact namedL_le fun y hy => h y (by simp [hy])
set_option maxRecDepth 100000 in
set_option maxHeartbeats 3200000 in
theorem named_any (q : Option Addr) (name word : ByteArray) (ss : List St) (w : World) (hm : ss.length ≤ 1000) (hfine : ∀ x ∈ ss, FsFine x.2) (hids : ∀ x ∈ ss, x.1 ≤ 1000000) (hwd : word.size ≤ 1000000)
    (HS : Calls Tryz.prog 30 #[.pointer q] w (StanzasPost ss w)) :
    Calls Tryz.prog 15 #[.pointer q, .string name, .string word] w fun e w' => e = .returned (.int .i64 (namedL name.data.toList word.data.toList ss : Nat)) ∧ Below w.heap.size w w' := by
  have ST := Lib.hid HS
  have HFI := Lib.hid hfine
  have HIDS := Lib.hid hids
  clear HS hfine hids
  go_enter Tryz.func15, Tryz.ntmps15
  go_wp2_with fail
  refine ST.out.mono ?_
  rintro e w2 ⟨v, ρ, us, rfl, hS, hρ, hb2⟩
  have NM := Lib.hid (names_any name v ρ ss us w2 hS hm HFI.out HIDS.out)
  have HB2 := Lib.hid hb2
  clear hS hρ hb2 ST
  go_wp2_with fail
  refine NM.out.mono ?_
  rintro e w3 ⟨B, rfl, hBz, hM, hb3⟩
  obtain ⟨D, hown, h2⟩ := hM
  have HO := Lib.hid hown
  have H2 := Lib.hid h2
  have HKEY := Lib.hid (WideMaps.keyOf_string_mk Tryz.underlying9 (s := word) (by unfold maxLen; omega))
  have HB3 := Lib.hid (HB2.out.trans (hb3.mono HB2.out.size))
  clear hown h2 hb3 NM
  go_wp2_with (at_lookup; refine wpList_lookup_own_int _ rfl _ _ 96 rfl 9 3 .i64 keyedS Tryz.underlying96 Tryz.underlying3 (zeroI _) B (ss.length * 40) D rfl HO.out _ _ rfl HKEY.out ?_; intro c hat _; refine Hid.out ?_)
  refine Lib.hid ?_
  rw [H2.out] at hat
  injection hat with hat
  injection hat with _ hat
  subst hat
  go_wp2
  go_ret
  exact ⟨rfl, HB3.out⟩
end Go.Proofs.YtjbnjlkoipkpoaaGreatDoor.T
