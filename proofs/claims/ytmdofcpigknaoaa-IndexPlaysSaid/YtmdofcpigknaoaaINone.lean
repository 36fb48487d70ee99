/- The index of no list; what a nil index does. -/
import Derived.Test.YtmdofcpigknaoaaIAsks
namespace Go.Proofs.Ytmdofcpigknaoaa.I
open Go Go.Maps Go.Proofs Go.RowKit Go.Sort Go.Shelf
attribute [local go_sem] Oper.semAt_some

theorem drop_nil (id : Int) (w : World) :
    Calls Try.prog 9 #[.pointer none, .int .i64 id] w fun e w' => e = .returned (.bool false) ∧ w' = w := by
  go_enter Try.func9, Try.ntmps9
  go_wp2_with fail
  go_ret
  exact ⟨rfl, rfl⟩
theorem put_nil (id : Int) (v : Value) (w : World) :
    Calls Try.prog 11 #[.pointer none, .int .i64 id, v] w fun e w' => e = .returned (.iface 50 (.int .i64 1)) ∧ w' = w := by
  go_enter Try.func11, Try.ntmps11
  go_wp2_with fail
  go_ret
  exact ⟨rfl, rfl⟩
theorem put_low (xb : Nat) (id : Int) (v : Value) (w : World) (hid : id < 1) :
    Calls Try.prog 11 #[.pointer (some ⟨xb, 0, none⟩), .int .i64 id, v] w fun e w' => e = .returned (.iface 50 (.int .i64 1)) ∧ w' = w := by
  go_enter Try.func11, Try.ntmps11
  go_wp2_with fail
  go_ret
  exact ⟨rfl, rfl⟩
theorem all_none (w : World) : Calls Try.prog 45 #[.pointer none] w fun e w' => e = .returned (.func (.func 55) #[] #[.pointer (some ⟨w.heap.size, 0, none⟩)]) ∧ w' = w.alloc (.cells #[.pointer none] 81) := by
  go_enter Try.func45, Try.ntmps45
  go_wp2_with fail
  go_ret
  exact ⟨rfl, rfl⟩
set_option maxRecDepth 100000 in
set_option maxHeartbeats 1600000 in
theorem stops_none (n Bm : Nat) (w : World) (hBm : Bm < w.heap.size) (hm : w.cell? ⟨Bm, 0, none⟩ = some (.pointer none)) :
    SeqStops Fence.wide n Try.prog 55 #[.pointer (some ⟨Bm, 0, none⟩)] (fun x : Empty => x.elim) (fun _ => True) (fun _ => True) 0 w := by
  intro l J Jx W hW _ _ _ h0
  have hm' : W.cell? ⟨Bm, 0, none⟩ = some (.pointer none) := (hW.cell (p := ⟨Bm, 0, none⟩) hBm).trans hm
  have H0 := Lib.hid h0
  clear h0
  show CallsIn Fence.wide n Try.prog 55 #[.func (.yield l) #[] #[], .pointer (some ⟨Bm, 0, none⟩)] W _
  refine callsIn_of_wp Try.func55 rfl trivial ?_ rfl
  simp only [Try.ntmps55, List.size_toArray, List.length_cons, List.length_nil, Nat.reduceAdd, Nat.reduceSub, Array.replicate_succ, Array.replicate_zero, List.push_toArray, List.append_toArray, List.nil_append, List.cons_append]
  gi_wp2
  refine bodyPost_ret (results_none rfl _ _ _) rfl ?_
  exact ⟨⟨_, rfl⟩, .inl ⟨[], H0.out⟩⟩
def BoxI (B : Nat) (_ : List Empty) (W : World) : Prop := W.heap[B]? = some (.cells #[.slice none 0 0] 29 (0, 0))
theorem boxI_own (B : Nat) : _root_.Go.Own (BoxI B) := fun rs W W' row h hg hr => by
  refine (hg.block B (Array.getElem?_eq_some_iff.1 h).1 fun e => ?_).trans h
  obtain ⟨o, ho, hc⟩ := hr B e.symm
  rw [show W.heap[B]? = _ from h] at ho; cases ho; cases hc
set_option maxRecDepth 100000 in
set_option maxHeartbeats 1600000 in
theorem stanzas_none (w : World) :
    Calls Try.prog 35 #[.pointer none] w fun e w' => e = .returned (.slice none 0 0) ∧ Below w.heap.size w w' := by
  refine (callsIn_wide (n := 9)).1 ?_
  have AL := Lib.hid fun w' => callsIn_wide (n := 8).2 (all_none w')
  refine callsIn_of_wp_marks Try.func35 rfl trivial ?_ rfl
  simp only [Try.ntmps35, List.size_toArray, List.length_cons, List.length_nil, Nat.reduceAdd, Nat.reduceSub, Array.replicate_succ, Array.replicate_zero, List.push_toArray, List.append_toArray, List.nil_append, List.cons_append]
  gi_wp2
  refine ⟨trivial, ?_⟩
  refine (AL.out _).mono ?_
  rintro e w3 ⟨rfl, rfl⟩
  gi_wp2
  obtain ⟨W0, hW0⟩ : ∃ W0, (w.alloc (.cells #[.slice none 0 0] 29)).alloc (.cells #[.pointer none] 81) = W0 := ⟨_, rfl⟩
  have s0 : W0.heap.size = w.heap.size + 2 := by rw [← hW0]; simp
  have g0 : W0.heap[w.heap.size]? = some (.cells #[.slice none 0 0] 29 (0, 0)) := by
    rw [← hW0]; exact (Below.heap_alloc _ _ _ (by simp)).trans (heap_alloc_new w _)
  have g1 : W0.cell? ⟨w.heap.size + 1, 0, none⟩ = some (.pointer none) := by
    have : W0.heap[w.heap.size + 1]? = some (.cells #[.pointer none] 81 (0, 0)) := by rw [← hW0]; have := heap_alloc_new (w.alloc (.cells #[.slice none 0 0] 29)) (.cells #[.pointer none] 81); simpa using this
    simp [World.cell?, this]
  have b0 : Below w.heap.size w W0 := by rw [← hW0]; exact (below_grow1 w _).alloc (by simp) _
  have hseq := stops_none 8 (w.heap.size + 1) W0 (by omega) g1
  rw [hW0]
  refine wpIn_rangeFunc_ownF rfl (by omega) (gf := 55) (lb := #[.pointer (some ⟨w.heap.size + 1, 0, none⟩)]) rfl trivial (enters_of Try.func55 (by kernel_rfl) rfl) hseq walksK_t walksK_b (Below.refl _ _) (fun x => x.elim)
    (fun rs W => BoxI w.heap.size rs W ∧ Below w.heap.size w W)
    (fun _ _ _ => False)
    (OwnFrom.and (Own.from (boxI_own w.heap.size) _) (ownFrom_below (Nat.le_refl _) (by omega)))
    (fun _ _ _ _ _ hs _ _ => hs)
    ⟨g0, b0⟩
    (fun x => x.elim) ?assign ?body ?done ?stop
  case assign => exact fun _ x => x.elim
  case body => exact fun _ _ x => x.elim
  case done =>
    rintro D rs W hD - ⟨hv, hB⟩ hK
    obtain ⟨hc, hf⟩ := boxCell hv
    gi_wp2
    refine ⟨by simp, .inl ⟨_, _, rfl, run_takeDeferred hK, ?_⟩⟩
    exact ⟨_, results_tmp rfl _ _ _, rfl, hB.trans (belowK_b (w := w) (Nat.le_refl _) W D _ _ (by omega) hK rfl rfl)⟩
  case stop =>
    rintro D c pre W _ _ h _
    exact h.elim
theorem of_none (w : World) : Calls Try.prog 17 #[.pointer none] w fun e w' => ∃ xb own, e = .returned (.pointer (some ⟨xb, 0, none⟩)) ∧ XAt own w' xb 0 [] ∧ Below w.heap.size w w' ∧ ∀ b, own b → w.heap.size ≤ b := by
  have NE := Lib.hid (new_any w)
  go_enter Try.func17, Try.ntmps17
  go_wp2_with fail
  refine NE.out.mono ?_
  rintro e w1 ⟨xb, own, rfl, hx, hb1, ho⟩
  have HOW := Lib.hid ho
  have HX := Lib.hid hx
  clear hx NE ho
  go_wp2_with fail
  refine (stanzas_none w1).mono ?_
  rintro e w2 ⟨rfl, hb2⟩
  have FX := Lib.hid (HX.out.below hb2)
  have FB := Lib.hid (hb1.trans (hb2.mono hb1.size))
  clear HX hb1 hb2
  go_wp2_with fail
  refine wp_loop_rounds 1 ?_
  rw [rounds_succ]
  go_wp2_with fail
  go_ret
  exact ⟨_, _, rfl, FX.out, FB.out, HOW.out⟩
end Go.Proofs.Ytmdofcpigknaoaa.I
