/- slices.Collect(maps.Values(m)), at counts. -/
import Derived.Test.YtklbbcemacpimaaGreatDoorIUnited
import Derived.Shelf.SlIter.NilStops
import Derived.Shelf.SlIter.Collect
import Derived.RangeFuncFrom
namespace Go.Proofs.YtklbbcemacpimaaGreatDoor.I
open Go Go.Maps Go.Proofs Go.RowKit Go.Sort Go.Shelf
attribute [local go_sem] Oper.semAt_some

theorem valuesV_any (mb : Option Nat) (W : World) : Calls Tryz.prog 34 #[.map mb] W fun e w' => e = .returned (.func (.func 54) #[] #[.pointer (some ⟨W.heap.size, 0, none⟩)]) ∧ w' = W.alloc (.cells #[.map mb] 82) := by
  go_enter Tryz.func34, Tryz.ntmps34
  go_wp2_with fail
  go_ret
  exact ⟨rfl, rfl⟩
/-- All have come: each key once, in some order, with what the map holds there. -/
def AllVals (nn : Nat) (f : L8 → Option Nat) (rs : List (Option Nat)) : Prop :=
  rs.length ≤ nn ∧ ∃ ps : List (L8 × Option Nat), rs = ps.map (·.2) ∧ (∀ p ∈ ps, (f p.1).map some = some p.2) ∧ ∀ x, f x ≠ none → x ∈ ps.map (·.1)
set_option maxRecDepth 100000 in
set_option maxHeartbeats 1600000 in
theorem values_stops (n Bm b nn : Nat) (f : L8 → Option Nat) (w : World) (hn : 1 ≤ n) (hBm : Bm < w.heap.size) (hm : w.cell? ⟨Bm, 0, none⟩ = some (.map (some b))) (hown : KMap tys w b nn f) :
    SeqStops Fence.wide n Tryz.prog 54 #[.pointer (some ⟨Bm, 0, none⟩)] Value.map (AllVals nn f) (fun _ => True) nn w := by
  intro l J Jx W hW hJ _ hY h0
  have hm' : W.cell? ⟨Bm, 0, none⟩ = some (.map (some b)) := (hW.cell (p := ⟨Bm, 0, none⟩) hBm).trans hm
  obtain ⟨D0, hown, -, hat0, hhas⟩ := (MF.block hown (w' := W) (hW.block b hown.lt)).has
  have hsz := hown.size_le
  have HY := Lib.hid hY
  have HJ := Lib.hid hJ
  have H0 := Lib.hid h0
  clear hY hJ h0
  show CallsIn Fence.wide n Tryz.prog 54 #[.func (.yield l) #[] #[], .pointer (some ⟨Bm, 0, none⟩)] W _
  refine callsIn_of_wp Tryz.func54 rfl trivial ?_ rfl
  simp only [Tryz.ntmps54, List.size_toArray, List.length_cons, List.length_nil, Nat.reduceAdd, Nat.reduceSub, Array.replicate_succ, Array.replicate_zero, List.push_toArray, List.append_toArray, List.nil_append, List.cons_append]
  gi_wp2_with (first
    | (gi_at_range; refine wpListIn_range_own _ rfl _ 82 rfl 9 84 (string_keyed tys.hs) tys.hV _ b nn _ rfl hown ?_; intro w0 hrg0 hg0 hs0)
    | gi_in)
  try go_frame
  gi_loopw [4] (fun _ wr => ∃ (left : Lit → Bool) (cnt : Nat) (ps : List (L8 × Option Nat)), wr.ranges Tryz.prog 9 ptrEl.R b W.heap.size nn D0 left cnt ∧ ps.length + cnt ≤ Maps.size D0 ∧ Collected D0 left (ps.map (·.1)) ∧ (∀ p ∈ ps, (f p.1).map some = some p.2) ∧ J (ps.map (·.2)) wr)
    (fun _ wr => wr.rangeLeft b W.heap.size)
  case atStart =>
    exact ⟨_, _, [], hrg0, by simp, Collected.start D0, by simp, HJ.out [] W w0 none H0.out hg0 (fun r e => by cases e)⟩
  case round =>
    obtain ⟨left, cnt, ps, hrg, hcs, hC, hV, hJs⟩ := hrel
    gi_wp2_with (first
      | (gi_at_next; refine wpListIn_next_ranges _ rfl _ rfl 9 (string_keyed tys.hs) ptrEl.R encStr Value.map (fun key kl hk => by obtain ⟨x, hx, _⟩ := Maps.keyOf_str tys.hs hk; exact ⟨x, hx⟩) (fun v y hv => by obtain ⟨c, e, _⟩ := ptrEl.inv v y hv; exact ⟨c, e⟩) b W.heap.size nn _ _ _ rfl hrg ?_ ?_)
      | gi_in)
    · intro hc0 hl0
      gi_wp2
      go_end0
      refine ⟨⟨_, rfl⟩, .inl ⟨_, ⟨by rw [List.length_map]; omega, ps, rfl, hV, fun x hx => ?_⟩, hJs⟩⟩
      rw [hC.2 x, hl0]
      have := hhas x
      cases hfx : f x with
      | none => exact absurd hfx hx
      | some r => rw [hfx] at this; exact ⟨this, rfl⟩
    · intro x c kl yd yp w2 cnt2 hkey hlk hv hat hrg2 hlt hg2 hs2 hen
      obtain ⟨x', ex, rfl, _⟩ := Maps.keyOf_str tys.hs hkey
      obtain rfl : x = x' := encStr_inj ex
      obtain ⟨c', ec, ez⟩ := ptrEl.inv _ _ hv
      have hcc : c = c' := by injection ec
      subst hcc
      have hyd : yd = ptrEl.dat c := (Prod.mk.inj ez).1
      subst hyd
      have hfx : (f x).map some = some c := by
        have h1 := hat0 x (.lit (.int .i64 (-1)))
        have h2 := hat (.lit (.int .i64 (-1)))
        rw [show D0.atKey (mkS x) _ = _ from h2] at h1
        cases hfx : f x with
        | none =>
          rw [hfx] at h1
          cases c with
          | none => cases h1
          | some r =>
            simp only [Option.map_none] at h1
            injection h1 with h1
            injection h1 with _ h1
            omega
        | some r =>
          rw [hfx] at h1
          simp only [Option.map_some] at h1
          exact congrArg some (ptrEl.inj _ _ h1).symm
      have hJ2 : J (ps.map (·.2)) w2 := HJ.out _ wr w2 (some W.heap.size) hJs hg2 (fun r e => by cases e; exact ⟨Nat.le_refl _, hrg.iter_walk⟩)
      obtain ⟨fn, tmps, assign, body, hy, hR⟩ := HY.out (ps.map (·.2)) c w2 hJ2 (by simp; omega)
      have HC2 := Lib.hid (show Collected D0 (fun z => left z && !z.sameKey (.string x)) ((ps ++ [(x, c)]).map (·.1)) by simpa using hC.step hlk hat)
      have HV2 : Hid (∀ p ∈ ps ++ [(x, c)], (f p.1).map some = some p.2) := Lib.hid fun p hp => (List.mem_append.1 hp).elim (hV p) (fun e => by simp at e; subst e; exact hfx)
      clear hs2 hfx hat ec ez ex
      gi_wp2
      refine hR.mono ?_
      rintro e W3 (⟨rfl, hJ3, hk3⟩ | ⟨rfl, hJx3⟩)
      · gi_wp2
        have hrg3 := hrg2.of_walks hk3
        go_roundw
        case rel => exact ⟨_, cnt2, ps ++ [(x, c)], hrg3, by simp; omega, HC2.out, HV2.out, by simpa using hJ3⟩
        case measure => rw [hrg3.left_eq, hrg.left_eq]; exact hlt
      · gi_wp2
        refine bodyPost_ret (results_none rfl _ _ _) rfl ?_
        exact ⟨⟨_, rfl⟩, .inr ⟨_, trivial, by simpa using hJx3⟩⟩
set_option maxRecDepth 100000 in
set_option maxHeartbeats 1600000 in
theorem values_stops_nil (n Bm : Nat) (w : World) (hBm : Bm < w.heap.size) (hm : w.cell? ⟨Bm, 0, none⟩ = some (.map none)) :
    SeqStops Fence.wide n Tryz.prog 54 #[.pointer (some ⟨Bm, 0, none⟩)] Value.map (fun rs => rs = []) (fun _ => True) 0 w := by
  intro l J Jx W hW hJ _ _ h0
  have hm' : W.cell? ⟨Bm, 0, none⟩ = some (.map none) := (hW.cell (p := ⟨Bm, 0, none⟩) hBm).trans hm
  have FIN := Lib.hid (hJ [] W _ none h0 (World.grownBy_alloc W (.mapIter none 0 #[] 0) none) (fun r e => by cases e))
  clear hJ h0
  show CallsIn Fence.wide n Tryz.prog 54 #[.func (.yield l) #[] #[], .pointer (some ⟨Bm, 0, none⟩)] W _
  refine callsIn_of_wp Tryz.func54 rfl trivial ?_ rfl
  simp only [Tryz.ntmps54, List.size_toArray, List.length_cons, List.length_nil, Nat.reduceAdd, Nat.reduceSub, Array.replicate_succ, Array.replicate_zero, List.push_toArray, List.append_toArray, List.nil_append, List.cons_append]
  have hrg := run_range_nilMap (P := Tryz.prog) W 82 9 84 tys.hV
  have hnx : ∀ ty, (Instr.next (.pointer (some ⟨W.heap.size, 0, none⟩)) false ty).run Tryz.prog (W.alloc (.mapIter none 0 #[] 0)) = _ := fun ty => run_next_nilMap _ ty 0 0 #[]
  gi_wp2
  refine wpIn_loop_rounds 1 ?_
  rw [roundsIn_succ]
  gi_wp2
  go_end0
  exact ⟨⟨_, rfl⟩, .inl ⟨[], rfl, FIN.out⟩⟩
theorem infoC : (Tryz.prog.info? 84).map (fun i => (i.zero, i.size, i.bytes)) = some (some (.map none), 1, 8) := by kernel_rfl
theorem boxCell {W : World} {B : Nat} {v : Value} {t : TypeId} (h : W.heap[B]? = some (.cells #[v] t (0, 0))) : W.cell? ⟨B, 0, none⟩ = some v ∧ W.frozen? ⟨B, 0, none⟩ = false := by
  constructor <;> simp [World.cell?, World.frozen?, h]
theorem rowNot {W : World} {base : Nat} {e : TypeId} {size : Nat} {v : Value} {k : Nat} {xs : List Value} (h : W.ownsRow base e size v k xs) {j : Nat} {o : Obj} (hj : W.heap[j]? = some o) (hno : ∀ cur, o ≠ .cells cur e (0, 0)) :
    v.ownBlock = none ∨ v.ownBlock ≠ some j := by
  rcases h.2 with ⟨rfl, _⟩ | ⟨g, cap, cur, rfl, _, hgb, _⟩
  · exact .inl rfl
  · refine .inr fun e' => ?_
    have : g = j := by simpa [Value.ownBlock] using e'
    subst this; rw [hgb] at hj; cases hj; exact hno cur rfl
/-- Between two rounds of AppendSeq: what has come lies in a row of its own, boxed in block B. -/
def ApI (w : World) (B : Nat) (rs : List (Option Nat)) (W : World) : Prop :=
  ∃ v, W.heap[B]? = some (.cells #[v] 87 (0, 0)) ∧ W.ownsRow w.heap.size 84 1 v rs.length (rs.map Value.map)
theorem apI_own (w : World) (B : Nat) : _root_.Go.Own (ApI w B) := fun rs W W' row h hg hr => by
  obtain ⟨v, h1, h2⟩ := h
  refine ⟨v, (hg.block B (Array.getElem?_eq_some_iff.1 h1).1 fun e => ?_).trans h1, h2.kept hg ?_⟩
  · obtain ⟨o, ho, hc⟩ := hr B e.symm
    rw [h1] at ho; cases ho; cases hc
  · rcases h2.2 with ⟨rfl, _⟩ | ⟨g, cap, cur, rfl, _, hgb, _⟩
    · exact .inl rfl
    · refine .inr fun e' => ?_
      obtain ⟨o, ho, hc⟩ := hr g (by simpa [Value.ownBlock] using e'.symm)
      rw [hgb] at ho; cases ho; cases hc
set_option maxRecDepth 100000 in
set_option maxHeartbeats 1600000 in
theorem appendSeq_in (n : Nat) (hn : 2 ≤ n) (g : Nat) (lb : Array Value) (eg : ∀ args w, (callFunc g args).run Tryz.prog w = .ok (.enter g args) w) (S Sp : List (Option Nat) → Prop) (N : Nat) (hN : N ≤ 1000000000000) (w : World) (hseq : SeqStops Fence.wide (n - 1) Tryz.prog g lb Value.map S Sp N w) :
    CallsIn Fence.wide n Tryz.prog 53 #[.slice none 0 0, .func (.func g) #[] lb] w fun e w' => ∃ (v : Value) (rs : List (Option Nat)), e = .returned v ∧ S rs ∧ w'.ownsRow w.heap.size 84 1 v rs.length (rs.map Value.map) ∧ Below w.heap.size w w' := by
  have h1 : 1 ≤ n := by omega
  obtain ⟨i0, hi0, hz0, hz1, hz2⟩ := info_parts infoC
  refine callsIn_of_wp_marks Tryz.func53 rfl trivial ?_ rfl
  simp only [Tryz.ntmps53, List.size_toArray, List.length_cons, List.length_nil, Nat.reduceAdd, Nat.reduceSub, Array.replicate_succ, Array.replicate_zero, List.push_toArray, List.append_toArray, List.nil_append, List.cons_append]
  gi_wp2
  obtain ⟨W0, hW0⟩ : ∃ W0, w.alloc (.cells #[.slice none 0 0] 87) = W0 := ⟨_, rfl⟩
  have hs0 : W0.heap.size = w.heap.size + 1 := by rw [← hW0]; simp
  have hv0 : W0.heap[w.heap.size]? = some (.cells #[.slice none 0 0] 87 (0, 0)) := by rw [← hW0]; exact heap_alloc_new w _
  have hb0 : Below w.heap.size w W0 := by rw [← hW0]; exact below_grow1 w _
  rw [hW0]
  refine wpIn_rangeFunc_ownF rfl h1 (gf := g) (lb := lb) rfl trivial eg hseq walksK_t walksK_b hb0 (fun _ => rfl)
    (fun rs W => ApI w w.heap.size rs W ∧ Below w.heap.size w W)
    (fun _ _ _ => False)
    (OwnFrom.and (Own.from (apI_own w w.heap.size) _) (ownFrom_below (Nat.le_refl _) (by omega)))
    (fun _ _ _ _ _ hs _ _ => hs)
    ⟨⟨_, hv0, World.ownsRow_nil _ _ _ _⟩, hb0⟩
    (fun r => { tmps := #[.slice none 0 0, .func (.func g) #[] lb, .pointer (some ⟨w.heap.size, 0, none⟩), undef, .slice none 0 0, .map r, .func (.func g) #[] lb, .map r, undef, undef, undef, undef, undef], defers := [] }) ?assign ?body ?done ?stop
  case assign =>
    intro l x W K hK
    gi_wp2
    exact hK
  case body =>
    rintro l pre x W ⟨⟨v, hv, hrow⟩, hB⟩ hlen
    obtain ⟨hc, hf⟩ := boxCell hv
    have hne : (87 : TypeId) ≠ 84 := by decide
    have hBl : w.heap.size < W.heap.size := (Array.getElem?_eq_some_iff.1 hv).1
    gi_wp2_with (first
      | (gi_at_builtin; refine wpListIn_append_own _ rfl _ _ 87 rfl w.heap.size 84 i0 (.map none) 1 8 Tryz.underlying87 hi0 hz0 hz1 hz2 rfl (by decide) _ _ _ rfl (hrow.alloc _) ⟨W.heap.size, 0, none⟩ 1 1 [.map x] rfl rfl (cell_one_new _ _ _) (by simp [Value.oneCell']) (by unfold maxLen; omega) (by omega) (by simp; omega) ?_; intro v' w3 hown' hg3 hnil3
         have hg3' : (W.alloc (.cells #[.map x] 84)).grownBy w3 v.ownBlock := hg3
         have hv3 : w3.heap[w.heap.size]? = some (.cells #[v] 87 (0, 0)) := ((hg3'.block _ (by simp; omega) (by
           rcases rowNot hrow hv (fun cur e => hne (Obj.cells.inj e).2.1) with e | e
           · rw [e]; simp
           · exact fun e' => e e'.symm)).trans ((Below.heap_alloc _ _ _ hBl).trans hv))
         obtain ⟨hc3, hf3⟩ := boxCell hv3
         obtain ⟨g', cap', cur', rfl, hbase', hgb', hr1, hr2, hr3, hr4⟩ : ∃ g' cap' cur', v' = .slice (some ⟨g', 0, none⟩) (pre.length + 1) cap' ∧ w.heap.size ≤ g' ∧ w3.heap[g']? = some (.cells cur' 84 (0, 0)) ∧ pre.length + 1 ≤ cap' ∧ cap' ≤ maxLen ∧ cur'.size = cap' * 1 ∧ cur'.toList.take ((pre.length + 1) * 1) = pre.map Value.map ++ [.map x] := by
           rcases hown'.2 with ⟨_, h0⟩ | h'
           · exact absurd h0 (by omega)
           · exact h'
         try go_frame)
      | gi_in)
    obtain ⟨w4, hw4⟩ : ∃ w4, w3.setCell ⟨w.heap.size, 0, none⟩ (.slice (some ⟨g', 0, none⟩) (pre.length + 1) cap') = w4 := ⟨_, rfl⟩
    have hg4 : w3.grownBy w4 (some w.heap.size) := by
      rw [← hw4]
      exact ⟨rfl, rfl, rfl, by simp, fun k _ hk => Below.heap_setCell _ _ _ _ (fun e => hk (by rw [e]))⟩
    have hv4 : w4.heap[w.heap.size]? = some (.cells #[.slice (some ⟨g', 0, none⟩) (pre.length + 1) cap'] 87 (0, 0)) := by
      rw [← hw4]
      obtain ⟨hlt, hk⟩ := Array.getElem?_eq_some_iff.1 hv3
      show (w3.heap.modify w.heap.size _)[w.heap.size]? = _
      rw [Array.getElem?_eq_getElem (by rw [Array.size_modify]; exact hlt), Array.getElem_modify_self, hk]
      rfl
    have hko : KeepsOthers W w4 := (KeepsOthers.alloc W _).trans ((KeepsOthers.of_grownBy hg3' fun j o hj ho => by
      rcases (hrow.alloc (.cells #[.map x] 84)).2 with ⟨rfl, _⟩ | ⟨g2, c2, cu2, rfl, _, hgb2, _⟩
      · simp [Value.ownBlock] at hj
      · have : g2 = j := by simpa [Value.ownBlock] using hj
        subst this
        rw [hgb2] at ho; cases ho; rfl).trans (by rw [← hw4]; exact KeepsOthers.setCell _ _ _))
    have hb3 : Below w.heap.size w w3 := (hB.alloc hB.size _).grown hg3' (by simp; omega) (fun k e => (hrow.lt k e).1)
    have hb4 : Below w.heap.size w w4 := hb3.grown hg4 hb3.size (fun k e => by cases e; exact Nat.le_refl _)
    have hrow4 := hown'.kept hg4 (rowNot hown' hv3 (fun cur e => hne (Obj.cells.inj e).2.1))
    rw [hw4]
    exact ⟨hko, hko.walks, ⟨_, hv4, by simpa using hrow4⟩, hb4⟩
  case done =>
    rintro D rs W hD hS ⟨⟨v, hv, hrow⟩, hB⟩ hK
    obtain ⟨hc, hf⟩ := boxCell hv
    gi_wp2
    refine ⟨by simp, .inl ⟨_, _, rfl, run_takeDeferred hK, ?_⟩⟩
    have hne : (87 : TypeId) ≠ 84 := by decide
    exact ⟨_, results_tmp rfl _ _ _, v, rs, rfl, hS, hrow.kept (grownBy_putObj' _ _ _) (rowNot hrow hK (fun cur e => by cases e)), hB.trans (belowK_b (w := w) (Nat.le_refl _) W D _ _ (by omega) hK rfl rfl)⟩
  case stop =>
    rintro D c pre W _ _ h _
    exact h.elim
set_option maxRecDepth 100000 in
set_option maxHeartbeats 1600000 in
/-- 'slices.Collect(maps.Values(m))'. -/
theorem collect_any (b nn : Nat) (f : L8 → Option Nat) (w : World) (hown : KMap tys w b nn f) (hN : nn ≤ 1000000000000) :
    Calls Tryz.prog 33 #[.func (.func 54) #[] #[.pointer (some ⟨w.heap.size, 0, none⟩)]] (w.alloc (.cells #[.map (some b)] 82)) fun e w' => ∃ (v : Value) (rs : List (Option Nat)), e = .returned v ∧ AllVals nn f rs ∧ w'.ownsRow w.heap.size 84 1 v rs.length (rs.map Value.map) ∧ Below w.heap.size w w' := by
  have hs := values_stops 2 w.heap.size b nn f (w.alloc (.cells #[.map (some b)] 82)) (by omega) (by simp) (by simp) (MF.block hown (Below.heap_alloc _ _ b (MF.lt hown)))
  have AP := Lib.hid ((callsIn_wide (n := 3)).1 (appendSeq_in 3 (by omega) _ _ (enters_of Tryz.func54 (by kernel_rfl) rfl) _ _ nn hN _ hs))
  clear hs
  go_enter Tryz.func33, Tryz.ntmps33
  go_wp2_with fail
  refine AP.out.mono ?_
  rintro e w2 ⟨v, rs, rfl, h1, h2, h3⟩
  have FIN := Lib.hid (And.intro h1 (And.intro (rowLow (lo := w.heap.size) h2 (by simp)) ((below_grow1 w (.cells #[.map (some b)] 82)).trans (h3.mono (by simp)))))
  clear h1 h2 h3 AP
  go_wp2_with fail
  go_ret
  exact ⟨v, rs, rfl, FIN.out.1, FIN.out.2.1, FIN.out.2.2⟩
set_option maxRecDepth 100000 in
set_option maxHeartbeats 1600000 in
theorem collect_nil (w : World) :
    Calls Tryz.prog 33 #[.func (.func 54) #[] #[.pointer (some ⟨w.heap.size, 0, none⟩)]] (w.alloc (.cells #[.map none] 82)) fun e w' => ∃ (v : Value) (rs : List (Option Nat)), e = .returned v ∧ rs = [] ∧ w'.ownsRow w.heap.size 84 1 v rs.length (rs.map Value.map) ∧ Below w.heap.size w w' := by
  have hs := values_stops_nil 2 w.heap.size (w.alloc (.cells #[.map none] 82)) (by simp) (by simp)
  have AP := Lib.hid ((callsIn_wide (n := 3)).1 (appendSeq_in 3 (by omega) _ _ (enters_of Tryz.func54 (by kernel_rfl) rfl) _ _ 0 (by omega) _ hs))
  clear hs
  go_enter Tryz.func33, Tryz.ntmps33
  go_wp2_with fail
  refine AP.out.mono ?_
  rintro e w2 ⟨v, rs, rfl, h1, h2, h3⟩
  have FIN := Lib.hid (And.intro h1 (And.intro (rowLow (lo := w.heap.size) h2 (by simp)) ((below_grow1 w (.cells #[.map none] 82)).trans (h3.mono (by simp)))))
  clear h1 h2 h3 AP
  go_wp2_with fail
  go_ret
  exact ⟨v, rs, rfl, FIN.out.1, FIN.out.2.1, FIN.out.2.2⟩
end Go.Proofs.YtklbbcemacpimaaGreatDoor.I
