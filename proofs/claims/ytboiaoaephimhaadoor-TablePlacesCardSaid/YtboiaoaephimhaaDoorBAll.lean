/- Going through a list's stanzas: all, and the iterator that it makes. -/
import Derived.Test.YtboiaoaephimhaaDoorBListOf
import Derived.Test.YtboiaoaephimhaaDoorBRound
namespace Go.Proofs.YtboiaoaephimhaaDoor.B
open Go.RowKit Go.Shelf
attribute [local go_sem] Oper.semAt_some

theorem all_any (p : Option Addr) (w : World) : Calls Tryd.prog 46 #[.pointer p] w fun e w' => e = .returned (.func (.func 65) #[] #[.pointer (some ⟨w.heap.size, 0, none⟩)]) ∧ w' = w.alloc (.cells #[.pointer p] 32) := by
  go_enter Tryd.func46, Tryd.ntmps46
  go_wp2
  go_ret
  exact ⟨rfl, rfl⟩
theorem entCells_get : ∀ (es : List (It × Nat)) (vs : List Value) (k : Nat) (e : It × Nat) (u : Value), es[k]? = some e → vs[k]? = some u → (entCells es vs)[k * 4]? = some (.int .i64 e.1.kind) ∧ (entCells es vs)[k * 4 + 1]? = some (.string ⟨e.1.raw.toArray⟩) ∧ (entCells es vs)[k * 4 + 2]? = some u ∧ (entCells es vs)[k * 4 + 3]? = some (.int .i64 e.2)
  | [], vs, k, x, u, h, _ => by simp at h
  | y :: r, [], k, x, u, _, h => by simp at h
  | y :: r, v :: t, 0, x, u, h, h' => by simp at h h'; subst h; subst h'; exact ⟨rfl, rfl, rfl, rfl⟩
  | y :: r, v :: t, k + 1, x, u, h, h' => by
    obtain ⟨h1, h2, h3, h4⟩ := entCells_get r t k x u (by simpa using h) (by simpa using h')
    have e1 : (k + 1) * 4 = k * 4 + 1 + 1 + 1 + 1 := by omega
    rw [e1]
    have e : entCells (y :: r) (v :: t) = .int .i64 y.1.kind :: .string ⟨y.1.raw.toArray⟩ :: v :: .int .i64 y.2 :: entCells r t := rfl
    rw [e]
    exact ⟨by simpa using h1, by simpa using h2, by simpa using h3, by simpa using h4⟩
/-- What the iterator needs: the list's box (tb), and the list; all of it below N. -/
structure AllCtx (N tb : Nat) (ρ : Col) (b : Nat) (es : List (It × Nat)) (next many : Nat) (ve : Value) (vs : List Value) (W : World) : Prop where
  box : W.heap[tb]? = some (.cells #[.pointer (some ⟨b, 0, none⟩)] 32 (0, 0))
  tb : tb < N
  low : ∀ k, ρ k ≠ none → k < N
  at_ : ListAt W ρ b es next many ve vs
theorem AllCtx.keep {N tb : Nat} {ρ σ : Col} {b next many : Nat} {es : List (It × Nat)} {ve : Value} {vs : List Value} {W W' : World} (h : AllCtx N tb ρ b es next many ve vs W) (hk : Kept σ W W') (hσ : ∀ k, k < N → σ k = none) : AllCtx N tb ρ b es next many ve vs W' where
  box := (hk.block tb (Array.getElem?_eq_some_iff.1 h.box).1 (hσ _ h.tb)).trans h.box
  tb := h.tb
  low := h.low
  at_ := h.at_.keep (Ext.refl _ _) hk (fun g hg => hσ g (h.low g hg)) (h.at_.fits.more hk.size)
theorem AllCtx.below {N tb : Nat} {ρ : Col} {b next many : Nat} {es : List (It × Nat)} {ve : Value} {vs : List Value} {W W' : World} (h : AllCtx N tb ρ b es next many ve vs W) (hb : Below W.heap.size W W') : AllCtx N tb ρ b es next many ve vs W' :=
  h.keep (σ := fun _ => none) (Kept.below hb) fun _ _ => rfl
theorem AllCtx.touch {N tb : Nat} {ρ : Col} {b next many : Nat} {es : List (It × Nat)} {ve : Value} {vs : List Value} {W W' : World} (h : AllCtx N tb ρ b es next many ve vs W) (hb : Touch2 N W W') : AllCtx N tb ρ b es next many ve vs W' :=
  h.keep (σ := fun k => if k < N then none else some 0) ⟨hb.os, hb.tape, hb.output, hb.size, fun k hk hn => hb.block k hk (fun e => by rw [if_neg (by omega)] at hn; cases hn) (fun e => by rw [if_neg (by omega)] at hn; cases hn)⟩ fun k hk => if_pos hk
/-- The stanzas: the entries that have a number, and where their fields lie. -/
def stanzaPairs (es : List (It × Nat)) (vs : List Value) : List ((It × Nat) × Value) := (es.zip vs).filter fun p => decide (0 < p.1.2)
def pairVal (p : (It × Nat) × Value) : Value := .agg (entC p.1 p.2).toArray
theorem zip_get {α β : Type} (xs : List α) (ys : List β) (k : Nat) (x : α) (y : β) (hx : xs[k]? = some x) (hy : ys[k]? = some y) : (xs.zip ys)[k]? = some (x, y) := by
  rw [List.getElem?_zip_eq_some]; exact ⟨hx, hy⟩
theorem pairs_snoc (es : List (It × Nat)) (vs : List Value) (k : Nat) (e : It × Nat) (u : Value) (he : es[k]? = some e) (hu : vs[k]? = some u) :
    ((es.zip vs).take (k + 1)).filter (fun p => decide (0 < p.1.2)) = ((es.zip vs).take k).filter (fun p => decide (0 < p.1.2)) ++ (if 0 < e.2 then [(e, u)] else []) := by
  rw [List.take_add_one, zip_get es vs k e u he hu, List.filter_append]
  congr 1
  simp only [Option.toList]
  by_cases h : 0 < e.2 <;> simp [h]
theorem take_prefix_filter {α : Type} (p : α → Bool) (l : List α) (k : Nat) : (l.take k).filter p <+: l.filter p := by
  refine ⟨(l.drop k).filter p, ?_⟩
  rw [← List.filter_append, List.take_append_drop]
set_option maxHeartbeats 1600000 in
theorem all_iter (n N tb : Nat) (ρ : Col) (b next many : Nat) (es : List (It × Nat)) (ve : Value) (vs : List Value) (hlen : es.length ≤ 1000000) :
    Iters 65 #[.pointer (some ⟨tb, 0, none⟩)] pairVal (stanzaPairs es vs) (AllCtx N tb ρ b es next many ve vs) n := by
  intro l J Jx W hc hJ hY h0
  have hcb : W.cell? ⟨tb, 0, none⟩ = some (.pointer (some ⟨b, 0, none⟩)) := by simp [World.cell?, hc.box]
  have hvl := hc.at_.len
  obtain ⟨ao, ca, hv⟩ := hc.at_.row.shape
  subst hv
  have hc0 : W.cell? ⟨b, 0, none⟩ = some (.slice ao es.length ca) := cell_of_row _ b 0 _ _ hc.at_.blk.1
  have hbl := hc.at_.blk.lt
  refine callsIn_of_wp Tryd.func65 rfl trivial ?_ rfl
  simp only [Tryd.ntmps65, List.size_toArray, List.length_cons, List.length_nil, Nat.reduceAdd, Nat.reduceSub, Array.replicate_succ, Array.replicate_zero, List.push_toArray, List.append_toArray, List.nil_append, List.cons_append]
  have HJ := Lib.hid hJ
  have HY := Lib.hid hY
  have H0 := Lib.hid h0
  have HC := Lib.hid hc
  clear hJ hY h0 hc
  gi_wp2
  gi_loopw [12] (fun v wr => ∃ k : Nat, v = .int .i64 k ∧ k ≤ es.length ∧ Hid (AllCtx N tb ρ b es next many (.slice ao es.length ca) vs wr) ∧ Hid (J (((es.zip vs).take k).filter fun p => decide (0 < p.1.2)) wr))
    (fun v _ => es.length - (intOf v).toNat)
  case atStart => exact ⟨0, rfl, Nat.zero_le _, HC, by simpa using H0⟩
  case round =>
    obtain ⟨k, rfl, hk, hC, hj⟩ := hrel
    by_cases hlt : k < es.length
    · obtain ⟨e, he⟩ : ∃ e, es[k]? = some e := ⟨_, List.getElem?_eq_getElem hlt⟩
      obtain ⟨u, hu⟩ : ∃ u, vs[k]? = some u := ⟨_, List.getElem?_eq_getElem (by omega)⟩
      obtain ⟨g1, g2, g3, g4⟩ := entCells_get es vs k e u he hu
      have hrow := hC.out.at_.row.1
      obtain ⟨g, hg, hao⟩ : ∃ g, (Value.slice ao es.length ca).ownBlock = some g ∧ ao = some ⟨g, 0, none⟩ := by
        rcases hrow.2 with ⟨-, h0⟩ | ⟨g, cp', cur, hz, -⟩
        · omega
        · injection hz with z1 z2 z3
          exact ⟨g, by rw [z1]; rfl, z1⟩
      have e1 := hrow.cells hg _ _ g1
      have e2 := hrow.cells hg _ _ g2
      have e3 := hrow.cells hg _ _ g3
      have e4 := hrow.cells hg _ _ g4
      have hgl := (hrow.lt g hg).2
      rw [addr0] at e1 e2 e3 e4
      subst hao
      obtain ⟨uo, uc, hus⟩ := (hC.out.at_.its k u e hu he).shape
      have hsn := Lib.hid (pairs_snoc es vs k e u he hu)
      have hpf := Lib.hid (take_prefix_filter (fun p : (It × Nat) × Value => decide (0 < p.1.2)) (es.zip vs) (k + 1))
      clear g1 g2 g3 g4 hrow hg he hu
      subst hus
      obtain ⟨W1, hW1⟩ : ∃ W1, wr.alloc (.cells #[.int .i64 e.1.kind, .string ⟨e.1.raw.toArray⟩, (.slice uo e.1.fields.length uc), .int .i64 e.2] 65) = W1 := ⟨_, rfl⟩
      have hb1 : Below wr.heap.size wr W1 := by rw [← hW1]; exact below_grow1 wr _
      have hE : W1.heap[wr.heap.size]? = some (.cells #[.int .i64 e.1.kind, .string ⟨e.1.raw.toArray⟩, (.slice uo e.1.fields.length uc), .int .i64 e.2] 65 (0, 0)) := by rw [← hW1]; exact heap_alloc_new wr _
      have hj1 := Lib.hid (HJ.out _ _ _ hj.out hb1)
      have hC1 := Lib.hid (hC.out.below hb1)
      by_cases h0 : e.2 = 0
      · have p3 : ((e.2 : Int) > 0) = False := by simp; omega
        have hz : Hid (e.2 = 0) := Lib.hid h0
        have q3 : wr.cell? ⟨g, k * 4 + 3, none⟩ = some (.int .i64 0) := by rw [e4, h0]; rfl
        have hW1' : wr.alloc (.cells #[.int .i64 e.1.kind, .string ⟨e.1.raw.toArray⟩, (.slice uo e.1.fields.length uc), .int .i64 0] 65) = W1 := by rw [← hW1, h0]; rfl
        have HW1 := Lib.hid hW1'
        clear hb1 hE p3 e4 h0 hW1 hW1'
        gi_wp2
        refine ⟨(fun _ h => nomatch h), ?_⟩
        gi_wp2
        have h2 := hsn.out
        rw [if_neg (by have := hz.out; omega), List.append_nil] at h2
        rw [HW1.out]
        exact ⟨⟨k + 1, by go_num, by omega, hC1, by rw [h2]; exact hj1⟩, by simp [intOf]; omega⟩
      · have hz : 0 < e.2 := by omega
        have p0 : W1.cell? ⟨wr.heap.size, 0, none⟩ = some (.int .i64 e.1.kind) := by simp [World.cell?, hE]
        have p1 : W1.cell? ⟨wr.heap.size, 1, none⟩ = some (.string ⟨e.1.raw.toArray⟩) := by simp [World.cell?, hE]
        have p2 : W1.cell? ⟨wr.heap.size, 2, none⟩ = some (.slice uo e.1.fields.length uc) := by simp [World.cell?, hE]
        have p3 : W1.cell? ⟨wr.heap.size, 3, none⟩ = some (.int .i64 e.2) := by simp [World.cell?, hE]
        have hpf2 : Hid (((es.zip vs).take k).filter (fun p => decide (0 < p.1.2)) ++ [(e, Value.slice uo e.1.fields.length uc)] <+: stanzaPairs es vs) := Lib.hid (by
          have h2 := hsn.out
          rw [if_pos hz] at h2
          have h3 := hpf.out
          rw [h2] at h3
          exact h3)
        have Y := HY.out _ (e, .slice uo e.1.fields.length uc) W1 hj1.out hC1.out hpf2.out
        have hpv : pairVal (e, .slice uo e.1.fields.length uc) = .agg #[.int .i64 e.1.kind, .string ⟨e.1.raw.toArray⟩, .slice uo e.1.fields.length uc, .int .i64 e.2] := rfl
        rw [hpv] at Y
        obtain ⟨fn, tmps, assign, body, hy, hR⟩ := Y
        have HR := Lib.hid hR
        clear hE hb1 hR hpv
        have hgt : ((e.2 : Int) > 0) = True := by simp; omega
        gi_wp2
        refine ⟨wideOk, HR.out.mono ?_⟩
        clear HR
        rintro e' W3 (⟨rfl, hJ3, hk3⟩ | ⟨rfl, hJx3⟩)
        · have HJ3 := Lib.hid hJ3
          have HC3 := Lib.hid hk3
          clear hJ3 hk3
          gi_wp2
          go_roundw
          case rel =>
            refine ⟨k + 1, by go_num, by omega, HC3, ?_⟩
            have h2 := hsn.out
            rw [if_pos hz] at h2
            rw [h2]
            exact HJ3
          case measure => simp [intOf]; omega
        · gi_wp2
          refine bodyPost_ret (results_none rfl _ _ _) rfl ?_
          exact ⟨⟨_, rfl⟩, .inr ⟨_, hpf2.out, hJx3⟩⟩
    · gi_wp2
      go_end0
      have hkk : k = es.length := by omega
      refine ⟨⟨_, rfl⟩, .inl ?_⟩
      have := hj.out
      rw [List.take_of_length_le (by rw [List.length_zip]; omega)] at this
      exact this
end Go.Proofs.YtboiaoaephimhaaDoor.B
