/- A list's stanzas: list.Stanzas. A text's list, and the stanzas that it has. The stanzas of no list: list.Stanzas of nil. -/
import Derived.Test.YtklbbcemacpimaaGreatDoorBAll
import Derived.Test.YtklbbcemacpimaaGreatDoorBSplit
import Derived.OrdersHeld
import Derived.Test.YtklbbcemacpimaaGreatDoorBLaw
namespace Go.Proofs.YtklbbcemacpimaaGreatDoor.B
open Go.RowKit Go.Shelf
attribute [local go_sem] Oper.semAt_some

/-- A stanza: its number, its fields. -/
abbrev St := Nat × List Fd
def stCells (ss : List St) (us : List Value) : List Value := (ss.zip us).flatMap fun p => [.int .i64 p.1.1, p.2]
theorem stCells_snoc {ss : List St} {us : List Value} (h : us.length = ss.length) (x : St) (u : Value) : stCells (ss ++ [x]) (us ++ [u]) = stCells ss us ++ [.int .i64 x.1, u] := by
  unfold stCells
  rw [List.zip_append h.symm, List.flatMap_append]
  simp
/-- Stanzas lie in a row. -/
structure StanzasAt (w : World) (ρ : Col) (v : Value) (ss : List St) (us : List Value) : Prop where
  row : Row w ρ 2 71 2 v ss.length (stCells ss us)
  len : us.length = ss.length
  its : ∀ (i : Nat) u x, us[i]? = some u → ss[i]? = some x → Row w ρ (5 + i) 57 2 u x.2.length (x.2.flatMap Fd.cells)
  fits : Fits w ρ
theorem StanzasAt.keep {w w' : World} {ρ ρ' σ : Col} {v : Value} {ss : List St} {us : List Value} (h : StanzasAt w ρ v ss us) (he : Ext w ρ ρ') (k : Kept σ w w') (hσ : ∀ g, ρ g ≠ none → σ g = none) (hf : Fits w' ρ') : StanzasAt w' ρ' v ss us where
  row := h.row.keep he k fun g hg => hσ g (by rw [hg]; simp)
  len := h.len
  its := fun i u x h1 h2 => (h.its i u x h1 h2).keep he k fun g hg => hσ g (by rw [hg]; simp)
  fits := hf
theorem StanzasAt.below {w w' : World} {ρ : Col} {v : Value} {ss : List St} {us : List Value} (h : StanzasAt w ρ v ss us) (hb : Below w.heap.size w w') : StanzasAt w' ρ v ss us :=
  h.keep (Ext.refl _ _) (σ := fun _ => none) (Kept.below hb) (fun _ _ => rfl) (h.fits.more hb.size)
theorem StanzasAt.nil (w : World) : StanzasAt w (fun _ => none) (.slice none 0 0) [] [] := ⟨Row.nil _ _ _ _ _, rfl, fun i u x h _ => by simp at h, fun k hk => absurd rfl hk⟩
/-- A stanza more. -/
theorem StanzasAt.add {w w0 w1 : World} {ρ : Col} {v : Value} {ss : List St} {us : List Value} {gg cap g cp : Nat} {x : St} (h : StanzasAt w ρ v ss us) (hb0 : Below w.heap.size w w0)
    (hu : w0.ownsRow 0 57 2 (.slice (some ⟨g, 0, none⟩) x.2.length cp) x.2.length (x.2.flatMap Fd.cells)) (hg : w.heap.size ≤ g) (hg' : g < w0.heap.size)
    (hown : w1.ownsRow 0 71 2 (.slice (some ⟨gg, 0, none⟩) (ss.length + 1) cap) (ss.length + 1) (stCells ss us ++ [.int .i64 x.1, .slice (some ⟨g, 0, none⟩) x.2.length cp])) (hgrow : w0.grownBy w1 v.ownBlock) (hat : v.ownBlock = some gg ∨ w0.heap.size ≤ gg) (hlt : gg < w1.heap.size) :
    ∃ ρ', StanzasAt w1 ρ' (.slice (some ⟨gg, 0, none⟩) (ss.length + 1) cap) (ss ++ [x]) (us ++ [.slice (some ⟨g, 0, none⟩) x.2.length cp]) ∧ Ext w ρ ρ' ∧ Kept ρ w w1 := by
  obtain ⟨ρ1, hρ1⟩ : ∃ ρ1, paint ρ g (5 + ss.length) = ρ1 := ⟨_, rfl⟩
  have he1 : Ext w ρ ρ1 := by rw [← hρ1]; exact paint_ext ρ _ hg
  have hf1 : Fits w0 ρ1 := by rw [← hρ1]; exact (h.fits.more hb0.size).paint hg'
  have h1 := h.keep he1 (σ := fun _ => none) (Kept.below hb0) (fun _ _ => rfl) hf1
  have hrow : Row w0 ρ1 (5 + ss.length) 57 2 (.slice (some ⟨g, 0, none⟩) x.2.length cp) x.2.length (x.2.flatMap Fd.cells) := ⟨hu, fun k hk => by
    simp only [Value.ownBlock, Option.some.injEq] at hk
    rw [← hk, ← hρ1]; exact paint_here _ _ _⟩
  obtain ⟨hr2, he2, hk2⟩ := h1.row.append hown hgrow hat
  refine ⟨_, ⟨?_, by simp [h.len], fun i u y hi hy => ?_, (hf1.more hk2.size).paint hlt⟩, he1.trans he2 hb0.size, (Kept.below hb0).trans he1 hk2.wide⟩
  · rw [List.length_append, stCells_snoc h.len]
    exact hr2
  · rcases Nat.lt_or_ge i ss.length with hlt | hge
    · rw [List.getElem?_append_left (by rw [h.len]; exact hlt)] at hi
      rw [List.getElem?_append_left hlt] at hy
      exact (h1.its i u y hi hy).keep he2 hk2 fun k hk => only_none (by rw [hk]; simp; omega)
    · rw [List.getElem?_append_right (by rw [h.len]; exact hge)] at hi
      rw [List.getElem?_append_right hge] at hy
      have hi0 : i - ss.length = 0 := by
        have := (List.getElem?_eq_some_iff.1 hy).1; simp at this; omega
      rw [h.len, hi0] at hi
      rw [hi0] at hy
      simp at hi hy
      subst hi; subst hy
      have : i = ss.length := by omega
      subst this
      exact hrow.keep he2 hk2 fun k hk => only_none (by rw [hk]; simp; omega)
theorem wpOp_step {P : Program} {ops : Array Oper} {Q : Exit → Act → World → Prop} {i : Nat} {o : Oper} {K0 : Act → World → Prop} {a : Act} {w : World} (hi : ops[i]? = some o)
    (h : ∀ K : Act → World → Prop, (∀ a' w', K0 a' w' → K a' w') → if Region.wanted o (yielded ops a.tmps) = true then Oper.wp P o a w K Q else K (a.put o.dst undef) w) : wpOp P ops Q i K0 a w := by
  have h := h K0 fun _ _ h => h
  unfold wpOp
  simp only [hi]
  split
  · rename_i hw
    rw [if_pos hw] at h
    exact .inl h
  · rename_i hw
    rw [if_neg hw] at h
    exact h
def stOf (p : (It × Nat) × Value) : St := (p.1.2, p.1.1.fields)
/-- Where the range stands. -/
structure SI (w : World) (ss : List St) (W : World) : Prop where
  below : Below w.heap.size w W
  size : w.heap.size + 2 ≤ W.heap.size
  ex : ∃ ρ v us, W.heap[w.heap.size]? = some (.cells #[v] 68 (0, 0)) ∧ StanzasAt W ρ v ss us ∧ ∀ k, k < w.heap.size + 4 → ρ k = none
theorem SI.keep {w : World} {ss : List St} {W W' : World} (h : SI w ss W) (hos : W'.os = W.os) (hta : W'.tape = W.tape) (hou : W'.output = W.output) (hsz : W.heap.size ≤ W'.heap.size) (hk : ∀ k, k < W.heap.size → k ≠ w.heap.size + 2 → k ≠ w.heap.size + 3 → W'.heap[k]? = W.heap[k]?) : SI w ss W' := by
  obtain ⟨ρ, v, us, h1, h2, h3⟩ := h.ex
  have hz := h.size
  refine ⟨⟨hos.trans h.below.os, hta.trans h.below.tape, hou.trans h.below.output, by omega, fun k hk' => (hk k (by omega) (by omega) (by omega)).trans (h.below.block k hk')⟩, by omega, ρ, v, us, (hk _ (by omega) (by omega) (by omega)).trans h1, ?_, h3⟩
  exact h2.keep (Ext.refl _ _) (σ := fun k => if k < w.heap.size + 4 then some 0 else none) ⟨hos, hta, hou, hsz, fun k hk1 hk2 => hk k hk1 (fun e => by rw [if_pos (by omega)] at hk2; cases hk2) (fun e => by rw [if_pos (by omega)] at hk2; cases hk2)⟩ (fun g hg => by
    by_cases e : g < w.heap.size + 4
    · exact absurd (h3 g e) hg
    · exact if_neg e) (h2.fits.more hsz)
theorem info73 : (Tryz.prog.info? 71).map (fun i => (i.zero, i.size, i.bytes)) = some (some (.agg #[.int .i64 0, .slice none 0 0]), 2, 32) := by kernel_rfl
theorem pair_row {N tb : Nat} {ρ : Col} {b next many : Nat} {es : List (It × Nat)} {ve : Value} {vs : List Value} {W : World} (h : AllCtx N tb ρ b es next many ve vs W) {x : (It × Nat) × Value} (hx : x ∈ stanzaPairs es vs) :
    W.ownsRow 0 57 2 x.2 x.1.1.fields.length (x.1.1.fields.flatMap Fd.cells) ∧ x.1 ∈ es ∧ 0 < x.1.2 := by
  unfold stanzaPairs at hx
  obtain ⟨h1, h2⟩ := List.mem_filter.1 hx
  obtain ⟨i, hi⟩ := List.mem_iff_getElem?.1 h1
  rw [List.getElem?_zip_eq_some] at hi
  exact ⟨(h.at_.its i _ _ hi.2 hi.1).1, List.mem_of_getElem? hi.1, by simpa using h2⟩
theorem pair_shape {N tb : Nat} {ρ : Col} {b next many : Nat} {es : List (It × Nat)} {ve : Value} {vs : List Value} {W : World} (h : AllCtx N tb ρ b es next many ve vs W) {x : (It × Nat) × Value} (hx : x ∈ stanzaPairs es vs) :
    ∃ uo uc, x.2 = .slice uo x.1.1.fields.length uc := by
  unfold stanzaPairs at hx
  obtain ⟨h1, h2⟩ := List.mem_filter.1 hx
  obtain ⟨i, hi⟩ := List.mem_iff_getElem?.1 h1
  rw [List.getElem?_zip_eq_some] at hi
  exact (h.at_.its i _ _ hi.2 hi.1).shape
theorem AllCtx.keep2 {N tb : Nat} {ρ σ : Col} {b next many : Nat} {es : List (It × Nat)} {ve : Value} {vs : List Value} {W W' : World} (h : AllCtx N tb ρ b es next many ve vs W) (hk : Kept σ W W') (h1 : σ tb = none) (hσ : ∀ g, ρ g ≠ none → σ g = none) : AllCtx N tb ρ b es next many ve vs W' where
  box := (hk.block tb (Array.getElem?_eq_some_iff.1 h.box).1 h1).trans h.box
  tb := h.tb
  low := h.low
  at_ := h.at_.keep (Ext.refl _ _) hk hσ (h.at_.fits.more hk.size)
/-- A row's block is of the row's type. -/
theorem row_other {W : World} {ρ : Col} {c : Nat} {e0 : TypeId} {size : Nat} {v : Value} {n : Nat} {xs : List Value} (h : Row W ρ c e0 size v n xs) {B : Nat} {cs : Array Value} {t : TypeId} {f : Nat × Nat} (hB : W.heap[B]? = some (.cells cs t f)) (ht : t ≠ e0) : v.ownBlock ≠ some B := by
  intro e
  rcases h.1.2 with ⟨h0, _⟩ | ⟨g, cap, cur, hv, hb, hg, _⟩
  · rw [h0] at e; simp [Value.ownBlock] at e
  · rw [hv] at e
    simp [Value.ownBlock] at e
    rw [e, hB] at hg
    injection hg with hg
    injection hg with _ hg _
    exact ht hg
/-- The end of a round. -/
theorem round_end {w W w2 w8 : World} {ρ ρ0 : Col} {O b next many gg cap g cp : Nat} {es : List (It × Nat)} {ve v : Value} {vs us : List Value} {ss : List St} {x : St} (hO : w.heap.size = O) (hB : Below O w W) (hc : AllCtx (O + 2) (O + 1) ρ0 b es next many ve vs W) (hl0 : ∀ k, ρ0 k ≠ none → k < O)
    (hv0 : W.heap[O]? = some (.cells #[v] 68 (0, 0))) (hst : StanzasAt W ρ v ss us) (hρ : ∀ k, k < O + 4 → ρ k = none) (h4 : O + 4 ≤ W.heap.size)
    (hb2 : Below W.heap.size W w2) (hu : w2.ownsRow 0 57 2 (.slice (some ⟨g, 0, none⟩) x.2.length cp) x.2.length (x.2.flatMap Fd.cells)) (hg : W.heap.size ≤ g) (hg' : g < w2.heap.size)
    (hown : w8.ownsRow 0 71 2 (.slice (some ⟨gg, 0, none⟩) (ss.length + 1) cap) (ss.length + 1) (stCells ss us ++ [.int .i64 x.1, .slice (some ⟨g, 0, none⟩) x.2.length cp])) (o : Obj) (hgrow : (w2.alloc o).grownBy w8 v.ownBlock) (hat : v.ownBlock = some gg ∨ gg = w2.heap.size + 1) (hlt : gg < w8.heap.size) :
    KeepC (O + 2) (AllCtx (O + 2) (O + 1) ρ0 b es next many ve vs) W (w8.setCell ⟨O, 0, none⟩ (.slice (some ⟨gg, 0, none⟩) (ss.length + 1) cap)) ∧ SI w (ss ++ [x]) (w8.setCell ⟨O, 0, none⟩ (.slice (some ⟨gg, 0, none⟩) (ss.length + 1) cap)) := by
  have hb3 : Below W.heap.size W (w2.alloc o) := hb2.alloc hb2.size o
  obtain ⟨ρ', hs', he', hk'⟩ := hst.add hb3 (ownsRow_of_block hu fun k hk => by
    simp only [Value.ownBlock, Option.some.injEq] at hk
    rw [← hk]; exact Below.heap_alloc _ _ _ hg') hg (by simp; omega) hown hgrow (hat.imp id fun e => by simp; omega) hlt
  obtain ⟨W9, hW9⟩ : ∃ W9, w8.setCell ⟨O, 0, none⟩ (.slice (some ⟨gg, 0, none⟩) (ss.length + 1) cap) = W9 := ⟨_, rfl⟩
  have hsz9 : W9.heap.size = w8.heap.size := by rw [← hW9]; simp
  have hoth : ∀ k, k ≠ O → W9.heap[k]? = w8.heap[k]? := fun k hk => by rw [← hW9]; exact Below.heap_setCell _ _ _ _ hk
  have hk9 : Kept (fun k => if k = O then some 0 else none) w8 W9 := ⟨by rw [← hW9]; rfl, by rw [← hW9]; rfl, by rw [← hW9]; rfl, by omega, fun k hk hn => hoth k fun e => by rw [if_pos e] at hn; cases hn⟩
  have hO8 : w8.heap[O]? = some (.cells #[v] 68 (0, 0)) := (hk'.block O (by omega) (hρ O (by omega))).trans hv0
  have hO9 : W9.heap[O]? = some (.cells #[.slice (some ⟨gg, 0, none⟩) (ss.length + 1) cap] 68 (0, 0)) := by rw [← hW9, setCell_block _ hO8]; rfl
  have hlow' : ∀ k, k < O + 4 → ρ' k = none := fun k hk => (he' k (by omega)).trans (hρ k hk)
  have hs9 := hs'.keep (Ext.refl _ _) hk9 (fun k hk => if_neg fun e => hk (by rw [e]; exact hlow' O (by omega))) (hs'.fits.more hk9.size)
  have hkW : ∀ k, k < O + 4 → k ≠ O → W9.heap[k]? = W.heap[k]? := fun k hk hne => (hoth k hne).trans (hk'.block k (by omega) (hρ k hk))
  have hsW : W.heap.size ≤ W9.heap.size := by have := hk'.size; omega
  have hkk : Kept (fun k => if k = O then some 0 else ρ k) W W9 := ⟨hk9.os.trans hk'.os, hk9.tape.trans hk'.tape, hk9.output.trans hk'.output, hsW, fun k hk hn => by
    by_cases e : k = O
    · rw [if_pos e] at hn; cases hn
    · rw [if_neg e] at hn; exact (hoth k e).trans (hk'.block k hk hn)⟩
  rw [hW9]
  refine ⟨⟨hsW, hkW _ (by omega) (by omega), hkW _ (by omega) (by omega), fun _ => ?_⟩, ⟨?_, by rw [hO]; omega, ρ', _, _, by rw [hO]; exact hO9, hs9, by rw [hO]; exact hlow'⟩⟩
  · exact hc.keep2 hkk (by rw [if_neg (by omega)]; exact hρ _ (by omega)) fun k hk => by
      have := hl0 k hk
      rw [if_neg (by omega)]; exact hρ _ (by omega)
  · rw [hO]
    exact ⟨hkk.os.trans hB.os, hkk.tape.trans hB.tape, hkk.output.trans hB.output, by have := hB.size; omega, fun k hk => (hkW k (by omega) (by omega)).trans (hB.block k hk)⟩
/-- What list.Stanzas answers. -/
def StanzasPost (ss : List St) (w : World) (e : Ending) (w' : World) : Prop := ∃ v ρ us, e = .returned v ∧ StanzasAt w' ρ v ss us ∧ (∀ k, k < w.heap.size → ρ k = none) ∧ Below w.heap.size w w'
set_option maxRecDepth 20000 in
set_option maxHeartbeats 3200000 in
theorem stanzas_any (w : World) (ρ0 : Col) (b next many : Nat) (es : List (It × Nat)) (ve : Value) (vs : List Value) (h : ListAt w ρ0 b es next many ve vs) (hlen : es.length ≤ 1000000)
    (hfs : ∀ e ∈ es, 0 < e.2 → 0 < e.1.fields.length ∧ e.1.fields.length ≤ 1000000) :
    Calls Tryz.prog 27 #[.pointer (some ⟨b, 0, none⟩)] w (StanzasPost ((stanzaPairs es vs).map stOf) w) := by
  refine calls_marks Tryz.func27 rfl ?_
  simp only [Tryz.ntmps27, List.size_toArray, List.length_cons, List.length_nil, Nat.reduceAdd, Nat.reduceSub, Array.replicate_succ, Array.replicate_zero, List.push_toArray, List.append_toArray, List.nil_append, List.cons_append]
  have HA := Lib.hid (fun w => all_any (some ⟨b, 0, none⟩) w)
  go_wp2_with fail
  refine (HA.out _).mono ?_
  rintro e w3 ⟨rfl, rfl⟩
  go_wp2_with fail
  obtain ⟨O, hO⟩ : ∃ O, w.heap.size = O := ⟨_, rfl⟩
  obtain ⟨W0, hW0⟩ : ∃ W0, (w.alloc (.cells #[.slice none 0 0] 68)).alloc (.cells #[.pointer (some ⟨b, 0, none⟩)] 23) = W0 := ⟨_, rfl⟩
  have s0 : W0.heap.size = O + 2 := by rw [← hW0]; simp [hO]
  have g0 : W0.heap[O]? = some (.cells #[.slice none 0 0] 68 (0, 0)) := by
    rw [← hW0, ← hO]; exact (Below.heap_alloc _ _ _ (by simp)).trans (heap_alloc_new w _)
  have g1 : W0.heap[O + 1]? = some (.cells #[.pointer (some ⟨b, 0, none⟩)] 23 (0, 0)) := by
    rw [← hW0, ← hO]; have := heap_alloc_new (w.alloc (.cells #[.slice none 0 0] 68)) (.cells #[.pointer (some ⟨b, 0, none⟩)] 23); simpa using this
  have b0 : Below w.heap.size w W0 := by rw [← hW0]; exact (below_grow1 w _).alloc (by simp) _
  have C0 : AllCtx W0.heap.size (O + 1) ρ0 b es next many ve vs W0 := ⟨g1, by omega, fun k hk => by have := h.fits k hk; omega, h.below b0⟩
  have I0 : SI w [] W0 := ⟨b0, by omega, fun _ => none, .slice none 0 0, [], by rw [hO]; exact g0, StanzasAt.nil _, fun _ _ => rfl⟩
  have hl0 : ∀ k, ρ0 k ≠ none → k < O := fun k hk => by have := h.fits k hk; omega
  have HL0 := Lib.hid hl0
  have B0 := Lib.hid b0
  have C0' := Lib.hid C0
  have I0' := Lib.hid I0
  clear h b0 C0 I0 g0 g1 hl0
  try rw [hW0]
  try rw [hO]
  clear hW0
  refine wp_range_iter_box 4 (fun x => entC x.1 x.2) 67 69 #[.pointer (some ⟨O + 1, 0, none⟩)] pairVal (stanzaPairs es vs) (AllCtx W0.heap.size (O + 1) ρ0 b es next many ve vs) (all_iter _ _ _ _ _ _ _ _ _ _ hlen) ?hen ?hg ?hcx C0'.out
    (fun pre W => SI w (pre.map stOf) W) (fun _ _ _ => False) ?hI ?hIx I0'.out ?assign ?body ?done ?stop
  case hen => intro args w; rfl
  case hg => rfl
  case hcx => intro W W' hc ht; exact hc.touch ht
  case hI =>
    intro pre W W' hi ht
    rw [s0] at ht
    exact hi.keep ht.os ht.tape ht.output ht.size fun k h1 h2 h3 => ht.block k h1 (by omega) (by omega)
  case hIx => intro c pre W W' h; exact h.elim
  case assign =>
    intro l x W K hx hK
    obtain ⟨uo, uc, hus⟩ := (pair_shape C0'.out hx)
    obtain ⟨x1, x2⟩ := x
    simp only at hus
    subst hus
    have hv : pairVal (x1, .slice uo x1.1.fields.length uc) = .agg #[.int .i64 x1.1.kind, .string ⟨x1.1.raw.toArray⟩, .slice uo x1.1.fields.length uc, .int .i64 x1.2] := rfl
    have hc : entC x1 (.slice uo x1.1.fields.length uc) = [.int .i64 x1.1.kind, .string ⟨x1.1.raw.toArray⟩, .slice uo x1.1.fields.length uc, .int .i64 x1.2] := rfl
    rw [hv]
    simp only [hv, hc] at hK
    have HK := Lib.hid hK
    clear hK hv hc
    gi_wp2
    have h := HK.out
    simp at h
    exact h
  case body =>
    intro l pre x Bx W hi hc hBx hxB hpf
    rw [s0] at hBx ⊢
    have hx : x ∈ stanzaPairs es vs := by obtain ⟨t, ht⟩ := hpf; rw [← ht]; simp
    obtain ⟨hrow, hmem, hpos⟩ := pair_row hc hx
    obtain ⟨uo, uc, hus⟩ := pair_shape hc hx
    have hff := hfs _ hmem hpos
    obtain ⟨x1, x2⟩ := x
    simp only at hus hrow hmem hpos hff
    subst hus
    obtain ⟨ρ, v, us, hv0, hst, hρ⟩ := hi.ex
    obtain ⟨so, sc, hvs⟩ := hst.row.shape
    subst hvs
    have hzW := hi.size
    rw [hO] at hv0 hρ hzW
    have hBl : Bx < W.heap.size := (Array.getElem?_eq_some_iff.1 hxB).1
    have hv : pairVal (x1, .slice uo x1.1.fields.length uc) = .agg #[.int .i64 x1.1.kind, .string ⟨x1.1.raw.toArray⟩, .slice uo x1.1.fields.length uc, .int .i64 x1.2] := rfl
    rw [hv]
    refine wpIn_block ?_
    refine wpIn_region_round (by kernel_rfl) (by kernel_rfl) ?hlets ?_
    case hlets =>
      rintro ⟨a, w, h⟩
      exact h
    have CL := Lib.hid (cloneF_any (.slice uo x1.1.fields.length uc) (x1.1.fields.flatMap Fd.cells) x1.1.fields.length W.drew hrow.drew hff.1 hff.2 (fdCells_one _))
    have hNB : (Value.slice so pre.length sc).ownBlock ≠ some Bx := by
      have h1 := row_other hst.row hxB (by decide)
      rwa [List.length_map] at h1
    have FIN := Lib.hid (fun w2 w8 gg cap g cp => round_end (w := w) (W := W) (w2 := w2) (w8 := w8) (gg := gg) (cap := cap) (g := g) (cp := cp) (x := (x1.2, x1.1.fields)) hO (hO ▸ hi.below) (s0 ▸ hc) HL0.out hv0 hst hρ (by omega))
    have hNO0 : (Value.slice so pre.length sc).ownBlock ≠ some O := fun e => by
      have h1 := hst.row.2 O (by rw [List.length_map]; exact e)
      rw [hρ O (by omega)] at h1; cases h1
    obtain ⟨i0, hi0, hz0, hz1, hz2⟩ := info_parts info73
    have hprl : pre.length < 1000000 := by
      have h1 := hpf.length_le
      have h2 : (stanzaPairs es vs).length ≤ es.length := Nat.le_trans (List.length_filter_le _ _) (by rw [List.length_zip]; omega)
      simp at h1; omega
    have hRow := Lib.hid hst
    have hpl : (pre.map stOf).length = pre.length := List.length_map ..
    rw [hpl] at FIN
    refine wpAny_of_held (S := fun w' => w'.cell? ⟨Bx, 2, none⟩ = some (.slice uo x1.1.fields.length uc) ∧ w'.cell? ⟨Bx, 3, none⟩ = some (.int .i64 x1.2)) _ _ _ _ ?_
    have S0 : (W.drew).cell? ⟨Bx, 2, none⟩ = some (.slice uo x1.1.fields.length uc) ∧ (W.drew).cell? ⟨Bx, 3, none⟩ = some (.int .i64 x1.2) := by
      constructor <;> (show W.cell? _ = _; simp [World.cell?, hxB, entC])
    refine wpAnyH_take (i := 1) (v := ?_) rfl (by kernel_rfl) (by kernel_rfl) (by kernel_rfl) (fun _ _ _ h => h) (Yields.yieldsIf (Or.inl ⟨by rfl, ?_⟩)) S0 ?_
    case refine_2 => intro w; go_simp; with_reducible rfl
    refine wpAnyH_take (i := 3) (v := ?_) rfl (by kernel_rfl) (by kernel_rfl) (by kernel_rfl) (fun _ _ _ h => h) (Yields.yieldsIf (Or.inl ⟨by rfl, ?_⟩)) S0 ?_
    case refine_2 => intro w; go_simp; with_reducible rfl
    refine wpAnyH_take (i := 4) (v := ?_) rfl (by kernel_rfl) (by kernel_rfl) (by kernel_rfl) (fun _ _ _ h => h) (Yields.yieldsIf (Or.inl ⟨by rfl, ?_⟩)) S0 ?_
    case refine_2 => intro w; go_simp; with_reducible rfl
    refine wpAnyH_take (i := 2) (v := ?_) rfl (by kernel_rfl) (by kernel_rfl) (by kernel_rfl) (fun _ _ _ h => h) (Or.inl ⟨by rfl, ?_⟩) S0 ?_
    case refine_2 => rintro w ⟨s2, s3⟩; go_simp; with_reducible rfl
    refine wpAnyH_take (i := 5) (v := ?_) rfl (by kernel_rfl) (by kernel_rfl) (by kernel_rfl) (fun _ _ _ h => h) (Or.inl ⟨by rfl, ?_⟩) S0 ?_
    case refine_2 => rintro w ⟨s2, s3⟩; go_simp; with_reducible rfl
    have hbox : W.drew.cell? ⟨O, 0, none⟩ = some (.slice so pre.length sc) := by show W.cell? _ = _; simp [World.cell?, hv0]
    refine wpAnyH_all (rs := [0, 6]) (by kernel_rfl) (by simp) ?_
    intro i hi6
    simp only [List.mem_cons, List.not_mem_nil, or_false] at hi6
    rcases hi6 with rfl | rfl
    case' inl =>
      refine wpOp_step rfl fun K hK => ?_
      go_simp
      refine hK _ _ ⟨S0, ?_⟩
      clear hK K
      refine wpAnyH_all (rs := [6]) (by kernel_rfl) (by simp) ?_
      intro i hi6
      simp only [List.mem_cons, List.not_mem_nil, or_false] at hi6
      subst hi6
      refine wpOp_step rfl fun K hK => ?_
      go_simp
      refine CL.out.mono ?_
      rintro e w2 ⟨g, cp, rfl, hg, hgl, ho2, hb2⟩
      have S2 := S0.imp (fun h => (hb2.cell (p := ⟨Bx, 2, none⟩) hBl).trans h) (fun h => (hb2.cell (p := ⟨Bx, 3, none⟩) hBl).trans h)
      have hbox2 := (hb2.cell (p := ⟨O, 0, none⟩) (show O < W.heap.size by omega)).trans hbox
      refine hK _ _ ⟨S2, ?_⟩
      clear hK K
      refine wpAnyH_take (i := 7) (v := ?_) rfl (by kernel_rfl) (by kernel_rfl) (by kernel_rfl) (fun _ _ _ h => h) (Yields.yieldsIf (Or.inl ⟨by rfl, ?_⟩)) S2 ?_
      case refine_2 => intro w; go_simp; with_reducible rfl
      have S3 := S2.imp (fun h => (((below_grow1 w2 (.cells #[.int .i64 x1.2, .slice (some ⟨g, 0, none⟩) x1.1.fields.length cp] 71)).cell (p := ⟨Bx, 2, none⟩) (Nat.lt_of_lt_of_le hBl hb2.size)).trans h)) (fun h => (((below_grow1 w2 (.cells #[.int .i64 x1.2, .slice (some ⟨g, 0, none⟩) x1.1.fields.length cp] 71)).cell (p := ⟨Bx, 3, none⟩) (Nat.lt_of_lt_of_le hBl hb2.size)).trans h))
      have hbox3 : (w2.alloc (.cells #[.int .i64 x1.2, .slice (some ⟨g, 0, none⟩) x1.1.fields.length cp] 71)).cell? ⟨O, 0, none⟩ = some (.slice so pre.length sc) := (((below_grow1 w2 _).cell (p := ⟨O, 0, none⟩) (Nat.lt_of_lt_of_le (show O < W.heap.size by omega) hb2.size))).trans hbox2
      refine wpAnyH_all (rs := [8]) (by kernel_rfl) (by simp) ?_
      intro i hi6
      simp only [List.mem_cons, List.not_mem_nil, or_false] at hi6
      subst hi6
      refine wpOp_step rfl fun K hK => ?_
      go_simp
      refine hK _ _ ⟨S3, ?_⟩
      clear hK K
    case' inr =>
      refine wpOp_step rfl fun K hK => ?_
      go_simp
      refine CL.out.mono ?_
      rintro e w2 ⟨g, cp, rfl, hg, hgl, ho2, hb2⟩
      have S2 := S0.imp (fun h => (hb2.cell (p := ⟨Bx, 2, none⟩) hBl).trans h) (fun h => (hb2.cell (p := ⟨Bx, 3, none⟩) hBl).trans h)
      have hbox2 := (hb2.cell (p := ⟨O, 0, none⟩) (show O < W.heap.size by omega)).trans hbox
      refine hK _ _ ⟨S2, ?_⟩
      clear hK K
      refine wpAnyH_take (i := 7) (v := ?_) rfl (by kernel_rfl) (by kernel_rfl) (by kernel_rfl) (fun _ _ _ h => h) (Yields.yieldsIf (Or.inl ⟨by rfl, ?_⟩)) S2 ?_
      case refine_2 => intro w; go_simp; with_reducible rfl
      have S3 := S2.imp (fun h => (((below_grow1 w2 (.cells #[.int .i64 x1.2, .slice (some ⟨g, 0, none⟩) x1.1.fields.length cp] 71)).cell (p := ⟨Bx, 2, none⟩) (Nat.lt_of_lt_of_le hBl hb2.size)).trans h)) (fun h => (((below_grow1 w2 (.cells #[.int .i64 x1.2, .slice (some ⟨g, 0, none⟩) x1.1.fields.length cp] 71)).cell (p := ⟨Bx, 3, none⟩) (Nat.lt_of_lt_of_le hBl hb2.size)).trans h))
      have hbox3 : (w2.alloc (.cells #[.int .i64 x1.2, .slice (some ⟨g, 0, none⟩) x1.1.fields.length cp] 71)).cell? ⟨O, 0, none⟩ = some (.slice so pre.length sc) := (((below_grow1 w2 _).cell (p := ⟨O, 0, none⟩) (Nat.lt_of_lt_of_le (show O < W.heap.size by omega) hb2.size))).trans hbox2
      refine wpAnyH_all (rs := [0, 8]) (by kernel_rfl) (by simp) ?_
      intro i hi6
      simp only [List.mem_cons, List.not_mem_nil, or_false] at hi6
      rcases hi6 with rfl | rfl
      case' inl =>
        refine wpOp_step rfl fun K hK => ?_
        go_simp
        refine hK _ _ ⟨S2, ?_⟩
        clear hK K
        refine wpAnyH_all (rs := [8]) (by kernel_rfl) (by simp) ?_
        intro i hi6
        simp only [List.mem_cons, List.not_mem_nil, or_false] at hi6
        subst hi6
        refine wpOp_step rfl fun K hK => ?_
        go_simp
        refine hK _ _ ⟨S3, ?_⟩
        clear hK K
      case' inr =>
        refine wpOp_step rfl fun K hK => ?_
        go_simp
        refine hK _ _ ⟨S3, ?_⟩
        clear hK K
        refine wpAnyH_all (rs := [0]) (by kernel_rfl) (by simp) ?_
        intro i hi6
        simp only [List.mem_cons, List.not_mem_nil, or_false] at hi6
        subst hi6
        refine wpOp_step rfl fun K hK => ?_
        go_simp
        refine hK _ _ ⟨S3, ?_⟩
        clear hK K
    all_goals
      refine wpAnyH_all (rs := [9]) (by kernel_rfl) (by simp) ?_
      intro i hi6
      simp only [List.mem_cons, List.not_mem_nil, or_false] at hi6
      subst hi6
      refine wpOp_step rfl fun K hK => ?_
      have hst3 := hRow.out.below (((Below.refl W.heap.size W).drew.trans hb2).trans ((below_grow1 w2 (.cells #[.int .i64 x1.2, .slice (some ⟨g, 0, none⟩) x1.1.fields.length cp] 71)).mono hb2.size))
      have hown3 := hst3.row.1
      rw [hpl] at hown3
      refine step_append_lies _ (by rfl) _ _ _ (by rfl) 0 71 i0 _ 2 32 Tryz.underlying68 hi0 hz0 hz1 hz2 rfl (by omega) (.slice so pre.length sc) pre.length (stCells (pre.map stOf) us) (by rfl) hown3 ⟨w2.heap.size, 0, none⟩ 1 1 [.int .i64 x1.2, .slice (some ⟨g, 0, none⟩) x1.1.fields.length cp] (by rfl) (by rfl) (World.news_of_block (heap_alloc_new w2 _)) (by simp [Value.oneCell']) (by omega) (by unfold maxLen; omega) (by omega) (by simp) (w2.heap.size + 1) (by simp) ?_
      intro gg cap w8 hown8 hgrow hat hlt8
      have hbs2 : W.heap.size ≤ w2.heap.size := hb2.size
      have S8 := S3.imp (fun h => (hgrow.cell_far ⟨Bx, 2, none⟩ (by simp; omega) (Ne.symm hNB)).trans h) (fun h => (hgrow.cell_far ⟨Bx, 3, none⟩ (by simp; omega) (Ne.symm hNB)).trans h)
      have hNO : (Value.slice so pre.length sc).ownBlock ≠ some O := hNO0
      have hbox8 := (hgrow.cell_far ⟨O, 0, none⟩ (by simp; omega) (Ne.symm hNO)).trans hbox3
      have hO8 : w8.heap[O]? = some (.cells #[.slice so pre.length sc] 68 (0, 0)) := by
        refine (hgrow.block O (by simp; omega) (Ne.symm hNO)).trans ((Below.heap_alloc _ _ _ (by omega)).trans ((hb2.block O (show O < W.heap.size by omega)).trans ?_))
        rw [← hpl]; exact hv0
      have hfr8 : w8.frozen? ⟨O, 0, none⟩ = false := by simp [World.frozen?, hO8]
      refine hK _ _ ⟨S8, ?_⟩
      clear hK K
      refine wpAnyH_all (rs := [10]) (by kernel_rfl) (by simp) ?_
      intro i hi6
      simp only [List.mem_cons, List.not_mem_nil, or_false] at hi6
      subst hi6
      refine wpOp_step rfl fun K hK => ?_
      go_simp
      have hOB : Bx ≠ O := by omega
      have S9 := S8.imp (fun h => (World.cell?_of_block (a := ⟨Bx, 2, none⟩) (Below.heap_setCell w8 ⟨O, 0, none⟩ (.slice (some ⟨gg, 0, none⟩) (pre.length + 1) cap) Bx hOB)).trans h) (fun h => (World.cell?_of_block (a := ⟨Bx, 3, none⟩) (Below.heap_setCell w8 ⟨O, 0, none⟩ (.slice (some ⟨gg, 0, none⟩) (pre.length + 1) cap) Bx hOB)).trans h)
      refine hK _ _ ⟨S9, ?_⟩
      clear hK K
      refine wpAnyH_done (by kernel_rfl) ?_ _
      have F := FIN.out w2 w8 gg cap g cp ((Below.refl W.heap.size W).drew.trans hb2) ho2 hg hgl hown8 _ hgrow hat hlt8
      show _ ∧ SI w ((pre ++ [_]).map stOf) _
      rw [List.map_append]
      exact F
  case done =>
    intro W hi hz hK
    rw [s0] at hz hK ⊢
    obtain ⟨ρ, v, us, hv0, hst, hρ⟩ := hi.ex
    rw [hO] at hv0 hρ
    obtain ⟨so, sc, hvs⟩ := hst.row.shape
    subst hvs
    have c3 : W.cell? ⟨O, 0, none⟩ = some (.slice so ((stanzaPairs es vs).map stOf).length sc) := by simp [World.cell?, hv0]
    rw [List.length_map] at c3
    have HI := Lib.hid hi.below
    have HS := Lib.hid hst
    have HR := Lib.hid hρ
    have HK := Lib.hid hK
    clear hi hst hρ hK hv0
    go_wp2_with fail
    have hsp : ∀ k, k ≠ O + 2 → (W.putObj (O + 2) (.deferred none)).heap[k]? = W.heap[k]? := fun k hk => World.putObj_heap_other (by omega)
    have hk9 : Kept (fun k => if k = O + 2 then some 0 else none) W (W.putObj (O + 2) (.deferred none)) := ⟨rfl, rfl, rfl, by simp, fun k hk hn => hsp k fun e => by rw [if_pos e] at hn; cases hn⟩
    have hr := HR.out
    refine marks1 (v := .slice so (stanzaPairs es vs).length sc) HK.out (by simp [results, Tryz.results27, go_sem]) ?_
    refine ⟨_, ρ, us, rfl, ?_, fun k hk => hr k (by omega), ⟨HI.out.os, HI.out.tape, HI.out.output, by have := HI.out.size; simpa using this, fun k hk => (hsp k (by omega)).trans (HI.out.block k hk)⟩⟩
    have hs9 := HS.out.keep (Ext.refl _ _) hk9 (fun k hk => if_neg fun e => hk (by rw [e]; exact hr _ (by omega))) (HS.out.fits.more hk9.size)
    rw [List.length_map] at hs9
    exact hs9
  case stop => intro c pre W h1 h2; exact h2.elim
end Go.Proofs.YtklbbcemacpimaaGreatDoor.B

namespace Go.Proofs.YtklbbcemacpimaaGreatDoor.B
open Go.RowKit Go.Shelf

/-- A text's stanzas: numbers and fields. -/
def stanzasOf (t : List UInt8) : List St := ((numberFrom 1 (parse t).st.items).filter fun e => decide (0 < e.2)).map fun e => (e.2, e.1.fields)
theorem pairs_st : ∀ (es : List (It × Nat)) (vs : List Value), vs.length = es.length → (stanzaPairs es vs).map stOf = (es.filter fun e => decide (0 < e.2)).map fun e => (e.2, e.1.fields)
  | [], vs, _ => by simp [stanzaPairs]
  | e :: r, [], h => by simp at h
  | e :: r, v :: t, h => by
    have ih := pairs_st r t (by simpa using h)
    unfold stanzaPairs at ih ⊢
    simp only [List.zip_cons_cons, List.filter_cons]
    by_cases hp : 0 < e.2
    · simp only [hp, decide_true, if_true, List.map_cons, ih]; rfl
    · simp only [hp, decide_false, Bool.false_eq_true, if_false, ih]
theorem number_mem : ∀ (n : Nat) (xs : List It) (e : It × Nat), 0 < n → e ∈ numberFrom n xs → e.1 ∈ xs ∧ (0 < e.2 ↔ e.1.kind = 3)
  | _, [], e, _, h => by simp [numberFrom] at h
  | n, x :: r, e, hn, h => by
    unfold numberFrom at h
    split at h
    · rename_i hx
      rcases List.mem_cons.1 h with rfl | h
      · exact ⟨by simp, by simp [hx, hn]⟩
      · obtain ⟨h1, h2⟩ := number_mem (n + 1) r e (by omega) h
        exact ⟨by simp [h1], h2⟩
    · rename_i hx
      rcases List.mem_cons.1 h with rfl | h
      · exact ⟨by simp, by simp [hx]⟩
      · obtain ⟨h1, h2⟩ := number_mem n r e hn h
        exact ⟨by simp [h1], h2⟩
theorem stanzasOf_fine {t : List UInt8} {x : St} (h : x ∈ stanzasOf t) : FsFine x.2 ∧ x.2 ≠ [] ∧ 0 < x.1 := by
  unfold stanzasOf at h
  obtain ⟨e, he, rfl⟩ := List.mem_map.1 h
  obtain ⟨h1, h2⟩ := List.mem_filter.1 he
  obtain ⟨h3, h4⟩ := number_mem 1 _ e (by omega) h1
  have h5 := (parse_fine t).items e.1 h3
  have h6 : 0 < e.2 := by simpa using h2
  exact ⟨h5.1, h5.2.1 (h4.1 h6), h6⟩
theorem number_recs : ∀ (n : Nat) (xs : List It), 0 < n → ((numberFrom n xs).filter fun e => decide (0 < e.2)).length = recsOf xs
  | _, [], _ => rfl
  | n, x :: r, hn => by
    unfold numberFrom
    by_cases hx : x.kind = 3
    · rw [if_pos hx]
      have ih := number_recs (n + 1) r (by omega)
      unfold recsOf at ih ⊢
      simp only [List.filter_cons, hn, decide_true, if_true, List.length_cons, hx, ih]
    · rw [if_neg hx]
      have ih := number_recs n r hn
      unfold recsOf at ih ⊢
      simp [hx, ih]
theorem stanzasOf_len (t : List UInt8) : (stanzasOf t).length = recsOf (parse t).st.items := by unfold stanzasOf; rw [List.length_map, number_recs 1 _ (by omega)]
theorem stanzasOf_few (t : List UInt8) : (stanzasOf t).length ≤ 400 := by rw [stanzasOf_len]; exact parse_few t
/-- The list of a text lies in block b. -/
def ListIn (w : World) (b : Nat) (t : List UInt8) : Prop := ∃ ρ ve vs, ListAt w ρ b (numberFrom 1 (parse t).st.items) (1 + recsOf (parse t).st.items) (recsOf (parse t).st.items) ve vs
theorem ListIn.below {w w' : World} {b : Nat} {t : List UInt8} (h : ListIn w b t) (hb : Below w.heap.size w w') : ListIn w' b t :=
  let ⟨ρ, ve, vs, h1⟩ := h
  ⟨ρ, ve, vs, h1.below hb⟩
theorem ListIn.lt {w : World} {b : Nat} {t : List UInt8} (h : ListIn w b t) : b < w.heap.size := let ⟨_, _, _, h1⟩ := h; h1.blk.lt
/-- list.Of, by its text. -/
theorem list_ok (s : ByteArray) (hs : s.size ≤ 60000) (w : World) (he : (parse s.data.toList).err = 0) :
    Calls Tryz.prog 6 #[.string s] w fun e w' => ∃ b, e = .returned (.tuple #[.pointer (some ⟨b, 0, none⟩), .nilIface]) ∧ ListIn w' b s.data.toList ∧ w.heap.size ≤ b ∧ Below w.heap.size w w' :=
  (listOf_any s hs w).mono fun e w' h => by
    unfold ListPost at h
    rw [if_pos he] at h
    obtain ⟨b, ρ, ve, vs, h1, h2, h3, h4⟩ := h
    refine ⟨b, h1, ⟨ρ, ve, vs, h2⟩, ?_, h4⟩
    rcases Nat.lt_or_ge b w.heap.size with hlt | hge
    · have := h3 b hlt
      rw [h2.blk.2] at this; cases this
    · exact hge
theorem list_no (s : ByteArray) (hs : s.size ≤ 60000) (w : World) (he : (parse s.data.toList).err ≠ 0) :
    Calls Tryz.prog 6 #[.string s] w fun e w' => ∃ g, e = .returned (.tuple #[.pointer none, faultV g]) ∧ Below w.heap.size w w' :=
  (listOf_any s hs w).mono fun e w' h => by
    unfold ListPost at h
    rwa [if_neg he] at h
/-- list.Stanzas, by the text. -/
theorem stanzas_in {w : World} {b : Nat} {s : ByteArray} (h : ListIn w b s.data.toList) (hs : s.size ≤ 60000) :
    Calls Tryz.prog 27 #[.pointer (some ⟨b, 0, none⟩)] w (StanzasPost (stanzasOf s.data.toList) w) := by
  obtain ⟨ρ, ve, vs, h1⟩ := h
  have h2 := stanzas_any w ρ b _ _ _ ve vs h1 (by rw [number_len]; exact items_bound (by rw [size_len]; exact hs)) (fun e he h0 => by
    obtain ⟨h3, h4⟩ := number_mem 1 _ e (by omega) he
    have h5 := (parse_fine s.data.toList).items e.1 h3
    have h6 := h5.2.1 (h4.1 h0)
    have h7 := h5.1.1
    exact ⟨List.length_pos_iff.2 h6, by omega⟩)
  rw [pairs_st _ _ h1.len] at h2
  exact h2
theorem len_in {w : World} {b : Nat} {t : List UInt8} (h : ListIn w b t) :
    Calls Tryz.prog 22 #[.pointer (some ⟨b, 0, none⟩)] w fun e w' => e = .returned (.int .i64 (stanzasOf t).length) ∧ w = w' := by
  obtain ⟨ρ, ve, vs, h1⟩ := h
  have hc : w.cell? ⟨b, 2, none⟩ = some (.int .i64 (recsOf (parse t).st.items : Nat)) := cell_of_row _ b 2 _ _ h1.blk.1
  rw [← stanzasOf_len] at hc
  clear h1
  go_enter Tryz.func22, Tryz.ntmps22
  go_wp2
  go_ret
  exact ⟨rfl, rfl⟩
end Go.Proofs.YtklbbcemacpimaaGreatDoor.B

namespace Go.Proofs.YtklbbcemacpimaaGreatDoor.B
open Go.RowKit Go.Shelf

def NilCtx (N tb : Nat) (W : World) : Prop := W.heap[tb]? = some (.cells #[.pointer none] 23 (0, 0)) ∧ tb < N
theorem nil_iter (n N tb : Nat) : Iters 69 #[.pointer (some ⟨tb, 0, none⟩)] pairVal [] (NilCtx N tb) n := by
  intro l J Jx W hc hJ hY h0
  have hcb : W.cell? ⟨tb, 0, none⟩ = some (.pointer none) := by simp [World.cell?, hc.1]
  refine callsIn_of_wp Tryz.func69 rfl trivial ?_ rfl
  simp only [Tryz.ntmps69, List.size_toArray, List.length_cons, List.length_nil, Nat.reduceAdd, Nat.reduceSub, Array.replicate_succ, Array.replicate_zero, List.push_toArray, List.append_toArray, List.nil_append, List.cons_append]
  have H0 := Lib.hid h0
  clear hJ hY h0 hc
  gi_wp2
  refine bodyPost_ret (results_none rfl _ _ _) rfl ?_
  exact ⟨⟨_, rfl⟩, .inl H0.out⟩
set_option maxRecDepth 20000 in
set_option maxHeartbeats 3200000 in
theorem stanzas_nil (w : World) : Calls Tryz.prog 27 #[.pointer none] w (StanzasPost [] w) := by
  refine calls_marks Tryz.func27 rfl ?_
  simp only [Tryz.ntmps27, List.size_toArray, List.length_cons, List.length_nil, Nat.reduceAdd, Nat.reduceSub, Array.replicate_succ, Array.replicate_zero, List.push_toArray, List.append_toArray, List.nil_append, List.cons_append]
  have HA := Lib.hid (fun w => all_any none w)
  go_wp2_with fail
  refine (HA.out _).mono ?_
  rintro e w3 ⟨rfl, rfl⟩
  go_wp2_with fail
  obtain ⟨O, hO⟩ : ∃ O, w.heap.size = O := ⟨_, rfl⟩
  obtain ⟨W0, hW0⟩ : ∃ W0, (w.alloc (.cells #[.slice none 0 0] 68)).alloc (.cells #[.pointer none] 23) = W0 := ⟨_, rfl⟩
  have s0 : W0.heap.size = O + 2 := by rw [← hW0]; simp [hO]
  have g0 : W0.heap[O]? = some (.cells #[.slice none 0 0] 68 (0, 0)) := by
    rw [← hW0, ← hO]; exact (Below.heap_alloc _ _ _ (by simp)).trans (heap_alloc_new w _)
  have g1 : W0.heap[O + 1]? = some (.cells #[.pointer none] 23 (0, 0)) := by
    rw [← hW0, ← hO]; have := heap_alloc_new (w.alloc (.cells #[.slice none 0 0] 68)) (.cells #[.pointer none] 23); simpa using this
  have b0 : Below w.heap.size w W0 := by rw [← hW0]; exact (below_grow1 w _).alloc (by simp) _
  have I0' : Hid (SI w [] W0) := Lib.hid ⟨b0, by omega, fun _ => none, .slice none 0 0, [], by rw [hO]; exact g0, StanzasAt.nil _, fun _ _ => rfl⟩
  have C0' : Hid (NilCtx W0.heap.size (O + 1) W0) := Lib.hid ⟨g1, by omega⟩
  clear b0 g0 g1
  try rw [hW0]
  try rw [hO]
  clear hW0
  refine wp_range_iter_box 4 (fun x => entC x.1 x.2) 67 69 #[.pointer (some ⟨O + 1, 0, none⟩)] pairVal [] (NilCtx W0.heap.size (O + 1)) (nil_iter _ _ _) ?hen ?hg ?hcx C0'.out
    (fun pre W => SI w (pre.map stOf) W) (fun _ _ _ => False) ?hI ?hIx I0'.out ?assign ?body ?done ?stop
  case hen => intro args w; rfl
  case hg => rfl
  case hcx => intro W W' hc ht; exact ⟨(ht.block _ (Array.getElem?_eq_some_iff.1 hc.1).1 (by have := hc.2; omega) (by have := hc.2; omega)).trans hc.1, hc.2⟩
  case hI =>
    intro pre W W' hi ht
    rw [s0] at ht
    exact hi.keep ht.os ht.tape ht.output ht.size fun k h1 h2 h3 => ht.block k h1 (by omega) (by omega)
  case hIx => intro c pre W W' h; exact h.elim
  case assign =>
    intro l x W K hx hK
    cases hx
  case body =>
    intro l pre x Bx W hi hc hBx hxB hpf
    have := hpf.length_le
    simp at this
  case done =>
    intro W hi hz hK
    rw [s0] at hz hK ⊢
    obtain ⟨ρ, v, us, hv0, hst, hρ⟩ := hi.ex
    rw [hO] at hv0 hρ
    obtain ⟨so, sc, hvs⟩ := hst.row.shape
    subst hvs
    have c3 : W.cell? ⟨O, 0, none⟩ = some (.slice so ([] : List St).length sc) := by simp [World.cell?, hv0]
    have HI := Lib.hid hi.below
    have HS := Lib.hid hst
    have HR := Lib.hid hρ
    have HK := Lib.hid hK
    clear hi hst hρ hK hv0
    go_wp2_with fail
    have hsp : ∀ k, k ≠ O + 2 → (W.putObj (O + 2) (.deferred none)).heap[k]? = W.heap[k]? := fun k hk => World.putObj_heap_other (by omega)
    have hk9 : Kept (fun k => if k = O + 2 then some 0 else none) W (W.putObj (O + 2) (.deferred none)) := ⟨rfl, rfl, rfl, by simp, fun k hk hn => hsp k fun e => by rw [if_pos e] at hn; cases hn⟩
    have hr := HR.out
    refine marks1 (v := .slice so ([] : List St).length sc) HK.out (by simp [results, Tryz.results27, go_sem]) ?_
    refine ⟨_, ρ, us, rfl, ?_, fun k hk => hr k (by omega), ⟨HI.out.os, HI.out.tape, HI.out.output, by have := HI.out.size; simpa using this, fun k hk => (hsp k (by omega)).trans (HI.out.block k hk)⟩⟩
    exact HS.out.keep (Ext.refl _ _) hk9 (fun k hk => if_neg fun e => hk (by rw [e]; exact hr _ (by omega))) (HS.out.fits.more hk9.size)
  case stop => intro c pre W h1 h2; exact h2.elim
end Go.Proofs.YtklbbcemacpimaaGreatDoor.B
