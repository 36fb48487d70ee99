/- Rows of stanzas, numbers, texts: where they lie; the reference's Drop and Put in plain words. -/
import Derived.Test.YtmdofcpigknaoaaINum
import Derived.Test.YtmdofcpigknaoaaICopy
import Derived.Deep.AppendLies
namespace Go.Proofs.Ytmdofcpigknaoaa.I
open Go Go.Maps Go.Proofs Go.RowKit Go.Sort

abbrev SOwn (N : Nat) (w : World) (v : Value) (ss : List L8) : Prop := w.ownsRow N 9 1 v ss.length (ss.map encStr)
abbrev IOwn (N : Nat) (w : World) (v : Value) (ss : List Int) : Prop := w.ownsRow N 3 1 v ss.length (ss.map encZ)
theorem own_low {N N' : Nat} {e : TypeId} {size n : Nat} {xs : List Value} {w : World} {v : Value} (h : w.ownsRow N e size v n xs) (hN : N' ≤ N) : w.ownsRow N' e size v n xs := by
  refine ⟨h.1, ?_⟩
  rcases h.2 with h0 | ⟨g, cap, cur, hv, hB2, hr⟩
  · exact .inl h0
  · exact .inr ⟨g, cap, cur, hv, by omega, hr⟩
theorem own_block {w w' : World} {base : Nat} {e : TypeId} {size : Nat} {v : Value} {n : Nat} {xs : List Value} (h : w.ownsRow base e size v n xs) (hk : ∀ g, v.ownBlock = some g → w'.heap[g]? = w.heap[g]?) : w'.ownsRow base e size v n xs := by
  refine ⟨h.1, ?_⟩
  rcases h.2 with h0 | ⟨g, cap, cur, rfl, hb, hg, r⟩
  · exact .inl h0
  · exact .inr ⟨g, cap, cur, rfl, hb, (hk g rfl).trans hg, r⟩
theorem own_below {N : Nat} {e : TypeId} {size n : Nat} {xs : List Value} {w w' : World} {v : Value} (h : w.ownsRow N e size v n xs) (hb : Below w.heap.size w w') : w'.ownsRow N e size v n xs := own_block h fun g hg => hb.block g (World.ownsRow.lt h g hg).2
theorem own_sh {w : World} {base : Nat} {e : TypeId} {size n : Nat} {v : Value} {xs : List Value} (h : w.ownsRow base e size v n xs) : ∃ ao c, v = .slice ao n c := by
  rcases h.2 with ⟨h1, h2⟩ | ⟨g, c, cur, h1, _⟩
  · exact ⟨none, 0, by rw [h1, h2]⟩
  · exact ⟨_, _, h1⟩
theorem SOwn.snoc {N gg cap : Nat} {w : World} {ss : List L8} {s : L8} {ts : ByteArray} (e : (⟨s.toArray⟩ : ByteArray) = ts) (h : w.ownsRow N 9 1 (.slice (some ⟨gg, 0, none⟩) (ss.length + 1) cap) (ss.length + 1) (ss.map encStr ++ [.string ts])) : SOwn N w (.slice (some ⟨gg, 0, none⟩) (ss.length + 1) cap) (ss ++ [s]) := by
  unfold SOwn
  rw [List.length_append, List.map_append]
  subst e
  exact h
theorem IOwn.snoc {N gg cap : Nat} {w : World} {ss : List Int} {s : Int} (h : w.ownsRow N 3 1 (.slice (some ⟨gg, 0, none⟩) (ss.length + 1) cap) (ss.length + 1) (ss.map encZ ++ [.int .i64 s])) : IOwn N w (.slice (some ⟨gg, 0, none⟩) (ss.length + 1) cap) (ss ++ [s]) := by
  unfold IOwn
  rw [List.length_append, List.map_append]
  exact h
theorem infoS : (Try.prog.info? 9).map (fun i => (i.zero, i.size, i.bytes)) = some (some (.string ⟨#[]⟩), 1, 16) := by kernel_rfl
theorem infoI : (Try.prog.info? 3).map (fun i => (i.zero, i.size, i.bytes)) = some (some (.int .i64 0), 1, 8) := by kernel_rfl
theorem infoSt : (Try.prog.info? 69).map (fun i => (i.zero, i.size, i.bytes)) = some (some (.agg #[.int .i64 0, .slice none 0 0]), 2, 32) := by kernel_rfl
theorem add_block (a : Addr) (k : Nat) : (a.add k).block = a.block := by unfold Addr.add; split <;> rfl
theorem geq_t (t : TypeId) (a b : ByteArray) : binOp .geq t (.string a) (.string b) = pure (.bool !(Op.bytesLess a.toList b.toList)) := by simp [binOp, Op.stringOp]
theorem leq_t (t : TypeId) (a b : ByteArray) : binOp .leq t (.string a) (.string b) = pure (.bool (Op.bytesLess a.toList b.toList || a.toList == b.toList)) := by simp [binOp, Op.stringOp]
/-- Stanzas lie in a row; it, and their fields, lie in blocks that are so. -/
def MsIn (A : Nat → Prop) (w : World) (v : Value) (m : Ms) : Prop :=
  ∃ (ao : Option Addr) (cp : Nat), v = .slice ao m.length cp ∧ ∀ (k : Nat) s, m[k]? = some s → ∃ g vf, ao = some ⟨g, 0, none⟩ ∧ A g ∧ w.cell? ⟨g, k * 2, none⟩ = some (.int .i64 s.1) ∧ w.cell? ⟨g, k * 2 + 1, none⟩ = some vf ∧ FldsIn A w vf s.2
theorem MsIn.keep {A : Nat → Prop} {w w' : World} {v : Value} {m : Ms} (h : MsIn A w v m) (hb : ∀ b, A b → w'.heap[b]? = w.heap[b]?) : MsIn A w' v m :=
  let ⟨ao, cp, h1, h2⟩ := h
  ⟨ao, cp, h1, fun k s hk => let ⟨g, vf, e, hg, c1, c2, hf⟩ := h2 k s hk
    ⟨g, vf, e, hg, by rw [← c1]; simp [World.cell?, hb g hg], by rw [← c2]; simp [World.cell?, hb g hg], hf.keep hb⟩⟩
theorem MsIn.below {A : Nat → Prop} {N : Nat} {w w' : World} {v : Value} {m : Ms} (h : MsIn A w v m) (hb : Below N w w') (hA : ∀ b, A b → b < N) : MsIn A w' v m := h.keep fun b hb' => hb.block b (hA b hb')
theorem MsIn.wide {A B : Nat → Prop} {w : World} {v : Value} {m : Ms} (h : MsIn A w v m) (hb : ∀ b, A b → B b) : MsIn B w v m :=
  let ⟨ao, cp, h1, h2⟩ := h
  ⟨ao, cp, h1, fun k s hk => let ⟨g, vf, e, hg, c1, c2, hf⟩ := h2 k s hk; ⟨g, vf, e, hb g hg, c1, c2, hf.wide hb⟩⟩
theorem MsIn.nil (A : Nat → Prop) (w : World) (ao : Option Addr) (cp : Nat) : MsIn A w (.slice ao 0 cp) [] := ⟨ao, cp, rfl, fun k s hk => by simp at hk⟩
/-- One stanza of a row. -/
theorem MsIn.at {A : Nat → Prop} {w : World} {ao : Option Addr} {n cp : Nat} {m : Ms} (h : MsIn A w (.slice ao n cp) m) {k : Nat} {s : Int × List Fld} (hk : m[k]? = some s) :
    ∃ g fo fc, ao = some ⟨g, 0, none⟩ ∧ g < w.heap.size ∧ w.cell? ⟨g, k * 2, none⟩ = some (.int .i64 s.1) ∧ w.cell? ⟨g, k * 2 + 1, none⟩ = some (.slice fo s.2.length fc) ∧ FldsIn A w (.slice fo s.2.length fc) s.2 := by
  obtain ⟨ao', cp', h1, h2⟩ := h
  injection h1 with e1 e2 e3
  subst e1
  obtain ⟨g, vf, e, hg, c1, c2, hf⟩ := h2 k s hk
  obtain ⟨⟨fo, fc, hv, -⟩, -⟩ := id hf
  subst hv
  exact ⟨g, fo, fc, e, World.block_lt_of_cell? _ _ c1, c1, c2, hf⟩
def stC (m : Ms) (us : List Value) : List Value := (m.zip us).flatMap fun p => [.int .i64 p.1.1, p.2]
theorem stC_snoc {m : Ms} {us : List Value} (h : us.length = m.length) (x : Int × List Fld) (u : Value) : stC (m ++ [x]) (us ++ [u]) = stC m us ++ [.int .i64 x.1, u] := by
  unfold stC
  rw [List.zip_append h.symm, List.flatMap_append]
  simp
theorem stC_get : ∀ (m : Ms) (us : List Value) (k : Nat) s u, m[k]? = some s → us[k]? = some u → (stC m us)[k * 2]? = some (.int .i64 s.1) ∧ (stC m us)[k * 2 + 1]? = some u
  | [], _, k, s, u, h, _ => by simp at h
  | _ :: _, [], k, s, u, _, h => by simp at h
  | a :: m, b :: us, 0, s, u, h1, h2 => by simp at h1 h2; subst h1; subst h2; exact ⟨rfl, rfl⟩
  | a :: m, b :: us, k + 1, s, u, h1, h2 => by
    obtain ⟨g1, g2⟩ := stC_get m us k s u (by simpa using h1) (by simpa using h2)
    have e1 : (k + 1) * 2 = k * 2 + 1 + 1 := by omega
    rw [e1]
    exact ⟨by simpa [stC] using g1, by simpa [stC] using g2⟩
/-- Stanzas in a row of one's own. -/
def MOwn (A : Nat → Prop) (N : Nat) (w : World) (v : Value) (m : Ms) : Prop :=
  ∃ us : List Value, us.length = m.length ∧ w.ownsRow N 69 2 v m.length (stC m us) ∧ ∀ (i : Nat) u s, us[i]? = some u → m[i]? = some s → FldsIn A w u s.2
theorem MOwn.nil (A : Nat → Prop) (N : Nat) (w : World) : MOwn A N w (.slice none 0 0) [] := ⟨[], rfl, World.ownsRow_nil _ _ _ _, fun i u s h _ => by simp at h⟩
theorem MOwn.row {A : Nat → Prop} {N : Nat} {w : World} {v : Value} {m : Ms} (h : MOwn A N w v m) : MsIn (fun b => A b ∨ (N ≤ b ∧ b < w.heap.size)) w v m := by
  obtain ⟨us, hl, hr, hf⟩ := h
  rcases hr.2 with ⟨h0, h1⟩ | ⟨g, cap, cur, hv, hb, hg, -⟩
  · refine ⟨none, 0, by rw [h1, h0], fun k f hk => ?_⟩
    have := (List.getElem?_eq_some_iff.1 hk).1; omega
  · refine ⟨_, cap, hv, fun k s hk => ?_⟩
    obtain ⟨u, hu⟩ : ∃ u, us[k]? = some u := ⟨_, List.getElem?_eq_getElem (by rw [hl]; exact (List.getElem?_eq_some_iff.1 hk).1)⟩
    obtain ⟨h3, h4⟩ := stC_get m us k s u hk hu
    have e1 := hr.cells (g := g) (by rw [hv]; rfl) _ _ h3
    have e2 := hr.cells (g := g) (by rw [hv]; rfl) _ _ h4
    rw [addr_add] at e1 e2
    rw [Nat.zero_add] at e1 e2
    exact ⟨g, u, rfl, .inr ⟨hb, (Array.getElem?_eq_some_iff.1 hg).1⟩, e1, e2, (hf k u s hu hk).wide fun _ => .inl⟩
theorem MOwn.alloc {A : Nat → Prop} {N : Nat} {w : World} {v : Value} {m : Ms} (h : MOwn A N w v m) (hA : ∀ b, A b → b < w.heap.size) (o : Obj) : MOwn A N (w.alloc o) v m :=
  let ⟨us, h1, h2, h3⟩ := h
  ⟨us, h1, World.ownsRow.alloc h2 o, fun i u s hu hs => (h3 i u s hu hs).keep fun b hb => Below.heap_alloc _ _ _ (hA b hb)⟩
theorem MOwn.low {A : Nat → Prop} {N N' : Nat} {w : World} {v : Value} {m : Ms} (h : MOwn A N w v m) (hN : N' ≤ N) : MOwn A N' w v m :=
  let ⟨us, h1, h2, h3⟩ := h
  ⟨us, h1, own_low h2 hN, h3⟩
theorem MOwn.wide {A B : Nat → Prop} {N : Nat} {w : World} {v : Value} {m : Ms} (h : MOwn A N w v m) (hb : ∀ b, A b → B b) : MOwn B N w v m :=
  let ⟨us, h1, h2, h3⟩ := h
  ⟨us, h1, h2, fun i u s hu hs => (h3 i u s hu hs).wide hb⟩
/-- A stanza more. -/
theorem MOwn.snoc {A : Nat → Prop} {N gg cap : Nat} {w w0 w8 : World} {v : Value} {m : Ms} {us : List Value} {s : Int × List Fld} {u : Value} (hl : us.length = m.length) (hf : ∀ (i : Nat) u s, us[i]? = some u → m[i]? = some s → FldsIn A w u s.2) (hs : FldsIn A w u s.2)
    (h : w8.ownsRow N 69 2 (.slice (some ⟨gg, 0, none⟩) (m.length + 1) cap) (m.length + 1) (stC m us ++ [.int .i64 s.1, u])) (hb : Below N w0 w) (hb8 : Below N w0 w8) (hA : ∀ b, A b → b < N) (hv : v = .slice (some ⟨gg, 0, none⟩) (m.length + 1) cap) : MOwn A N w8 v (m ++ [s]) := by
  subst hv
  have hk : ∀ b, A b → w8.heap[b]? = w.heap[b]? := fun b hb' => (hb8.block b (hA b hb')).trans (hb.block b (hA b hb')).symm
  refine ⟨us ++ [u], by simp [hl], ?_, fun i u' s' hu hs' => ?_⟩
  · rw [List.length_append, stC_snoc hl]; exact h
  · rcases Nat.lt_or_ge i m.length with hlt | hge
    · rw [List.getElem?_append_left (by rw [hl]; exact hlt)] at hu
      rw [List.getElem?_append_left hlt] at hs'
      exact (hf i u' s' hu hs').keep hk
    · rw [List.getElem?_append_right (by rw [hl]; exact hge)] at hu
      rw [List.getElem?_append_right hge] at hs'
      have hi0 : i - m.length = 0 := by have := (List.getElem?_eq_some_iff.1 hs').1; simp at this; omega
      rw [hl, hi0] at hu
      rw [hi0] at hs'
      simp at hu hs'
      subst hu; subst hs'
      exact hs.keep hk
/-! ### Drop, Put, by what has been gone through -/
theorem rDrop_snoc (p : Ms) (id : Int) (x : Int × List Fld) : rDrop (p ++ [x]) id = rDrop p id ++ (if x.1 = id then [] else [x]) := by
  unfold rDrop
  rw [List.filter_append]
  by_cases h : x.1 = id <;> simp [h]
def insDone (id : Int) (p : Ms) : Bool := p.any fun s => decide (id < s.1)
def insOut (id : Int) (fs : List Fld) (p : Ms) : Ms := if insDone id p = true then rIns id fs p else p
theorem rIns_done {id : Int} {fs : List Fld} (x : Int × List Fld) : ∀ {p : Ms}, insDone id p = true → rIns id fs (p ++ [x]) = rIns id fs p ++ [x]
  | [], h => by simp [insDone] at h
  | s :: r, h => by
    rw [List.cons_append]
    unfold rIns
    by_cases hs : id < s.1
    · simp [hs]
    · simp only [hs, if_false, List.cons_append]
      rw [rIns_done x (p := r) (by simpa [insDone, hs] using h)]
theorem rIns_not {id : Int} {fs : List Fld} (r : Ms) : ∀ {p : Ms}, insDone id p = false → rIns id fs (p ++ r) = p ++ rIns id fs r
  | [], _ => rfl
  | s :: t, h => by
    have h1 : ¬ id < s.1 ∧ insDone id t = false := by
      unfold insDone at h ⊢
      rw [List.any_cons, Bool.or_eq_false_iff] at h
      exact ⟨of_decide_eq_false h.1, h.2⟩
    rw [List.cons_append, rIns, if_neg h1.1, rIns_not r h1.2]
    rfl
theorem insDone_snoc (id : Int) (p : Ms) (x : Int × List Fld) : insDone id (p ++ [x]) = (insDone id p || decide (id < x.1)) := by simp [insDone]
theorem insOut_on {id : Int} {fs : List Fld} {p : Ms} {x : Int × List Fld} (h : insDone id p = true ∨ ¬ id < x.1) : insOut id fs (p ++ [x]) = insOut id fs p ++ [x] ∧ insDone id (p ++ [x]) = insDone id p := by
  unfold insOut
  rw [insDone_snoc]
  rcases h with h | h
  · rw [h, rIns_done x h]; simp
  · rw [decide_eq_false h]
    cases hd : insDone id p with
    | true => rw [rIns_done x hd]; simp
    | false => simp
theorem insOut_now {id : Int} {fs : List Fld} {p : Ms} {x : Int × List Fld} (hd : insDone id p = false) (h : id < x.1) : insOut id fs (p ++ [x]) = insOut id fs p ++ [(id, fs)] ++ [x] ∧ insDone id (p ++ [x]) = true := by
  unfold insOut
  rw [insDone_snoc, hd, decide_eq_true h, rIns_not [x] hd]
  simp [rIns, h]
theorem insOut_end {id : Int} {fs : List Fld} {l : Ms} : (insDone id l = true → insOut id fs l = rIns id fs l) ∧ (insDone id l = false → insOut id fs l ++ [(id, fs)] = rIns id fs l) := by
  unfold insOut
  constructor
  · intro h; rw [if_pos h]
  · intro h
    rw [if_neg (by rw [h]; simp)]
    have := rIns_not (fs := fs) [] h
    rw [List.append_nil] at this
    rw [this]; rfl
theorem insOut_len (id : Int) (fs : List Fld) (p : Ms) : (insOut id fs p).length ≤ p.length + 1 := by
  unfold insOut
  split
  · rw [rIns_len]; exact Nat.le_refl _
  · omega
theorem addOut_len (s : L8) (p : List L8) : (addOut s p).length ≤ p.length + 1 := by
  unfold addOut
  split
  · exact rAdd_len
  · omega
end Go.Proofs.Ytmdofcpigknaoaa.I
