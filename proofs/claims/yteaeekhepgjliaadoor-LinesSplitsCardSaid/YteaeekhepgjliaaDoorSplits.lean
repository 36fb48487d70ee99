/- The walk of the statement LinesSplits. -/
import Derived.Test.YteaeekhepgjliaaDoorRefSplit
import Derived.Test.YteaeekhepgjliaaDoorQuietIn
import Derived.StillTailTactics
namespace Go.Proofs.YteaeekhepgjliaaDoor
open Go.RowKit Go.Shelf
attribute [local go_sem] Oper.semAt_some

theorem bcell {W w1 : World} (hb : Below W.heap.size W w1) : (∀ b o, b < W.heap.size → w1.cell? ⟨b, o, none⟩ = W.cell? ⟨b, o, none⟩) ∧ (∀ b o, b < W.heap.size → w1.frozen? ⟨b, o, none⟩ = W.frozen? ⟨b, o, none⟩) :=
  ⟨fun b o h => hb.cell (p := ⟨b, o, none⟩) h, fun b o h => hb.frozen (p := ⟨b, o, none⟩) h⟩
/-- The text of some lines. -/
def textOf (xs : List LineD) : List UInt8 := (xs.map fun x => x.text ++ if x.ended then [10] else []).flatten
theorem textOf_snoc (xs : List LineD) (x : LineD) : textOf (xs ++ [x]) = textOf xs ++ (x.text ++ if x.ended then [10] else []) := by simp [textOf]
theorem line_text (l : List UInt8) : (ahead 10 l ++ if has 10 l then [10] else []) ++ behind 10 l = l := by
  rcases hc : has 10 l with _ | _
  · rw [ahead_none _ _ hc, behind_none _ _ hc]; simp
  · have := ahead_append 10 l hc
    simpa using this
theorem split_text (size : Nat) : ∀ (f no : Nat) (l : List UInt8), l.length ≤ f → textOf (splitFrom size f no l) = l
  | 0, no, l, h => by
    obtain rfl : l = [] := by rw [← List.length_eq_zero_iff]; omega
    rfl
  | f + 1, no, l, h => by
    by_cases hl : l = []
    · subst hl; rfl
    · obtain ⟨f', hf, h1, h2⟩ := splitFrom_cons size (f + 1) no l hl h
      obtain rfl : f = f' := by omega
      rw [h2]
      show (ahead 10 l ++ if has 10 l then [10] else []) ++ textOf (splitFrom size f (no + 1) (behind 10 l)) = l
      rw [split_text size f _ _ h1, line_text l]
theorem split_at (size : Nat) : ∀ (f no : Nat) (l : List UInt8) (pre : List LineD) (x : LineD), l.length ≤ f → l.length ≤ size → pre ++ [x] <+: splitFrom size f no l →
    x.no = no + pre.length ∧ x.at_ = size - l.length + (textOf pre).length
  | 0, no, l, pre, x, h, hs, hp => by
    have := hp.length_le
    simp [splitFrom] at this
  | f + 1, no, l, pre, x, h, hs, hp => by
    by_cases hl : l = []
    · subst hl
      have := hp.length_le
      simp [splitFrom] at this
    · obtain ⟨f', hf, h1, h2⟩ := splitFrom_cons size (f + 1) no l hl h
      obtain rfl : f = f' := by omega
      rw [h2] at hp
      have ht := congrArg List.length (line_text l)
      rw [List.length_append] at ht
      cases pre with
      | nil =>
        have := (List.cons_prefix_cons.1 hp).1
        rw [this]; simp [textOf]
      | cons y r =>
        obtain ⟨e, hp'⟩ := List.cons_prefix_cons.1 hp
        obtain ⟨i1, i2⟩ := split_at size f (no + 1) (behind 10 l) r x h1 (by omega) hp'
        refine ⟨by rw [i1]; simp; omega, ?_⟩
        rw [i2, e]
        have e2 : textOf (⟨no, size - l.length, ahead 10 l, has 10 l⟩ :: r) = (ahead 10 l ++ if has 10 l then [10] else []) ++ textOf r := by simp [textOf]
        rw [e2, List.length_append]
        omega
theorem splitL_text (l : List UInt8) : textOf (splitL l) = l := split_text _ _ _ _ (Nat.le_refl _)
theorem splitL_at {l : List UInt8} {pre : List LineD} {x : LineD} (h : pre ++ [x] <+: splitL l) : x.no = pre.length ∧ x.at_ = (textOf pre).length := by
  have := split_at l.length l.length 0 l pre x (Nat.le_refl _) (Nat.le_refl _) h
  simpa using this
theorem splitL_get {l : List UInt8} {pre : List LineD} {x : LineD} (h : pre ++ [x] <+: splitL l) : pre.length < (splitL l).length ∧ (splitL l)[pre.length]? = some x := by
  obtain ⟨r, hr⟩ := h
  rw [← hr]
  simp
theorem textOf_prefix {l : List UInt8} {pre : List LineD} (h : pre <+: splitL l) : (textOf pre).length ≤ l.length := by
  obtain ⟨r, hr⟩ := h
  have := congrArg List.length (splitL_text l)
  rw [← hr] at this
  simp [textOf] at this ⊢
  omega
theorem alloc4 (w : World) (a b c d : Obj) : ((((w.alloc a).alloc b).alloc c).alloc d).heap[w.heap.size]? = some a ∧ ((((w.alloc a).alloc b).alloc c).alloc d).heap[w.heap.size + 1]? = some b ∧ ((((w.alloc a).alloc b).alloc c).alloc d).heap[w.heap.size + 2]? = some c ∧
    ((((w.alloc a).alloc b).alloc c).alloc d).heap[w.heap.size + 3]? = some d ∧ ∀ k, k < w.heap.size → ((((w.alloc a).alloc b).alloc c).alloc d).heap[k]? = w.heap[k]? := by
  have e : ((((w.alloc a).alloc b).alloc c).alloc d).heap = (((w.heap.push a).push b).push c).push d := rfl
  rw [e]
  refine ⟨?_, ?_, ?_, ?_, fun k hk => ?_⟩ <;> simp only [Array.getElem?_push, Array.size_push]
  · rw [if_neg (by omega), if_neg (by omega), if_neg (by omega), if_pos trivial]
  · rw [if_neg (by omega), if_neg (by omega), if_pos trivial]
  · rw [if_neg (by omega), if_pos trivial]
  · rw [if_pos trivial]
  · rw [if_neg (by omega), if_neg (by omega), if_neg (by omega), if_neg (by omega)]
theorem rowCells_get : ∀ (xs : List LineD) (p : Nat) (x : LineD), xs[p]? = some x → ∀ j, j < 4 → (rowCells xs)[p * 4 + j]? = (lineCells x)[j]?
  | [], p, x, h, _, _ => by simp at h
  | y :: r, 0, x, h, j, hj => by
    simp at h
    subst h
    show (lineCells y ++ rowCells r)[0 * 4 + j]? = _
    rw [List.getElem?_append_left (by simp [lineCells]; omega)]; simp
  | y :: r, p + 1, x, h, j, hj => by
    have := rowCells_get r p x (by simpa using h) j hj
    show (lineCells y ++ rowCells r)[(p + 1) * 4 + j]? = _
    rw [List.getElem?_append_right (by simp [lineCells]; omega)]
    have e : (p + 1) * 4 + j - (lineCells y).length = p * 4 + j := by simp [lineCells]; omega
    rw [e, this]
theorem splitFrom_len (size : Nat) : ∀ (f no : Nat) (l : List UInt8), l.length ≤ f → (splitFrom size f no l).length ≤ l.length
  | 0, _, l, _ => by simp [splitFrom]
  | f + 1, no, l, h => by
    by_cases hl : l = []
    · subst hl; simp [splitFrom]
    · obtain ⟨f', hf, h1, h2⟩ := splitFrom_cons size (f + 1) no l hl h
      obtain rfl : f = f' := by omega
      have := splitFrom_len size f (no + 1) _ h1
      have := behind_lt 10 l hl
      rw [h2, List.length_cons]
      omega
theorem splitL_len (l : List UInt8) : (splitL l).length ≤ l.length := splitFrom_len _ _ _ _ (Nat.le_refl _)
/-- What holds between two rounds of the first loop. -/
def SI (N : Nat) (W0 : World) (pre : List LineD) (W : World) : Prop :=
  (∀ k, k < N + 4 → k ≠ N + 1 → k ≠ N + 2 → W.heap[k]? = W0.heap[k]?) ∧ W.heap[N + 1]? = some (.cells #[.string ⟨(textOf pre).toArray⟩] 9) ∧ W.heap[N + 2]? = some (.cells #[.int .i64 pre.length] 3) ∧ W.os = W0.os ∧ W.tape = W0.tape ∧ W.output = W0.output ∧ N + 4 ≤ W.heap.size
theorem SI.step {N : Nat} {W0 W W1 : World} {pre : List LineD} {x : LineD} {a : ByteArray} (h : SI N W0 pre W) (hz : N + 7 ≤ W.heap.size)
    (h1 : ∀ k, k ≠ N + 1 → W1.heap[k]? = W.heap[k]?) (h2 : W1.heap[N + 1]? = some (.cells #[.string a] 9)) (ha : a.data.toList = textOf (pre ++ [x])) (ho : W1.os = W.os) (ht : W1.tape = W.tape) (hp : W1.output = W.output) (hs : W1.heap.size = W.heap.size) :
    Keep3 (N + 4) (N + 3) W (W1.setCell ⟨N + 1 + 1, 0, none⟩ (.int .i64 ((pre.length : Int) + 1))) ∧ SI N W0 (pre ++ [x]) (W1.setCell ⟨N + 1 + 1, 0, none⟩ (.int .i64 ((pre.length : Int) + 1))) := by
  obtain ⟨i1, i2, i3, i4, i5, i6, i7⟩ := h
  have hb : ∀ k, k ≠ N + 1 → k ≠ N + 2 → (W1.setCell ⟨N + 1 + 1, 0, none⟩ (.int .i64 ((pre.length : Int) + 1))).heap[k]? = W.heap[k]? := fun k a b => (Below.heap_setCell _ _ _ _ (by show k ≠ N + 1 + 1; omega)).trans (h1 k a)
  have hz' : (W1.setCell ⟨N + 1 + 1, 0, none⟩ (.int .i64 ((pre.length : Int) + 1))).heap.size = W.heap.size := by simp [World.setCell, hs]
  have ea : (⟨(textOf (pre ++ [x])).toArray⟩ : ByteArray) = a := by rw [← ha]
  refine ⟨⟨by omega, fun k a b => hb k (by omega) (by omega), hb _ (by omega) (by omega)⟩, fun k a b c => (hb k b c).trans (i1 k a b c), ?_, ?_, ho.trans i4, ht.trans i5, hp.trans i6, by omega⟩
  · rw [Below.heap_setCell _ _ _ _ (by show N + 1 ≠ N + 1 + 1; omega), h2, ea]
  · have := setCell_block (o := 0) (.int .i64 ((pre.length : Int) + 1)) ((h1 (N + 2) (by omega)).trans i3)
    rw [show N + 2 = N + 1 + 1 from rfl] at this
    rw [this]; simp
/-- What holds between two rounds of the second loop (or at its break, 'b'). -/
structure S2 (S : Nat) (s : ByteArray) (W : World) (stop : Int) (b : Prop) (pre : List LineD) (V : World) : Prop where
  old : ∀ k, k < S → V.heap[k]? = W.heap[k]?
  seen : V.heap[S]? = some (.cells #[.int .i64 pre.length] 3)
  text : V.heap[S + 1]? = some (.cells #[.string s] 9)
  os : V.os = W.os
  tape : V.tape = W.tape
  output : V.output = W.output
  size : S + 2 ≤ V.heap.size
  at_ : b → (pre.length : Int) = stop
theorem S2.touch {S : Nat} {s : ByteArray} {W : World} {stop : Int} {b : Prop} {pre : List LineD} {V V' : World} (h : S2 S s W stop b pre V) (ht : Touch (S + 2) V V') : S2 S s W stop b pre V' :=
  ⟨fun k hk => (ht.block k (.inl (by omega))).trans (h.old k hk), (ht.block _ (.inl (by omega))).trans h.seen, (ht.block _ (.inl (by omega))).trans h.text, ht.os.trans h.os, ht.tape.trans h.tape, ht.output.trans h.output, by have := ht.size; have := h.size; omega, h.at_⟩
theorem S2.step {S : Nat} {s : ByteArray} {W : World} {stop : Int} {b : Prop} {pre : List LineD} {x : LineD} {V : World} (h : S2 S s W stop False pre V) (hz : S + 5 ≤ V.heap.size) (hb : b → (pre.length : Int) + 1 = stop) :
    Keep3 (S + 2) (S + 1) V (V.setCell ⟨S, 0, none⟩ (.int .i64 ((pre.length : Int) + 1))) ∧ S2 S s W stop b (pre ++ [x]) (V.setCell ⟨S, 0, none⟩ (.int .i64 ((pre.length : Int) + 1))) := by
  have hk : ∀ k, k ≠ S → (V.setCell ⟨S, 0, none⟩ (.int .i64 ((pre.length : Int) + 1))).heap[k]? = V.heap[k]? := fun k hk => Below.heap_setCell _ _ _ _ hk
  have hs : (V.setCell ⟨S, 0, none⟩ (.int .i64 ((pre.length : Int) + 1))).heap.size = V.heap.size := by simp [World.setCell]
  refine ⟨⟨by omega, fun k a _ => hk k (by omega), hk _ (by omega)⟩, fun k a => (hk k (by omega)).trans (h.old k a), ?_, (hk _ (by omega)).trans h.text, h.os, h.tape, h.output, by omega, fun hb' => by simp; exact hb hb'⟩
  rw [setCell_block _ h.seen]; simp
theorem suffix_last (l : List UInt8) : Lib.hasSuffix l [10] = true ↔ l.getLast? = some 10 := by
  unfold Lib.hasSuffix
  rw [List.isSuffixOf_iff_suffix]
  constructor
  · rintro ⟨a, rfl⟩; simp
  · intro h
    obtain ⟨a, rfl⟩ : ∃ a, l = a ++ [10] := by
      rcases List.eq_nil_or_concat l with rfl | ⟨a, x, rfl⟩
      · simp at h
      · simp at h; subst h; exact ⟨a, by simp⟩
    exact ⟨a, rfl⟩
theorem suffix_app (a b : List UInt8) : Lib.hasSuffix (a ++ 10 :: b) [10] = (b.isEmpty || Lib.hasSuffix b [10]) := by
  rw [Bool.eq_iff_iff, suffix_last, Bool.or_eq_true, suffix_last]
  cases b with
  | nil => simp
  | cons x t =>
    have : (a ++ 10 :: x :: t).getLast? = (x :: t).getLast? := by
      rw [List.getLast?_append]; simp [List.getLast?_cons]
    rw [this]; simp
theorem suffix_not (l : List UInt8) (h : has 10 l = false) : Lib.hasSuffix l [10] = false := by
  rw [Bool.eq_false_iff, ne_eq, suffix_last]
  intro e
  have := List.mem_of_getLast? e
  unfold has at h
  rw [Bool.eq_false_iff, ne_eq, List.contains_iff_mem] at h
  exact h this
theorem count_not (l : List UInt8) (h : has 10 l = false) : Lib.countByte l 10 = 0 := by
  unfold Lib.countByte
  rw [List.count_eq_zero]
  unfold has at h
  rwa [Bool.eq_false_iff, ne_eq, List.contains_iff_mem] at h
theorem splitFrom_count (size : Nat) : ∀ (f no : Nat) (l : List UInt8), l.length ≤ f → (splitFrom size f no l).length = countOf l
  | 0, no, l, h => by
    obtain rfl : l = [] := by rw [← List.length_eq_zero_iff]; omega
    rfl
  | f + 1, no, l, h => by
    by_cases hl : l = []
    · subst hl; rfl
    · obtain ⟨f', hf, h1, h2⟩ := splitFrom_cons size (f + 1) no l hl h
      obtain rfl : f = f' := by omega
      rw [h2, List.length_cons, splitFrom_count size f _ _ h1]
      have hne : l.isEmpty = false := by simpa using hl
      rcases hc : has 10 l with _ | _
      · rw [behind_none _ _ hc]
        unfold countOf
        rw [count_not l hc, suffix_not l hc, hne]; rfl
      · have ha := ahead_append 10 l hc
        have e1 : Lib.countByte l 10 = 1 + Lib.countByte (behind 10 l) 10 := by
          have e0 : Lib.countByte (ahead 10 l) 10 = 0 := count_not _ (ahead_not 10 l)
          unfold Lib.countByte at *
          rw [← ha, List.count_append, List.count_cons_self, e0]
          have : behind 10 (ahead 10 l ++ 10 :: behind 10 l) = behind 10 l := by rw [ha]
          rw [this]; omega
        have e2 : Lib.hasSuffix l [10] = ((behind 10 l).isEmpty || Lib.hasSuffix (behind 10 l) [10]) := by
          have := suffix_app (ahead 10 l) (behind 10 l)
          rwa [ha] at this
        unfold countOf
        rw [e1, e2, hne, Bool.false_or]
        omega
theorem countOf_eq (l : List UInt8) : countOf l = (splitL l).length := (splitFrom_count _ _ _ _ (Nat.le_refl _)).symm
theorem line_neq (x : LineD) (w : World) : (binOp .neq 35 (.agg (lineCells x).toArray) (.agg (lineCells x).toArray)).run Tryd.prog w = .ok (.bool false) w := by
  have h1 : Tryd.prog.underlying 35 = some (.struct (Tryd.prog.fieldsOf 35)) := by kernel_rfl
  have h2 : Tryd.prog.stoodInHeld 35 = false := by kernel_rfl
  have h3 : (Tryd.prog.fieldsOf 35).toList.map (fun f => (f.name, f.type, f.offset)) = [("No", 3, 0), ("At", 3, 1), ("Text", 9, 2), ("Ended", 4, 3)] := by kernel_rfl
  rw [run_neq_struct, run_equalIn_struct w 9999 _ _ _ h1 h2]
  generalize (Tryd.prog.fieldsOf 35).toList = fs at h3
  rcases fs with _ | ⟨f0, _ | ⟨f1, _ | ⟨f2, _ | ⟨f3, _ | ⟨f4, r⟩⟩⟩⟩⟩
  all_goals simp at h3
  obtain ⟨⟨a0, b0, c0⟩, ⟨a1, b1, c1⟩, ⟨a2, b2, c2⟩, ⟨a3, b3, c3⟩⟩ := h3
  simp [Op.eqFields, a0, b0, c0, a1, b1, c1, a2, b2, c2, a3, b3, c3, lineCells, go_sem, Tryd.underlying3, Tryd.underlying9, Tryd.underlying4]
set_option maxHeartbeats 1000000 in
theorem splits_walk (s : ByteArray) (stop : Int) (w : World) :
    Calls Tryd.prog 5 #[.string s, .int .i64 stop] w fun e w' => e = .returned (.bool true) ∧ Below w.heap.size w w' := by
  by_cases h5 : (5000 : Int) < s.size
  · go_enter Tryd.func5, Tryd.ntmps5
    go_wp2_with fail
    refine (alive_any _).mono ?_
    rintro e w1 ⟨rfl, b1⟩
    obtain ⟨c1, f1⟩ := bcell b1
    have hz : w.heap.size + 1 < w1.heap.size := by have := b1.size; simp at this; omega
    go_wp2
    refine bodyPost_ret (v := .bool true) (by simp [results, Tryd.results5, go_sem, c1]) rfl ⟨rfl, ?_⟩
    exact ((((Below.refl _ _).alloc (Nat.le_refl _) _).alloc (by simp) _).trans (b1.mono (by simp; omega))).setCell (by simp) _
  · have h5' : (s.size : Int) ≤ 5000 := by omega
    clear h5
    have R := Lib.hid (fun w => refSplit s (by omega) w)
    refine calls_marks Tryd.func5 rfl ?_
    simp only [Tryd.ntmps5, List.size_toArray, List.length_cons, List.length_nil, Nat.reduceAdd, Nat.reduceSub, Array.replicate_succ, Array.replicate_zero, List.push_toArray, List.append_toArray, List.nil_append, List.cons_append]
    go_wp2_with fail
    refine (alive_any _).mono ?_
    rintro e w1 ⟨rfl, b1⟩
    obtain ⟨c1, f1⟩ := bcell b1
    go_wp2_with fail
    refine (R.out _).mono ?_
    rintro e w2 ⟨v, rfl, hown, b2⟩
    obtain ⟨ao, cp, rfl⟩ := own_shape hown
    obtain ⟨c2, f2⟩ := bcell b2
    go_wp2_with fail
    refine (Split_any _ _).mono ?_
    rintro e w3 ⟨rfl, rfl⟩
    go_wp2_with fail
    obtain ⟨N, hN⟩ : ∃ N, w2.heap.size = N := ⟨_, rfl⟩
    have hrow : ∀ (p : Nat) (x : LineD), (splitL s.data.toList)[p]? = some x → ∃ g, ao = some ⟨g, 0, none⟩ ∧ g < N ∧ w1.heap.size ≤ g ∧ ∃ cur, w2.heap[g]? = some (.cells cur 35 (0, 0)) ∧ ∀ j, j < 4 → cur[p * 4 + j]? = (lineCells x)[j]? := by
      intro p x hx
      have hlt := (List.getElem?_eq_some_iff.1 hx).1
      rcases hown.2 with ⟨e, h0⟩ | ⟨g, c, cur, e, h1, h2, h3, h4, h5, h6⟩
      · omega
      · cases e
        refine ⟨g, rfl, by rw [← hN]; exact (Array.getElem?_eq_some_iff.1 h2).1, h1, cur, h2, fun j hj => ?_⟩
        have e1 : cur[p * 4 + j]? = (rowCells (splitL s.data.toList))[p * 4 + j]? := by
          rw [← h6, List.getElem?_take, if_pos (by omega), Array.getElem?_toList]
        rw [e1]
        exact rowCells_get _ _ _ hx _ hj
    have HR := Lib.hid hrow
    clear hrow
    obtain ⟨W0, hW0⟩ : ∃ W0, ((((w2.alloc (.cells #[.slice ao (splitL s.data.toList).length cp] 28)).alloc (.cells #[.string ⟨#[]⟩] 9)).alloc (.cells #[.int .i64 0] 3)).alloc (.cells #[.string s] 9)) = W0 := ⟨_, rfl⟩
    have s0 : W0.heap.size = N + 4 := by rw [← hW0]; simp; omega
    have z0 : w.heap.size + 2 ≤ w1.heap.size := by have := b1.size; simp at this; omega
    have z1 : w1.heap.size ≤ N := by have := b2.size; omega
    have st2 : Hid (w2.heap[w.heap.size]? = some (.cells #[.int .i64 stop] 3)) := by
      show _ = _
      rw [b2.block _ (by omega), b1.block _ (by simp; omega)]
      exact (Below.heap_alloc _ _ _ (by simp)).trans (World.alloc_heap_new _ _)
    have rs2 : Hid (w2.heap[w.heap.size + 1]? = some (.cells #[.bool false] 4)) := by
      show _ = _
      rw [b2.block _ (by omega), b1.block _ (by simp)]
      have := World.alloc_heap_new (w.alloc (.cells #[.int .i64 stop] 3)) (.cells #[.bool false] 4)
      rwa [World.size_alloc] at this
    have B2 : Hid (Below w.heap.size w w2) := by
      show Below _ _ _
      exact ((((Below.refl _ _).alloc (Nat.le_refl _) _).alloc (by simp) _).trans (b1.mono (by simp; omega))).trans (b2.mono (by omega))
    have G := Lib.hid (alloc4 w2 (.cells #[.slice ao (splitL s.data.toList).length cp] 28) (.cells #[.string ⟨#[]⟩] 9) (.cells #[.int .i64 0] 3) (.cells #[.string s] 9))
    rw [hN, hW0] at G
    rw [hN, hW0]
    have W0st : Hid (W0.heap[w.heap.size]? = some (.cells #[.int .i64 stop] 3) ∧ W0.heap[w.heap.size + 1]? = some (.cells #[.bool false] 4)) :=
      ⟨(G.out.2.2.2.2 _ (by omega)).trans st2.out, (G.out.2.2.2.2 _ (by omega)).trans rs2.out⟩
    have OS0 : Hid (W0.os = w2.os ∧ W0.tape = w2.tape ∧ W0.output = w2.output) := by
      rw [← hW0]; exact ⟨rfl, rfl, rfl⟩
    clear hW0 c1 f1 c2 f2
    refine wp_range_split_box 8 (N + 3) s (by omega) rfl (by simp [World.cell?, G.out.2.2.2.1]) (by omega)
      (SI N W0)
      (fun _ _ _ => False) ?hI ?hIx ?h0 ?assign ?hIa ?body ?done ?stop
    case hI =>
      rintro pre W W' ⟨i1, i2, i3, i4, i5, i6, i7⟩ ht
      rw [s0] at ht
      exact ⟨fun k h1 h2 h3 => (ht.block k (.inl h1)).trans (i1 k h1 h2 h3), (ht.block _ (.inl (by omega))).trans i2, (ht.block _ (.inl (by omega))).trans i3, ht.os.trans i4, ht.tape.trans i5, ht.output.trans i6, by have := ht.size; omega⟩
    case hIx => exact fun _ _ _ _ h _ => h
    case stop => exact fun _ _ _ _ h _ => h.elim
    case h0 => exact ⟨fun _ _ _ _ => rfl, G.out.2.1, G.out.2.2.1, rfl, rfl, rfl, by omega⟩
    case hIa =>
      rintro pre W o ⟨i1, i2, i3, i4, i5, i6, i7⟩ hz
      exact ⟨fun k h1 h2 h3 => (Below.heap_alloc _ _ _ (by omega)).trans (i1 k h1 h2 h3), (Below.heap_alloc _ _ _ (by omega)).trans i2, (Below.heap_alloc _ _ _ (by omega)).trans i3, i4, i5, i6, by simp; omega⟩
    case assign =>
      intro l x W K hK
      have hv : x.val = .agg #[.int .i64 x.no, .int .i64 x.at_, .string ⟨x.text.toArray⟩, .bool x.ended] := rfl
      have hc : lineCells x = [.int .i64 x.no, .int .i64 x.at_, .string ⟨x.text.toArray⟩, .bool x.ended] := rfl
      rw [hv, hc] at hK
      rw [hv]
      have HK := Lib.hid hK
      clear hK hv hc
      gi_wp2
      have h := HK.out
      simp at h
      exact h
    case body =>
      rintro l pre ⟨xno, xat, xtext, xend⟩ Bx W hSI hBx hxB hpf
      obtain ⟨i1, i2, i3, i4, i5, i6, i7⟩ := hSI
      rw [s0] at hBx
      rw [show LineD.val ⟨xno, xat, xtext, xend⟩ = .agg #[.int .i64 xno, .int .i64 xat, .string ⟨xtext.toArray⟩, .bool xend] from rfl]
      obtain ⟨q1, q2⟩ := splitL_get hpf
      obtain ⟨q3, q4⟩ := splitL_at hpf
      simp only at q3 q4
      subst q3
      subst q4
      have t1 := textOf_prefix hpf
      rw [textOf_snoc, List.length_append, List.length_append, size_len] at t1
      simp only at t1
      have t5 := splitL_len s.data.toList
      rw [size_len] at t5
      have t6 : pre.length ≤ 5000 := by omega
      have hWz : N + 7 ≤ W.heap.size := by have := (Array.getElem?_eq_some_iff.1 hxB).1; omega
      have t2 : (textOf pre).length ≤ 5000 := by omega
      have t3 : xtext.length ≤ 5000 := by omega
      have t4 : (textOf pre).length + xtext.length ≤ 5000 := by omega
      have hi : Hid (SI N W0 pre W) := ⟨i1, i2, i3, i4, i5, i6, i7⟩
      have hxB' := Lib.hid hxB
      have HP := Lib.hid hpf
      have k0 : W.cell? ⟨N, 0, none⟩ = some (.slice ao (splitL s.data.toList).length cp) := by simp [World.cell?, i1 N (by omega) (by omega) (by omega), G.out.1]
      have k1 : W.cell? ⟨N + 1, 0, none⟩ = some (.string ⟨(textOf pre).toArray⟩) := by simp [World.cell?, i2]
      have k2 : W.cell? ⟨N + 1 + 1, 0, none⟩ = some (.int .i64 pre.length) := by simp [World.cell?, i3]
      have k4 : W.frozen? ⟨N + 1, 0, none⟩ = false := by simp [World.frozen?, i2]
      have k5 : W.frozen? ⟨N + 1 + 1, 0, none⟩ = false := by simp [World.frozen?, i3]
      have m0 : W.cell? ⟨Bx, 0, none⟩ = some (.int .i64 pre.length) := by simp [World.cell?, hxB, lineCells]
      have m1 : W.cell? ⟨Bx, 1, none⟩ = some (.int .i64 (textOf pre).length) := by simp [World.cell?, hxB, lineCells]
      have m2 : W.cell? ⟨Bx, 2, none⟩ = some (.string ⟨xtext.toArray⟩) := by simp [World.cell?, hxB, lineCells]
      have m3 : W.cell? ⟨Bx, 3, none⟩ = some (.bool xend) := by simp [World.cell?, hxB, lineCells]
      obtain ⟨g, hg, hgN, hg1, cur, hcur, hce⟩ := HR.out _ _ q2
      subst hg
      have hcurW : W.heap[g]? = some (.cells cur 35 (0, 0)) := by rw [i1 g (by omega) (by omega) (by omega), G.out.2.2.2.2 g hgN, hcur]
      have n0 : W.cell? ⟨g, pre.length * 4, none⟩ = some (.int .i64 pre.length) := by simp [World.cell?, hcurW]; simpa [lineCells] using hce 0 (by omega)
      have n1 : W.cell? ⟨g, pre.length * 4 + 1, none⟩ = some (.int .i64 (textOf pre).length) := by simp [World.cell?, hcurW]; simpa [lineCells] using hce 1 (by omega)
      have n2 : W.cell? ⟨g, pre.length * 4 + 2, none⟩ = some (.string ⟨xtext.toArray⟩) := by simp [World.cell?, hcurW]; simpa [lineCells] using hce 2 (by omega)
      have n3 : W.cell? ⟨g, pre.length * 4 + 3, none⟩ = some (.bool xend) := by simp [World.cell?, hcurW]; simpa [lineCells] using hce 3 (by omega)
      obtain ⟨M, hM⟩ : ∃ M, (splitL s.data.toList).length = M := ⟨_, rfl⟩
      rw [hM] at q1 k0 ⊢
      have hnlt : ¬ M ≤ pre.length := by omega
      have hnlt2 : decide (M ≤ pre.length) = false := decide_eq_false hnlt
      have Q2 := Lib.hid q2
      have HCE := Lib.hid hce
      have HCW := Lib.hid hcurW
      have HM := Lib.hid hM
      have LN : ∀ w, (binOp .neq 35 (.agg #[.int .i64 pre.length, .int .i64 (textOf pre).length, .string ⟨xtext.toArray⟩, .bool xend]) (.agg #[.int .i64 pre.length, .int .i64 (textOf pre).length, .string ⟨xtext.toArray⟩, .bool xend])).run Tryd.prog w = .ok (.bool false) w := fun w => line_neq ⟨pre.length, (textOf pre).length, xtext, xend⟩ w
      clear hce hcurW hM hcur i1 i2 i3 i4 i5 i6 i7 hxB hpf q2 t1
      cases xend
      all_goals
        gi_wp2
        refine wpIn_region_quiet_lit (by kernel_rfl) (by kernel_rfl) (by kernel_rfl) ?_
        repeat (go_big_quiet_step (fail))
        refine wpQuiet_nil ?_
        intro _ hw'
        obtain ⟨nq, hw''⟩ := hw'
        subst hw''
        gi_wp2
      · rw [s0]
        refine SI.step hi.out hWz (fun k hk => (Below.heap_setCell _ _ _ _ hk).trans rfl) (setCell_block _ ((show (W.drewN nq).heap[N + 1]? = W.heap[N + 1]? from rfl).trans hi.out.2.1)) ?_ rfl rfl rfl (by simp [World.setCell])
        rw [textOf_snoc]; simp
      · rw [s0]
        refine SI.step hi.out hWz (fun k hk => (Below.heap_setCell _ _ _ _ hk).trans ((Below.heap_setCell _ _ _ _ hk).trans rfl)) (setCell_block _ (setCell_block _ ((show (W.drewN nq).heap[N + 1]? = W.heap[N + 1]? from rfl).trans hi.out.2.1))) ?_ rfl rfl rfl (by simp [World.setCell])
        rw [textOf_snoc]; simp
    case done =>
      intro W hI hz hK
      have HK := Lib.hid hK
      have HI := Lib.hid hI
      clear hI hK
      go_wp2_with fail
      refine (Split_any _ _).mono ?_
      rintro e w3 ⟨rfl, rfl⟩
      obtain ⟨S, hS⟩ : ∃ S, W.heap.size = S := ⟨_, rfl⟩
      obtain ⟨V0, hV0⟩ : ∃ V0, (W.alloc (.cells #[.int .i64 0] 3)).alloc (.cells #[.string s] 9) = V0 := ⟨_, rfl⟩
      have v0 : V0.heap.size = S + 2 := by rw [← hV0]; simp; omega
      have e0 : V0.heap[S]? = some (.cells #[.int .i64 0] 3) ∧ V0.heap[S + 1]? = some (.cells #[.string s] 9) ∧ (∀ k, k < S → V0.heap[k]? = W.heap[k]?) ∧ V0.os = W.os ∧ V0.tape = W.tape ∧ V0.output = W.output := by
        rw [← hV0, ← hS]
        refine ⟨?_, ?_, fun k hk => ?_, rfl, rfl, rfl⟩
        · exact (Below.heap_alloc _ _ _ (by simp)).trans (World.alloc_heap_new _ _)
        · have := World.alloc_heap_new (W.alloc (.cells #[.int .i64 0] 3)) (.cells #[.string s] 9)
          rwa [World.size_alloc] at this
        · exact (Below.heap_alloc _ _ _ (by simp; omega)).trans (Below.heap_alloc _ _ _ hk)
      have E0 := Lib.hid e0
      go_wp2_with fail
      try simp only [World.size_alloc]
      try rw [hS]
      try rw [hV0]
      clear hV0 e0
      refine wp_range_split_skip (S + 1) s (by omega) rfl (by simp [World.cell?, E0.out.2.1]) (by omega)
        (S2 S s W stop False) (fun c pre V => c = .exit 2 ∧ S2 S s W stop True pre V) ?hI2 ?hIx2 ?h02 ?assign2 ?body2 ?done2 ?stop2
      case hI2 =>
        intro pre V V' h ht
        rw [v0] at ht
        exact h.touch ht
      case hIx2 =>
        rintro c pre V V' ⟨rfl, h⟩ ht
        rw [v0] at ht
        exact ⟨rfl, h.touch ht⟩
      case h02 => exact ⟨fun k hk => E0.out.2.2.1 k hk, E0.out.1, E0.out.2.1, E0.out.2.2.2.1, E0.out.2.2.2.2.1, E0.out.2.2.2.2.2, by omega, fun h => h.elim⟩
      case assign2 =>
        intro l x W K hK
        have HK := Lib.hid hK
        clear hK
        gi_wp2
        have h := HK.out
        simp at h
        exact h
      case body2 =>
        intro l pre x V h hz hpf
        have k0 : V.cell? ⟨S, 0, none⟩ = some (.int .i64 pre.length) := by simp [World.cell?, h.seen]
        have hst : V.heap[w.heap.size]? = some (.cells #[.int .i64 stop] 3) := by rw [h.old _ (by omega), HI.out.1 _ (by omega) (by omega) (by omega)]; exact W0st.out.1
        have k2 : V.cell? ⟨w.heap.size, 0, none⟩ = some (.int .i64 stop) := by simp [World.cell?, hst]
        have hln : pre.length < (splitL s.data.toList).length := (splitL_get hpf).1
        have t5 := splitL_len s.data.toList
        rw [size_len] at t5
        have t6 : pre.length + 1 ≤ 5000 := by omega
        have HP := Lib.hid hpf
        clear hst hpf
        have k1 : V.frozen? ⟨S, 0, none⟩ = false := by simp [World.frozen?, h.seen]
        have H := Lib.hid h
        clear h
        gi_wp2
        · rw [v0]
          have hb : (pre.length : Int) + 1 = stop := by simpa using (by assumption : (((pre.length : Int) + 1) == stop) = true)
          obtain ⟨q1, q2⟩ := H.out.step (x := x) (b := True) (by omega) (fun _ => hb)
          exact ⟨q1, rfl, q2⟩
        · rw [v0]
          exact H.out.step (by omega) (fun h => h.elim)
      case' done2 =>
        intro V h _ hK2
        obtain ⟨k, hk, hks⟩ : ∃ k : Nat, V.heap[S]? = some (.cells #[.int .i64 k] 3) ∧ ((k : Int) = (splitL s.data.toList).length ∨ (k : Int) = stop) := ⟨_, h.seen, .inl rfl⟩
      case' stop2 =>
        rintro c pre V _ ⟨rfl, h⟩ hK2
        obtain ⟨k, hk, hks⟩ : ∃ k : Nat, V.heap[S]? = some (.cells #[.int .i64 k] 3) ∧ ((k : Int) = (splitL s.data.toList).length ∨ (k : Int) = stop) := ⟨_, h.seen, .inr (h.at_ trivial)⟩
      all_goals
        have ho := Lib.hid h.old
        have hc := Lib.hid (show V.os = W.os ∧ V.tape = W.tape ∧ V.output = W.output from ⟨h.os, h.tape, h.output⟩)
        have HK2 := Lib.hid hK2
        have hzz := h.size
        clear h hK2
        have y0 : V.heap[N]? = some (.cells #[.slice ao (splitL s.data.toList).length cp] 28) := by rw [ho.out _ (by omega), HI.out.1 _ (by omega) (by omega) (by omega)]; exact G.out.1
        have y1 : V.heap[N + 1]? = some (.cells #[.string s] 9) := by rw [ho.out _ (by omega), HI.out.2.1, splitL_text]
        have y2 : V.heap[N + 2]? = some (.cells #[.int .i64 (splitL s.data.toList).length] 3) := by rw [ho.out _ (by omega), HI.out.2.2.1]
        have y3 : V.heap[w.heap.size]? = some (.cells #[.int .i64 stop] 3) := by rw [ho.out _ (by omega), HI.out.1 _ (by omega) (by omega) (by omega)]; exact W0st.out.1
        have y4 : V.heap[w.heap.size + 1]? = some (.cells #[.bool false] 4) := by rw [ho.out _ (by omega), HI.out.1 _ (by omega) (by omega) (by omega)]; exact W0st.out.2
        have c0 : V.cell? ⟨N, 0, none⟩ = some (.slice ao (splitL s.data.toList).length cp) := by simp [World.cell?, y0]
        have c1 : V.cell? ⟨N + 1, 0, none⟩ = some (.string s) := by simp [World.cell?, y1]
        have c2 : V.cell? ⟨N + 1 + 1, 0, none⟩ = some (.int .i64 (splitL s.data.toList).length) := by simp [World.cell?, y2]
        have c3 : V.cell? ⟨w.heap.size, 0, none⟩ = some (.int .i64 stop) := by simp [World.cell?, y3]
        have c4 : V.cell? ⟨w.heap.size + 1, 0, none⟩ = some (.bool false) := by simp [World.cell?, y4]
        have c5 : V.frozen? ⟨w.heap.size + 1, 0, none⟩ = false := by simp [World.frozen?, y4]
        have c6 : V.cell? ⟨S, 0, none⟩ = some (.int .i64 k) := by simp [World.cell?, hk]
        have CT := Lib.hid (fun w => count_any s (by omega) w)
        rw [countOf_eq] at CT
        have y4h := Lib.hid y4
        have hzS : S + 2 ≤ V.heap.size := hzz
        have hbig : N + 6 ≤ S := by omega
        clear y0 y1 y2 y3 y4 hk hzz
        have hcase : (((k : Int) == ((splitL s.data.toList).length : Int)) = true) ∨ (((k : Int) == ((splitL s.data.toList).length : Int)) = false ∧ ((k : Int) == stop) = true) := by
          by_cases e : (k : Int) = (splitL s.data.toList).length
          · exact .inl (by simpa using e)
          · exact .inr ⟨by simpa using e, by rcases hks with h | h; exact absurd h e; simpa using h⟩
        clear hks
        rcases hcase with hc1 | ⟨hc1, hc2⟩
        all_goals
          go_wp2_with fail
          go_still_tail 27, (by kernel_rfl)
          still_call ((CT.out _).mono fun e w' ⟨a, b⟩ => ⟨a, b.symm⟩)
          repeat still_step
          refine wpStill_nil ?_
          change wpList _ _ _ _ _ V.drew
          generalize hVd : V.drew = V1
          have g5 : V1.frozen? ⟨w.heap.size + 1, 0, none⟩ = false := by rw [← hVd]; exact c5
          have g4 : V1.cell? ⟨w.heap.size + 1, 0, none⟩ = some (.bool false) := by rw [← hVd]; exact c4
          go_wp2
          have W2 : ∀ x, x ≠ w.heap.size + 1 → (V1.setCell ⟨w.heap.size + 1, 0, none⟩ (.bool true)).heap[x]? = V.heap[x]? := fun x hx => (Below.heap_setCell _ _ _ _ hx).trans (by rw [← hVd]; rfl)
          have gf : (V1.setCell ⟨w.heap.size + 1, 0, none⟩ (.bool true)).heap[w.heap.size + 1]? = some (.cells #[.bool true] 4) := by rw [setCell_block _ ((show V1.heap[w.heap.size + 1]? = V.heap[w.heap.size + 1]? by rw [← hVd]; rfl).trans y4h.out)]; rfl
          have hfin : Below w.heap.size w (V1.setCell ⟨w.heap.size + 1, 0, none⟩ (.bool true)) := by
            refine ⟨?_, ?_, ?_, ?_, fun x hx => ?_⟩
            · show V1.os = _; rw [← hVd]; exact hc.out.1.trans (HI.out.2.2.2.1.trans (OS0.out.1.trans B2.out.os))
            · show V1.tape = _; rw [← hVd]; exact hc.out.2.1.trans (HI.out.2.2.2.2.1.trans (OS0.out.2.1.trans B2.out.tape))
            · show V1.output = _; rw [← hVd]; exact hc.out.2.2.trans (HI.out.2.2.2.2.2.1.trans (OS0.out.2.2.trans B2.out.output))
            · have e1 : (V1.setCell ⟨w.heap.size + 1, 0, none⟩ (.bool true)).heap.size = V.heap.size := by rw [← hVd]; simp [World.setCell]
              rw [e1]; omega
            · rw [W2 x (by omega), ho.out x (by omega), HI.out.1 x (by omega) (by omega) (by omega), G.out.2.2.2.2 x (by omega), B2.out.block x hx]
          refine marks2 (v := .bool true) ((W2 _ (by omega)).trans (by rw [← v0]; exact HK2.out)) ((W2 _ (by omega)).trans ((ho.out _ (by omega)).trans (by rw [← s0]; exact HK.out))) (by omega) ?_ ⟨rfl, ?_⟩
          · have gg : (((V1.setCell ⟨w.heap.size + 1, 0, none⟩ (.bool true)).putObj (S + 2) (.deferred none)).putObj (N + 4) (.deferred none)).cell? ⟨w.heap.size + 1, 0, none⟩ = some (.bool true) := by
              have : (((V1.setCell ⟨w.heap.size + 1, 0, none⟩ (.bool true)).putObj (S + 2) (.deferred none)).putObj (N + 4) (.deferred none)).heap[w.heap.size + 1]? = some (.cells #[.bool true] 4) := by
                rw [World.putObj_heap_other (by omega), World.putObj_heap_other (by omega)]; exact gf
              simp [World.cell?, this]
            simp [results, Tryd.results5, go_sem, gg]
          · refine hfin.trans ⟨rfl, rfl, rfl, by simp, fun x hx => ?_⟩
            rw [World.putObj_heap_other (by omega), World.putObj_heap_other (by omega)]
end Go.Proofs.YteaeekhepgjliaaDoor
