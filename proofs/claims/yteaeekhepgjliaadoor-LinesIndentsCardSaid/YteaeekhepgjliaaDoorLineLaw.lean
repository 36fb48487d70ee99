/- The plain law of a text's lines. -/
import Derived.Test.YteaeekhepgjliaaDoorRefSplit
namespace Go.Proofs.YteaeekhepgjliaaDoor
open Go.RowKit Go.Shelf
theorem bcell {W w1 : World} (hb : Below W.heap.size W w1) : (∀ b o, b < W.heap.size → w1.cell? ⟨b, o, none⟩ = W.cell? ⟨b, o, none⟩) ∧ (∀ b o, b < W.heap.size → w1.frozen? ⟨b, o, none⟩ = W.frozen? ⟨b, o, none⟩) :=
  ⟨fun b o h => hb.cell (p := ⟨b, o, none⟩) h, fun b o h => hb.frozen (p := ⟨b, o, none⟩) h⟩
/-- The text of some lines. -/
def textOf (xs : List LineD) : List UInt8 := (xs.map fun x => x.text ++ if x.ended then [10] else []).flatten
theorem textOf_snoc (xs : List LineD) (x : LineD) : textOf (xs ++ [x]) = textOf xs ++ (x.text ++ if x.ended then [10] else []) := by simp [textOf]
theorem line_text (l : List UInt8) : (ahead 10 l ++ if has 10 l then [10] else []) ++ behind 10 l = l := by
  rcases hc : has 10 l with _ | _
  · rw [ahead_none _ _ hc, behind_none _ _ hc]; simp
  · have := ahead_append 10 l hc
    simpa using this
theorem split_text (size : Nat) : ∀ (f no : Nat) (l : List UInt8), l.length ≤ f → textOf (splitFrom size f no l) = l
  | 0, no, l, h => by
    obtain rfl : l = [] := by rw [← List.length_eq_zero_iff]; omega
    rfl
  | f + 1, no, l, h => by
    by_cases hl : l = []
    · subst hl; rfl
    · obtain ⟨f', hf, h1, h2⟩ := splitFrom_cons size (f + 1) no l hl h
      obtain rfl : f = f' := by omega
      rw [h2]
      show (ahead 10 l ++ if has 10 l then [10] else []) ++ textOf (splitFrom size f (no + 1) (behind 10 l)) = l
      rw [split_text size f _ _ h1, line_text l]
theorem split_at (size : Nat) : ∀ (f no : Nat) (l : List UInt8) (pre : List LineD) (x : LineD), l.length ≤ f → l.length ≤ size → pre ++ [x] <+: splitFrom size f no l →
    x.no = no + pre.length ∧ x.at_ = size - l.length + (textOf pre).length
  | 0, no, l, pre, x, h, hs, hp => by
    have := hp.length_le
    simp [splitFrom] at this
  | f + 1, no, l, pre, x, h, hs, hp => by
    by_cases hl : l = []
    · subst hl
      have := hp.length_le
      simp [splitFrom] at this
    · obtain ⟨f', hf, h1, h2⟩ := splitFrom_cons size (f + 1) no l hl h
      obtain rfl : f = f' := by omega
      rw [h2] at hp
      have ht := congrArg List.length (line_text l)
      rw [List.length_append] at ht
      cases pre with
      | nil =>
        have := (List.cons_prefix_cons.1 hp).1
        rw [this]; simp [textOf]
      | cons y r =>
        obtain ⟨e, hp'⟩ := List.cons_prefix_cons.1 hp
        obtain ⟨i1, i2⟩ := split_at size f (no + 1) (behind 10 l) r x h1 (by omega) hp'
        refine ⟨by rw [i1]; simp; omega, ?_⟩
        rw [i2, e]
        have e2 : textOf (⟨no, size - l.length, ahead 10 l, has 10 l⟩ :: r) = (ahead 10 l ++ if has 10 l then [10] else []) ++ textOf r := by simp [textOf]
        rw [e2, List.length_append]
        omega
theorem splitL_text (l : List UInt8) : textOf (splitL l) = l := split_text _ _ _ _ (Nat.le_refl _)
theorem splitL_at {l : List UInt8} {pre : List LineD} {x : LineD} (h : pre ++ [x] <+: splitL l) : x.no = pre.length ∧ x.at_ = (textOf pre).length := by
  have := split_at l.length l.length 0 l pre x (Nat.le_refl _) (Nat.le_refl _) h
  simpa using this
theorem splitL_get {l : List UInt8} {pre : List LineD} {x : LineD} (h : pre ++ [x] <+: splitL l) : pre.length < (splitL l).length ∧ (splitL l)[pre.length]? = some x := by
  obtain ⟨r, hr⟩ := h
  rw [← hr]
  simp
theorem textOf_prefix {l : List UInt8} {pre : List LineD} (h : pre <+: splitL l) : (textOf pre).length ≤ l.length := by
  obtain ⟨r, hr⟩ := h
  have := congrArg List.length (splitL_text l)
  rw [← hr] at this
  simp [textOf] at this ⊢
  omega
theorem rowCells_get : ∀ (xs : List LineD) (p : Nat) (x : LineD), xs[p]? = some x → ∀ j, j < 4 → (rowCells xs)[p * 4 + j]? = (lineCells x)[j]?
  | [], p, x, h, _, _ => by simp at h
  | y :: r, 0, x, h, j, hj => by
    simp at h
    subst h
    show (lineCells y ++ rowCells r)[0 * 4 + j]? = _
    rw [List.getElem?_append_left (by simp [lineCells]; omega)]; simp
  | y :: r, p + 1, x, h, j, hj => by
    have := rowCells_get r p x (by simpa using h) j hj
    show (lineCells y ++ rowCells r)[(p + 1) * 4 + j]? = _
    rw [List.getElem?_append_right (by simp [lineCells]; omega)]
    have e : (p + 1) * 4 + j - (lineCells y).length = p * 4 + j := by simp [lineCells]; omega
    rw [e, this]
theorem splitFrom_len (size : Nat) : ∀ (f no : Nat) (l : List UInt8), l.length ≤ f → (splitFrom size f no l).length ≤ l.length
  | 0, _, l, _ => by simp [splitFrom]
  | f + 1, no, l, h => by
    by_cases hl : l = []
    · subst hl; simp [splitFrom]
    · obtain ⟨f', hf, h1, h2⟩ := splitFrom_cons size (f + 1) no l hl h
      obtain rfl : f = f' := by omega
      have := splitFrom_len size f (no + 1) _ h1
      have := behind_lt 10 l hl
      rw [h2, List.length_cons]
      omega
theorem splitL_len (l : List UInt8) : (splitL l).length ≤ l.length := splitFrom_len _ _ _ _ (Nat.le_refl _)
theorem suffix_last (l : List UInt8) : Lib.hasSuffix l [10] = true ↔ l.getLast? = some 10 := by
  unfold Lib.hasSuffix
  rw [List.isSuffixOf_iff_suffix]
  constructor
  · rintro ⟨a, rfl⟩; simp
  · intro h
    obtain ⟨a, rfl⟩ : ∃ a, l = a ++ [10] := by
      rcases List.eq_nil_or_concat l with rfl | ⟨a, x, rfl⟩
      · simp at h
      · simp at h; subst h; exact ⟨a, by simp⟩
    exact ⟨a, rfl⟩
theorem suffix_app (a b : List UInt8) : Lib.hasSuffix (a ++ 10 :: b) [10] = (b.isEmpty || Lib.hasSuffix b [10]) := by
  rw [Bool.eq_iff_iff, suffix_last, Bool.or_eq_true, suffix_last]
  cases b with
  | nil => simp
  | cons x t =>
    have : (a ++ 10 :: x :: t).getLast? = (x :: t).getLast? := by
      rw [List.getLast?_append]; simp [List.getLast?_cons]
    rw [this]; simp
theorem suffix_not (l : List UInt8) (h : has 10 l = false) : Lib.hasSuffix l [10] = false := by
  rw [Bool.eq_false_iff, ne_eq, suffix_last]
  intro e
  have := List.mem_of_getLast? e
  unfold has at h
  rw [Bool.eq_false_iff, ne_eq, List.contains_iff_mem] at h
  exact h this
theorem count_not (l : List UInt8) (h : has 10 l = false) : Lib.countByte l 10 = 0 := by
  unfold Lib.countByte
  rw [List.count_eq_zero]
  unfold has at h
  rwa [Bool.eq_false_iff, ne_eq, List.contains_iff_mem] at h
theorem splitFrom_count (size : Nat) : ∀ (f no : Nat) (l : List UInt8), l.length ≤ f → (splitFrom size f no l).length = countOf l
  | 0, no, l, h => by
    obtain rfl : l = [] := by rw [← List.length_eq_zero_iff]; omega
    rfl
  | f + 1, no, l, h => by
    by_cases hl : l = []
    · subst hl; rfl
    · obtain ⟨f', hf, h1, h2⟩ := splitFrom_cons size (f + 1) no l hl h
      obtain rfl : f = f' := by omega
      rw [h2, List.length_cons, splitFrom_count size f _ _ h1]
      have hne : l.isEmpty = false := by simpa using hl
      rcases hc : has 10 l with _ | _
      · rw [behind_none _ _ hc]
        unfold countOf
        rw [count_not l hc, suffix_not l hc, hne]; rfl
      · have ha := ahead_append 10 l hc
        have e1 : Lib.countByte l 10 = 1 + Lib.countByte (behind 10 l) 10 := by
          have e0 : Lib.countByte (ahead 10 l) 10 = 0 := count_not _ (ahead_not 10 l)
          unfold Lib.countByte at *
          rw [← ha, List.count_append, List.count_cons_self, e0]
          have : behind 10 (ahead 10 l ++ 10 :: behind 10 l) = behind 10 l := by rw [ha]
          rw [this]; omega
        have e2 : Lib.hasSuffix l [10] = ((behind 10 l).isEmpty || Lib.hasSuffix (behind 10 l) [10]) := by
          have := suffix_app (ahead 10 l) (behind 10 l)
          rwa [ha] at this
        unfold countOf
        rw [e1, e2, hne, Bool.false_or]
        omega
theorem countOf_eq (l : List UInt8) : countOf l = (splitL l).length := (splitFrom_count _ _ _ _ (Nat.le_refl _)).symm
end Go.Proofs.YteaeekhepgjliaaDoor
