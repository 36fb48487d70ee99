/- The plain law of a table's places. No program is named here but the lines' law. -/
import Derived.Test.YtboiaoaephimhaaDoorTTable
namespace Go.Proofs.YtboiaoaephimhaaDoor.T
open Go.RowKit Go.Shelf
open Go.Proofs.YtboiaoaephimhaaDoor.B

/-- No text of a row holds a line end. -/
def Clean (r : List ByteArray) : Prop := ∀ s ∈ r, s.data.toList.count 10 = 0
theorem swap_clean (l : List UInt8) : (swap l).count 10 = 0 := by
  rw [List.count_eq_zero]
  intro h
  obtain ⟨c, _, hc⟩ := List.mem_map.1 h
  unfold swapB at hc
  split at hc
  · cases hc
  · rename_i h1; exact h1 hc
theorem cellL_clean (key : List UInt8) (fs : List Fld) : (cellL key fs).count 10 = 0 := by
  unfold cellL
  split
  · rfl
  · exact swap_clean _
theorem rowL_clean (ks : List ByteArray) (fs : List Fld) : Clean (rowL ks fs) := by
  intro s hs
  obtain ⟨k, _, rfl⟩ := List.mem_map.1 hs
  exact cellL_clean _ _
theorem good_clean {s : ByteArray} (h : goodB s = true) : s.data.toList.count 10 = 0 := by
  unfold goodB at h
  rw [goodKey_eq] at h
  have h1 : has 10 s.data.toList = false := by
    cases h2 : has 10 s.data.toList with
    | false => rfl
    | true => rw [h2] at h; simp at h
  unfold has at h1
  rw [List.count_eq_zero]
  intro h2
  have := List.contains_iff_mem.2 h2
  rw [h1] at this; cases this
theorem rowsOf_clean {ks : List ByteArray} {ss : List St} (h : (ks.any fun s => !goodB s) = false) : ∀ r ∈ rowsOf ks ss, Clean r := by
  intro r hr
  rcases List.mem_cons.1 hr with rfl | hr
  · intro s hs
    refine good_clean ?_
    have := List.any_eq_false.1 h s hs
    simpa using this
  · obtain ⟨x, _, rfl⟩ := List.mem_map.1 hr
    exact rowL_clean _ _
theorem piece_clean {ws : List Nat} {r : List ByteArray} (h : Clean r) (j : Nat) : (piece ws r j).count 10 = 0 := by
  unfold piece
  cases hr : r[j]? with
  | none => rfl
  | some s =>
    have h1 := h s (List.mem_of_getElem? hr)
    simp only [List.count_append, h1, Nat.zero_add]
    split
    · rw [List.count_replicate]; rfl
    · rfl
theorem lineTo_clean {ws : List Nat} {r : List ByteArray} (h : Clean r) : ∀ j, (lineTo ws r j).count 10 = 0
  | 0 => by simp [lineTo]
  | j + 1 => by rw [lineTo_succ, List.count_append, lineTo_clean h j, piece_clean h j]
theorem lineL_count {ws : List Nat} {r : List ByteArray} (h : Clean r) : (lineL ws r).count 10 = 1 := by
  unfold lineL
  rw [List.count_append, lineTo_clean h]; rfl
theorem linesTo_count {ws : List Nat} : ∀ {rs : List (List ByteArray)}, (∀ r ∈ rs, Clean r) → (linesTo ws rs).count 10 = rs.length
  | [], _ => rfl
  | r :: t, h => by
    have h1 := linesTo_count (ws := ws) (rs := t) fun x hx => h x (by simp [hx])
    have h2 := lineL_count (ws := ws) (h r (by simp))
    unfold linesTo at h1 ⊢
    rw [List.flatMap_cons, List.count_append, h1, h2, List.length_cons]; omega
/-- The lines up to row k, the line, and what is behind. -/
theorem linesTo_split {ws : List Nat} {rs : List (List ByteArray)} {k : Nat} {r : List ByteArray} (hr : rs[k]? = some r) : linesTo ws rs = linesTo ws (rs.take k) ++ (lineL ws r ++ linesTo ws (rs.drop (k + 1))) := by
  have h1 := (List.getElem?_eq_some_iff.1 hr).1
  have h2 : rs = rs.take k ++ (r :: rs.drop (k + 1)) := by
    have h3 : rs.drop k = r :: rs.drop (k + 1) := by
      rw [List.drop_eq_getElem_cons h1]
      rw [List.getElem?_eq_getElem h1] at hr
      injection hr with hr
      rw [hr]
    rw [← h3, List.take_append_drop]
  have h4 : linesTo ws rs = linesTo ws (rs.take k ++ (r :: rs.drop (k + 1))) := by rw [← h2]
  rw [h4]
  unfold linesTo
  rw [List.flatMap_append, List.flatMap_cons]
theorem lineTo_split {ws : List Nat} {r : List ByteArray} {j : Nat} : ∀ {n : Nat}, j ≤ n → ∃ t, lineTo ws r n = lineTo ws r j ++ t
  | 0, h => ⟨[], by rw [show j = 0 by omega]; simp⟩
  | n + 1, h => by
    by_cases e : j = n + 1
    · exact ⟨[], by rw [e]; simp⟩
    · obtain ⟨t, ht⟩ := lineTo_split (ws := ws) (r := r) (show j ≤ n by omega)
      exact ⟨t ++ piece ws r n, by rw [lineTo_succ, ht, List.append_assoc]⟩
/-- Where a cell begins. -/
def placeAt (ws : List Nat) (rs : List (List ByteArray)) (r : List ByteArray) (k j : Nat) : Nat := (linesTo ws (rs.take k)).length + (lineTo ws r j).length
/-- At its place stands the cell, and a line end somewhere behind it. -/
theorem cell_there {ws : List Nat} {rs : List (List ByteArray)} {k j : Nat} {r : List ByteArray} {s : ByteArray} (hr : rs[k]? = some r) (hs : r[j]? = some s) :
    ∃ a c, linesTo ws rs = a ++ (s.data.toList ++ c) ∧ a.length = placeAt ws rs r k j ∧ 0 < c.length := by
  have h1 := (List.getElem?_eq_some_iff.1 hs).1
  obtain ⟨t, ht⟩ := lineTo_split (ws := ws) (r := r) (show j + 1 ≤ r.length from h1)
  rw [lineTo_succ, piece_some ws r j s hs] at ht
  have h2 : lineL ws r = lineTo ws r r.length ++ [10] := rfl
  generalize (if j + 1 < r.length then List.replicate (ws.getD j 0 - s.size + 2) 32 else ([] : List UInt8)) = pd at ht
  refine ⟨linesTo ws (rs.take k) ++ lineTo ws r j, pd ++ (t ++ ([10] ++ linesTo ws (rs.drop (k + 1)))), ?_, by rw [List.length_append]; rfl, ?_⟩
  · rw [linesTo_split (ws := ws) hr, h2, ht]
    simp only [List.append_assoc]
  · simp only [List.length_append, List.length_cons]; omega
theorem place_next {ws : List Nat} {rs : List (List ByteArray)} {k j n : Nat} {r : List ByteArray} {s : ByteArray} (hs : r[j]? = some s) (hn : ws[j]? = some n) (hle : s.size ≤ n) (hj : j + 1 < r.length) : placeAt ws rs r k (j + 1) = placeAt ws rs r k j + (n + 2) := by
  unfold placeAt
  rw [lineTo_succ, piece_some ws r j s hs, if_pos hj]
  have e : ws.getD j 0 = n := by simp [hn]
  have e2 := Lib.size_eq s
  rw [e]
  simp only [List.length_append, List.length_replicate]
  omega
theorem place_last {ws : List Nat} {rs : List (List ByteArray)} {k j : Nat} {r : List ByteArray} {s : ByteArray} (hr : rs[k]? = some r) (hs : r[j]? = some s) (hj : ¬ j + 1 < r.length) : (linesTo ws (rs.take (k + 1))).length = placeAt ws rs r k j + (s.size + 1) := by
  have h1 := (List.getElem?_eq_some_iff.1 hs).1
  have e0 : r.length = j + 1 := by omega
  have et : rs.take (k + 1) = rs.take k ++ [r] := by rw [List.take_add_one, hr]; rfl
  rw [et, linesTo_snoc]
  unfold placeAt lineL
  rw [e0, lineTo_succ, piece_some ws r j s hs, if_neg hj]
  have e2 := Lib.size_eq s
  simp only [List.length_append, List.append_nil, List.length_cons, List.length_nil]
  omega
/-- Behind a row stands a line end. -/
theorem end_there {ws : List Nat} {rs : List (List ByteArray)} {k : Nat} {r : List ByteArray} (hr : rs[k]? = some r) :
    ∃ a c, linesTo ws rs = a ++ (10 :: c) ∧ a.length + 1 = (linesTo ws (rs.take (k + 1))).length := by
  have et : rs.take (k + 1) = rs.take k ++ [r] := by rw [List.take_add_one, hr]; rfl
  refine ⟨linesTo ws (rs.take k) ++ lineTo ws r r.length, linesTo ws (rs.drop (k + 1)), ?_, ?_⟩
  · rw [linesTo_split (ws := ws) hr]
    unfold lineL
    simp [List.append_assoc]
  · rw [et, linesTo_snoc]
    unfold lineL
    simp only [List.length_append, List.length_cons, List.length_nil]
    omega
theorem rowsOf_cols {ks : List ByteArray} {ss : List St} : ∀ r ∈ rowsOf ks ss, r.length = ks.length := by
  intro r hr
  rcases List.mem_cons.1 hr with rfl | hr
  · rfl
  · obtain ⟨x, _, rfl⟩ := List.mem_map.1 hr
    exact rowL_len _ _
theorem most_eq {rs : List (List ByteArray)} {n : Nat} (h : ∀ r ∈ rs, r.length = n) (hne : rs ≠ []) : most rs = n := by
  have h1 : most rs ≤ n := most_le fun r hr => by rw [h r hr]; exact Nat.le_refl _
  obtain ⟨r, hr⟩ := List.exists_mem_of_ne_nil rs hne
  have h2 := most_ge hr
  rw [h r hr] at h2
  omega
end Go.Proofs.YtboiaoaephimhaaDoor.T
