/- Rows of texts in memory, and the plain law of their columns' widths. -/
import Derived.Test.YtboiaoaephimhaaDoorBMoves
import Derived.Deep.RegionLaw
namespace Go.Proofs.YtboiaoaephimhaaDoor.T
open Go.RowKit Go.Shelf
open Go.Proofs.YtboiaoaephimhaaDoor.B

theorem addrO (g k : Nat) : (⟨g, 0, none⟩ : Addr).add k = ⟨g, k, none⟩ := by cases k <;> simp [Addr.add]
theorem add_block (a : Addr) (n : Nat) : (a.add n).block = a.block := by unfold Addr.add; split <;> rfl
/-- Texts lie in memory below block B. -/
def StrsAt (B : Nat) (w : World) (v : Value) (ss : List ByteArray) : Prop :=
  ∃ (ao : Option Addr) (cp : Nat), v = .slice ao ss.length cp ∧ ∀ (k : Nat) (s : ByteArray), ss[k]? = some s → ∃ a, ao = some a ∧ a.block < B ∧ w.cell? (a.add k) = some (.string s)
theorem StrsAt.below {B C : Nat} {w w' : World} {v : Value} {ss : List ByteArray} (h : StrsAt B w v ss) (hb : Below C w w') (hB : B ≤ C) : StrsAt B w' v ss :=
  let ⟨ao, cp, h1, h2⟩ := h
  ⟨ao, cp, h1, fun k s hk => let ⟨a, h3, h4, h5⟩ := h2 k s hk; ⟨a, h3, h4, (hb.cell (by rw [add_block]; omega)).trans h5⟩⟩
theorem StrsAt.up {B C : Nat} {w : World} {v : Value} {ss : List ByteArray} (h : StrsAt B w v ss) (hB : B ≤ C) : StrsAt C w v ss :=
  let ⟨ao, cp, h1, h2⟩ := h
  ⟨ao, cp, h1, fun k s hk => let ⟨a, h3, h4, h5⟩ := h2 k s hk; ⟨a, h3, by omega, h5⟩⟩
/-- Rows of texts lie in memory below block B. -/
def RowsAt (B : Nat) (w : World) (v : Value) (rs : List (List ByteArray)) : Prop :=
  ∃ (ao : Option Addr) (cp : Nat), v = .slice ao rs.length cp ∧ ∀ (k : Nat) (r : List ByteArray), rs[k]? = some r → ∃ a u, ao = some a ∧ a.block < B ∧ w.cell? (a.add k) = some u ∧ StrsAt B w u r
theorem RowsAt.below {B C : Nat} {w w' : World} {v : Value} {rs : List (List ByteArray)} (h : RowsAt B w v rs) (hb : Below C w w') (hB : B ≤ C) : RowsAt B w' v rs :=
  let ⟨ao, cp, h1, h2⟩ := h
  ⟨ao, cp, h1, fun k r hk => let ⟨a, u, h3, h4, h5, h6⟩ := h2 k r hk; ⟨a, u, h3, h4, (hb.cell (by rw [add_block]; omega)).trans h5, h6.below hb hB⟩⟩
theorem RowsAt.up {B C : Nat} {w : World} {v : Value} {rs : List (List ByteArray)} (h : RowsAt B w v rs) (hB : B ≤ C) : RowsAt C w v rs :=
  let ⟨ao, cp, h1, h2⟩ := h
  ⟨ao, cp, h1, fun k r hk => let ⟨a, u, h3, h4, h5, h6⟩ := h2 k r hk; ⟨a, u, h3, by omega, h5, h6.up hB⟩⟩
/-- Numbers lie in memory below block B. -/
def IntsAt (B : Nat) (w : World) (v : Value) (ws : List Nat) : Prop :=
  ∃ (ao : Option Addr) (cp : Nat), v = .slice ao ws.length cp ∧ ∀ (k : Nat) (n : Nat), ws[k]? = some n → ∃ a, ao = some a ∧ a.block < B ∧ w.cell? (a.add k) = some (.int .i64 n)
theorem IntsAt.below {B C : Nat} {w w' : World} {v : Value} {ws : List Nat} (h : IntsAt B w v ws) (hb : Below C w w') (hB : B ≤ C) : IntsAt B w' v ws :=
  let ⟨ao, cp, h1, h2⟩ := h
  ⟨ao, cp, h1, fun k s hk => let ⟨a, h3, h4, h5⟩ := h2 k s hk; ⟨a, h3, h4, (hb.cell (by rw [add_block]; omega)).trans h5⟩⟩
theorem IntsAt.up {B C : Nat} {w : World} {v : Value} {ws : List Nat} (h : IntsAt B w v ws) (hB : B ≤ C) : IntsAt C w v ws :=
  let ⟨ao, cp, h1, h2⟩ := h
  ⟨ao, cp, h1, fun k s hk => let ⟨a, h3, h4, h5⟩ := h2 k s hk; ⟨a, h3, by omega, h5⟩⟩
/-- The longest row. -/
def most (rs : List (List ByteArray)) : Nat := rs.foldr (fun r n => max r.length n) 0
/-- A cell's length; 0: there is none. -/
def lenAt (r : List ByteArray) (i : Nat) : Nat := (r[i]?.map (·.size)).getD 0
/-- A column's width. -/
def colMax (rs : List (List ByteArray)) (i : Nat) : Nat := rs.foldr (fun r n => max (lenAt r i) n) 0
def widths (rs : List (List ByteArray)) : List Nat := (List.range (most rs)).map (colMax rs)
theorem most_snoc (rs : List (List ByteArray)) (r : List ByteArray) : most (rs ++ [r]) = max (most rs) r.length := by
  induction rs with
  | nil => simp [most]
  | cons x t ih => show max x.length (most (t ++ [r])) = max (max x.length (most t)) r.length; rw [ih]; omega
theorem colMax_snoc (rs : List (List ByteArray)) (r : List ByteArray) (i : Nat) : colMax (rs ++ [r]) i = max (colMax rs i) (lenAt r i) := by
  induction rs with
  | nil => simp [colMax]
  | cons x t ih => show max (lenAt x i) (colMax (t ++ [r]) i) = max (max (lenAt x i) (colMax t i)) (lenAt r i); rw [ih]; omega
theorem lenAt_none {r : List ByteArray} {i : Nat} (h : r.length ≤ i) : lenAt r i = 0 := by simp [lenAt, List.getElem?_eq_none h]
theorem colMax_none {rs : List (List ByteArray)} {i : Nat} (h : most rs ≤ i) : colMax rs i = 0 := by
  induction rs with
  | nil => rfl
  | cons x t ih =>
    have h1 : max x.length (most t) ≤ i := h
    show max (lenAt x i) (colMax t i) = 0
    rw [lenAt_none (by omega), ih (by omega)]; rfl
theorem widths_len (rs : List (List ByteArray)) : (widths rs).length = most rs := by simp [widths]
theorem widths_get (rs : List (List ByteArray)) (i : Nat) (h : i < most rs) : (widths rs)[i]? = some (colMax rs i) := by simp [widths, h]
theorem widths_ext {ws : List Nat} {rs : List (List ByteArray)} (hl : ws.length = most rs) (h : ∀ i, i < most rs → ws[i]? = some (colMax rs i)) : ws = widths rs := by
  refine List.ext_getElem? fun i => ?_
  by_cases hi : i < most rs
  · rw [h i hi, widths_get rs i hi]
  · rw [List.getElem?_eq_none (by omega), List.getElem?_eq_none (by rw [widths_len]; omega)]
theorem take_lenAt (r : List ByteArray) (j i : Nat) : lenAt (r.take j) i = if i < j then lenAt r i else 0 := by
  unfold lenAt
  rw [List.getElem?_take]
  split <;> rfl
theorem widths_take0 (rs : List (List ByteArray)) (r : List ByteArray) : widths (rs ++ [r.take 0]) = widths rs := by
  refine widths_ext ?_ fun i hi => ?_
  · rw [widths_len, most_snoc]; simp
  · rw [widths_get _ _ (by rw [most_snoc]; simp; omega), colMax_snoc]; simp [lenAt]
/-- A column more: none had been so far. -/
theorem widths_new {rs : List (List ByteArray)} {r : List ByteArray} {j : Nat} {s : ByteArray} (hs : r[j]? = some s) (h : (widths (rs ++ [r.take j])).length = j) : (widths (rs ++ [r.take j]) ++ [s.size]) = widths (rs ++ [r.take (j + 1)]) := by
  have hj := (List.getElem?_eq_some_iff.1 hs).1
  rw [widths_len, most_snoc, List.length_take] at h
  refine widths_ext ?_ fun i hi => ?_
  · rw [List.length_append, widths_len, most_snoc, most_snoc, List.length_take, List.length_take]; simp; omega
  · rw [most_snoc, List.length_take] at hi
    rw [colMax_snoc, take_lenAt]
    rcases Nat.lt_or_ge i j with h1 | h1
    · rw [List.getElem?_append_left (by rw [widths_len, most_snoc, List.length_take]; omega), widths_get _ _ (by rw [most_snoc, List.length_take]; omega), colMax_snoc, take_lenAt, if_pos h1, if_pos (by omega)]
    · have : i = j := by omega
      subst this
      rw [List.getElem?_append_right (by rw [widths_len, most_snoc, List.length_take]; omega), widths_len, most_snoc, List.length_take]
      rw [show i - max (most rs) (min i r.length) = 0 by omega, if_pos (by omega), colMax_none (by omega)]
      simp [lenAt, hs]
/-- A column that had been. -/
theorem widths_old {rs : List (List ByteArray)} {r : List ByteArray} {j : Nat} {s : ByteArray} (hs : r[j]? = some s) (h : (widths (rs ++ [r.take j])).length ≠ j) : ∃ n, (widths (rs ++ [r.take j]))[j]? = some n ∧ (widths (rs ++ [r.take j])).set j (max n s.size) = widths (rs ++ [r.take (j + 1)]) := by
  have hj := (List.getElem?_eq_some_iff.1 hs).1
  rw [widths_len, most_snoc, List.length_take] at h
  have hm : j < most rs := by omega
  refine ⟨_, widths_get _ _ (by rw [most_snoc]; omega), widths_ext ?_ fun i hi => ?_⟩
  · rw [List.length_set, widths_len, most_snoc, most_snoc, List.length_take, List.length_take]; omega
  · rw [most_snoc, List.length_take] at hi
    rw [colMax_snoc, colMax_snoc, take_lenAt, take_lenAt, if_neg (Nat.lt_irrefl j), List.getElem?_set]
    split
    · rename_i he
      subst he
      rw [if_pos (by rw [widths_len, most_snoc]; omega), if_pos (by omega)]
      simp [lenAt, hs]
    · rename_i he
      rw [widths_get _ _ (by rw [most_snoc]; omega), colMax_snoc, take_lenAt]
      by_cases h1 : i < j
      · rw [if_pos h1, if_pos (by omega)]
      · rw [if_neg h1, if_neg (by omega)]
end Go.Proofs.YtboiaoaephimhaaDoor.T
