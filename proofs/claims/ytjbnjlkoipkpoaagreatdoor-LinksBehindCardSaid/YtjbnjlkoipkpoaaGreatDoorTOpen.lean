/- The law's rows of texts: out of the condition that they can be read. -/
import Derived.Test.YtjbnjlkoipkpoaaGreatDoorTRows
import Derived.Test.YtjbnjlkoipkpoaaGreatDoorTRow
import Derived.Deep.Slices
import Derived.SliceStrings
import Derived.ChangeSame
namespace Go.Proofs.YtjbnjlkoipkpoaaGreatDoor
open Go.RowKit Go.ChangeShapes Go.WideShapes Go.Deep

theorem list_of {α : Type} (n : Nat) (Q : Nat → α → Prop) (h : ∀ i, i < n → ∃ x, Q i x) : ∃ l : List α, l.length = n ∧ ∀ (k : Nat) (x : α), l[k]? = some x → Q k x := by
  induction n with
  | zero => exact ⟨[], rfl, fun k x hx => by simp at hx⟩
  | succ n ih =>
    obtain ⟨l, h1, h2⟩ := ih fun i hi => h i (by omega)
    obtain ⟨x, hx⟩ := h n (by omega)
    refine ⟨l ++ [x], by simp [h1], fun k y hy => ?_⟩
    rcases Nat.lt_or_ge k l.length with hk | hk
    · exact h2 k y (by rw [← hy, List.getElem?_append_left hk])
    · rw [List.getElem?_append_right hk] at hy
      have e : k = n := by
        have := (List.getElem?_eq_some_iff.1 hy).1
        simp at this
        omega
      subst e
      rw [h1] at hy
      simp at hy
      exact hy ▸ hx
theorem maxLen_eq : maxLen = 9223372036854775807 := by kernel_rfl
section
variable {H : Type} {enc : TypeId × Value → H} {w : World} {spare : Nat → Bool} {held : Bool}
/-- The cells of a row of texts. -/
theorem strs_cells {fuel : Nat} {base : Nat} {cs : List Value} {x : DataW H × List MemPlace} (h : DataW.trod enc Tryz.prog w base spare held fuel 39 cs = some x) : ∃ u r, cs = [u] ∧ T.StrArg w u r := by
  have m0 := maxLen_eq
  rcases open_strings Tryz.underlying39 Tryz.underlying9 (by kernel_rfl) h with ⟨rfl, -⟩ | ⟨a, len, cap, ss, rfl, -, hl, hm, hsl, -, hc, hs⟩
  · exact ⟨_, [], rfl, by simp, by simp, .inl ⟨rfl, rfl⟩⟩
  · have hlen : len ≤ ss.length := by rw [hsl]; split <;> omega
    have htl : (ss.take len).length = len := by rw [List.length_take]; omega
    refine ⟨_, ss.take len, rfl, by rw [htl]; omega, fun s h => by have := hs s (List.mem_of_mem_take h); omega, .inr ⟨a, cap, by rw [htl], fun k s hk => ?_⟩⟩
    have hk1 := (List.getElem?_eq_some_iff.1 hk).1
    rw [htl] at hk1
    have h1 := hc k (by omega)
    have e : ss.getD k ByteArray.empty = s := by
      rw [List.getElem?_take, if_pos hk1] at hk
      simp [hk]
    rw [e] at h1
    refine ⟨?_, h1⟩
    have := World.block_lt_of_cell? _ _ h1
    rwa [T.add_block] at this
set_option maxRecDepth 20000 in
theorem strs_open {v : Value} {d : DataW H} {p : List MemPlace} {base0 : Nat} (hval : Value.okWide Tryz.prog w .any base0 39 v) (h : DataW.Trod enc Tryz.prog w 0 spare held 39 v d p) : ∃ r, T.StrArg w v r := by
  obtain ⟨ao, len, cap, rfl⟩ := okWide_slice Tryz.underlying39 hval
  obtain ⟨fuel, hf⟩ := h
  obtain ⟨u, r, hu, hr⟩ := strs_cells hf
  simp [Value.cells] at hu
  exact ⟨r, hu ▸ hr⟩
theorem cellsStrs : Tryz.prog.cellsOf 39 = 1 := by kernel_rfl
set_option maxRecDepth 20000 in
theorem rows_open {v : Value} {d : DataW H} {p : List MemPlace} {base0 : Nat} (hval : Value.okWide Tryz.prog w .any base0 49 v) (h : DataW.Trod enc Tryz.prog w 0 (fun _ => true) true 49 v d p) : ∃ rs, T.RowsArg w v rs := by
  obtain ⟨ao, len, cap, rfl⟩ := okWide_slice Tryz.underlying49 hval
  obtain ⟨fuel, hf⟩ := h
  have m0 := maxLen_eq
  rcases open_slice Tryz.underlying49 hf with ⟨hcs, hx⟩ | ⟨a, len', cap', m, n, D, Pl, hcs, -, hl, hm, hmm, -, hi⟩
  · simp [Value.cells] at hcs
    obtain ⟨rfl, rfl, rfl⟩ := hcs
    exact ⟨[], none, 0, rfl, Nat.zero_le _, fun k o hk => by simp at hk⟩
  · simp [Value.cells] at hcs
    obtain ⟨rfl, rfl, rfl⟩ := hcs
    simp only [if_true] at hmm
    obtain ⟨l, h1, h2⟩ := list_of len (fun i (r : List ByteArray) => ∃ u, w.cell? (a.add i) = some u ∧ T.StrArg w u r) fun i hi' => by
      obtain ⟨cs', hc, ht⟩ := hi i (by omega)
      rw [cellsStrs, Nat.mul_one] at hc
      obtain ⟨u, r, rfl, hr⟩ := strs_cells ht
      obtain ⟨-, -, hat⟩ := World.cells?_some hc
      refine ⟨r, u, ?_, hr⟩
      have h0 : w.cell? (a.add i) = _ := hat 0 (by omega)
      rw [h0]; rfl
    refine ⟨l, some a, cap, by rw [h1], by omega, fun k o hk => ?_⟩
    obtain ⟨u, h3, h4⟩ := h2 k o hk
    refine ⟨a, u, rfl, ?_, h3, h4⟩
    have := World.block_lt_of_cell? _ _ h3
    rwa [T.add_block] at this
end
end Go.Proofs.YtjbnjlkoipkpoaaGreatDoor
