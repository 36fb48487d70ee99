/- The law's struct of a renaming: out of the condition that it can be read. -/
import Derived.Test.YtalonkenchcfbaaDoorOpen
import Derived.Test.YtalonkenchcfbaaDoorSwaps
import Derived.Lib.SmallJoins
namespace Go.Proofs.YtalonkenchcfbaaDoor
open Go.RowKit Go.ChangeShapes Go.WideShapes Go.Deep Go.Joins

theorem spot_none {w : World} {a : Addr} {v : Value} (h : w.cell? a = some v) : a = ⟨a.block, a.off, none⟩ := by
  obtain ⟨b, o, s⟩ := a
  cases s with
  | none => rfl
  | some s =>
    unfold World.cell? at h
    split at h <;> simp at h
theorem cellsInt : Tryd.prog.cellsOf 3 = 1 := by kernel_rfl
section
variable {H : Type} {enc : TypeId × Value → H} {w : World}
set_option maxRecDepth 20000 in
theorem ints_open {fuel : Nat} {v : Value} {y : DataW H × List MemPlace} (h : DataW.trod enc Tryd.prog w 0 (fun _ => true) true fuel 32 [v] = some y) : ∃ ks, HandedInts w.heap.size w v ks := by
  have m0 := maxLen_eq
  rcases open_slice Tryd.underlying32 h with ⟨hcs, -⟩ | ⟨a, len, cap, m, n, D, Pl, hcs, -, hl, hm, hmm, -, hi⟩
  · simp at hcs
    subst hcs
    exact ⟨[], none, 0, rfl, Nat.zero_le _, fun k d hd => by simp at hd⟩
  · simp at hcs
    subst hcs
    simp only [if_true] at hmm
    obtain ⟨l, h1, h2⟩ := list_of len (fun i (d : Int) => w.cell? (a.add i) = some (.int .i64 d) ∧ d ≤ 9223372036854775807) fun i hi' => by
      obtain ⟨cs', hc, ht⟩ := hi i (by omega)
      rw [cellsInt, Nat.mul_one] at hc
      obtain ⟨d, rfl, -, hw⟩ := DataW.trod_int Tryd.underlying3 ht
      obtain ⟨-, -, hat⟩ := World.cells?_some hc
      exact ⟨d, hat 0 (by omega), (i64_lo hw).2⟩
    refine ⟨l, some a, cap, by rw [h1], by omega, fun k d hk => ?_⟩
    obtain ⟨h3, h4⟩ := h2 k d hk
    have hpos : 0 < l.length := by have := (List.getElem?_eq_some_iff.1 hk).1; omega
    obtain ⟨h5, -⟩ := h2 0 _ (List.getElem?_eq_getElem hpos)
    have ea : a = ⟨a.block, a.off, none⟩ := spot_none (by simpa [Addr.add] using h5)
    refine ⟨a.block, a.off, by rw [← ea], ?_, ?_, h4⟩
    · have := cell_block h3
      rwa [add_block] at this
    · rw [ea] at h3
      unfold Addr.add at h3
      split at h3
      · rename_i e; subst e; exact h3
      · exact h3
set_option maxRecDepth 20000 in
theorem renaming_open {v : Value} {d : DataW H} {p : List MemPlace} {base0 : Nat} (hval : Value.okWide Tryd.prog w .any base0 42 v) (h : DataW.Trod enc Tryd.prog w 0 (fun _ => true) true 42 v d p) :
    ∃ old fresh dir u ks, v = .agg #[.string old, .string fresh, .int .i64 dir, u] ∧ old.size ≤ 9223372036854775807 ∧ fresh.size ≤ 9223372036854775807 ∧ -9223372036854775808 ≤ dir ∧ dir ≤ 9223372036854775807 ∧ HandedInts w.heap.size w u ks := by
  have m0 := maxLen_eq
  obtain ⟨v0, v1, v2, v3, y0, y1, y2, y3, n, rfl, -, -, g0, g1, g2, g3⟩ := open_agg4 Tryd.underlying42 (by kernel_rfl) (by kernel_rfl) hval h
  obtain ⟨s0, k0, -, w0⟩ := DataW.trod_string Tryd.underlying9 g0
  obtain ⟨s1, k1, -, w1⟩ := DataW.trod_string Tryd.underlying9 g1
  obtain ⟨n2, k2, -, w2⟩ := DataW.trod_int Tryd.underlying3 g2
  simp at k0 k1 k2
  subst k0 k1 k2
  obtain ⟨ks, hks⟩ := ints_open g3
  exact ⟨s0, s1, n2, v3, ks, rfl, by omega, by omega, (i64_lo w2).1, (i64_lo w2).2, hks⟩
end
end Go.Proofs.YtalonkenchcfbaaDoor
