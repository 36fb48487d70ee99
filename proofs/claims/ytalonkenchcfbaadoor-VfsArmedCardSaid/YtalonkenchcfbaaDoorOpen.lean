/- The law's rows of operations: out of the condition that they can be read. -/
import Derived.Test.YtalonkenchcfbaaDoorLong
import Derived.Deep.Slices
import Derived.Deep.Fields
import Derived.ChangeSame
namespace Go.Proofs.YtalonkenchcfbaaDoor
open Go.RowKit Go.ChangeShapes Go.WideShapes Go.Deep

theorem list_of {α : Type} (n : Nat) (Q : Nat → α → Prop) (h : ∀ i, i < n → ∃ x, Q i x) : ∃ l : List α, l.length = n ∧ ∀ (k : Nat) (x : α), l[k]? = some x → Q k x := by
  induction n with
  | zero => exact ⟨[], rfl, fun k x hx => by simp at hx⟩
  | succ n ih =>
    obtain ⟨l, h1, h2⟩ := ih fun i hi => h i (by omega)
    obtain ⟨x, hx⟩ := h n (by omega)
    refine ⟨l ++ [x], by simp [h1], fun k y hy => ?_⟩
    rcases Nat.lt_or_ge k l.length with hk | hk
    · exact h2 k y (by rw [← hy, List.getElem?_append_left hk])
    · rw [List.getElem?_append_right hk] at hy
      have e : k = n := by
        have := (List.getElem?_eq_some_iff.1 hy).1
        simp at this
        omega
      subst e
      rw [h1] at hy
      simp at hy
      exact hy ▸ hx
theorem cellsOp : Tryd.prog.cellsOf 34 = 5 := by kernel_rfl
theorem maxLen_eq : maxLen = 9223372036854775807 := by kernel_rfl
theorem cell_block {w : World} {a : Addr} {v : Value} (h : w.cell? a = some v) : a.block < w.heap.size := by
  unfold World.cell? at h
  cases hh : w.heap[a.block]? with
  | none => rw [hh] at h; cases h
  | some o => exact (Array.getElem?_eq_some_iff.1 hh).1
section
variable {H : Type} {enc : TypeId × Value → H} {w : World} {base : Nat} {spare : Nat → Bool} {held : Bool}
/-- A number's bounds. -/
theorem i64_lo {n : Int} (h : (Lit.int .i64 n).wf = true) : -9223372036854775808 ≤ n ∧ n ≤ 9223372036854775807 := by
  have e1 : IntKind.i64.min = -9223372036854775808 := rfl
  have e2 : IntKind.i64.max = 9223372036854775807 := rfl
  simp [Lit.wf, e1, e2] at h
  omega
set_option maxRecDepth 20000 in
/-- One operation's cells. -/
theorem op_open {fuel : Nat} {cs : List Value} {x : DataW H × List MemPlace} (h : DataW.trod enc Tryd.prog w base spare held fuel 34 cs = some x) :
    ∃ o : OpC, o.Fit ∧ cs = o.cells := by
  obtain ⟨xs, n, -, -, hlen, hxl, hf⟩ := DataW.trod_struct Tryd.underlying34 h
  rw [cellsOp] at hlen
  match cs, hlen with
  | [c0, c1, c2, c3, c4], _ =>
    match xs, hxl with
    | [y0, y1, y2, y3, y4], _ =>
      have g0 := hf 0 _ rfl
      have g1 := hf 1 _ rfl
      have g2 := hf 2 _ rfl
      have g3 := hf 3 _ rfl
      have g4 := hf 4 _ rfl
      have e3 : Tryd.prog.cellsOf 3 = 1 := by kernel_rfl
      have e9 : Tryd.prog.cellsOf 9 = 1 := by kernel_rfl
      have e32 : Tryd.prog.cellsOf 32 = 1 := by kernel_rfl
      simp [e3, e9, e32] at g0 g1 g2 g3 g4
      obtain ⟨n0, k0, -, w0⟩ := DataW.trod_int Tryd.underlying3 g0
      obtain ⟨n1, k1, -, w1⟩ := DataW.trod_int Tryd.underlying3 g1
      obtain ⟨s2, k2, -, w2⟩ := DataW.trod_string Tryd.underlying9 g2
      obtain ⟨s3, k3, -, w3⟩ := DataW.trod_string Tryd.underlying9 g3
      have hk : ∃ ko kl kc, c4 = .slice ko kl kc ∧ kl ≤ 9223372036854775807 := by
        rcases open_slice Tryd.underlying32 g4 with ⟨h4, -⟩ | ⟨a, len, cap, m, n, D, Pl, h4, -, hl, hm, -⟩
        · exact ⟨none, 0, 0, by simpa using h4, Nat.zero_le _⟩
        · exact ⟨some a, len, cap, by simpa using h4, by have := maxLen_eq; omega⟩
      obtain ⟨ko, kl, kc, h4, hkl⟩ := hk
      simp at k0 k1 k2 k3
      subst k0 k1 k2 k3 h4
      have m0 := maxLen_eq
      exact ⟨⟨n0, n1, s2, s3, ko, kl, kc⟩, ⟨(i64_lo w0).1, (i64_lo w0).2, (i64_lo w1).1, (i64_lo w1).2, by simp only; omega, by simp only; omega, hkl⟩, rfl⟩
set_option maxRecDepth 20000 in
/-- The row of operations. -/
theorem script_open {v : Value} {d : DataW H} {p : List MemPlace} {base0 : Nat} (hval : Value.okWide Tryd.prog w .any base0 22 v) (h : DataW.Trod enc Tryd.prog w 0 (fun _ => true) true 22 v d p) :
    ∃ l, ScriptAt w.heap.size w v l := by
  obtain ⟨ao, len, cap, rfl⟩ := okWide_slice Tryd.underlying22 hval
  obtain ⟨fuel, hf⟩ := h
  have m0 := maxLen_eq
  rcases open_slice Tryd.underlying22 hf with ⟨hcs, hx⟩ | ⟨a, len', cap', m, n, D, Pl, hcs, -, hl, hm, hmm, -, hi⟩
  · simp [Value.cells] at hcs
    obtain ⟨rfl, rfl, rfl⟩ := hcs
    exact ⟨[], none, 0, rfl, Nat.zero_le _, fun k o hk => by simp at hk⟩
  · simp [Value.cells] at hcs
    obtain ⟨rfl, rfl, rfl⟩ := hcs
    simp only [if_true] at hmm
    obtain ⟨l, h1, h2⟩ := list_of len (fun i (o : OpC) => o.Fit ∧ OpAt w (a.add (i * 5)) o) fun i hi' => by
      obtain ⟨cs', hc, ht⟩ := hi i (by omega)
      rw [cellsOp] at hc
      obtain ⟨o, ho, rfl⟩ := op_open ht
      obtain ⟨-, -, hat⟩ := World.cells?_some hc
      exact ⟨o, ho, hat 0 (by omega), hat 1 (by omega), hat 2 (by omega), hat 3 (by omega), hat 4 (by omega)⟩
    refine ⟨l, some a, cap, by rw [h1], by omega, fun k o hk => ?_⟩
    obtain ⟨h3, h4⟩ := h2 k o hk
    refine ⟨a, rfl, ?_, h3, h4⟩
    have := cell_block h4.1
    rwa [add_block] at this
end
end Go.Proofs.YtalonkenchcfbaaDoor
