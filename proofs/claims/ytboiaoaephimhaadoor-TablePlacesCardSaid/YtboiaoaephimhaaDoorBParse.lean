/- A text's items: stanza.Parse. -/
import Derived.Test.YtboiaoaephimhaaDoorBTaken
namespace Go.Proofs.YtboiaoaephimhaaDoor.B
open Go.RowKit Go.Shelf

/-! ### How much a parser holds -/
def lineSum (xs : List LineD) : Nat := (xs.map fun x => x.text.length + 1).sum
theorem lineSum_cons (x : LineD) (r : List LineD) : lineSum (x :: r) = x.text.length + 1 + lineSum r := by simp [lineSum]
theorem lineSum_prefix {pre xs : List LineD} (h : pre <+: xs) : lineSum pre ≤ lineSum xs := by
  obtain ⟨t, rfl⟩ := h
  simp [lineSum]
theorem ahead_behind (l : List UInt8) : (ahead 10 l).length + (behind 10 l).length + (if has 10 l then 1 else 0) = l.length := by
  rcases h : has 10 l with _ | _
  · rw [ahead_none _ _ h, behind_none _ _ h]; simp
  · have := ahead_append 10 l h
    have e := congrArg List.length this
    simp at e
    simp
    omega
theorem split_sum (size : Nat) : ∀ (f no : Nat) (l : List UInt8), l.length ≤ f → lineSum (splitFrom size f no l) ≤ l.length + 1
  | 0, no, l, h => by
    have : l = [] := List.length_eq_zero_iff.1 (by omega)
    subst this; simp [splitFrom, lineSum]
  | f + 1, no, l, h => by
    by_cases hl : l = []
    · subst hl; rw [splitFrom_nil]; simp [lineSum]
    · obtain ⟨f', e1, e2, e3⟩ := splitFrom_cons size (f + 1) no l hl h
      have e4 : f' = f := by omega
      subst e4
      rw [e3, lineSum_cons]
      have h1 := ahead_behind l
      have h2 := split_sum size f' (no + 1) (behind 10 l) e2
      by_cases hb : behind 10 l = []
      · rw [hb, splitFrom_nil]
        show (ahead 10 l).length + 1 + 0 ≤ _
        split at h1 <;> omega
      · rcases hh : has 10 l with _ | _
        · exact absurd (behind_none _ _ hh) hb
        · rw [hh] at h1
          simp at h1
          show (ahead 10 l).length + 1 + _ ≤ _
          omega
theorem splitL_sum (l : List UInt8) : lineSum (splitL l) ≤ l.length + 1 := split_sum _ _ _ _ (Nat.le_refl _)
theorem lineSum_mem {xs : List LineD} {x : LineD} (h : x ∈ xs) : x.text.length + 1 ≤ lineSum xs := by
  induction xs with
  | nil => cases h
  | cons y r ih =>
    rw [lineSum_cons]
    rcases List.mem_cons.1 h with rfl | h
    · omega
    · have := ih h; omega
theorem PsOk.up {p : Ps} {N M : Nat} (h : PsOk p N) (hM : N ≤ M) : PsOk p M := ⟨Nat.le_trans h.lines hM, Nat.le_trans h.block hM, Nat.le_trans h.items hM, Nat.le_trans h.fields hM, Nat.le_trans h.records hM⟩
theorem take_ok {p : Ps} {N : Nat} (h : PsOk p N) (x : LineD) : PsOk (p.take x).st (N + 6 * (x.text.length + 1)) := by
  have ha := aheadOf_ok h x (kindOf x.text) (N + x.text.length + 3) (Nat.le_refl _)
  unfold Ps.take
  split
  · exact ha.up (by omega)
  · generalize (p.aheadOf x (kindOf x.text)).st = q at ha ⊢
    obtain ⟨h1, h2, h3, h4, h5⟩ := ha
    unfold Ps.taken
    split
    · exact ⟨by show massOf q.lines ≤ _; omega, by show massOf q.block ≤ _; omega, by show q.items.length ≤ _; omega, by show q.fields.length ≤ _; omega, by show q.records ≤ _; omega⟩
    split
    · exact ⟨by show massOf q.lines ≤ _; omega, by show massOf q.block ≤ _; omega, by show (q.items ++ [_]).length ≤ _; rw [List.length_append]; simp; omega, by show q.fields.length ≤ _; omega, by show q.records ≤ _; omega⟩
    split
    · exact ⟨by show massOf [x.text] ≤ _; simp [massOf]; omega, by show massOf (q.block ++ [x.text]) ≤ _; rw [massOf_snoc]; omega, by show q.items.length ≤ _; omega, by show q.fields.length ≤ _; omega, by show q.records ≤ _; omega⟩
    · exact ⟨by show massOf q.lines ≤ _; omega, by show massOf (q.block ++ [x.text]) ≤ _; rw [massOf_snoc]; omega, by show q.items.length ≤ _; omega, by show q.fields.length ≤ _; omega, by show q.records ≤ _; omega⟩
theorem parseFrom_ok : ∀ (xs : List LineD) {p : Ps} {N : Nat}, PsOk p N → PsOk (parseFrom p xs).st (N + 6 * lineSum xs)
  | [], p, N, h => h.up (by omega)
  | x :: r, p, N, h => by
    have h1 := take_ok h x
    unfold parseFrom
    rw [lineSum_cons]
    split
    · exact h1.up (by omega)
    · exact (parseFrom_ok r h1).up (by omega)
theorem zero_ok : PsOk Ps.zero 0 := ⟨by decide, by decide, by decide, by decide, by decide⟩
theorem prefix_ok {s : List UInt8} {pre : List LineD} (hs : s.length ≤ 60000) (h : pre <+: splitL s) : PsOk (parseFrom Ps.zero pre).st 800000 := by
  have h1 := parseFrom_ok pre zero_ok
  have h2 := lineSum_prefix h
  have h3 := splitL_sum s
  exact h1.up (by omega)
/-! ### Where the loop stands -/
/-- Items lie in a row. -/
structure ItemsAt (w : World) (ρ : Col) (v : Value) (xs : List It) (vs : List Value) : Prop where
  row : Row w ρ 2 63 3 v xs.length (itemCells xs vs)
  len : vs.length = xs.length
  its : ∀ (i : Nat) u x, vs[i]? = some u → xs[i]? = some x → Row w ρ (5 + i) 100 2 u x.fields.length (x.fields.flatMap Fd.cells)
  fits : Fits w ρ
/-- The range's invariant: the parser lies in block N + 2. -/
structure PI (N : Nat) (w W0 : World) (p : Ps) (W : World) : Prop where
  os : W.os = w.os
  tape : W.tape = w.tape
  output : W.output = w.output
  size : N + 5 ≤ W.heap.size
  kept : ∀ k, k < N + 5 → k ≠ N + 2 → W.heap[k]? = W0.heap[k]?
  par : ∃ ρ, IsParser W ρ (N + 2) p ∧ ∀ k, k < N + 8 → k ≠ N + 2 → ρ k = none
theorem PI.touch {N : Nat} {w W0 W W' : World} {p : Ps} (h : PI N w W0 p W) (ht : Touch (N + 5) W W') : PI N w W0 p W' where
  os := ht.os.trans h.os
  tape := ht.tape.trans h.tape
  output := ht.output.trans h.output
  size := Nat.le_trans h.size ht.size
  kept := fun k hk hn => (ht.block k (.inl hk)).trans (h.kept k hk hn)
  par := by
    obtain ⟨ρ, ⟨L, hp⟩, hρ⟩ := h.par
    refine ⟨ρ, ⟨L, hp.keep (Ext.refl _ _) (σ := fun k => if N + 5 ≤ k ∧ k < N + 8 then some 0 else none) ⟨ht.os, ht.tape, ht.output, ht.size, fun k _ hn => ht.block k ?_⟩ ?_ (hp.fits.more ht.size)⟩, hρ⟩
    · by_cases e : N + 5 ≤ k ∧ k < N + 8
      · rw [if_pos e] at hn; cases hn
      · omega
    · intro k hk
      by_cases e : N + 5 ≤ k ∧ k < N + 8
      · exact absurd (hρ k e.2 (by omega)) hk
      · exact if_neg e
theorem PI.alloc {N : Nat} {w W0 W : World} {p : Ps} (h : PI N w W0 p W) (o : Obj) : PI N w W0 p (W.alloc o) where
  os := h.os
  tape := h.tape
  output := h.output
  size := by have := h.size; simp; omega
  kept := fun k hk hn => ((below_grow1 W o).block k (by have := h.size; omega)).trans (h.kept k hk hn)
  par := by
    obtain ⟨ρ, hp, hρ⟩ := h.par
    exact ⟨ρ, hp.below (below_grow1 W o), hρ⟩
theorem parser_new {W : World} {b : Nat} (hW : W.heap[b]? = some (.cells #[.slice none 0 0, .int .i64 0, .bool false, .slice none 0 0, .slice none 0 0, .slice none 0 0, .int .i64 0] 86 (0, 0))) :
    IsParser W (paint (fun _ => none) b 0) b Ps.zero := by
  refine ⟨⟨.slice none 0 0, .slice none 0 0, .slice none 0 0, .slice none 0 0, []⟩, ⟨⟨hW, paint_here _ _ _⟩, Row.nil _ _ _ _ _, Row.nil _ _ _ _ _, Row.nil _ _ _ _ _, Row.nil _ _ _ _ _, rfl, fun i v x h => by simp at h, fun _ => rfl, fun k hk => ?_⟩⟩
  by_cases e : k = b
  · rw [e]; exact (Array.getElem?_eq_some_iff.1 hW).1
  · rw [paint_else _ e] at hk; exact absurd rfl hk
/-- How the loop is left early. -/
structure PX (N : Nat) (w : World) (r : Res) (W : World) : Prop where
  below : Below N w W
  items : W.heap[N]? = some (.cells #[.slice none 0 0] 56 (0, 0))
  bad : r.err ≠ 0
  err : ∃ g, W.heap[N + 1]? = some (.cells #[faultV g] 34 (0, 0)) ∧ N + 8 ≤ g ∧ FaultAt W g r.at_ r.err
end Go.Proofs.YtboiaoaephimhaaDoor.B
