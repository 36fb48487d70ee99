/- The law's row of edits: out of the condition that it can be read. -/
import Derived.Test.YtklbbcemacpimaaGreatDoorIWrap
import Derived.Test.YtklbbcemacpimaaGreatDoorIHeavy
namespace Go.Proofs.YtklbbcemacpimaaGreatDoor.I
open Go.RowKit Go.ChangeShapes Go.WideShapes Go.Deep Go.Joins

theorem spot_none {w : World} {a : Addr} {v : Value} (h : w.cell? a = some v) : a = ⟨a.block, a.off, none⟩ := by
  obtain ⟨b, o, s⟩ := a
  cases s with
  | none => rfl
  | some s =>
    unfold World.cell? at h
    split at h <;> simp at h
theorem list_of {α : Type} (n : Nat) (Q : Nat → α → Prop) (h : ∀ i, i < n → ∃ x, Q i x) : ∃ l : List α, l.length = n ∧ ∀ (k : Nat) (x : α), l[k]? = some x → Q k x := by
  induction n with
  | zero => exact ⟨[], rfl, fun k x hx => by simp at hx⟩
  | succ n ih =>
    obtain ⟨l, h1, h2⟩ := ih fun i hi => h i (by omega)
    obtain ⟨x, hx⟩ := h n (by omega)
    refine ⟨l ++ [x], by simp [h1], fun k y hy => ?_⟩
    rcases Nat.lt_or_ge k l.length with hk | hk
    · exact h2 k y (by rw [← hy, List.getElem?_append_left hk])
    · rw [List.getElem?_append_right hk] at hy
      have e : k = n := by
        have := (List.getElem?_eq_some_iff.1 hy).1
        simp at this
        omega
      subst e
      rw [h1] at hy
      simp at hy
      exact hy ▸ hx
theorem cellsFld : Tryz.prog.cellsOf 57 = 2 := by kernel_rfl
theorem cellsEd : Tryz.prog.cellsOf 46 = 3 := by kernel_rfl
theorem mk_l8 (s : ByteArray) : (⟨s.data.toList.toArray⟩ : ByteArray) = s := Lib.mk_data s
section
variable {H : Type} {enc : TypeId × Value → H} {w : World}
set_option maxRecDepth 20000 in
/-- One field's cells. -/
theorem fld_open {fuel : Nat} {cs : List Value} {x : DataW H × List MemPlace} (h : DataW.trod enc Tryz.prog w 0 (fun _ => true) true fuel 57 cs = some x) : ∃ f : Fld, cs = fdc f := by
  obtain ⟨xs, n, -, -, hlen, hxl, hf⟩ := DataW.trod_struct Tryz.underlying57 h
  rw [cellsFld] at hlen
  match cs, hlen with
  | [c0, c1], _ =>
    match xs, hxl with
    | [y0, y1], _ =>
      have g0 := hf 0 _ rfl
      have g1 := hf 1 _ rfl
      have e9 : Tryz.prog.cellsOf 9 = 1 := by kernel_rfl
      simp [e9] at g0 g1
      obtain ⟨s0, k0, -, w0⟩ := DataW.trod_string Tryz.underlying9 g0
      obtain ⟨s1, k1, -, w1⟩ := DataW.trod_string Tryz.underlying9 g1
      simp at k0 k1
      subst k0 k1
      exact ⟨⟨s0.data.toList, s1.data.toList⟩, by unfold fdc; rw [mk_l8, mk_l8]⟩
set_option maxRecDepth 20000 in
theorem flds_open {fuel : Nat} {v : Value} {y : DataW H × List MemPlace} (h : DataW.trod enc Tryz.prog w 0 (fun _ => true) true fuel 44 [v] = some y) : ∃ fs fo fc, v = .slice fo fs.length fc ∧ FldsAt w v fs := by
  have m0 := maxLen_eq
  rcases open_slice Tryz.underlying44 h with ⟨hcs, -⟩ | ⟨a, len, cap, m, n, D, Pl, hcs, -, hl, hm, hmm, -, hi⟩
  · simp at hcs
    subst hcs
    exact ⟨[], none, 0, rfl, FldsAt.nil⟩
  · simp at hcs
    subst hcs
    simp only [if_true] at hmm
    obtain ⟨l, h1, h2⟩ := list_of len (fun i (f : Fld) => w.cell? ((a.add (i * 2)).add 0) = some (.string ⟨f.key.toArray⟩) ∧ w.cell? ((a.add (i * 2)).add 1) = some (.string ⟨f.val.toArray⟩)) fun i hi' => by
      obtain ⟨cs', hc, ht⟩ := hi i (by omega)
      rw [cellsFld] at hc
      obtain ⟨f, rfl⟩ := fld_open ht
      obtain ⟨-, -, hat⟩ := World.cells?_some hc
      exact ⟨f, hat 0 (by simp), hat 1 (by simp)⟩
    refine ⟨l, some a, cap, by rw [h1], some a, cap, by rw [h1], by omega, fun k f hk => ?_⟩
    obtain ⟨h4, h5⟩ := h2 k f hk
    have hpos : 0 < l.length := by have := (List.getElem?_eq_some_iff.1 hk).1; omega
    obtain ⟨q4, _⟩ := h2 0 _ (List.getElem?_eq_getElem hpos)
    have ea : a = ⟨a.block, a.off, none⟩ := spot_none (by simpa [Addr.add] using q4)
    rw [ea] at h4 h5
    rw [addr_add, addr_add] at h4 h5
    exact ⟨a.block, a.off, by rw [← ea], by simpa using h4, h5⟩
set_option maxRecDepth 20000 in
/-- One edit's cells. -/
theorem ed_open {fuel : Nat} {cs : List Value} {x : DataW H × List MemPlace} (h : DataW.trod enc Tryz.prog w 0 (fun _ => true) true fuel 46 cs = some x) : ∃ (e : Ed) (fo : Option Addr) (fc : Nat), cs = [.int .i64 e.kind, .int .i64 e.id, .slice fo e.fs.length fc] ∧ FldsAt w (.slice fo e.fs.length fc) e.fs ∧ (Lit.int .i64 e.id).wf = true := by
  obtain ⟨xs, n, -, -, hlen, hxl, hf⟩ := DataW.trod_struct Tryz.underlying46 h
  rw [cellsEd] at hlen
  match cs, hlen with
  | [c0, c1, c2], _ =>
    match xs, hxl with
    | [y0, y1, y2], _ =>
      have g0 := hf 0 _ rfl
      have g1 := hf 1 _ rfl
      have g2 := hf 2 _ rfl
      have e3 : Tryz.prog.cellsOf 3 = 1 := by kernel_rfl
      have e30 : Tryz.prog.cellsOf 44 = 1 := by kernel_rfl
      simp [e3, e30] at g0 g1 g2
      obtain ⟨n0, k0, -, w0⟩ := DataW.trod_int Tryz.underlying3 g0
      obtain ⟨n1, k1, -, w1⟩ := DataW.trod_int Tryz.underlying3 g1
      obtain ⟨fs, fo, fc, k2, hfs⟩ := flds_open g2
      simp at k0 k1
      subst k0 k1 k2
      exact ⟨⟨n0, n1, fs⟩, fo, fc, rfl, hfs, w1⟩
set_option maxRecDepth 20000 in
/-- The row of edits. -/
theorem edits_open {v : Value} {d : DataW H} {p : List MemPlace} {base0 : Nat} (hval : Value.okWide Tryz.prog w .any base0 40 v) (h : DataW.Trod enc Tryz.prog w 0 (fun _ => true) true 40 v d p) : ∃ es, EdsAt w v es := by
  obtain ⟨ao, len, cap, rfl⟩ := okWide_slice Tryz.underlying40 hval
  obtain ⟨fuel, hf⟩ := h
  have m0 := maxLen_eq
  rcases open_slice Tryz.underlying40 hf with ⟨hcs, hx⟩ | ⟨a, len', cap', m, n, D, Pl, hcs, -, hl, hm, hmm, -, hi⟩
  · simp [Value.cells] at hcs
    obtain ⟨rfl, rfl, rfl⟩ := hcs
    exact ⟨[], none, 0, rfl, Nat.zero_le _, fun k o hk => by simp at hk⟩
  · simp [Value.cells] at hcs
    obtain ⟨rfl, rfl, rfl⟩ := hcs
    simp only [if_true] at hmm
    obtain ⟨l, h1, h2⟩ := list_of len (fun i (e : Ed) => ∃ fo fc, w.cell? ((a.add (i * 3)).add 0) = some (.int .i64 e.kind) ∧ w.cell? ((a.add (i * 3)).add 1) = some (.int .i64 e.id) ∧ w.cell? ((a.add (i * 3)).add 2) = some (.slice fo e.fs.length fc) ∧ FldsAt w (.slice fo e.fs.length fc) e.fs ∧ (Lit.int .i64 e.id).wf = true) fun i hi' => by
      obtain ⟨cs', hc, ht⟩ := hi i (by omega)
      rw [cellsEd] at hc
      obtain ⟨e, fo, fc, rfl, he, hw⟩ := ed_open ht
      obtain ⟨-, -, hat⟩ := World.cells?_some hc
      exact ⟨e, fo, fc, hat 0 (by simp), hat 1 (by simp), hat 2 (by simp), he, hw⟩
    refine ⟨l, some a, cap, by rw [h1], by omega, fun k e hk => ?_⟩
    obtain ⟨fo, fc, h4, h5, h6, h7, h8⟩ := h2 k e hk
    have hpos : 0 < l.length := by have := (List.getElem?_eq_some_iff.1 hk).1; omega
    obtain ⟨_, _, q4, _⟩ := h2 0 _ (List.getElem?_eq_getElem hpos)
    have ea : a = ⟨a.block, a.off, none⟩ := spot_none (by simpa [Addr.add] using q4)
    rw [ea] at h4 h5 h6
    rw [addr_add, addr_add] at h4 h5 h6
    exact ⟨a.block, a.off, fo, fc, by rw [← ea], by simpa using h4, h5, h6, h7, h8⟩
end
end Go.Proofs.YtklbbcemacpimaaGreatDoor.I
