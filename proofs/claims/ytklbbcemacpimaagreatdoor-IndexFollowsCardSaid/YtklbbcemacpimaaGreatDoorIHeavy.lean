/- stanzakeepnum.Much, Heavy; a row of edits in memory. -/
import Derived.Test.YtklbbcemacpimaaGreatDoorIIs
namespace Go.Proofs.YtklbbcemacpimaaGreatDoor.I
open Go Go.Maps Go.Proofs Go.RowKit Go.Sort Go.Shelf

theorem FldsAt.below {w w' : World} {v : Value} {fs : List Fld} (h : FldsAt w v fs) (hb : Below w.heap.size w w') : FldsAt w' v fs :=
  let ⟨ao, cp, h1, h2, h3⟩ := h
  ⟨ao, cp, h1, h2, fun k f hk => let ⟨g, o, e, c1, c2⟩ := h3 k f hk
    ⟨g, o, e, (hb.cell (World.block_lt_of_cell? _ _ c1)).trans c1, (hb.cell (World.block_lt_of_cell? _ _ c2)).trans c2⟩⟩
theorem FldsAt.in_ {w : World} {v : Value} {fs : List Fld} (h : FldsAt w v fs) : FldsIn (fun b => b < w.heap.size) w v fs := by
  refine ⟨h, fun h0 => ?_⟩
  obtain ⟨ao, cp, rfl, -, h3⟩ := h
  obtain ⟨f0, hf0⟩ : ∃ f, fs[0]? = some f := by cases fs with | nil => exact absurd rfl h0 | cons f r => exact ⟨f, rfl⟩
  obtain ⟨g, o, rfl, c1, -⟩ := h3 0 f0 hf0
  exact ⟨g, o, _, _, rfl, World.block_lt_of_cell? _ _ c1⟩
/-- Fields that are looked at. -/
def Slight (fs : List Fld) : Prop := fs.length ≤ 61 ∧ ∀ f ∈ fs, f.key.length ≤ 6000 ∧ f.val.length ≤ 6000
def MuchP (fs : List Fld) (w : World) (e : Ending) (w' : World) : Prop := ∃ b, e = .returned (.bool b) ∧ (b = false → Slight fs) ∧ Below w.heap.size w w'
def MRel (fs : List Fld) (w : World) (nv i : Value) (wr : World) : Prop :=
  ∃ (k s : Nat), i = .int .i64 k ∧ nv = .int .i64 s ∧ s ≤ 6000 ∧ k ≤ fs.length ∧ k ≤ 61 ∧ Hid (∀ f ∈ fs.take k, f.key.length ≤ 6000 ∧ f.val.length ≤ 6000) ∧ Hid (Below w.heap.size w wr)
set_option maxRecDepth 100000 in
set_option maxHeartbeats 3200000 in
theorem much_any (v : Value) (fs : List Fld) (w : World) (h : FldsAt w v fs) :
    Calls Tryz.prog 35 #[v] w (MuchP fs w) := by
  obtain ⟨ao, cp, rfl, hm, hc⟩ := id h
  have HC := Lib.hid hc
  clear hc h
  go_enter Tryz.func35, Tryz.ntmps35
  go_wp2
  go_loopw [3, 8] (fun nv i W => MRel fs w nv i W) (fun _ i _ => fs.length - (iOf i).toNat)
  case atStart => exact ⟨0, 0, rfl, rfl, by omega, Nat.zero_le _, by omega, Lib.hid (fun f hf => by simp at hf), Lib.hid (Below.refl _ _)⟩
  case round =>
    obtain ⟨k, s, rfl, rfl, hs, hk, hk6, hF, hW⟩ := hrel
    by_cases hlt : k < fs.length
    · obtain ⟨f, hf⟩ : ∃ f, fs[k]? = some f := ⟨_, List.getElem?_eq_getElem hlt⟩
      obtain ⟨g, o, rfl, h1, h2⟩ := HC.out k f hf
      have c1 := (hW.out.cell (World.block_lt_of_cell? _ _ h1)).trans h1
      have c2 := (hW.out.cell (World.block_lt_of_cell? _ _ h2)).trans h2
      obtain ⟨tk, htk⟩ : ∃ tk : ByteArray, (⟨f.key.toArray⟩ : ByteArray) = tk := ⟨_, rfl⟩
      obtain ⟨tv, htv⟩ : ∃ tv : ByteArray, (⟨f.val.toArray⟩ : ByteArray) = tv := ⟨_, rfl⟩
      have hyk : tk.size = f.key.length := by rw [← htk]; rfl
      have hyv : tv.size = f.val.length := by rw [← htv]; rfl
      rw [htk] at c1
      rw [htv] at c2
      have HB : Hid (Below w.heap.size w (wr.alloc (.cells #[.string tk, .string tv] 57))) := Lib.hid (hW.out.alloc hW.out.size _)
      have HF2 : Hid (f.key.length ≤ 6000 → f.val.length ≤ 6000 → ∀ y ∈ fs.take (k + 1), y.key.length ≤ 6000 ∧ y.val.length ≤ 6000) := Lib.hid fun a b y hy => by
        rw [List.take_add_one, hf] at hy
        rcases List.mem_append.1 hy with hy | hy
        · exact hF.out y hy
        · simp at hy; subst hy; exact ⟨a, b⟩
      have HYK := Lib.hid hyk
      have HYV := Lib.hid hyv
      clear h1 h2 hf htk htv hF hW hyk hyv
      go_wp2
      · go_ret
        exact ⟨true, rfl, fun h => by (cases h), HB.out⟩
      · have h1 := HYK.out
        have h2 := HYV.out
        exact ⟨⟨k + 1, s + (min tk.size 10000 + min tv.size 10000), by go_num, by simp only [Value.int.injEq, true_and]; omega, by omega, by omega, by omega, Lib.hid (HF2.out (by omega) (by omega)), HB⟩, by simp [iOf]; omega⟩
      · go_ret
        exact ⟨true, rfl, fun h => by (cases h), HB.out⟩
    · have ht : fs.take k = fs := List.take_of_length_le (by omega)
      have HS : Hid (Slight fs) := Lib.hid ⟨by omega, by have := hF.out; rwa [ht] at this⟩
      clear ht hF
      go_wp2
      go_ret
      exact ⟨false, rfl, fun _ => HS.out, hW.out⟩
/-- An edit. -/
structure Ed where
  kind : Int
  id : Int
  fs : List Fld
/-- Edits lie in memory. -/
def EdsAt (w : World) (v : Value) (es : List Ed) : Prop :=
  ∃ (ao : Option Addr) (cp : Nat), v = .slice ao es.length cp ∧ es.length ≤ 9223372036854775807 ∧ ∀ (k : Nat) (e : Ed), es[k]? = some e → ∃ g o fo fc, ao = some ⟨g, o, none⟩ ∧ w.cell? ⟨g, o + k * 3, none⟩ = some (.int .i64 e.kind) ∧ w.cell? ⟨g, o + k * 3 + 1, none⟩ = some (.int .i64 e.id) ∧ w.cell? ⟨g, o + k * 3 + 2, none⟩ = some (.slice fo e.fs.length fc) ∧ FldsAt w (.slice fo e.fs.length fc) e.fs ∧ (Lit.int .i64 e.id).wf = true
theorem EdsAt.below {w w' : World} {v : Value} {es : List Ed} (h : EdsAt w v es) (hb : Below w.heap.size w w') : EdsAt w' v es :=
  let ⟨ao, cp, h1, h2, h3⟩ := h
  ⟨ao, cp, h1, h2, fun k e hk => let ⟨g, o, fo, fc, e1, c1, c2, c3, hf, hw⟩ := h3 k e hk
    ⟨g, o, fo, fc, e1, (hb.cell (World.block_lt_of_cell? _ _ c1)).trans c1, (hb.cell (World.block_lt_of_cell? _ _ c2)).trans c2, (hb.cell (World.block_lt_of_cell? _ _ c3)).trans c3, hf.below hb, hw⟩⟩
/-- Edits that are looked at. -/
def Meek (es : List Ed) : Prop := es.length ≤ 51 ∧ ∀ e ∈ es, Slight e.fs
def HeavyP (es : List Ed) (w : World) (e : Ending) (w' : World) : Prop := ∃ b, e = .returned (.bool b) ∧ (b = false → Meek es) ∧ Below w.heap.size w w'
def HRel (es : List Ed) (w : World) (i : Value) (wr : World) : Prop :=
  ∃ k : Nat, i = .int .i64 k ∧ k ≤ es.length ∧ k ≤ 51 ∧ Hid (∀ e ∈ es.take k, Slight e.fs) ∧ Hid (Below w.heap.size w wr)
set_option maxRecDepth 100000 in
set_option maxHeartbeats 3200000 in
theorem heavy_any (v : Value) (es : List Ed) (w : World) (h : EdsAt w v es) :
    Calls Tryz.prog 15 #[v] w (HeavyP es w) := by
  obtain ⟨ao, cp, rfl, hm, hc⟩ := id h
  have HC := Lib.hid hc
  clear hc h
  go_enter Tryz.func15, Tryz.ntmps15
  go_wp2_with fail
  go_loopw [7] (fun i W => HRel es w i W) (fun i _ => es.length - (iOf i).toNat)
  case atStart => exact ⟨0, rfl, Nat.zero_le _, by omega, Lib.hid (fun f hf => by simp at hf), Lib.hid (Below.refl _ _)⟩
  case round =>
    obtain ⟨k, rfl, hk, hk6, hF, hW⟩ := hrel
    by_cases hlt : k < es.length
    · obtain ⟨f, hf⟩ : ∃ f, es[k]? = some f := ⟨_, List.getElem?_eq_getElem hlt⟩
      obtain ⟨g, o, fo, fc, rfl, h1, h2, h3, hfa, -⟩ := HC.out k f hf
      have c1 := (hW.out.cell (World.block_lt_of_cell? _ _ h1)).trans h1
      have c2 := (hW.out.cell (World.block_lt_of_cell? _ _ h2)).trans h2
      have c3 := (hW.out.cell (World.block_lt_of_cell? _ _ h3)).trans h3
      obtain ⟨w2, hw2⟩ : ∃ w2, wr.alloc (.cells #[.int .i64 f.kind, .int .i64 f.id, .slice fo f.fs.length fc] 46) = w2 := ⟨_, rfl⟩
      have hb2 : Below w.heap.size w w2 := by rw [← hw2]; exact hW.out.alloc hW.out.size _
      have MU := Lib.hid (much_any _ f.fs w2 (hfa.below hb2))
      have HF2 : Hid (Slight f.fs → ∀ y ∈ es.take (k + 1), Slight y.fs) := Lib.hid fun a y hy => by
        rw [List.take_add_one, hf] at hy
        rcases List.mem_append.1 hy with hy | hy
        · exact hF.out y hy
        · simp at hy; subst hy; exact a
      have HB2 := Lib.hid hb2
      clear h1 h2 h3 hf hF hW hfa hb2
      by_cases hk5 : (50 : Int) < (k : Int)
      · have HW2 := Lib.hid hw2
        clear hw2
        go_wp2_with fail
        go_ret
        exact ⟨true, rfl, fun h => by (cases h), by rw [HW2.out]; exact HB2.out⟩
      · have HW2 := Lib.hid hw2
        clear hw2
        go_wp2_with fail
        rw [HW2.out]
        refine MU.out.mono ?_
        rintro e w3 ⟨b, rfl, hb, hb3⟩
        have HB3 := Lib.hid (HB2.out.trans (hb3.mono HB2.out.size))
        cases b with
        | true =>
          clear hb hb3
          go_wp2_with fail
          go_ret
          exact ⟨true, rfl, fun h => by (cases h), HB3.out⟩
        | false =>
          have HS := Lib.hid (hb rfl)
          clear hb hb3
          go_wp2_with fail
          exact ⟨⟨k + 1, by go_num, by omega, by omega, Lib.hid (HF2.out HS.out), HB3⟩, by simp [iOf]; omega⟩
    · have ht : es.take k = es := List.take_of_length_le (by omega)
      have HS : Hid (Meek es) := Lib.hid ⟨by omega, by have := hF.out; rwa [ht] at this⟩
      clear ht hF
      go_wp2_with fail
      go_ret
      exact ⟨false, rfl, fun _ => HS.out, hW.out⟩
end Go.Proofs.YtklbbcemacpimaaGreatDoor.I
