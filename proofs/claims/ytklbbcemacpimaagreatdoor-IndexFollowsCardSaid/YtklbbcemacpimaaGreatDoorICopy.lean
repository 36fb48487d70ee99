/- Copies of fields: slices.Clone. -/
import Derived.Test.YtklbbcemacpimaaGreatDoorISt
import Derived.Deep.Upon
namespace Go.Proofs.YtklbbcemacpimaaGreatDoor.I
open Go Go.Maps Go.Proofs Go.RowKit

theorem infoF : (Tryz.prog.info? 57).map (fun i => (i.zero, i.size, i.bytes)) = some (some (.agg #[.string ⟨#[]⟩, .string ⟨#[]⟩]), 2, 32) := by kernel_rfl
theorem info_parts {P : Program} {e : TypeId} {z : Value} {n b : Nat} (h : (P.info? e).map (fun i => (i.zero, i.size, i.bytes)) = some (some z, n, b)) : ∃ i, P.info? e = some i ∧ i.zero = some z ∧ i.size = n ∧ i.bytes = b := by
  cases hi : P.info? e with
  | none => rw [hi] at h; cases h
  | some i => rw [hi] at h; injection h with h; injection h with h1 h2; injection h2 with h2 h3; exact ⟨i, rfl, h1, h2, h3⟩
def fdc (f : Fld) : List Value := [.string ⟨f.key.toArray⟩, .string ⟨f.val.toArray⟩]
theorem fdc_len : ∀ fs : List Fld, (fs.flatMap fdc).length = fs.length * 2
  | [] => rfl
  | f :: r => by
    rw [List.flatMap_cons, List.length_append, fdc_len r, List.length_cons]
    show 2 + _ = _
    omega
theorem fdc_one (fs : List Fld) : ∀ u ∈ fs.flatMap fdc, u.oneCell' = true := by
  intro u hu
  obtain ⟨a, _, ha⟩ := List.mem_flatMap.1 hu
  unfold fdc at ha
  simp at ha
  rcases ha with rfl | rfl <;> rfl
theorem fdc_get : ∀ (fs : List Fld) (k : Nat) (f : Fld), fs[k]? = some f → (fs.flatMap fdc)[k * 2]? = some (.string ⟨f.key.toArray⟩) ∧ (fs.flatMap fdc)[k * 2 + 1]? = some (.string ⟨f.val.toArray⟩)
  | [], k, f, h => by simp at h
  | y :: r, 0, f, h => by simp at h; subst h; exact ⟨rfl, rfl⟩
  | y :: r, k + 1, f, h => by
    obtain ⟨h1, h2⟩ := fdc_get r k f (by simpa using h)
    have e1 : (k + 1) * 2 = k * 2 + 1 + 1 := by omega
    rw [e1]
    have e : (y :: r).flatMap fdc = .string ⟨y.key.toArray⟩ :: .string ⟨y.val.toArray⟩ :: r.flatMap fdc := rfl
    rw [e]
    exact ⟨by simpa using h1, by simpa using h2⟩
theorem addr_add (g o k : Nat) : (⟨g, o, none⟩ : Addr).add k = ⟨g, o + k, none⟩ := by cases k <;> simp [Addr.add]
/-- The cells of fields, one by one. -/
theorem FldsAt.cells {w : World} {v : Value} {fs : List Fld} (h : FldsAt w v fs) (h0 : fs ≠ []) : ∃ g o cp, v = .slice (some ⟨g, o, none⟩) fs.length cp ∧ ∀ j u, (fs.flatMap fdc)[j]? = some u → w.cell? (Addr.add ⟨g, o, none⟩ j) = some u := by
  obtain ⟨ao, cp, rfl, hm, hc⟩ := h
  obtain ⟨f0, hf0⟩ : ∃ f, fs[0]? = some f := by cases fs with | nil => exact absurd rfl h0 | cons f r => exact ⟨f, rfl⟩
  obtain ⟨g, o, rfl, -, -⟩ := hc 0 f0 hf0
  refine ⟨g, o, cp, rfl, fun j u hu => ?_⟩
  have hj := (List.getElem?_eq_some_iff.1 hu).1
  rw [fdc_len] at hj
  obtain ⟨f, hf⟩ : ∃ f, fs[j / 2]? = some f := ⟨_, List.getElem?_eq_getElem (by omega)⟩
  obtain ⟨g', o', e, c1, c2⟩ := hc (j / 2) f hf
  injection e with e
  injection e with e4 e5 e6
  subst e4; subst e5
  obtain ⟨h1, h2⟩ := fdc_get fs (j / 2) f hf
  rw [addr_add]
  rcases Nat.mod_two_eq_zero_or_one j with hp | hp
  · have : j / 2 * 2 = j := by omega
    rw [this] at h1 c1
    rw [h1] at hu; rw [c1, hu]
  · have e8 : j / 2 * 2 + 1 = j := by omega
    rw [e8] at h2
    have e9 : o + j / 2 * 2 + 1 = o + j := by omega
    rw [e9] at c2
    rw [h2] at hu; rw [c2, hu]
/-- A row of the call's own holds fields. -/
theorem FldsAt.row {base : Nat} {w : World} {v : Value} {fs : List Fld} (h : w.ownsRow base 57 2 v fs.length (fs.flatMap fdc)) (hn : fs.length ≤ 9223372036854775807) : FldsAt w v fs := by
  rcases h.2 with ⟨h0, h1⟩ | ⟨g, cap, cur, hv, hb, hg, -⟩
  · refine ⟨none, 0, ?_, hn, fun k f hk => ?_⟩
    · rw [h1, h0]
    · have := (List.getElem?_eq_some_iff.1 hk).1; omega
  · refine ⟨_, cap, hv, hn, fun k f hk => ⟨g, 0, rfl, ?_⟩⟩
    obtain ⟨h3, h4⟩ := fdc_get fs k f hk
    have e1 := h.cells (g := g) (by rw [hv]; rfl) _ _ h3
    have e2 := h.cells (g := g) (by rw [hv]; rfl) _ _ h4
    rw [addr_add] at e1 e2
    exact ⟨e1, by rw [← e2, Nat.add_assoc]⟩
/-- An append by its run. -/
theorem wpList_append_eq {w : World} {ops : Array Oper} {rest : List Oper} {o : Oper} {a : Act} {Q : Exit → Act → World → Prop} (hgd : o.guard = none) (s x : Operand) (t : TypeId)
    (ho : o.op = .call { callee := .builtin .append, args := #[s, x], argTypes := #[t, t] }) {v u v' : Value} {w' : World} (hs : a.eval s = v) (hx : a.eval x = u)
    (hr : ∀ ty, (Builtin.append_ #[t, t] ty #[v, u]).run Tryz.prog w = .ok v' w') (h : wpList Tryz.prog ops Q rest (a.put o.dst v') w') : wpList Tryz.prog ops Q (o :: rest) a w :=
  wpList_plain hgd fun _ hK => by
    unfold Oper.wp execOp
    simp only [ho, resolve, invoke, builtin, Sem.run_bind, Sem.run_pure, Result.andThen_ok, List.map_toArray, List.map_cons, List.map_nil, hs, hx, hr]
    exact hK _ _ h
/-- What a copy is. -/
def CopyOf (fs : List Fld) (w : World) (e : Ending) (w' : World) : Prop :=
  ∃ u, e = .returned (slEl.enc u) ∧ FldsIn (fun b => w.heap.size ≤ b ∧ b < w'.heap.size) w' (slEl.enc u) fs ∧ Below w.heap.size w w'
set_option maxRecDepth 100000 in
set_option maxHeartbeats 1600000 in
theorem clone_some (v : Value) (fs : List Fld) (w : World) (h : FldsAt w v fs) (h0 : fs ≠ []) (hn1 : fs.length ≤ 1000000) :
    Calls Tryz.prog 38 #[v] w (CopyOf fs w) := by
  obtain ⟨i0, hi0, hz0, hz1, hz2⟩ := info_parts infoF
  obtain ⟨g, o, c, rfl, hc⟩ := h.cells h0
  have hcl : ∀ j u, (fs.flatMap fdc)[j]? = some u → g < w.heap.size := fun j u hu => by have h1 := hc j u hu; rw [addr_add] at h1; exact World.block_lt_of_cell? _ _ h1
  have hlen := Lib.hid (fdc_len fs)
  have HC := Lib.hid hc
  have HL := Lib.hid hcl
  have H1 := Lib.hid (fdc_one fs)
  have hpos : 0 < fs.length := by cases fs with | nil => exact absurd rfl h0 | cons f r => simp
  have H0 := Lib.hid h0
  have hq : ∀ w, (binOp .eql 44 (.slice (some ⟨g, o, none⟩) fs.length c) (.slice none 0 0)).run Tryz.prog w = .ok (.bool false) w := fun w => by kernel_rfl
  clear hc hcl h h0
  go_enter Tryz.func38, Tryz.ntmps38
  have hm := World.ownsRow_made (base := w.heap.size) (e := 57) (size := 2) w #[] 0 (Nat.le_refl _) (Nat.zero_le _) rfl
  have hb1 : Below w.heap.size w (w.alloc (.cells #[] 57)) := (Below.refl _ _).alloc (Nat.le_refl _) _
  have HM := Lib.hid hm
  have HB1 := Lib.hid hb1
  clear hm hb1
  go_wp2_with (at_builtin; refine wpList_append_lies _ rfl _ _ _ rfl w.heap.size 57 i0 _ 2 32 Tryz.underlying44 hi0 hz0 hz1 hz2 rfl (by omega) (.slice (some ⟨w.heap.size, 0, none⟩) 0 0) 0 [] rfl HM.out ⟨g, o, none⟩ fs.length c (fs.flatMap fdc) rfl hlen.out (fun j u hu => by rw [HB1.out.cell (p := Addr.add ⟨g, o, none⟩ j) (by rw [addr_add]; exact HL.out j u hu)]; exact HC.out j u hu) H1.out hpos (by unfold maxLen; omega) (by omega) (by simp) _ rfl ?_; refine Hid.out ?_)
  refine Lib.hid ?_
  intro gg cap w1 hown1 hgrow hat hlt
  have hown1 := Lib.hid hown1
  have hgrow := Lib.hid hgrow
  have hat := Lib.hid hat
  go_wp2_with fail
  go_ret
  have hr : w1.ownsRow w.heap.size 57 2 (.slice (some ⟨gg, 0, none⟩) fs.length cap) fs.length (fs.flatMap fdc) := by simpa using hown1.out
  refine ⟨some (gg, fs.length, cap), by simp [go_sem, slEl], ⟨FldsAt.row hr (by omega), fun _ => ⟨gg, 0, _, _, rfl, ?_⟩⟩, HB1.out.grown hgrow.out HB1.out.size (fun k hk => by cases hk; exact Nat.le_refl _)⟩
  have := World.ownsRow.lt hr gg rfl
  exact this
set_option maxRecDepth 100000 in
set_option maxHeartbeats 1600000 in
theorem clone_any (v : Value) (fs : List Fld) (w : World) (h : FldsAt w v fs) (hn1 : fs.length ≤ 1000000) :
    Calls Tryz.prog 38 #[v] w (CopyOf fs w) := by
  by_cases h0 : fs = []
  · subst h0
    obtain ⟨ao, cp, rfl, -, -⟩ := h
    cases ao with
    | none =>
      have hq : ∀ w, (binOp .eql 44 (.slice none 0 cp) (.slice none 0 0)).run Tryz.prog w = .ok (.bool true) w := fun w => by kernel_rfl
      go_enter Tryz.func38, Tryz.ntmps38
      go_wp2_with fail
      go_ret
      exact ⟨none, by simp [go_sem, slEl], ⟨FldsAt.nil, fun h => absurd rfl h⟩, Below.refl _ _⟩
    | some a =>
      obtain ⟨i0, hi0, hz0, hz1, hz2⟩ := info_parts infoF
      obtain ⟨w1, hw1⟩ : ∃ w1, w.alloc (.cells #[] 57) = w1 := ⟨_, rfl⟩
      have hb1 : Below w.heap.size w w1 := by rw [← hw1]; exact below_grow1 w _
      have hs1 : w1.heap.size = w.heap.size + 1 := by rw [← hw1]; simp
      have hsrc : Src Tryz.prog i0.size 44 (.slice (some a) 0 cp) 0 [] w1 := by
        exact Src.ofSlice _ Tryz.underlying44 a 0 cp [] (by simp) (fun j u hu => by simp at hu) (fun u hu => by simp at hu)
      have happ : ∀ ty, (Builtin.append_ #[44, 44] ty #[.slice (some ⟨w.heap.size, 0, none⟩) 0 0, .slice (some a) 0 cp]).run Tryz.prog w1 = .ok (.slice (some ⟨w.heap.size, 0, none⟩) 0 0) w1 := fun ty => run_append_nothing w1 _ _ ty _ i0 Tryz.underlying44 hi0 _ 0 0 (Nat.le_refl _) _ hsrc
      rw [← hw1] at happ
      rw [← hw1] at hb1
      have HB := Lib.hid hb1
      have hq : ∀ w, (binOp .eql 44 (.slice (some a) 0 cp) (.slice none 0 0)).run Tryz.prog w = .ok (.bool false) w := fun w => by kernel_rfl
      have HAP := Lib.hid happ
      clear hw1 hb1 hsrc hi0 hz0 hz1 hz2 hs1 happ
      go_enter Tryz.func38, Tryz.ntmps38
      go_wp2_with (at_builtin; refine wpList_append_eq rfl _ _ _ rfl rfl rfl HAP.out ?_; refine Hid.out ?_)
      refine Lib.hid ?_
      go_wp2_with fail
      go_ret
      exact ⟨some (w.heap.size, 0, 0), by simp [go_sem, slEl], ⟨FldsAt.nil, fun h => absurd rfl h⟩, HB.out⟩
  · exact clone_some v fs w h h0 hn1
end Go.Proofs.YtklbbcemacpimaaGreatDoor.I
