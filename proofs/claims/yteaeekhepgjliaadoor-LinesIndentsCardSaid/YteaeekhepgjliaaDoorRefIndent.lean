/- The reference's Indent and Dedent. -/
import Derived.Test.YteaeekhepgjliaaDoorDedent
namespace Go.Proofs.YteaeekhepgjliaaDoor
open Go.RowKit Go.Shelf

/-- The cells of a row that the call owns, in a world in which it stands as it stood. -/
theorem row_cells {base : Nat} {w2 : World} {v : Value} {L : List LineD} (hown : w2.ownsRow base 35 4 v L.length (rowCells L)) :
    ∀ k x, L[k]? = some x → ∃ g c, v = .slice (some ⟨g, 0, none⟩) L.length c ∧ base ≤ g ∧ g < w2.heap.size ∧ ∀ wr : World, wr.heap[g]? = w2.heap[g]? → ∀ j, j < 4 → wr.cell? ⟨g, k * 4 + j, none⟩ = (lineCells x)[j]? := by
  intro k x hx
  rcases hown.2 with ⟨rfl, h0⟩ | ⟨g, c, cur, rfl, h1, h2, h3, h4, h5, h6⟩
  · have : L = [] := List.length_eq_zero_iff.1 h0
    subst this
    simp at hx
  · refine ⟨g, c, rfl, h1, (Array.getElem?_eq_some_iff.1 h2).1, fun wr hw j hj => ?_⟩
    have hk : k < L.length := by
      rcases Nat.lt_or_ge k L.length with h | h
      · exact h
      · rw [List.getElem?_eq_none h] at hx; cases hx
    have e1 := rowCells_get L k x hx j hj
    rw [← h6, List.getElem?_take, if_pos (by omega)] at e1
    rw [← e1]
    simp [World.cell?, hw, h2]
theorem take_next {α : Type} {L : List α} {k : Nat} {x : α} (h : L[k]? = some x) : L.take (k + 1) = L.take k ++ [x] := by
  rw [List.take_add_one, h]; rfl
theorem app_list (a b : ByteArray) : (a ++ b).data.toList = a.data.toList ++ b.data.toList := by simp
set_option maxHeartbeats 1000000 in
theorem refIndent (s p : ByteArray) (hs : s.size ≤ 1000000) (hp : p.size ≤ 1000) (w : World) :
    Calls Tryd.prog 23 #[.string s, .string p] w fun e w' => e = .returned (.string ⟨(insOf p.data.toList (splitL s.data.toList)).toArray⟩) ∧ Below w.heap.size w w' := by
  have R := Lib.hid (fun w => refSplit s hs w)
  have hL0 := splitL_len s.data.toList
  rw [size_len] at hL0
  obtain ⟨L, hL⟩ : ∃ L, splitL s.data.toList = L := ⟨_, rfl⟩
  have hbd : Hid (∀ k, (insOf p.data.toList (L.take k)).length ≤ 1001000000) := fun k => by
    have h1 := insOf_le (p := p.data.toList) (l := s.data.toList) (pre := L.take k) (by rw [hL]; exact List.take_prefix _ _)
    rw [size_len, size_len] at h1
    have h2 : s.size * p.size ≤ 1000000 * 1000 := Nat.mul_le_mul hs hp
    omega
  rw [hL] at R hL0 ⊢
  clear hL
  go_enter Tryd.func23, Tryd.ntmps23
  go_wp2_with fail
  refine (R.out _).mono ?_
  rintro e w2 ⟨v, rfl, hown, b2⟩
  obtain ⟨ao, cp, rfl⟩ := own_shape hown
  have HR := Lib.hid (row_cells hown)
  have B2 := Lib.hid b2
  clear R hown b2
  have hLn : L.length ≤ 1000000 := by omega
  go_wp2
  go_loopw [5, 11] (fun o i wr => ∃ (k : Nat) (b : ByteArray), i = .int .i64 k ∧ o = .string b ∧ k ≤ L.length ∧ Hid (b.data.toList = insOf p.data.toList (L.take k)) ∧ Hid (Below w2.heap.size w2 wr)) (fun _ i _ => L.length - (intOf i).toNat)
  case atStart => exact ⟨0, ⟨#[]⟩, rfl, rfl, Nat.zero_le _, by show _ = _; simp [insOf], Below.refl _ _⟩
  case round =>
    obtain ⟨k, b, rfl, rfl, hk, hb, hw⟩ := hrel
    by_cases hlt : k < L.length
    · obtain ⟨⟨xno, xat, xtext, xend⟩, hx⟩ : ∃ x, L[k]? = some x := ⟨_, List.getElem?_eq_getElem hlt⟩
      obtain ⟨g, c, hv, h1, h2, h3⟩ := HR.out k _ hx
      cases hv
      have h4 := h3 wr (hw.out.block g h2)
      have n0 : wr.cell? ⟨g, k * 4, none⟩ = some (.int .i64 xno) := by simpa [lineCells] using h4 0 (by omega)
      have n1 : wr.cell? ⟨g, k * 4 + 1, none⟩ = some (.int .i64 xat) := by simpa [lineCells] using h4 1 (by omega)
      have n2 : wr.cell? ⟨g, k * 4 + 2, none⟩ = some (.string ⟨xtext.toArray⟩) := by simpa [lineCells] using h4 2 (by omega)
      have n3 : wr.cell? ⟨g, k * 4 + 3, none⟩ = some (.bool xend) := by simpa [lineCells] using h4 3 (by omega)
      have HX := Lib.hid hx
      have hz := hbd.out (k + 1)
      rw [take_next hx, insOf_snoc, ← hb.out, List.length_append, List.length_append, List.length_append, size_len, size_len] at hz
      simp only at hz
      clear h3 h4 hx
      have s1 : ¬ 9223372036854775807 < b.size + p.size := by omega
      have s2 : ¬ 9223372036854775807 < b.size + p.size + xtext.length := by omega
      have s3 : ¬ 9223372036854775807 < b.size + p.size + xtext.length + 1 := by omega
      cases xend
      · go_wp2
        refine ⟨⟨k + 1, _, by go_num, rfl, by omega, ?_, hw.out.alloc (by have := hw.out.size; omega) _⟩, by simp [intOf]; omega⟩
        show _ = _
        rw [take_next HX.out, insOf_snoc, ← hb.out, app_list, app_list]
        simp [nl]
      · go_wp2
        refine ⟨⟨k + 1, _, by go_num, rfl, by omega, ?_, hw.out.alloc (by have := hw.out.size; omega) _⟩, by simp [intOf]; omega⟩
        show _ = _
        rw [take_next HX.out, insOf_snoc, ← hb.out, app_list, app_list, app_list]
        simp [nl]
    · obtain rfl : k = L.length := by omega
      go_wp2
      rw [List.take_length] at hb
      go_ret
      exact ⟨by rw [← hb.out]; rfl, B2.out.trans (hw.out.mono (by have := B2.out.size; omega))⟩
theorem pre_test (t : List UInt8) (p : ByteArray) : (((⟨t.toArray⟩ : ByteArray).extract 0 p.size).toList == p.toList) = Lib.hasPrefix t p.data.toList := by
  rw [Lib.toList_data, Lib.toList_data, Lib.extract_eq]
  unfold Lib.hasPrefix
  rw [Bool.eq_iff_iff, List.isPrefixOf_iff_prefix, beq_iff_eq, List.prefix_iff_eq_take, size_len]
  simp
  exact eq_comm
theorem pre_short (t : List UInt8) (p : ByteArray) (h : t.length < p.size) : Lib.hasPrefix t p.data.toList = false := by
  unfold Lib.hasPrefix
  rw [Bool.eq_false_iff, ne_eq, List.isPrefixOf_iff_prefix]
  intro e
  have := e.length_le
  rw [size_len] at this
  omega
theorem ext_tail (t : List UInt8) (p : ByteArray) : ((⟨t.toArray⟩ : ByteArray).extract p.size t.length).data.toList = t.drop p.data.toList.length := by
  rw [Lib.extract_eq, size_len]
  show (t.drop p.size).take (t.length - p.size) = _
  rw [List.take_of_length_le (by rw [List.length_drop]; omega)]
set_option maxHeartbeats 1000000 in
theorem refDedent (s p : ByteArray) (hs : s.size ≤ 1000000) (w : World) :
    Calls Tryd.prog 21 #[.string s, .string p] w fun e w' => e = .returned (.tuple #[.string ⟨(dedText p.data.toList (splitL s.data.toList)).toArray⟩, .bool (allPre p.data.toList (splitL s.data.toList))]) ∧ Below w.heap.size w w' := by
  have R := Lib.hid (fun w => refSplit s hs w)
  have hL0 := splitL_len s.data.toList
  rw [size_len] at hL0
  obtain ⟨L, hL⟩ : ∃ L, splitL s.data.toList = L := ⟨_, rfl⟩
  have hbd : Hid (∀ k, (dedOf p.data.toList (L.take k)).length ≤ 1000000) := fun k => by
    have h1 := dedOf_le (p := p.data.toList) (l := s.data.toList) (pre := L.take k) (by rw [hL]; exact List.take_prefix _ _)
    rw [size_len] at h1
    omega
  have htx : Hid (∀ (k : Nat) x, L[k]? = some x → x.text.length ≤ 1000000) := fun k x hx => by
    have h1 := textOf_prefix (l := s.data.toList) (pre := L.take (k + 1)) (by rw [hL]; exact List.take_prefix _ _)
    rw [take_next hx, textOf_snoc, List.length_append, List.length_append, size_len] at h1
    omega
  rw [hL] at R hL0 ⊢
  clear hL
  go_enter Tryd.func21, Tryd.ntmps21
  go_wp2_with fail
  refine (R.out _).mono ?_
  rintro e w2 ⟨v, rfl, hown, b2⟩
  obtain ⟨ao, cp, rfl⟩ := own_shape hown
  have HR := Lib.hid (row_cells hown)
  have B2 := Lib.hid b2
  clear R hown b2
  have hLn : L.length ≤ 1000000 := by omega
  go_wp2
  go_loopw [6, 12] (fun o i wr => ∃ (k : Nat) (b : ByteArray), i = .int .i64 k ∧ o = .string b ∧ k ≤ L.length ∧ Hid (b.data.toList = dedOf p.data.toList (L.take k)) ∧ Hid (allPre p.data.toList (L.take k) = true) ∧ Hid (Below w2.heap.size w2 wr)) (fun _ i _ => L.length - (intOf i).toNat)
  case atStart => exact ⟨0, ⟨#[]⟩, rfl, rfl, Nat.zero_le _, by show _ = _; simp [dedOf], by show _ = _; simp [allPre], Below.refl _ _⟩
  case round =>
    obtain ⟨k, b, rfl, rfl, hk, hb, ha, hw⟩ := hrel
    by_cases hlt : k < L.length
    · obtain ⟨⟨xno, xat, xtext, xend⟩, hx⟩ : ∃ x, L[k]? = some x := ⟨_, List.getElem?_eq_getElem hlt⟩
      obtain ⟨g, c, hv, h1, h2, h3⟩ := HR.out k _ hx
      cases hv
      have h4 := h3 wr (hw.out.block g h2)
      have n0 : wr.cell? ⟨g, k * 4, none⟩ = some (.int .i64 xno) := by simpa [lineCells] using h4 0 (by omega)
      have n1 : wr.cell? ⟨g, k * 4 + 1, none⟩ = some (.int .i64 xat) := by simpa [lineCells] using h4 1 (by omega)
      have n2 : wr.cell? ⟨g, k * 4 + 2, none⟩ = some (.string ⟨xtext.toArray⟩) := by simpa [lineCells] using h4 2 (by omega)
      have n3 : wr.cell? ⟨g, k * 4 + 3, none⟩ = some (.bool xend) := by simpa [lineCells] using h4 3 (by omega)
      have HX := Lib.hid hx
      have hz := hbd.out (k + 1)
      rw [take_next hx, dedOf_snoc, ← hb.out, List.length_append, List.length_append, List.length_drop, size_len, size_len] at hz
      simp only at hz
      have ht := htx.out k _ hx
      simp only at ht
      clear h3 h4 hx
      have s1 : ¬ 9223372036854775807 < b.size + (xtext.length - p.size) := by omega
      have s2 : ¬ 9223372036854775807 < b.size + (xtext.length - p.size) + 1 := by omega
      have TR := Lib.hid (ext_tail xtext p)
      have TS := Lib.hid (pre_short xtext p)
      have TT := Lib.hid (pre_test xtext p)
      have HF : Hid (Lib.hasPrefix xtext p.data.toList = false → allPre p.data.toList L = false ∧ dedText p.data.toList L = []) := fun hq => by
        have h1 : allPre p.data.toList (L.take (k + 1)) = false := by rw [take_next HX.out, allPre_snoc, hq, Bool.and_false]
        have h2 := allPre_prefix (List.take_prefix _ _) h1
        exact ⟨h2, by unfold dedText; rw [h2]; rfl⟩
      have HG : Hid (Lib.hasPrefix xtext p.data.toList = true → allPre p.data.toList (L.take (k + 1)) = true) := fun hq => by
        show _ = _
        rw [take_next HX.out, allPre_snoc, ha.out, hq]; rfl
      cases xend
      · go_wp2
        · have h := (by assumption : xtext.length < p.size ∨ (!((⟨xtext.toArray⟩ : ByteArray).extract 0 p.size).toList == p.toList) = true)
          have hq : Lib.hasPrefix xtext p.data.toList = false := by
            rcases h with h | h
            · exact TS.out h
            · rw [TT.out] at h; simpa using h
          go_ret2
          exact ⟨by rw [(HF.out hq).1, (HF.out hq).2]; rfl, B2.out.trans ((hw.out.alloc (by have := hw.out.size; omega) _).mono (by have := B2.out.size; omega))⟩
        · have h := (by assumption : ¬xtext.length < p.size ∧ (!((⟨xtext.toArray⟩ : ByteArray).extract 0 p.size).toList == p.toList) = false)
          have hq : Lib.hasPrefix xtext p.data.toList = true := by
            have h := h.2
            rw [TT.out] at h
            simpa using h
          refine ⟨⟨k + 1, _, by go_num, rfl, by omega, ?_, HG.out hq, hw.out.alloc (by have := hw.out.size; omega) _⟩, by simp [intOf]; omega⟩
          show _ = _
          rw [take_next HX.out, dedOf_snoc, ← hb.out, app_list, TR.out]
          simp [nl]
        · have h := (by assumption : ¬ p.size ≤ xtext.length)
          have hq := TS.out (by omega)
          go_ret2
          exact ⟨by rw [(HF.out hq).1, (HF.out hq).2]; rfl, B2.out.trans ((hw.out.alloc (by have := hw.out.size; omega) _).mono (by have := B2.out.size; omega))⟩
      · go_wp2
        · have h := (by assumption : xtext.length < p.size ∨ (!((⟨xtext.toArray⟩ : ByteArray).extract 0 p.size).toList == p.toList) = true)
          have hq : Lib.hasPrefix xtext p.data.toList = false := by
            rcases h with h | h
            · exact TS.out h
            · rw [TT.out] at h; simpa using h
          go_ret2
          exact ⟨by rw [(HF.out hq).1, (HF.out hq).2]; rfl, B2.out.trans ((hw.out.alloc (by have := hw.out.size; omega) _).mono (by have := B2.out.size; omega))⟩
        · have h := (by assumption : ¬xtext.length < p.size ∧ (!((⟨xtext.toArray⟩ : ByteArray).extract 0 p.size).toList == p.toList) = false)
          have hq : Lib.hasPrefix xtext p.data.toList = true := by
            have h := h.2
            rw [TT.out] at h
            simpa using h
          refine ⟨⟨k + 1, _, by go_num, rfl, by omega, ?_, HG.out hq, hw.out.alloc (by have := hw.out.size; omega) _⟩, by simp [intOf]; omega⟩
          show _ = _
          rw [take_next HX.out, dedOf_snoc, ← hb.out, app_list, app_list, TR.out]
          simp [nl]
        · have h := (by assumption : ¬ p.size ≤ xtext.length)
          have hq := TS.out (by omega)
          go_ret2
          exact ⟨by rw [(HF.out hq).1, (HF.out hq).2]; rfl, B2.out.trans ((hw.out.alloc (by have := hw.out.size; omega) _).mono (by have := B2.out.size; omega))⟩
    · obtain rfl : k = L.length := by omega
      go_wp2
      rw [List.take_length] at hb ha
      go_ret2
      refine ⟨?_, B2.out.trans (hw.out.mono (by have := B2.out.size; omega))⟩
      unfold dedText
      rw [ha.out, if_pos rfl, ← hb.out]
      rfl
end Go.Proofs.YteaeekhepgjliaaDoor
