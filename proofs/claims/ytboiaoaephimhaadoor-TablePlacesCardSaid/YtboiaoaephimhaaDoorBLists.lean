/- A text's list, and the stanzas that it has. -/
import Derived.Test.YtboiaoaephimhaaDoorBStanzas
import Derived.Test.YtboiaoaephimhaaDoorBGood
namespace Go.Proofs.YtboiaoaephimhaaDoor.B
open Go.RowKit Go.Shelf

/-- A text's stanzas: numbers and fields. -/
def stanzasOf (t : List UInt8) : List St := ((numberFrom 1 (parse t).st.items).filter fun e => decide (0 < e.2)).map fun e => (e.2, e.1.fields)
theorem pairs_st : ∀ (es : List (It × Nat)) (vs : List Value), vs.length = es.length → (stanzaPairs es vs).map stOf = (es.filter fun e => decide (0 < e.2)).map fun e => (e.2, e.1.fields)
  | [], vs, _ => by simp [stanzaPairs]
  | e :: r, [], h => by simp at h
  | e :: r, v :: t, h => by
    have ih := pairs_st r t (by simpa using h)
    unfold stanzaPairs at ih ⊢
    simp only [List.zip_cons_cons, List.filter_cons]
    by_cases hp : 0 < e.2
    · simp only [hp, decide_true, if_true, List.map_cons, ih]; rfl
    · simp only [hp, decide_false, Bool.false_eq_true, if_false, ih]
theorem number_mem : ∀ (n : Nat) (xs : List It) (e : It × Nat), 0 < n → e ∈ numberFrom n xs → e.1 ∈ xs ∧ (0 < e.2 ↔ e.1.kind = 3)
  | _, [], e, _, h => by simp [numberFrom] at h
  | n, x :: r, e, hn, h => by
    unfold numberFrom at h
    split at h
    · rename_i hx
      rcases List.mem_cons.1 h with rfl | h
      · exact ⟨by simp, by simp [hx, hn]⟩
      · obtain ⟨h1, h2⟩ := number_mem (n + 1) r e (by omega) h
        exact ⟨by simp [h1], h2⟩
    · rename_i hx
      rcases List.mem_cons.1 h with rfl | h
      · exact ⟨by simp, by simp [hx]⟩
      · obtain ⟨h1, h2⟩ := number_mem n r e hn h
        exact ⟨by simp [h1], h2⟩
theorem stanzasOf_fine {t : List UInt8} {x : St} (h : x ∈ stanzasOf t) : FsFine x.2 ∧ x.2 ≠ [] ∧ 0 < x.1 := by
  unfold stanzasOf at h
  obtain ⟨e, he, rfl⟩ := List.mem_map.1 h
  obtain ⟨h1, h2⟩ := List.mem_filter.1 he
  obtain ⟨h3, h4⟩ := number_mem 1 _ e (by omega) h1
  have h5 := (parse_fine t).items e.1 h3
  have h6 : 0 < e.2 := by simpa using h2
  exact ⟨h5.1, h5.2.1 (h4.1 h6), h6⟩
theorem number_recs : ∀ (n : Nat) (xs : List It), 0 < n → ((numberFrom n xs).filter fun e => decide (0 < e.2)).length = recsOf xs
  | _, [], _ => rfl
  | n, x :: r, hn => by
    unfold numberFrom
    by_cases hx : x.kind = 3
    · rw [if_pos hx]
      have ih := number_recs (n + 1) r (by omega)
      unfold recsOf at ih ⊢
      simp only [List.filter_cons, hn, decide_true, if_true, List.length_cons, hx, ih]
    · rw [if_neg hx]
      have ih := number_recs n r hn
      unfold recsOf at ih ⊢
      simp [hx, ih]
theorem stanzasOf_len (t : List UInt8) : (stanzasOf t).length = recsOf (parse t).st.items := by unfold stanzasOf; rw [List.length_map, number_recs 1 _ (by omega)]
theorem stanzasOf_few (t : List UInt8) : (stanzasOf t).length ≤ 400 := by rw [stanzasOf_len]; exact parse_few t
/-- The list of a text lies in block b. -/
def ListIn (w : World) (b : Nat) (t : List UInt8) : Prop := ∃ ρ ve vs, ListAt w ρ b (numberFrom 1 (parse t).st.items) (1 + recsOf (parse t).st.items) (recsOf (parse t).st.items) ve vs
theorem ListIn.below {w w' : World} {b : Nat} {t : List UInt8} (h : ListIn w b t) (hb : Below w.heap.size w w') : ListIn w' b t :=
  let ⟨ρ, ve, vs, h1⟩ := h
  ⟨ρ, ve, vs, h1.below hb⟩
theorem ListIn.lt {w : World} {b : Nat} {t : List UInt8} (h : ListIn w b t) : b < w.heap.size := let ⟨_, _, _, h1⟩ := h; h1.blk.lt
/-- list.Of, by its text. -/
theorem list_ok (s : ByteArray) (hs : s.size ≤ 60000) (w : World) (he : (parse s.data.toList).err = 0) :
    Calls Tryd.prog 13 #[.string s] w fun e w' => ∃ b, e = .returned (.tuple #[.pointer (some ⟨b, 0, none⟩), .nilIface]) ∧ ListIn w' b s.data.toList ∧ w.heap.size ≤ b ∧ Below w.heap.size w w' :=
  (listOf_any s hs w).mono fun e w' h => by
    unfold ListPost at h
    rw [if_pos he] at h
    obtain ⟨b, ρ, ve, vs, h1, h2, h3, h4⟩ := h
    refine ⟨b, h1, ⟨ρ, ve, vs, h2⟩, ?_, h4⟩
    rcases Nat.lt_or_ge b w.heap.size with hlt | hge
    · have := h3 b hlt
      rw [h2.blk.2] at this; cases this
    · exact hge
theorem list_no (s : ByteArray) (hs : s.size ≤ 60000) (w : World) (he : (parse s.data.toList).err ≠ 0) :
    Calls Tryd.prog 13 #[.string s] w fun e w' => ∃ g, e = .returned (.tuple #[.pointer none, faultV g]) ∧ Below w.heap.size w w' :=
  (listOf_any s hs w).mono fun e w' h => by
    unfold ListPost at h
    rwa [if_neg he] at h
/-- list.Stanzas, by the text. -/
theorem stanzas_in {w : World} {b : Nat} {s : ByteArray} (h : ListIn w b s.data.toList) (hs : s.size ≤ 60000) :
    Calls Tryd.prog 30 #[.pointer (some ⟨b, 0, none⟩)] w (StanzasPost (stanzasOf s.data.toList) w) := by
  obtain ⟨ρ, ve, vs, h1⟩ := h
  have h2 := stanzas_any w ρ b _ _ _ ve vs h1 (by rw [number_len]; exact items_bound (by rw [size_len]; exact hs)) (fun e he h0 => by
    obtain ⟨h3, h4⟩ := number_mem 1 _ e (by omega) he
    have h5 := (parse_fine s.data.toList).items e.1 h3
    have h6 := h5.2.1 (h4.1 h0)
    have h7 := h5.1.1
    exact ⟨List.length_pos_iff.2 h6, by omega⟩)
  rw [pairs_st _ _ h1.len] at h2
  exact h2
theorem len_in {w : World} {b : Nat} {t : List UInt8} (h : ListIn w b t) :
    Calls Tryd.prog 17 #[.pointer (some ⟨b, 0, none⟩)] w fun e w' => e = .returned (.int .i64 (stanzasOf t).length) ∧ w = w' := by
  obtain ⟨ρ, ve, vs, h1⟩ := h
  have hc : w.cell? ⟨b, 2, none⟩ = some (.int .i64 (recsOf (parse t).st.items : Nat)) := cell_of_row _ b 2 _ _ h1.blk.1
  rw [← stanzasOf_len] at hc
  clear h1
  go_enter Tryd.func17, Tryd.ntmps17
  go_wp2
  go_ret
  exact ⟨rfl, rfl⟩
end Go.Proofs.YtboiaoaephimhaaDoor.B
