/- The plain law of IndexWithin: who has a key's value has the key; all values together are had by all who have the key; a range from the least to the greatest value is all. -/
import Derived.Test.YtklbbcemacpimaaGreatDoorIRefLaw
namespace Go.Proofs.YtklbbcemacpimaaGreatDoor.I
open Go Go.Maps Go.Proofs Go.RowKit Go.Sort

theorem nodup_len {α : Type} [DecidableEq α] : ∀ {W L : List α}, W.Nodup → (∀ x ∈ W, x ∈ L) → W.length ≤ L.length
  | [], _, _, _ => by simp
  | a :: W, L, h, hs => by
    rw [List.nodup_cons] at h
    have h1 := hs a (by simp)
    have h2 : W.length ≤ (L.erase a).length := nodup_len h.2 fun x hx => (List.mem_erase_of_ne (fun e => h.1 (by rw [← e]; exact hx))).2 (hs x (by simp [hx]))
    rw [List.length_erase_of_mem h1] at h2
    have h3 : 0 < L.length := List.length_pos_of_mem h1
    rw [List.length_cons]
    omega
theorem sum_ge {f : Int → Int} : ∀ {E : List Int}, (∀ i ∈ E, 1 ≤ f i) → (E.length : Int) ≤ (E.map f).sum
  | [], _ => by simp
  | a :: E, h => by
    have h1 := h a (by simp)
    have h2 : (E.length : Int) ≤ (E.map f).sum := sum_ge fun i hi => h i (List.mem_cons_of_mem _ hi)
    simp only [List.map_cons, List.sum_cons, List.length_cons]
    omega
theorem eq_count {m : Ms} (h : Rising m) {k v : L8} {E : List Int} (hE : E.Pairwise (· < ·)) (hm : ∀ i, i ∈ E ↔ cM m k v i ≠ 0) : (E.length : Int) ≤ rCount k v m := by
  rw [← rCount_sum h (hE.imp fun h => by omega) hm]
  refine sum_ge fun i hi => ?_
  have h1 := (hm i).1 hi
  have h2 := cM_nonneg k v i m
  omega
theorem who_len (p : Fld → Bool) (l : Ms) : (rWho p l).length ≤ l.length := by
  unfold rWho; rw [List.length_map]; exact List.length_filter_le _ _
theorem withF_len (key : L8) (l : List Fld) : (valsF key l).length ≤ l.length := by unfold valsF; rw [List.length_map]; exact List.length_filter_le _ _
theorem withM_len {key : L8} {m : Ms} {c : Nat} (h : ∀ s ∈ m, s.2.length ≤ c) : (valsM key m).length ≤ m.length * c := by
  induction m with
  | nil => simp [valsM]
  | cons s r ih =>
    have h1 := h s (by simp)
    have h2 := ih fun t ht => h t (by simp [ht])
    have h3 := withF_len key s.2
    have e : valsM key (s :: r) = valsF key s.2 ++ valsM key r := by simp [valsM]
    rw [e, List.length_append, List.length_cons, Nat.add_mul]
    omega
/-- How many all values are had by. -/
def sumLen (Es : L8 → List Int) (V : List L8) : Nat := (V.flatMap Es).length
theorem sumLen_snoc (Es : L8 → List Int) (V : List L8) (v : L8) : sumLen Es (V ++ [v]) = sumLen Es V + (Es v).length := by simp [sumLen]
theorem sumLen_le {Es : L8 → List Int} {c : Nat} : ∀ {V : List L8}, (∀ v ∈ V, (Es v).length ≤ c) → sumLen Es V ≤ V.length * c
  | [], _ => by simp [sumLen]
  | v :: r, h => by
    have h1 := h v (by simp)
    have h2 : sumLen Es r ≤ r.length * c := sumLen_le fun t ht => h t (by simp [ht])
    have e : sumLen Es (v :: r) = (Es v).length + sumLen Es r := by simp [sumLen]
    rw [e, List.length_cons, Nat.add_mul]
    omega
theorem all_had {m : Ms} {k : L8} {V : List L8} {W : List Int} {Es : L8 → List Int} (hV : ∀ v, v ∈ V ↔ ∃ i, cM m k v i ≠ 0) (hW : W.Pairwise (· < ·)) (hWm : ∀ i, i ∈ W ↔ ∃ v, cM m k v i ≠ 0) (hE : ∀ v ∈ V, ∀ i, i ∈ Es v ↔ cM m k v i ≠ 0) : W.length ≤ sumLen Es V := by
  refine nodup_len (hW.imp fun h => by omega) fun i hi => ?_
  obtain ⟨v, hv⟩ := (hWm i).1 hi
  have h1 := (hV v).2 ⟨i, hv⟩
  exact List.mem_flatMap.2 ⟨v, h1, (hE v h1 i).2 hv⟩
theorem none_had {m : Ms} {k : L8} {V : List L8} {W : List Int} (hV : ∀ v, v ∈ V ↔ ∃ i, cM m k v i ≠ 0) (hWm : ∀ i, i ∈ W ↔ ∃ v, cM m k v i ≠ 0) (h0 : V = []) : W = [] := by
  refine List.eq_nil_iff_forall_not_mem.2 fun i hi => ?_
  obtain ⟨v, hv⟩ := (hWm i).1 hi
  have := (hV v).2 ⟨i, hv⟩
  rw [h0] at this
  cases this
theorem rise_first {a : L8} {r : List L8} (h : (a :: r).Pairwise (· < ·)) : ∀ v ∈ a :: r, ¬ v < a := by
  rw [List.pairwise_cons] at h
  intro v hv hlt
  rcases List.mem_cons.1 hv with rfl | hv
  · exact l8_irr _ hlt
  · exact l8_irr _ (l8_trans hlt (h.1 v hv))
theorem rise_last {r : List L8} {z : L8} (h : (r ++ [z]).Pairwise (· < ·)) : ∀ v ∈ r ++ [z], v < z ∨ v = z := by
  intro v hv
  rcases List.mem_append.1 hv with hv | hv
  · exact .inl ((List.pairwise_append.1 h).2.2 v hv z (by simp))
  · exact .inr (by simpa using hv)
/-- A range from the least to the greatest value is all. -/
theorem range_all {m : Ms} {k : L8} {V : List L8} (hVr : V.Pairwise (· < ·)) (hV : ∀ v, v ∈ V ↔ ∃ i, cM m k v i ≠ 0) {a z : L8} (ha : V[0]? = some a) (hz : V[V.length - 1]? = some z) (i : Int) : (∃ v, inR a z v = true ∧ cM m k v i ≠ 0) ↔ ∃ v, cM m k v i ≠ 0 := by
  constructor
  · rintro ⟨v, -, h⟩; exact ⟨v, h⟩
  · rintro ⟨v, h⟩
    have hv := (hV v).2 ⟨i, h⟩
    refine ⟨v, ?_, h⟩
    unfold inR
    rw [bytesLess_eq, bytesLess_eq]
    have h1 : ¬ v < a := by
      cases V with
      | nil => cases hv
      | cons b r =>
        simp at ha
        subst ha
        exact rise_first hVr v hv
    have h2 : v < z ∨ v = z := by
      have hne : V ≠ [] := fun e => by rw [e] at hv; cases hv
      obtain ⟨r, y, rfl⟩ : ∃ r y, V = r ++ [y] := ⟨_, _, (List.dropLast_concat_getLast hne).symm⟩
      rw [List.length_append] at hz
      simp at hz
      subst hz
      exact rise_last hVr v hv
    simp only [Bool.and_eq_true, Bool.or_eq_true, beq_iff_eq, Bool.not_eq_true', decide_eq_false_iff_not, decide_eq_true_eq]
    exact ⟨h1, h2⟩
end Go.Proofs.YtklbbcemacpimaaGreatDoor.I
