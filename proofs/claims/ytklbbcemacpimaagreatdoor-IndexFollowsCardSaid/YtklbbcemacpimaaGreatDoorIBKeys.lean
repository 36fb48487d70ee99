/- The plain law of parsing: every field's key is short. No program is named here. -/
import Derived.Test.YtklbbcemacpimaaGreatDoorBLists
namespace Go.Proofs.YtklbbcemacpimaaGreatDoor.B
open Go.RowKit

theorem goodKey_len {k : List UInt8} (h : goodKey k = true) : k.length ≤ 32 := by
  unfold goodKey at h
  split at h
  · cases h
  · simp only [Bool.and_eq_true, decide_eq_true_eq] at h
    exact h.1.1.1.1
theorem kind4_key {l : List UInt8} (h : kindOf l = 4) : (ahead 58 l).length ≤ 32 := by
  unfold kindOf at h
  split at h
  · cases h
  split at h
  · cases h
  split at h
  · cases h
  · split at h
    · cases h
    split at h
    · cases h
    split at h
    · rename_i h1
      simp only [Bool.and_eq_true] at h1
      exact goodKey_len h1.2
    · cases h
def KShort (fs : List Fd) : Prop := ∀ f ∈ fs, f.key.length ≤ 32
structure Ps.KF (p : Ps) : Prop where
  fields : KShort p.fields
  items : ∀ x ∈ p.items, KShort x.fields
theorem KShort.nil : KShort [] := fun f h => by cases h
theorem Ps.zero_kf : Ps.zero.KF := ⟨KShort.nil, fun x h => by simp [Ps.zero] at h⟩
theorem unfoldF_key {ls : List (List UInt8)} (h : unfoldN ls = 0) : (unfoldF ls).key.length ≤ 32 := by
  cases ls with
  | nil => simp [unfoldN] at h
  | cons l0 r =>
    rw [unfoldN_cons] at h
    split at h
    · cases h
    · rename_i h1
      exact kind4_key (Decidable.not_not.1 h1)
theorem Ps.KF.flush {p : Ps} (h : p.KF) : p.flush.st.KF := by
  unfold Ps.flush
  split
  · exact h
  split
  · exact h
  split
  · exact h
  · rename_i h1 h2 h3
    refine ⟨fun f hf => ?_, h.items⟩
    rcases List.mem_append.1 hf with hf | hf
    · exact h.fields f hf
    · rw [List.mem_singleton.1 hf]
      exact unfoldF_key (by simpa using h2)
theorem Ps.KF.ended {p : Ps} (h : p.KF) : p.ended.KF := by
  unfold Ps.ended
  split
  · exact ⟨KShort.nil, h.items⟩
  · refine ⟨KShort.nil, fun x hx => ?_⟩
    rcases List.mem_append.1 hx with hx | hx
    · exact h.items x hx
    · rw [List.mem_singleton.1 hx]
      exact h.fields
theorem Ps.KF.fin {p : Ps} (h : p.KF) : p.fin.st.KF := by
  unfold Ps.fin
  split
  · exact h.flush
  · exact h.flush.ended
theorem Ps.KF.more {p : Ps} (h : p.KF) (l : LineD) : (p.more l).KF := ⟨h.fields, h.items⟩
theorem Ps.KF.aheadOf {p : Ps} (h : p.KF) (l : LineD) (kind : Nat) : (p.aheadOf l kind).st.KF := by
  unfold Ps.aheadOf
  split
  · split
    · exact h
    split
    · exact h.more l
    · exact (h.more l).flush
  · split
    · exact h.fin
    · exact h.flush
theorem Ps.KF.taken {p : Ps} (h : p.KF) (l : LineD) (kind : Nat) : (p.taken l kind).st.KF := by
  unfold Ps.taken
  split
  · exact h
  split
  · refine ⟨h.fields, fun x hx => ?_⟩
    rcases List.mem_append.1 hx with hx | hx
    · exact h.items x hx
    · rw [List.mem_singleton.1 hx]
      exact KShort.nil
  split
  · exact ⟨h.fields, h.items⟩
  · exact ⟨h.fields, h.items⟩
theorem Ps.KF.take {p : Ps} (h : p.KF) (l : LineD) : (p.take l).st.KF := by
  unfold Ps.take
  split
  · exact h.aheadOf l _
  · exact (h.aheadOf l _).taken l _
theorem parseFrom_kf : ∀ (ls : List LineD) {p : Ps}, p.KF → (parseFrom p ls).st.KF
  | [], _, h => h
  | l :: r, p, h => by
    show (if (p.take l).err ≠ 0 then p.take l else parseFrom (p.take l).st r).st.KF
    split
    · exact h.take l
    · exact parseFrom_kf r (h.take l)
theorem parse_kf (t : List UInt8) : (parse t).st.KF := by
  unfold parse
  split
  · exact parseFrom_kf _ Ps.zero_kf
  · exact (parseFrom_kf _ Ps.zero_kf).fin
theorem stanzasOf_keys {t : List UInt8} {x : St} (h : x ∈ stanzasOf t) : KShort x.2 := by
  unfold stanzasOf at h
  obtain ⟨e, he, rfl⟩ := List.mem_map.1 h
  obtain ⟨h1, h2⟩ := List.mem_filter.1 he
  obtain ⟨h3, -⟩ := number_mem 1 _ e (by omega) h1
  exact (parse_kf t).items e.1 h3
/-- The numbers rise. -/
theorem number_ge : ∀ (n : Nat) (xs : List It) (e : It × Nat), e ∈ numberFrom n xs → 0 < e.2 → n ≤ e.2
  | _, [], e, h, _ => by simp [numberFrom] at h
  | n, x :: r, e, h, h0 => by
    unfold numberFrom at h
    split at h
    · rcases List.mem_cons.1 h with rfl | h
      · exact Nat.le_refl _
      · have := number_ge (n + 1) r e h h0; omega
    · rcases List.mem_cons.1 h with rfl | h
      · exact absurd h0 (by simp)
      · exact number_ge n r e h h0
theorem number_rise : ∀ (n : Nat) (xs : List It), (((numberFrom n xs).filter fun e => decide (0 < e.2)).map fun e => e.2).Pairwise (· < ·)
  | _, [] => by simp [numberFrom]
  | n, x :: r => by
    unfold numberFrom
    split
    · rw [List.filter_cons]
      split
      · rw [List.map_cons, List.pairwise_cons]
        refine ⟨fun b hb => ?_, number_rise (n + 1) r⟩
        obtain ⟨e, he, rfl⟩ := List.mem_map.1 hb
        obtain ⟨h1, h2⟩ := List.mem_filter.1 he
        have := number_ge (n + 1) r e h1 (by simpa using h2)
        show n < e.2
        omega
      · exact number_rise (n + 1) r
    · rw [List.filter_cons]
      simp only [Nat.lt_irrefl, decide_false, Bool.false_eq_true, if_false]
      exact number_rise n r
theorem stanzasOf_rise (t : List UInt8) : ((stanzasOf t).map fun x => x.1).Pairwise (· < ·) := by
  unfold stanzasOf
  rw [List.map_map]
  exact number_rise 1 _
theorem recsOf_cons (x : It) (r : List It) : recsOf (x :: r) = (if x.kind = 3 then 1 else 0) + recsOf r := by
  unfold recsOf
  rw [List.filter_cons]
  by_cases h : x.kind = 3
  · simp [h]; omega
  · simp [h]
theorem number_lt : ∀ (n : Nat) (xs : List It) (e : It × Nat), e ∈ numberFrom n xs → e.2 = 0 ∨ e.2 < n + recsOf xs
  | _, [], e, h => by simp [numberFrom] at h
  | n, x :: r, e, h => by
    rw [recsOf_cons]
    unfold numberFrom at h
    split at h
    · rename_i hx
      rw [if_pos hx]
      rcases List.mem_cons.1 h with rfl | h
      · right; show n < _; omega
      · rcases number_lt (n + 1) r e h with h1 | h1
        · exact .inl h1
        · right; omega
    · rename_i hx
      rw [if_neg hx]
      rcases List.mem_cons.1 h with rfl | h
      · exact .inl rfl
      · rcases number_lt n r e h with h1 | h1
        · exact .inl h1
        · right; omega
theorem stanzasOf_id {t : List UInt8} {x : St} (h : x ∈ stanzasOf t) : x.1 ≤ 1000000 := by
  have hf : recsOf (parse t).st.items ≤ 400 := parse_few t
  unfold stanzasOf at h
  obtain ⟨e, he, rfl⟩ := List.mem_map.1 h
  obtain ⟨h1, h2⟩ := List.mem_filter.1 he
  rcases number_lt 1 _ e h1 with h3 | h3
  · show e.2 ≤ _; omega
  · show e.2 ≤ _; omega
end Go.Proofs.YtklbbcemacpimaaGreatDoor.B
