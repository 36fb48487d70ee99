/- What every parsed item is: few fields, short values; an item with fields is a stanza. No program is named here. -/
import Derived.Test.YtboiaoaephimhaaDoorBLaw
namespace Go.Proofs.YtboiaoaephimhaaDoor.B
open Go.RowKit

def FsFine (fs : List Fd) : Prop := fs.length ≤ 40 ∧ ∀ f ∈ fs, f.val.length ≤ 1000
theorem FsFine.nil : FsFine [] := ⟨by simp, fun f h => by simp at h⟩
def It.Fine (x : It) : Prop := FsFine x.fields ∧ (x.kind = 3 ↔ x.fields ≠ [])
structure Ps.Fine (p : Ps) : Prop where
  fields : FsFine p.fields
  items : ∀ x ∈ p.items, x.Fine
  room : p.lines ≠ [] → p.full = false → p.fields.length < 40
theorem Ps.zero_fine : Ps.zero.Fine := ⟨FsFine.nil, fun x h => by simp [Ps.zero] at h, fun h => absurd rfl h⟩
theorem unfoldF_val {ls : List (List UInt8)} (h : unfoldN ls = 0) : (unfoldF ls).val.length ≤ 1000 := by
  cases ls with
  | nil => simp [unfoldN] at h
  | cons l0 r =>
    rw [unfoldN_cons] at h
    split at h
    · cases h
    split at h
    · cases h
    split at h
    · cases h
    · show (fieldOf l0 r).val.length ≤ 1000
      omega
theorem Ps.Fine.flush {p : Ps} (h : p.Fine) : p.flush.st.Fine := by
  unfold Ps.flush
  split
  · exact h
  split
  · exact h
  split
  · exact h
  · rename_i h1 h2 h3
    refine ⟨⟨?_, ?_⟩, h.items, fun h => absurd rfl h⟩
    · show (p.fields ++ [unfoldF p.lines]).length ≤ 40
      have := h.room h1 (by simpa using h3)
      simp; omega
    · intro f hf
      rcases List.mem_append.1 hf with hf | hf
      · exact h.fields.2 f hf
      · rw [List.mem_singleton.1 hf]
        exact unfoldF_val (by simpa using h2)
theorem Ps.Fine.item {p : Ps} (h : p.Fine) : p.item.Fine := by
  refine ⟨h.fields, ?_⟩
  show (if p.fields = [] then 2 else 3) = 3 ↔ p.fields ≠ []
  by_cases e : p.fields = [] <;> simp [e]
/-- Behind an end no field is under way. -/
theorem Ps.Fine.ended {p : Ps} (h : p.Fine) (hl : p.lines = []) : p.ended.Fine := by
  unfold Ps.ended
  split
  · exact ⟨FsFine.nil, h.items, fun e => absurd hl e⟩
  · refine ⟨FsFine.nil, fun x hx => ?_, fun e => absurd hl e⟩
    rcases List.mem_append.1 hx with hx | hx
    · exact h.items x hx
    · rw [List.mem_singleton.1 hx]
      exact h.item
theorem flush_lines {p : Ps} (h : p.flush.err = 0) : p.flush.st.lines = [] := by
  unfold Ps.flush at h ⊢
  split
  · rename_i h1; exact h1
  rename_i h1
  rw [if_neg h1] at h
  split
  · rename_i h2; rw [if_pos h2] at h; exact absurd h h2
  rename_i h2
  rw [if_neg h2] at h
  split
  · rename_i h3; rw [if_pos h3] at h; cases h
  · rfl
theorem Ps.Fine.fin {p : Ps} (h : p.Fine) : p.fin.st.Fine := by
  unfold Ps.fin
  split
  · exact h.flush
  · rename_i h1
    exact h.flush.ended (flush_lines (by simpa using h1))
theorem Ps.Fine.more {p : Ps} (h : p.Fine) (hl : p.lines ≠ []) (l : LineD) : (p.more l).Fine := ⟨h.fields, h.items, fun _ => h.room hl⟩
theorem Ps.Fine.aheadOf {p : Ps} (h : p.Fine) (l : LineD) (kind : Nat) : (p.aheadOf l kind).st.Fine := by
  unfold Ps.aheadOf
  split
  · split
    · exact h
    rename_i h1
    split
    · exact h.more h1 l
    · exact (h.more h1 l).flush
  · split
    · exact h.fin
    · exact h.flush
theorem Ps.Fine.taken {p : Ps} (h : p.Fine) (l : LineD) (kind : Nat) : (p.taken l kind).st.Fine := by
  unfold Ps.taken
  split
  · exact h
  split
  · refine ⟨h.fields, fun x hx => ?_, h.room⟩
    rcases List.mem_append.1 hx with hx | hx
    · exact h.items x hx
    · rw [List.mem_singleton.1 hx]
      exact ⟨FsFine.nil, by simp⟩
  split
  · refine ⟨h.fields, h.items, fun _ hf => ?_⟩
    have h1 : (decide (p.fields.length = 40) || (decide (p.fields.length = 0) && decide (p.records = 400))) = false := hf
    have h2 := h.fields.1
    simp only [Bool.or_eq_false_iff, decide_eq_false_iff_not] at h1
    show p.fields.length < 40
    omega
  · exact ⟨h.fields, h.items, h.room⟩
theorem Ps.Fine.take {p : Ps} (h : p.Fine) (l : LineD) : (p.take l).st.Fine := by
  unfold Ps.take
  split
  · exact h.aheadOf l _
  · exact (h.aheadOf l _).taken l _
theorem parseFrom_fine : ∀ (ls : List LineD) {p : Ps}, p.Fine → (parseFrom p ls).st.Fine
  | [], _, h => h
  | l :: r, p, h => by
    show (if (p.take l).err ≠ 0 then p.take l else parseFrom (p.take l).st r).st.Fine
    split
    · exact h.take l
    · exact parseFrom_fine r (h.take l)
theorem parse_fine (t : List UInt8) : (parse t).st.Fine := by
  unfold parse
  split
  · exact parseFrom_fine _ Ps.zero_fine
  · exact (parseFrom_fine _ Ps.zero_fine).fin
/-! ### How many stanzas -/
def recs (xs : List It) : Nat := (xs.filter fun x => x.kind = 3).length
theorem recs_app (xs ys : List It) : recs (xs ++ ys) = recs xs + recs ys := by unfold recs; rw [List.filter_append, List.length_append]
structure Ps.Few (p : Ps) : Prop where
  rec_ : recs p.items = p.records
  le : p.records ≤ 400
  fs : p.fields ≠ [] → p.records < 400
  ln : p.lines ≠ [] → p.full = false → p.records < 400
theorem Ps.zero_few : Ps.zero.Few := ⟨rfl, by simp [Ps.zero], fun h => absurd rfl h, fun h => absurd rfl h⟩
theorem Ps.Few.flush {p : Ps} (h : p.Few) : p.flush.st.Few := by
  unfold Ps.flush
  split
  · exact h
  split
  · exact h
  split
  · exact h
  · rename_i h1 h2 h3
    exact ⟨h.rec_, h.le, fun _ => h.ln h1 (by simpa using h3), fun h => absurd rfl h⟩
theorem Ps.Few.ended {p : Ps} (h : p.Few) (hl : p.lines = []) : p.ended.Few := by
  unfold Ps.ended
  split
  · exact ⟨h.rec_, h.le, fun e => absurd rfl e, fun e => absurd hl e⟩
  · refine ⟨?_, ?_, fun e => absurd rfl e, fun e => absurd hl e⟩
    · show recs (p.items ++ [p.item]) = if p.fields = [] then p.records else p.records + 1
      rw [recs_app, h.rec_]
      unfold Ps.item recs
      by_cases e : p.fields = [] <;> simp [e]
    · show (if p.fields = [] then p.records else p.records + 1) ≤ 400
      have := h.le
      split
      · exact this
      · rename_i e; exact h.fs e
theorem Ps.Few.fin {p : Ps} (h : p.Few) : p.fin.st.Few := by
  unfold Ps.fin
  split
  · exact h.flush
  · rename_i h1
    exact h.flush.ended (flush_lines (by simpa using h1))
theorem Ps.Few.more {p : Ps} (h : p.Few) (hl : p.lines ≠ []) (l : LineD) : (p.more l).Few := ⟨h.rec_, h.le, h.fs, fun _ => h.ln hl⟩
theorem Ps.Few.aheadOf {p : Ps} (h : p.Few) (l : LineD) (kind : Nat) : (p.aheadOf l kind).st.Few := by
  unfold Ps.aheadOf
  split
  · split
    · exact h
    rename_i h1
    split
    · exact h.more h1 l
    · exact (h.more h1 l).flush
  · split
    · exact h.fin
    · exact h.flush
theorem Ps.Few.taken {p : Ps} (h : p.Few) (l : LineD) (kind : Nat) : (p.taken l kind).st.Few := by
  unfold Ps.taken
  split
  · exact h
  split
  · refine ⟨?_, h.le, h.fs, h.ln⟩
    show recs (p.items ++ [_]) = p.records
    rw [recs_app, h.rec_]; rfl
  split
  · refine ⟨h.rec_, h.le, h.fs, fun _ hf => ?_⟩
    have h1 : (decide (p.fields.length = 40) || (decide (p.fields.length = 0) && decide (p.records = 400))) = false := hf
    have h2 := h.le
    show p.records < 400
    by_cases e : p.fields = []
    · rw [e] at h1
      simp at h1
      omega
    · exact h.fs e
  · exact ⟨h.rec_, h.le, h.fs, h.ln⟩
theorem Ps.Few.take {p : Ps} (h : p.Few) (l : LineD) : (p.take l).st.Few := by
  unfold Ps.take
  split
  · exact h.aheadOf l _
  · exact (h.aheadOf l _).taken l _
theorem parseFrom_few : ∀ (ls : List LineD) {p : Ps}, p.Few → (parseFrom p ls).st.Few
  | [], _, h => h
  | l :: r, p, h => by
    show (if (p.take l).err ≠ 0 then p.take l else parseFrom (p.take l).st r).st.Few
    split
    · exact h.take l
    · exact parseFrom_few r (h.take l)
theorem parse_few (t : List UInt8) : recs (parse t).st.items ≤ 400 := by
  have key : (parse t).st.Few := by
    unfold parse
    split
    · exact parseFrom_few _ Ps.zero_few
    · exact (parseFrom_few _ Ps.zero_few).fin
  rw [key.rec_]; exact key.le
end Go.Proofs.YtboiaoaephimhaaDoor.B
