/- What the index's maps hold: just what is counted; and within a round of add. -/
import Derived.Test.YtklbbcemacpimaaGreatDoorIIdx
namespace Go.Proofs.YtklbbcemacpimaaGreatDoor.I

abbrev Vb := L8 → Option Nat
abbrev Cb := L8 → L8 → Option Nat
abbrev Cf := L8 → L8 → Int → Option Int
def nz (a : Int) : Option Int := if a = 0 then none else some a
/-- A count, a value, a key are there just where something is counted. -/
structure Live (vb : Vb) (cb : Cb) (cf : Cf) (C : Cn) : Prop where
  cf : ∀ k v i, cf k v i = nz (C k v i)
  cb : ∀ k v, cb k v ≠ none ↔ ∃ i, C k v i ≠ 0
  vb : ∀ k, vb k ≠ none ↔ ∃ v i, C k v i ≠ 0
/-- Within a round: of one count, value and key it is only known that they are there. -/
structure Pend (vb : Vb) (cb : Cb) (cf : Cf) (C : Cn) (k v : L8) (id : Int) : Prop where
  cf1 : ∀ k' v' i', ¬ (k' = k ∧ v' = v ∧ i' = id) → cf k' v' i' = nz (C k' v' i')
  cf2 : cf k v id = some (C k v id)
  cb1 : ∀ k' v', ¬ (k' = k ∧ v' = v) → (cb k' v' ≠ none ↔ ∃ i, C k' v' i ≠ 0)
  cb2 : cb k v ≠ none
  vb1 : ∀ k', k' ≠ k → (vb k' ≠ none ↔ ∃ v i, C k' v i ≠ 0)
  vb2 : vb k ≠ none
def cfDel (cf : Cf) (k v : L8) (id : Int) : Cf := fun k' v' i' => if k' = k ∧ v' = v ∧ i' = id then none else cf k' v' i'
def cfSet (cf : Cf) (k v : L8) (id a : Int) : Cf := fun k' v' i' => if k' = k ∧ v' = v ∧ i' = id then some a else cf k' v' i'
def cbDel (cb : Cb) (k v : L8) : Cb := fun k' v' => if k' = k ∧ v' = v then none else cb k' v'
def cbSet (cb : Cb) (k v : L8) (r : Nat) : Cb := fun k' v' => if k' = k ∧ v' = v then some r else cb k' v'
def vbDel (vb : Vb) (k : L8) : Vb := fun k' => if k' = k then none else vb k'
def vbSet (vb : Vb) (k : L8) (r : Nat) : Vb := fun k' => if k' = k then some r else vb k'
theorem nz_none {a : Int} : nz a = none ↔ a = 0 := by unfold nz; split <;> simp_all
theorem Live.up {vb : Vb} {cb : Cb} {cf : Cf} {C : Cn} (h : Live vb cb cf C) {k v : L8} (hk : vb k = none) : cb k v = none := by
  cases e : cb k v with
  | none => rfl
  | some r =>
    obtain ⟨i, hi⟩ := (h.cb k v).1 (by rw [e]; simp)
    exact absurd hk ((h.vb k).2 ⟨v, i, hi⟩)
theorem Live.no {vb : Vb} {cb : Cb} {cf : Cf} {C : Cn} (h : Live vb cb cf C) {k v : L8} (hk : cb k v = none) (i : Int) : cf k v i = none := by
  rw [h.cf, nz_none]
  rcases Classical.em (C k v i = 0) with e | e
  · exact e
  · exact absurd hk ((h.cb k v).2 ⟨i, e⟩)
/-- A count is turned: behind it a round stands so, whatever has been made ahead of it. -/
theorem Live.pend {vb vb' : Vb} {cb cb' : Cb} {cf : Cf} {C : Cn} (h : Live vb cb cf C) (k v : L8) (id y : Int) (hvb : ∀ k', k' ≠ k → vb' k' = vb k') (hvk : vb' k ≠ none) (hcb : ∀ k' v', ¬ (k' = k ∧ v' = v) → cb' k' v' = cb k' v') (hck : cb' k v ≠ none) :
    Pend vb' cb' (cfSet cf k v id (C k v id + y)) (bump C k v id y) k v id where
  cf1 := fun k' v' i' hne => by
    unfold cfSet bump
    rw [if_neg hne, if_neg hne]; exact h.cf _ _ _
  cf2 := by
    unfold cfSet bump
    rw [if_pos ⟨rfl, rfl, rfl⟩, if_pos ⟨rfl, rfl, rfl⟩]
  cb1 := fun k' v' hne => by
    rw [hcb k' v' hne, h.cb]
    unfold bump
    constructor
    · rintro ⟨i, hi⟩; exact ⟨i, by rw [if_neg (fun e => hne ⟨e.1, e.2.1⟩)]; exact hi⟩
    · rintro ⟨i, hi⟩; exact ⟨i, by rw [if_neg (fun e => hne ⟨e.1, e.2.1⟩)] at hi; exact hi⟩
  cb2 := hck
  vb1 := fun k' hne => by
    rw [hvb k' hne, h.vb]
    unfold bump
    constructor
    · rintro ⟨v', i, hi⟩; exact ⟨v', i, by rw [if_neg (fun e => hne e.1)]; exact hi⟩
    · rintro ⟨v', i, hi⟩; exact ⟨v', i, by rw [if_neg (fun e => hne e.1)] at hi; exact hi⟩
  vb2 := hvk
section
variable {vb : Vb} {cb : Cb} {cf : Cf} {C : Cn} {k v : L8} {id : Int}
theorem Pend.some (h : Pend vb cb cf C k v id) (h0 : C k v id ≠ 0) : Live vb cb cf C where
  cf := fun k' v' i' => by
    by_cases e : k' = k ∧ v' = v ∧ i' = id
    · obtain ⟨rfl, rfl, rfl⟩ := e
      rw [h.cf2]; unfold nz; rw [if_neg h0]
    · exact h.cf1 _ _ _ e
  cb := fun k' v' => by
    by_cases e : k' = k ∧ v' = v
    · obtain ⟨rfl, rfl⟩ := e
      exact ⟨fun _ => ⟨id, h0⟩, fun _ => h.cb2⟩
    · exact h.cb1 _ _ e
  vb := fun k' => by
    by_cases e : k' = k
    · subst e
      exact ⟨fun _ => ⟨v, id, h0⟩, fun _ => h.vb2⟩
    · exact h.vb1 _ e
theorem Pend.cfDel_eq (h : Pend vb cb cf C k v id) (h0 : C k v id = 0) (k' v' : L8) (i' : Int) : cfDel cf k v id k' v' i' = nz (C k' v' i') := by
  unfold cfDel
  by_cases e : k' = k ∧ v' = v ∧ i' = id
  · obtain ⟨rfl, rfl, rfl⟩ := e
    rw [if_pos ⟨rfl, rfl, rfl⟩]; exact (nz_none.2 h0).symm
  · rw [if_neg e]; exact h.cf1 _ _ _ e
theorem Pend.empty1 (h : Pend vb cb cf C k v id) (h0 : C k v id = 0) : (∀ i, cfDel cf k v id k v i = none) ↔ ∀ i, C k v i = 0 := by
  simp only [h.cfDel_eq h0, nz_none]
theorem Pend.keepVal (h : Pend vb cb cf C k v id) (h0 : C k v id = 0) (h1 : ¬ ∀ i, C k v i = 0) : Live vb cb (cfDel cf k v id) C where
  cf := h.cfDel_eq h0
  cb := fun k' v' => by
    by_cases e : k' = k ∧ v' = v
    · obtain ⟨rfl, rfl⟩ := e
      exact ⟨fun _ => Classical.not_forall.1 h1, fun _ => h.cb2⟩
    · exact h.cb1 _ _ e
  vb := fun k' => by
    by_cases e : k' = k
    · subst e
      exact ⟨fun _ => let ⟨i, hi⟩ := Classical.not_forall.1 h1; ⟨v, i, hi⟩, fun _ => h.vb2⟩
    · exact h.vb1 _ e
theorem Pend.cbDel_eq (h : Pend vb cb cf C k v id) (h1 : ∀ i, C k v i = 0) (k' v' : L8) : cbDel cb k v k' v' ≠ none ↔ ∃ i, C k' v' i ≠ 0 := by
  unfold cbDel
  by_cases e : k' = k ∧ v' = v
  · obtain ⟨rfl, rfl⟩ := e
    rw [if_pos ⟨rfl, rfl⟩]
    exact ⟨fun hn => absurd rfl hn, fun ⟨i, hi⟩ => absurd (h1 i) hi⟩
  · rw [if_neg e]; exact h.cb1 _ _ e
theorem Pend.empty2 (h : Pend vb cb cf C k v id) (h1 : ∀ i, C k v i = 0) : (∀ v', cbDel cb k v k v' = none) ↔ ∀ v' i, C k v' i = 0 := by
  constructor
  · intro hn v' i
    rcases Classical.em (C k v' i = 0) with e | e
    · exact e
    · exact absurd (hn v') ((h.cbDel_eq h1 k v').2 ⟨i, e⟩)
  · intro hn v'
    cases e : cbDel cb k v k v' with
    | none => rfl
    | some r =>
      obtain ⟨i, hi⟩ := (h.cbDel_eq h1 k v').1 (by rw [e]; simp)
      exact absurd (hn v' i) hi
theorem Pend.keepKey (h : Pend vb cb cf C k v id) (h1 : ∀ i, C k v i = 0) (h2 : ¬ ∀ v' i, C k v' i = 0) : Live vb (cbDel cb k v) (cfDel cf k v id) C where
  cf := h.cfDel_eq (h1 id)
  cb := h.cbDel_eq h1
  vb := fun k' => by
    by_cases e : k' = k
    · subst e
      refine ⟨fun _ => ?_, fun _ => h.vb2⟩
      obtain ⟨v', hv⟩ := Classical.not_forall.1 h2
      obtain ⟨i, hi⟩ := Classical.not_forall.1 hv
      exact ⟨v', i, hi⟩
    · exact h.vb1 _ e
theorem Pend.gone (h : Pend vb cb cf C k v id) (h2 : ∀ v' i, C k v' i = 0) : Live (vbDel vb k) (cbDel cb k v) (cfDel cf k v id) C where
  cf := h.cfDel_eq (h2 v id)
  cb := h.cbDel_eq (h2 v)
  vb := fun k' => by
    unfold vbDel
    by_cases e : k' = k
    · subst e
      rw [if_pos rfl]
      exact ⟨fun hn => absurd rfl hn, fun ⟨v', i, hi⟩ => absurd (h2 v' i) hi⟩
    · rw [if_neg e]; exact h.vb1 _ e
end
end Go.Proofs.YtklbbcemacpimaaGreatDoor.I
