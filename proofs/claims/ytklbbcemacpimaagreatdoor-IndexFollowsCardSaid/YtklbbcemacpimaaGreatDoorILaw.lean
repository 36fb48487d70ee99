/- The plain law of the index: what it counts, and what the reference answers. -/
import Derived.Test.YtklbbcemacpimaaGreatDoorIMap
namespace Go.Proofs.YtklbbcemacpimaaGreatDoor.I
abbrev L8 := List UInt8
structure Fld where
  key : L8
  val : L8
deriving DecidableEq
/-- How often each stanza has a key's value. -/
abbrev Cn := L8 → L8 → Int → Int
def bump (C : Cn) (k v : L8) (i y : Int) : Cn := fun k' v' i' => if k' = k ∧ v' = v ∧ i' = i then C k v i + y else C k' v' i'
def addAll (C : Cn) (i y : Int) : List Fld → Cn
  | [] => C
  | f :: r => addAll (bump C f.key f.val i y) i y r
def cntF (k v : L8) : List Fld → Int
  | [] => 0
  | f :: r => (if f.key = k ∧ f.val = v then 1 else 0) + cntF k v r
theorem cntF_nonneg (k v : L8) : ∀ fs, 0 ≤ cntF k v fs
  | [] => Int.le_refl _
  | f :: r => by
    have := cntF_nonneg k v r
    unfold cntF
    split <;> omega
theorem cntF_pos {k v : L8} : ∀ {fs}, cntF k v fs ≠ 0 ↔ ∃ f ∈ fs, f.key = k ∧ f.val = v
  | [] => by simp [cntF]
  | f :: r => by
    have h1 := cntF_nonneg k v r
    have ih := cntF_pos (k := k) (v := v) (fs := r)
    unfold cntF
    split
    · rename_i hf
      exact ⟨fun _ => ⟨f, by simp, hf⟩, fun _ => by omega⟩
    · rename_i hf
      rw [Int.zero_add, ih]
      constructor
      · rintro ⟨g, hg, e⟩; exact ⟨g, by simp [hg], e⟩
      · rintro ⟨g, hg, e⟩
        rcases List.mem_cons.1 hg with rfl | hg
        · exact absurd e hf
        · exact ⟨g, hg, e⟩
theorem addAll_eq (i y : Int) (k v : L8) (j : Int) : ∀ (fs : List Fld) (C : Cn), addAll C i y fs k v j = C k v j + (if j = i then y * cntF k v fs else 0)
  | [], C => by simp [addAll, cntF]
  | f :: r, C => by
    rw [addAll, addAll_eq i y k v j r]
    rw [show cntF k v (f :: r) = (if f.key = k ∧ f.val = v then 1 else 0) + cntF k v r from rfl]
    unfold bump
    by_cases hj : j = i
    · subst hj
      by_cases hf : f.key = k ∧ f.val = v
      · rw [if_pos ⟨hf.1.symm, hf.2.symm, rfl⟩, if_pos rfl, if_pos rfl, if_pos hf, hf.1, hf.2]
        rw [Int.mul_add]
        omega
      · rw [if_neg (fun h => hf ⟨h.1.symm, h.2.1.symm⟩), if_pos rfl, if_pos rfl, if_neg hf, Int.zero_add]
    · rw [if_neg (fun h => hj h.2.2), if_neg hj, if_neg hj]
/-- The reference's index: stanzas, their numbers rising. -/
abbrev Ms := List (Int × List Fld)
def Rising (m : Ms) : Prop := m.Pairwise fun a b => a.1 < b.1
/-- What the index of these stanzas counts. -/
def cM (m : Ms) : Cn := fun k v i => match m with
  | [] => 0
  | s :: r => (if s.1 = i then cntF k v s.2 else 0) + cM r k v i
theorem cM_nonneg (k v : L8) (i : Int) : ∀ m, 0 ≤ cM m k v i
  | [] => Int.le_refl _
  | s :: r => by
    have := cM_nonneg k v i r
    have := cntF_nonneg k v s.2
    unfold cM
    split <;> omega
def rDrop (m : Ms) (id : Int) : Ms := m.filter fun s => s.1 != id
theorem cM_drop (id : Int) (k v : L8) (i : Int) : ∀ m, cM (rDrop m id) k v i = if i = id then 0 else cM m k v i
  | [] => by simp [rDrop, cM]
  | s :: r => by
    have ih := cM_drop id k v i r
    unfold rDrop at ih ⊢
    rw [List.filter_cons]
    by_cases hs : s.1 = id
    · have : (s.1 != id) = false := by simp [hs]
      rw [this]
      simp only [Bool.false_eq_true, if_false]
      rw [ih]
      by_cases hi : i = id
      · rw [if_pos hi, if_pos hi]
      · rw [if_neg hi, if_neg hi]
        rw [cM, if_neg (fun e => hi (e.symm.trans hs)), Int.zero_add]
    · have : (s.1 != id) = true := by simp [hs]
      rw [this]
      simp only [if_true]
      rw [cM, ih]
      by_cases hi : i = id
      · rw [if_pos hi, if_pos hi, if_neg (fun e => hs (e.trans hi))]
        rfl
      · rw [if_neg hi, if_neg hi, cM]
/-- The reference's way to put one in. -/
def rIns (id : Int) (fs : List Fld) : Ms → Ms
  | [] => [(id, fs)]
  | s :: r => if id < s.1 then (id, fs) :: s :: r else s :: rIns id fs r
def rPut (m : Ms) (id : Int) (fs : List Fld) : Ms := rIns id fs (rDrop m id)
theorem cM_ins (id : Int) (fs : List Fld) (k v : L8) (i : Int) : ∀ m, cM (rIns id fs m) k v i = (if id = i then cntF k v fs else 0) + cM m k v i
  | [] => rfl
  | s :: r => by
    unfold rIns
    split
    · rfl
    · rw [cM, cM_ins id fs k v i r, cM]; omega
theorem cM_put (m : Ms) (id : Int) (fs : List Fld) (k v : L8) (i : Int) : cM (rPut m id fs) k v i = if i = id then cntF k v fs else cM m k v i := by
  unfold rPut
  rw [cM_ins, cM_drop]
  by_cases h : i = id
  · subst h; simp
  · rw [if_neg (fun e => h e.symm), if_neg h, if_neg h, Int.zero_add]
theorem rising_drop {m : Ms} (h : Rising m) (id : Int) : Rising (rDrop m id) := List.Pairwise.filter _ h
theorem mem_drop {m : Ms} {id : Int} {s : Int × List Fld} : s ∈ rDrop m id ↔ s ∈ m ∧ s.1 ≠ id := by simp [rDrop]
theorem mem_ins {id : Int} {fs : List Fld} {s : Int × List Fld} : ∀ {m : Ms}, s ∈ rIns id fs m ↔ s = (id, fs) ∨ s ∈ m
  | [] => by simp [rIns]
  | t :: r => by
    unfold rIns
    split
    · simp
    · rw [List.mem_cons, mem_ins, List.mem_cons]
      constructor
      · rintro (h | h | h) <;> simp [h]
      · rintro (h | h | h) <;> simp [h]
theorem rising_ins {id : Int} {fs : List Fld} : ∀ {m : Ms}, Rising m → (∀ s ∈ m, s.1 ≠ id) → Rising (rIns id fs m)
  | [], _, _ => by simp [rIns, Rising]
  | t :: r, h, hn => by
    unfold Rising at h ⊢
    rw [List.pairwise_cons] at h
    unfold rIns
    split
    · rename_i hlt
      rw [List.pairwise_cons, List.pairwise_cons]
      exact ⟨fun s hs => by rcases List.mem_cons.1 hs with rfl | hs; exact hlt; have := h.1 s hs; show id < s.1; omega, h⟩
    · rename_i hlt
      rw [List.pairwise_cons]
      refine ⟨fun s hs => ?_, rising_ins h.2 fun s hs => hn s (by simp [hs])⟩
      rcases mem_ins.1 hs with rfl | hs
      · have := hn t (by simp); show t.1 < id; omega
      · exact h.1 s hs
theorem rising_put {m : Ms} (h : Rising m) (id : Int) (fs : List Fld) : Rising (rPut m id fs) := rising_ins (rising_drop h id) fun _ hs => (mem_drop.1 hs).2
/-- Where the numbers are apart, a stanza's counts are its fields'. -/
theorem cM_mem {k v : L8} {i : Int} : ∀ {m : Ms}, Rising m → (cM m k v i ≠ 0 ↔ ∃ s ∈ m, s.1 = i ∧ ∃ f ∈ s.2, f.key = k ∧ f.val = v)
  | [], _ => by simp [cM]
  | s :: r, h => by
    unfold Rising at h
    rw [List.pairwise_cons] at h
    have ih := cM_mem (k := k) (v := v) (i := i) (m := r) h.2
    have h1 := cM_nonneg k v i r
    have h2 := cntF_nonneg k v s.2
    rw [cM]
    constructor
    · intro hne
      by_cases hs : s.1 = i ∧ cntF k v s.2 ≠ 0
      · exact ⟨s, by simp, hs.1, cntF_pos.1 hs.2⟩
      · have : cM r k v i ≠ 0 := by
          by_cases h3 : s.1 = i
          · have h4 : cntF k v s.2 = 0 := by
              by_cases h5 : cntF k v s.2 = 0
              · exact h5
              · exact absurd ⟨h3, h5⟩ hs
            rw [if_pos h3, h4] at hne; omega
          · rw [if_neg h3] at hne; omega
        obtain ⟨t, ht, e⟩ := ih.1 this
        exact ⟨t, by simp [ht], e⟩
    · rintro ⟨t, ht, e1, e2⟩
      rcases List.mem_cons.1 ht with rfl | ht
      · rw [if_pos e1]
        have := cntF_pos.2 e2
        omega
      · have := ih.2 ⟨t, ht, e1, e2⟩
        split <;> omega
/-- The reference's answer: who has a field that is so, rising. -/
def rWho (p : Fld → Bool) (m : Ms) : List Int := (m.filter fun s => s.2.any p).map (·.1)
theorem rWho_rising {p : Fld → Bool} {m : Ms} (h : Rising m) : (rWho p m).Pairwise (· < ·) := by
  unfold rWho
  rw [List.pairwise_map]
  exact List.Pairwise.filter _ h
theorem rWho_mem {p : Fld → Bool} {m : Ms} (h : Rising m) {i : Int} : i ∈ rWho p m ↔ ∃ k v, p ⟨k, v⟩ = true ∧ cM m k v i ≠ 0 := by
  unfold rWho
  simp only [List.mem_map, List.mem_filter, List.any_eq_true]
  constructor
  · rintro ⟨s, ⟨hs, f, hf, hp⟩, e⟩
    exact ⟨f.key, f.val, hp, (cM_mem h).2 ⟨s, hs, e, f, hf, rfl, rfl⟩⟩
  · rintro ⟨k, v, hp, hc⟩
    obtain ⟨s, hs, e, f, hf, e1, e2⟩ := (cM_mem h).1 hc
    refine ⟨s, ⟨hs, f, hf, ?_⟩, e⟩
    rw [← e1, ← e2] at hp
    exact hp
/-- How many fields have a key and a value. -/
def rCount (k v : L8) : Ms → Int
  | [] => 0
  | s :: r => cntF k v s.2 + rCount k v r
theorem sum_perm {l l' : List Int} (h : l.Perm l') : l.sum = l'.sum := by
  induction h with
  | nil => rfl
  | cons x _ ih => simp [ih]
  | swap x y l => simp; omega
  | trans _ _ h1 h2 => exact h1.trans h2
theorem cM_self {k v : L8} : ∀ {m : Ms}, Rising m → ∀ s, s ∈ m → cM m k v s.1 = cntF k v s.2
  | t :: r, h, s, hs => by
    unfold Rising at h
    rw [List.pairwise_cons] at h
    have zero : ∀ (r : Ms) (i : Int), (∀ s ∈ r, s.1 ≠ i) → cM r k v i = 0 := by
      intro r i
      induction r with
      | nil => intro _; rfl
      | cons a r ih => intro h; rw [cM, if_neg (h a (by simp)), ih fun s hs => h s (by simp [hs])]; rfl
    rcases List.mem_cons.1 hs with rfl | hs
    · rw [cM, if_pos rfl, zero r s.1 fun t ht => by have := h.1 t ht; omega]; omega
    · rw [cM, if_neg (by have := h.1 s hs; omega), Int.zero_add]
      exact cM_self h.2 s hs
theorem rCount_sum {k v : L8} {m : Ms} (h : Rising m) {is : List Int} (hn : is.Nodup) (hi : ∀ i, i ∈ is ↔ cM m k v i ≠ 0) : (is.map (cM m k v)).sum = rCount k v m := by
  have e1 : is.Perm ((m.filter fun s => cntF k v s.2 != 0).map (·.1)) := by
    refine (List.perm_ext_iff_of_nodup hn ?_).2 fun i => ?_
    · have : ((m.filter fun s => cntF k v s.2 != 0).map (·.1)).Pairwise (· < ·) := by
        rw [List.pairwise_map]; exact List.Pairwise.filter _ h
      exact this.imp fun h => by omega
    · rw [hi]
      simp only [List.mem_map, List.mem_filter, bne_iff_ne]
      rw [cM_mem h]
      constructor
      · rintro ⟨s, hs, e, hf⟩; exact ⟨s, ⟨hs, cntF_pos.2 hf⟩, e⟩
      · rintro ⟨s, ⟨hs, hf⟩, e⟩; exact ⟨s, hs, e, cntF_pos.1 hf⟩
  rw [sum_perm (e1.map _), List.map_map]
  have e2 : ∀ (l : Ms), (∀ s ∈ l, cM m k v s.1 = cntF k v s.2) → ((l.filter fun s => cntF k v s.2 != 0).map (cM m k v ∘ (·.1))).sum = rCount k v l := by
    intro l
    induction l with
    | nil => intro _; rfl
    | cons s r ih =>
      intro hl
      have ih := ih fun t ht => hl t (by simp [ht])
      rw [List.filter_cons, rCount]
      by_cases hc : cntF k v s.2 = 0
      · have : (cntF k v s.2 != 0) = false := by simp [hc]
        rw [this]
        simp only [Bool.false_eq_true, if_false]
        rw [ih, hc]; omega
      · have : (cntF k v s.2 != 0) = true := by simp [hc]
        rw [this]
        simp only [if_true, List.map_cons, List.sum_cons]
        rw [ih]
        show cM m k v s.1 + _ = _
        rw [hl s (by simp)]
  exact e2 m (cM_self h)
end Go.Proofs.YtklbbcemacpimaaGreatDoor.I
