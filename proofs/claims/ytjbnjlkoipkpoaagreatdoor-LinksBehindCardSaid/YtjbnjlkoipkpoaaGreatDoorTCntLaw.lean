/- The plain law of counting: how often each text is there, texts rising. -/
import Derived.Test.YtjbnjlkoipkpoaaGreatDoorBPlain
import Derived.Sort.KeysCollected
namespace Go.Proofs.YtjbnjlkoipkpoaaGreatDoor.T

abbrev L8 := List UInt8
theorem l8_irr (x : L8) : ¬ x < x := List.lt_irrefl x
theorem l8_trans {x y z : L8} (h : x < y) (k : y < z) : x < z := List.lt_trans h k
theorem l8_tri (x y : L8) : x < y ∨ x = y ∨ y < x := by
  by_cases h : x < y
  · exact .inl h
  · by_cases k : y < x
    · exact .inr (.inr k)
    · exact .inr (.inl (List.le_antisymm (List.not_lt.1 k) (List.not_lt.1 h)))
abbrev Cnt := L8 × Nat
/-- One text more. -/
def ins (v : L8) : List Cnt → List Cnt
  | [] => [(v, 1)]
  | c :: r => if v < c.1 then (v, 1) :: c :: r else if c.1 = v then (c.1, c.2 + 1) :: r else c :: ins v r
def tabOf (vs : List L8) : List Cnt := vs.foldl (fun t v => ins v t) []
theorem tabOf_snoc (vs : List L8) (v : L8) : tabOf (vs ++ [v]) = ins v (tabOf vs) := by simp [tabOf, List.foldl_append]
def Rising (t : List Cnt) : Prop := t.Pairwise fun a b => a.1 < b.1
theorem ins_keys (v : L8) : ∀ (t : List Cnt) (x : L8), x ∈ (ins v t).map (·.1) ↔ x = v ∨ x ∈ t.map (·.1)
  | [], x => by simp [ins]
  | c :: r, x => by
    unfold ins
    split
    · simp
    · split
      · rename_i h1 h2
        subst h2
        simp
      · have ih := ins_keys v r x
        simp only [List.map_cons, List.mem_cons, ih]
        constructor
        · rintro (h | h | h)
          · exact .inr (.inl h)
          · exact .inl h
          · exact .inr (.inr h)
        · rintro (h | h | h)
          · exact .inr (.inl h)
          · exact .inl h
          · exact .inr (.inr h)
theorem ins_rising (v : L8) : ∀ (t : List Cnt), Rising t → Rising (ins v t)
  | [], _ => by simp [ins, Rising]
  | c :: r, h => by
    have h' := List.pairwise_cons.1 h
    unfold ins
    split
    · rename_i h1
      refine List.pairwise_cons.2 ⟨fun a ha => ?_, h⟩
      rcases List.mem_cons.1 ha with rfl | ha
      · exact h1
      · exact l8_trans h1 (h'.1 a ha)
    · split
      · exact List.pairwise_cons.2 ⟨fun a ha => h'.1 a ha, h'.2⟩
      · rename_i h1 h2
        refine List.pairwise_cons.2 ⟨fun a ha => ?_, ins_rising v r h'.2⟩
        have hk : a.1 ∈ (ins v r).map (·.1) := List.mem_map_of_mem ha
        rcases (ins_keys v r a.1).1 hk with e | e
        · rw [e]
          rcases l8_tri v c.1 with k | k | k
          · exact absurd k h1
          · exact absurd k.symm h2
          · exact k
        · obtain ⟨b, hb, e2⟩ := List.mem_map.1 e
          rw [← e2]; exact h'.1 b hb
/-- How often a text is there. -/
def getC (t : List Cnt) (x : L8) : Nat := ((t.find? fun c => c.1 == x).map (·.2)).getD 0
theorem getC_none {t : List Cnt} {x : L8} (h : x ∉ t.map (·.1)) : getC t x = 0 := by
  unfold getC
  rw [List.find?_eq_none.2 (fun c hc => by
    intro e
    exact h (List.mem_map.2 ⟨c, hc, by simpa using e⟩))]
  rfl
theorem getC_ins (v x : L8) : ∀ (t : List Cnt), Rising t → getC (ins v t) x = getC t x + if x = v then 1 else 0
  | [], _ => by
    by_cases e : x = v
    · subst e; simp [ins, getC]
    · have : ¬ v = x := fun k => e k.symm
      simp [ins, getC, e, this]
  | c :: r, h => by
    have h' := List.pairwise_cons.1 h
    unfold ins
    split
    · rename_i h1
      by_cases e : x = v
      · subst e
        have hn : x ∉ (c :: r).map (·.1) := by
          intro hm
          obtain ⟨b, hb, e2⟩ := List.mem_map.1 hm
          rcases List.mem_cons.1 hb with rfl | hb
          · rw [e2] at h1; exact l8_irr _ h1
          · have := l8_trans h1 (h'.1 b hb)
            rw [e2] at this; exact l8_irr _ this
        rw [getC_none hn]
        simp [getC]
      · have : ¬ v = x := fun k => e k.symm
        simp [getC, e, this]
    · split
      · rename_i h1 h2
        subst h2
        by_cases e : x = c.1
        · subst e; simp [getC]
        · have : ¬ c.1 = x := fun k => e k.symm
          simp [getC, e, this]
      · rename_i h1 h2
        by_cases e : c.1 = x
        · have : ¬ x = v := fun k => h2 (e.trans k)
          simp [getC, e, this]
        · have ih := getC_ins v x r h'.2
          have g1 : getC (c :: ins v r) x = getC (ins v r) x := by simp [getC, e]
          have g2 : getC (c :: r) x = getC r x := by simp [getC, e]
          rw [g1, g2, ih]
theorem tabOf_all : ∀ (n : Nat) (vs : List L8), vs.length = n → Rising (tabOf vs) ∧ (∀ x, x ∈ (tabOf vs).map (·.1) ↔ x ∈ vs) ∧ ∀ x, getC (tabOf vs) x = vs.count x
  | 0, vs, h => by
    have : vs = [] := List.eq_nil_of_length_eq_zero h
    subst this
    exact ⟨List.Pairwise.nil, fun x => by simp [tabOf], fun x => by simp [tabOf, getC]⟩
  | n + 1, vs, h => by
    rcases List.eq_nil_or_concat vs with rfl | ⟨us, v, rfl⟩
    · simp at h
    · obtain ⟨h1, h2, h3⟩ := tabOf_all n us (by simpa using h)
      rw [List.concat_eq_append, tabOf_snoc]
      refine ⟨ins_rising v _ h1, fun x => ?_, fun x => ?_⟩
      · rw [ins_keys, h2]
        simp only [List.mem_append, List.mem_singleton]
        exact or_comm
      · rw [getC_ins v x _ h1, h3, List.count_append]
        by_cases e : x = v
        · subst e; simp
        · have : ¬ v = x := fun k => e k.symm
          simp [e, this]
theorem tabOf_rising (vs : List L8) : Rising (tabOf vs) := (tabOf_all _ vs rfl).1
theorem tabOf_mem (vs : List L8) (x : L8) : x ∈ (tabOf vs).map (·.1) ↔ x ∈ vs := (tabOf_all _ vs rfl).2.1 x
theorem tabOf_get (vs : List L8) (x : L8) : getC (tabOf vs) x = vs.count x := (tabOf_all _ vs rfl).2.2 x
theorem getC_mem : ∀ {t : List Cnt} {c : Cnt}, Rising t → c ∈ t → getC t c.1 = c.2
  | [], _, _, h => by cases h
  | d :: r, c, h, hc => by
    have h' := List.pairwise_cons.1 h
    rcases List.mem_cons.1 hc with rfl | hc
    · simp [getC]
    · have hne : ¬ d.1 = c.1 := fun e => by
        have := h'.1 c hc
        rw [e] at this; exact l8_irr _ this
      have g : getC (d :: r) c.1 = getC r c.1 := by simp [getC, hne]
      rw [g]; exact getC_mem h'.2 hc
/-- Sorted keys with their counts are the table. -/
theorem tab_eq (vs ks : List L8) (hs : ks.Pairwise (· < ·)) (hm : ∀ x, x ∈ ks ↔ x ∈ vs) : ks.map (fun k => (k, vs.count k)) = tabOf vs := by
  have hr := tabOf_rising vs
  have e : ks = (tabOf vs).map (·.1) := by
    have hp : ks.Perm ((tabOf vs).map (·.1)) := (List.perm_ext_iff_of_nodup (hs.imp fun {a b} h e => by subst e; exact l8_irr _ h) ((List.pairwise_map.2 hr).imp fun {a b} h e => by subst e; exact l8_irr _ h)).2 fun x => by rw [hm, tabOf_mem]
    exact List.Perm.eq_of_pairwise (le := (· < ·)) (fun a b _ _ h1 h2 => absurd (l8_trans h1 h2) (l8_irr a)) hs (List.pairwise_map.2 hr) hp
  rw [e, List.map_map]
  refine (List.map_congr_left fun c hc => ?_).trans (List.map_id _)
  have := getC_mem hr hc
  rw [tabOf_get] at this
  show (c.1, vs.count c.1) = c
  rw [this]
theorem sort_rising {ks : List L8} (h : ks.Nodup) : (ks.mergeSort leB).Pairwise (· < ·) := by
  have tr : ∀ a b c : List UInt8, leB a b = true → leB b c = true → leB a c = true := fun a b c h1 h2 => by simp only [leB, decide_eq_true_eq] at *; exact List.le_trans h1 h2
  have to : ∀ a b : List UInt8, (leB a b || leB b a) = true := fun a b => by simp only [leB, Bool.or_eq_true, decide_eq_true_eq]; exact List.le_total a b
  have h1 := List.pairwise_mergeSort tr to ks
  have h2 : (ks.mergeSort leB).Nodup := (List.mergeSort_perm ks leB).nodup_iff.2 h
  refine (h1.and h2).imp fun {a b} hab => ?_
  obtain ⟨k1, k2⟩ := hab
  have k3 : a ≤ b := by simpa [leB] using k1
  rcases l8_tri a b with k | k | k
  · exact k
  · exact absurd k k2
  · exact absurd k (List.not_lt.2 k3)
/-! ### The reference's round -/
def bumpS (v : L8) (s : List Cnt × Bool) (c : Cnt) : List Cnt × Bool :=
  ((if s.2 = false ∧ v < c.1 then s.1 ++ [(v, 1)] else s.1) ++ [if c.1 = v then (c.1, c.2 + 1) else c], s.2 || decide (v < c.1) || decide (c.1 = v))
def bumpE (v : L8) (s : List Cnt × Bool) : List Cnt := if s.2 then s.1 else s.1 ++ [(v, 1)]
theorem bump_done (v : L8) : ∀ (t m : List Cnt), (∀ c ∈ t, ¬ c.1 = v) → t.foldl (bumpS v) (m, true) = (m ++ t, true)
  | [], m, _ => by simp
  | c :: r, m, h => by
    rw [List.foldl_cons]
    have e : bumpS v (m, true) c = (m ++ [c], true) := by simp [bumpS, h c (by simp)]
    rw [e, bump_done v r _ fun d hd => h d (by simp [hd])]
    simp
theorem bump_ins (v : L8) : ∀ (t m : List Cnt), Rising t → bumpE v (t.foldl (bumpS v) (m, false)) = m ++ ins v t
  | [], m, _ => by simp [bumpE, ins]
  | c :: r, m, h => by
    have h' := List.pairwise_cons.1 h
    rw [List.foldl_cons]
    unfold ins
    split
    · rename_i h1
      have hne : ¬ c.1 = v := fun e => by rw [e] at h1; exact l8_irr _ h1
      have e : bumpS v (m, false) c = (m ++ [(v, 1), c], true) := by simp [bumpS, h1, hne]
      rw [e, bump_done v r _ fun d hd k => by have := l8_trans h1 (h'.1 d hd); rw [k] at this; exact l8_irr _ this]
      simp [bumpE]
    · rename_i h1
      split
      · rename_i h2
        have e : bumpS v (m, false) c = (m ++ [(c.1, c.2 + 1)], true) := by simp [bumpS, h2]
        rw [e, bump_done v r _ fun d hd k => by have := h'.1 d hd; rw [k, h2] at this; exact l8_irr _ this]
        simp [bumpE]
      · rename_i h2
        have e : bumpS v (m, false) c = (m ++ [c], false) := by simp [bumpS, h1, h2]
        rw [e, bump_ins v r _ h'.2]
        simp
theorem bump_tab (vs : List L8) (v : L8) : bumpE v ((tabOf vs).foldl (bumpS v) ([], false)) = tabOf (vs ++ [v]) := by
  rw [bump_ins v _ _ (tabOf_rising vs), tabOf_snoc]; rfl
theorem bump_snoc (v : L8) (t : List Cnt) (k : Nat) (c : Cnt) (h : t[k]? = some c) (s : List Cnt × Bool) : (t.take (k + 1)).foldl (bumpS v) s = bumpS v ((t.take k).foldl (bumpS v) s) c := by
  rw [List.take_add_one, h]; simp [List.foldl_append]
theorem ins_len (v : L8) : ∀ t : List Cnt, (ins v t).length ≤ t.length + 1
  | [] => by simp [ins]
  | c :: r => by
    have := ins_len v r
    unfold ins
    split
    · simp
    · split <;> simp <;> omega
theorem tabOf_len : ∀ (n : Nat) (vs : List L8), vs.length = n → (tabOf vs).length ≤ n
  | 0, vs, h => by
    have : vs = [] := List.eq_nil_of_length_eq_zero h
    subst this; simp [tabOf]
  | n + 1, vs, h => by
    rcases List.eq_nil_or_concat vs with rfl | ⟨us, v, rfl⟩
    · simp at h
    · rw [List.concat_eq_append, tabOf_snoc]
      have h1 := tabOf_len n us (by simpa using h)
      have h2 := ins_len v (tabOf us)
      omega
/-- All counts together. -/
theorem tab_sum : ∀ (n : Nat) (vs : List L8), vs.length = n → ((tabOf vs).map (·.2)).sum = n
  | 0, vs, h => by
    have : vs = [] := List.eq_nil_of_length_eq_zero h
    subst this; simp [tabOf]
  | n + 1, vs, h => by
    rcases List.eq_nil_or_concat vs with rfl | ⟨us, v, rfl⟩
    · simp at h
    · rw [List.concat_eq_append, tabOf_snoc]
      have h1 := tab_sum n us (by simpa using h)
      have key : ∀ t : List Cnt, ((ins v t).map (·.2)).sum = (t.map (·.2)).sum + 1 := by
        intro t
        induction t with
        | nil => simp [ins]
        | cons c r ih =>
          unfold ins
          split
          · simp; omega
          · split
            · simp; omega
            · simp [ih]; omega
      rw [key, h1]
end Go.Proofs.YtjbnjlkoipkpoaaGreatDoor.T
