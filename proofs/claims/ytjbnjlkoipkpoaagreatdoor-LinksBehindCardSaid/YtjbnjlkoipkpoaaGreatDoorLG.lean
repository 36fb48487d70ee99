/- The plain law of what one reaches by links. The plain law of the order by links: what stands in it, and when there is one of all. A worklist: a row of numbers of which the first is taken off, to whose end others are appended. links.Reach, walked: the stanzas that one reaches. links.Reach, walked. -/
import Derived.Test.YtjbnjlkoipkpoaaGreatDoorLD
import Derived.Test.YtjbnjlkoipkpoaaGreatDoorLE
import Derived.Test.YtjbnjlkoipkpoaaGreatDoorTKeys
import Derived.Test.YtjbnjlkoipkpoaaGreatDoorTSrtW
import Derived.Test.YtjbnjlkoipkpoaaGreatDoorTCounts
import Derived.Maps.OwnOps
namespace Go.Proofs.YtjbnjlkoipkpoaaGreatDoor.T
/-- What one reaches by links. -/
inductive Rch (ps : List (Int × Int)) (id : Int) : Int → Prop
  | one (t : Int) : (id, t) ∈ ps → t ≠ 0 → Rch ps id t
  | more (f t : Int) : Rch ps id f → (f, t) ∈ ps → t ≠ 0 → Rch ps id t
theorem mem_nextF {ps : List (Int × Int)} {k t : Int} : t ∈ nextF ps k ↔ (k, t) ∈ ps ∧ t ≠ 0 := by
  unfold nextF
  simp only [List.mem_map, List.mem_filter, Bool.and_eq_true, bne_iff_ne, beq_iff_eq]
  constructor
  · rintro ⟨⟨a, b⟩, ⟨h1, h2, h3⟩, rfl⟩
    simp only at h2 h3
    exact ⟨h3 ▸ h1, h2⟩
  · rintro ⟨h1, h2⟩
    exact ⟨(k, t), ⟨h1, h2, rfl⟩, rfl⟩
theorem Rch.ne {ps : List (Int × Int)} {id t : Int} (h : Rch ps id t) : t ≠ 0 := by cases h <;> assumption
theorem Rch.trans {ps : List (Int × Int)} {a b c : Int} (h : Rch ps a b) (k : Rch ps b c) : Rch ps a c := by
  induction k with
  | one t h1 h2 => exact .more _ _ h h1 h2
  | more f t _ h1 h2 ih => exact .more _ _ ih h1 h2
theorem Rch.mem {ps : List (Int × Int)} {id t : Int} (h : Rch ps id t) : ∃ p ∈ ps, p.2 = t := by
  cases h with
  | one _ h _ => exact ⟨_, h, rfl⟩
  | more f _ _ h _ => exact ⟨_, h, rfl⟩
/-- A row of all that one reaches, rising. -/
def Reached (ps : List (Int × Int)) (id : Int) (zs : List Int) : Prop := zs.Pairwise (· < ·) ∧ ∀ x, x ∈ zs ↔ Rch ps id x
theorem rising_uniq : ∀ {a b : List Int}, a.Pairwise (· < ·) → b.Pairwise (· < ·) → (∀ x, x ∈ a ↔ x ∈ b) → a = b
  | [], [], _, _, _ => rfl
  | [], y :: _, _, _, h => absurd ((h y).2 (by simp)) (by simp)
  | x :: _, [], _, _, h => absurd ((h x).1 (by simp)) (by simp)
  | x :: a, y :: b, ha, hb, h => by
    rw [List.pairwise_cons] at ha hb
    have e : x = y := by
      rcases List.mem_cons.1 ((h x).1 (by simp)) with e | e
      · exact e
      · rcases List.mem_cons.1 ((h y).2 (by simp)) with e2 | e2
        · exact e2.symm
        · have := hb.1 x e; have := ha.1 y e2; omega
    subst e
    congr 1
    refine rising_uniq ha.2 hb.2 fun z => ⟨fun hz => ?_, fun hz => ?_⟩
    · rcases List.mem_cons.1 ((h z).1 (by simp [hz])) with e | e
      · have := ha.1 z hz; omega
      · exact e
    · rcases List.mem_cons.1 ((h z).2 (by simp [hz])) with e | e
      · have := hb.1 z hz; omega
      · exact e
theorem Reached.uniq {ps : List (Int × Int)} {id : Int} {a b : List Int} (ha : Reached ps id a) (hb : Reached ps id b) : a = b :=
  rising_uniq ha.1 hb.1 fun x => (ha.2 x).trans (hb.2 x).symm
/-- The program's worklist: what has been seen, what is to be looked at. -/
structure Wk (ps : List (Int × Int)) (id : Int) (seen work : List Int) : Prop where
  nd : seen.Nodup
  sound : ∀ x, x ∈ seen ∨ x ∈ work → Rch ps id x
  base : ∀ x ∈ nextF ps id, x ∈ seen ∨ x ∈ work
  clos : ∀ y ∈ seen, ∀ x ∈ nextF ps y, x ∈ seen ∨ x ∈ work
theorem Wk.start (ps : List (Int × Int)) (id : Int) : Wk ps id [] (nextF ps id) :=
  ⟨.nil, fun x h => by
    rcases h with h | h
    · cases h
    · have := mem_nextF.1 h; exact .one x this.1 this.2, fun _ h => .inr h, fun _ h => by cases h⟩
theorem Wk.old {ps : List (Int × Int)} {id x : Int} {seen work : List Int} (h : Wk ps id seen (x :: work)) (hx : x ∈ seen) : Wk ps id seen work :=
  have aux : ∀ y, y ∈ seen ∨ y ∈ x :: work → y ∈ seen ∨ y ∈ work := fun y hy => by
    rcases hy with hy | hy
    · exact .inl hy
    · rcases List.mem_cons.1 hy with e | hy
      · exact .inl (e ▸ hx)
      · exact .inr hy
  ⟨h.nd, fun y hy => h.sound y (hy.imp (fun k => k) fun k => List.mem_cons_of_mem _ k), fun y hy => aux y (h.base y hy), fun z hz y hy => aux y (h.clos z hz y hy)⟩
theorem Wk.new {ps : List (Int × Int)} {id x : Int} {seen work : List Int} (h : Wk ps id seen (x :: work)) (hx : x ∉ seen) : Wk ps id (seen ++ [x]) (work ++ nextF ps x) := by
  have aux : ∀ y, y ∈ seen ∨ y ∈ x :: work → y ∈ seen ++ [x] ∨ y ∈ work ++ nextF ps x := fun y hy => by
    simp only [List.mem_append, List.mem_cons, List.not_mem_nil, or_false] at hy ⊢
    rcases hy with hy | hy | hy
    · exact .inl (.inl hy)
    · exact .inl (.inr hy)
    · exact .inr (.inl hy)
  refine ⟨?_, fun y hy => ?_, fun y hy => aux y (h.base y hy), fun z hz y hy => ?_⟩
  · rw [List.nodup_append]
    exact ⟨h.nd, by simp, fun a ha b hb e => hx (by rw [List.mem_singleton.1 hb] at e; exact e ▸ ha)⟩
  · have hr : Rch ps id x := h.sound x (.inr (by simp))
    simp only [List.mem_append, List.mem_cons, List.not_mem_nil, or_false] at hy
    rcases hy with (hy | rfl) | hy | hy
    · exact h.sound y (.inl hy)
    · exact hr
    · exact h.sound y (.inr (by simp [hy]))
    · have := mem_nextF.1 hy; exact .more _ _ hr this.1 this.2
  · rcases List.mem_append.1 hz with hz | hz
    · exact aux y (h.clos z hz y hy)
    · rw [List.mem_singleton.1 hz] at hy; exact .inr (by simp [hy])
theorem Wk.done {ps : List (Int × Int)} {id : Int} {seen : List Int} (h : Wk ps id seen []) (x : Int) : x ∈ seen ↔ Rch ps id x := by
  have aux : ∀ y, y ∈ seen ∨ y ∈ ([] : List Int) → y ∈ seen := fun y hy => hy.elim (fun k => k) fun k => by cases k
  refine ⟨fun hx => h.sound x (.inl hx), fun hx => ?_⟩
  induction hx with
  | one t h1 h2 => exact aux _ (h.base t (mem_nextF.2 ⟨h1, h2⟩))
  | more f t _ h1 h2 ih => exact aux _ (h.clos f ih t (mem_nextF.2 ⟨h1, h2⟩))
/-- How many links go from what has not been seen. -/
def unseen (ps : List (Int × Int)) (seen : List Int) : Nat := (ps.filter fun p => !seen.contains p.1).length
theorem unseen_le (ps : List (Int × Int)) (seen : List Int) : unseen ps seen ≤ ps.length := List.length_filter_le _ _
theorem unseen_new (seen : List Int) (x : Int) (hx : x ∉ seen) : ∀ ps : List (Int × Int), unseen ps (seen ++ [x]) + (nextF ps x).length ≤ unseen ps seen
  | [] => Nat.le_refl _
  | p :: ps => by
    have ih := unseen_new seen x hx ps
    unfold unseen nextF at *
    simp only [List.length_map] at ih ⊢
    have hc : (seen ++ [x]).contains p.1 = (seen.contains p.1 || p.1 == x) := by
      rw [Bool.eq_iff_iff]; simp
    rw [List.filter_cons, List.filter_cons, List.filter_cons, hc]
    by_cases h2 : p.1 = x
    · have h3 : seen.contains p.1 = false := by rw [Bool.eq_false_iff]; intro e; rw [h2] at e; exact hx (by simpa using e)
      simp only [h2, beq_self_eq_true, Bool.or_true, Bool.not_true, Bool.false_eq_true, if_false, Bool.and_true]
      rw [h2] at h3
      rw [h3]
      simp only [Bool.not_false, if_true, List.length_cons]
      split <;> simp_all <;> omega
    · have h3 : (p.1 == x) = false := by rw [beq_eq_false_iff_ne]; exact h2
      simp only [h3, Bool.or_false, Bool.and_false, Bool.false_eq_true, if_false]
      split <;> (try simp only [List.length_cons]) <;> omega
theorem nodup_len : ∀ {a b : List Int}, a.Nodup → (∀ x ∈ a, x ∈ b) → a.length ≤ b.length
  | [], _, _, _ => Nat.zero_le _
  | x :: a, b, hn, h => by
    rw [List.nodup_cons] at hn
    have hx := h x (by simp)
    have ih := nodup_len (a := a) (b := b.erase x) hn.2 fun y hy => (List.mem_erase_of_ne (fun e : y = x => hn.1 (e ▸ hy))).2 (h y (by simp [hy]))
    rw [List.length_erase_of_mem hx] at ih
    have := List.length_pos_of_mem hx
    simp only [List.length_cons]
    omega
/-- What has been seen, is of the links. -/
theorem Wk.seen_len {ps : List (Int × Int)} {id : Int} {seen work : List Int} (h : Wk ps id seen work) : seen.length ≤ ps.length := by
  have : seen.length ≤ (ps.map (·.2)).length := nodup_len h.nd fun x hx => by
    obtain ⟨p, hp, e⟩ := (h.sound x (.inl hx)).mem
    exact List.mem_map.2 ⟨p, hp, e⟩
  simpa using this
/-- The reference's: what has been found. -/
structure RSt (ps : List (Int × Int)) (id : Int) (found : List Int) : Prop where
  nd : found.Nodup
  sound : ∀ x ∈ found, Rch ps id x
theorem RSt.start (ps : List (Int × Int)) (id : Int) : RSt ps id [] := ⟨.nil, fun _ h => by cases h⟩
theorem RSt.len {ps : List (Int × Int)} {id : Int} {found : List Int} (h : RSt ps id found) : found.length ≤ ps.length := by
  have : found.length ≤ (ps.map (·.2)).length := nodup_len h.nd fun x hx => by
    obtain ⟨p, hp, e⟩ := (h.sound x hx).mem
    exact List.mem_map.2 ⟨p, hp, e⟩
  simpa using this
/-- Within a round over the links. -/
def RIn (ps : List (Int × Int)) (id : Int) (i : Nat) (f0 f : List Int) (grew : Bool) : Prop :=
  RSt ps id f ∧ ((grew = true ∧ f0.length < f.length) ∨ (grew = false ∧ f = f0 ∧ ∀ p ∈ ps.take i, p.2 ≠ 0 → (p.1 = id ∨ p.1 ∈ f) → p.2 ∈ f))
theorem RIn.start {ps : List (Int × Int)} {id : Int} {f : List Int} (h : RSt ps id f) : RIn ps id 0 f f false := ⟨h, .inr ⟨rfl, rfl, fun p hp => by simp at hp⟩⟩
theorem RIn.take {ps : List (Int × Int)} {id : Int} {i : Nat} {f0 f : List Int} {g : Bool} {p : Int × Int} (h : RIn ps id i f0 f g) (hp : ps[i]? = some p) (h0 : p.2 ≠ 0) (h1 : p.2 ∉ f) (h2 : p.1 = id ∨ p.1 ∈ f) : RIn ps id (i + 1) f0 (f ++ [p.2]) true := by
  refine ⟨⟨?_, fun x hx => ?_⟩, .inl ⟨rfl, ?_⟩⟩
  · rw [List.nodup_append]
    exact ⟨h.1.nd, by simp, fun a ha b hb e => h1 (by rw [List.mem_singleton.1 hb] at e; exact e ▸ ha)⟩
  · have hm : (p.1, p.2) ∈ ps := List.mem_of_getElem? hp
    rcases List.mem_append.1 hx with hx | hx
    · exact h.1.sound x hx
    · rw [List.mem_singleton.1 hx]
      rcases h2 with h2 | h2
      · exact .one _ (h2 ▸ hm) h0
      · exact .more _ _ (h.1.sound _ h2) hm h0
  · rw [List.length_append, List.length_singleton]
    rcases h.2 with h2 | h2
    · omega
    · rw [h2.2.1]; omega
theorem RIn.pass {ps : List (Int × Int)} {id : Int} {i : Nat} {f0 f : List Int} {g : Bool} {p : Int × Int} (h : RIn ps id i f0 f g) (hp : ps[i]? = some p) (h1 : p.2 ≠ 0 → (p.1 = id ∨ p.1 ∈ f) → p.2 ∈ f) : RIn ps id (i + 1) f0 f g := by
  refine ⟨h.1, h.2.imp (fun k => k) fun k => ⟨k.1, k.2.1, fun q hq => ?_⟩⟩
  rw [List.take_add_one, hp] at hq
  rcases List.mem_append.1 hq with hq | hq
  · exact k.2.2 q hq
  · have : q = p := by simpa using hq
    rw [this]; exact h1
theorem RIn.fin {ps : List (Int × Int)} {id : Int} {i : Nat} {f0 f : List Int} {g : Bool} (h : RIn ps id i f0 f g) (hi : ps.length ≤ i) :
    RSt ps id f ∧ ((g = true ∧ f0.length < f.length) ∨ (g = false ∧ ∀ x, x ∈ f ↔ Rch ps id x)) := by
  refine ⟨h.1, h.2.imp (fun k => k) fun k => ⟨k.1, fun x => ⟨h.1.sound x, fun hx => ?_⟩⟩⟩
  have hc := k.2.2
  rw [List.take_of_length_le hi] at hc
  induction hx with
  | one t h1 h2 => exact hc _ h1 h2 (.inl rfl)
  | more a t _ h1 h2 ih => exact hc _ h1 h2 (.inr ih)
/-- Of what has been found, the least stand in the answer, rising. -/
structure Sel (found out : List Int) : Prop where
  up : out.Pairwise (· < ·)
  sub : ∀ x ∈ out, x ∈ found
  low : ∀ y ∈ found, y ∉ out → ∀ x ∈ out, x < y
theorem Sel.start (found : List Int) : Sel found [] := ⟨.nil, (fun _ h => by cases h), (fun _ _ _ _ h => by cases h)⟩
theorem up_nodup {out : List Int} (h : out.Pairwise (· < ·)) : out.Nodup := List.Pairwise.imp (fun h => by omega) h
theorem Sel.len {found out : List Int} (h : Sel found out) : out.length ≤ found.length := nodup_len (up_nodup h.up) h.sub
def Least (found out : List Int) (i : Nat) (best : Int) (ok : Bool) : Prop :=
  (ok = false ∧ ∀ y ∈ found.take i, y ∈ out) ∨ (ok = true ∧ best ∈ found ∧ best ∉ out ∧ ∀ y ∈ found.take i, y ∉ out → best ≤ y)
theorem Least.start (found out : List Int) (b : Int) : Least found out 0 b false := .inl ⟨rfl, fun y hy => by simp at hy⟩
theorem take_mem {found : List Int} {i : Nat} {x : Int} (hx : found[i]? = some x) {y : Int} (hy : y ∈ found.take (i + 1)) : y ∈ found.take i ∨ y = x := by
  rw [List.take_add_one, hx] at hy
  simpa using hy
theorem Least.take {found out : List Int} {i : Nat} {b x : Int} {ok : Bool} (h : Least found out i b ok) (hx : found[i]? = some x) (h1 : x ∉ out) (h2 : ok = false ∨ x < b) : Least found out (i + 1) x true := by
  refine .inr ⟨rfl, List.mem_of_getElem? hx, h1, fun y hy hn => ?_⟩
  rcases take_mem hx hy with hy | hy
  · rcases h with ⟨_, h⟩ | ⟨e, _, _, h⟩
    · exact absurd (h y hy) hn
    · have := h y hy hn
      rcases h2 with h2 | h2
      · rw [e] at h2; cases h2
      · omega
  · omega
theorem Least.pass {found out : List Int} {i : Nat} {b x : Int} {ok : Bool} (h : Least found out i b ok) (hx : found[i]? = some x) (h1 : x ∈ out ∨ (ok = true ∧ b ≤ x)) : Least found out (i + 1) b ok := by
  rcases h with ⟨e, h⟩ | ⟨e, h2, h3, h⟩
  · refine .inl ⟨e, fun y hy => ?_⟩
    rcases take_mem hx hy with hy | hy
    · exact h y hy
    · rcases h1 with h1 | h1
      · rw [hy]; exact h1
      · rw [e] at h1; cases h1.1
  · refine .inr ⟨e, h2, h3, fun y hy hn => ?_⟩
    rcases take_mem hx hy with hy | hy
    · exact h y hy hn
    · rcases h1 with h1 | h1
      · rw [hy] at hn; exact absurd h1 hn
      · omega
theorem Sel.next {found out : List Int} {i : Nat} {b : Int} {ok : Bool} (h : Sel found out) (hnd : found.Nodup) (hlt : out.length < found.length) (hl : Least found out i b ok) (hi : found.length ≤ i) : Sel found (out ++ [b]) := by
  unfold Least at hl
  rw [List.take_of_length_le hi] at hl
  rcases hl with ⟨_, hl⟩ | ⟨_, h1, h2, hl⟩
  · have := nodup_len hnd hl; omega
  · refine ⟨?_, fun x hx => ?_, fun y hy hn x hx => ?_⟩
    · rw [List.pairwise_append]
      exact ⟨h.up, by simp, fun x hx y hy => by rw [List.mem_singleton.1 hy]; exact h.low b h1 h2 x hx⟩
    · rcases List.mem_append.1 hx with hx | hx
      · exact h.sub x hx
      · rw [List.mem_singleton.1 hx]; exact h1
    · simp only [List.mem_append, List.mem_singleton, not_or] at hn
      rcases List.mem_append.1 hx with hx | hx
      · exact h.low y hy hn.1 x hx
      · rw [List.mem_singleton.1 hx]
        have := hl y hy hn.1
        have := hn.2
        omega
theorem Sel.fin {ps : List (Int × Int)} {id : Int} {found out : List Int} (h : Sel found out) (hle : found.length ≤ out.length) (hf : ∀ x, x ∈ found ↔ Rch ps id x) : Reached ps id out := by
  refine ⟨h.up, fun x => ⟨fun hx => (hf x).1 (h.sub x hx), fun hx => ?_⟩⟩
  rcases Classical.em (x ∈ out) with hm | hm
  · exact hm
  · have := nodup_len (a := x :: out) (b := found) (List.nodup_cons.2 ⟨hm, up_nodup h.up⟩) fun y hy => by
      rcases List.mem_cons.1 hy with rfl | hy
      · exact (hf _).2 hx
      · exact h.sub y hy
    simp only [List.length_cons] at this
    omega
end Go.Proofs.YtjbnjlkoipkpoaaGreatDoor.T

namespace Go.Proofs.YtjbnjlkoipkpoaaGreatDoor.T
open Go.Proofs.YtjbnjlkoipkpoaaGreatDoor.B
theorem readyB_iff {f : Int → List Int} {out : List Int} {id : Int} : readyB f out id = true ↔ id ∉ out ∧ ∀ z ∈ f id, z ≠ id → z ∈ out := by
  unfold readyB waitsB
  simp only [Bool.and_eq_true, Bool.not_eq_true', List.any_eq_false, List.contains_eq_mem, decide_eq_false_iff_not, bne_iff_ne, ne_eq, not_and, Classical.not_not]
/-- Does the reference hold a stanza back for a link? -/
def heldB (out : List Int) (id : Int) (p : Int × Int) : Bool := p.1 == id && p.2 != 0 && p.2 != p.1 && !out.contains p.2
theorem ready_held (ps : List (Int × Int)) (out : List Int) (id : Int) : readyB (nextF ps) out id = (!out.contains id && !ps.any (heldB out id)) := by
  rw [Bool.eq_iff_iff, readyB_iff]
  unfold heldB
  simp only [Bool.and_eq_true, Bool.not_eq_true', List.any_eq_false, List.contains_eq_mem, decide_eq_false_iff_not, bne_iff_ne, ne_eq, not_and, Classical.not_not, beq_iff_eq]
  refine and_congr_right fun _ => ⟨fun h p hp h1 => ?_, fun h z hz h1 => ?_⟩
  · exact h p.2 (mem_nextF.2 ⟨h1.1.1 ▸ hp, h1.1.2⟩) (fun e => h1.2 (e.trans h1.1.1.symm))
  · have := mem_nextF.1 hz
    exact h (id, z) this.1 ⟨⟨rfl, this.2⟩, h1⟩
/-- What stands in an order by links. -/
structure Ordd (f : Int → List Int) (ss : List St) (out : List Int) : Prop where
  nd : out.Nodup
  sub : ∀ z ∈ out, ∃ x ∈ ss, (x.1 : Int) = z
  behind : ∀ (i : Nat) (x : Int), out[i]? = some x → ∀ z ∈ f x, z ≠ x → z ∈ out.take i
theorem Ordd.start (f : Int → List Int) (ss : List St) : Ordd f ss [] := ⟨.nil, (fun _ h => by cases h), (fun i x h => by simp at h)⟩
theorem Ordd.next {f : Int → List Int} {ss : List St} {out : List Int} {x : St} (h : Ordd f ss out) (hx : ss.find? (fun x => readyB f out x.1) = some x) : Ordd f ss (out ++ [(x.1 : Int)]) := by
  have hr := readyB_iff.1 (show readyB f out x.1 = true from List.find?_some (p := fun x : St => readyB f out x.1) hx)
  refine ⟨?_, fun z hz => ?_, fun i y hy z hz hne => ?_⟩
  · rw [List.nodup_append]
    exact ⟨h.nd, by simp, fun a ha b hb e => hr.1 (by rw [List.mem_singleton.1 hb] at e; exact e ▸ ha)⟩
  · rcases List.mem_append.1 hz with hz | hz
    · exact h.sub z hz
    · exact ⟨x, List.mem_of_find?_eq_some hx, (List.mem_singleton.1 hz).symm⟩
  · rcases Nat.lt_or_ge i out.length with hi | hi
    · rw [List.getElem?_append_left hi] at hy
      have := h.behind i y hy z hz hne
      rw [List.take_append_of_le_length (by omega)]
      exact this
    · rw [List.getElem?_append_right hi] at hy
      have h0 : i = out.length := by
        have := (List.getElem?_eq_some_iff.1 hy).1
        simp only [List.length_singleton] at this
        omega
      subst h0
      simp only [Nat.sub_self, List.getElem?_cons_zero, Option.some.injEq] at hy
      subst hy
      rw [List.take_left]
      exact hr.2 z hz hne
theorem orderL_ordd {f : Int → List Int} {ss : List St} : ∀ (n : Nat) (out : List Int), Ordd f ss out → Ordd f ss (orderL f ss n out) ∧ ((orderL f ss n out).length = out.length + n ∨ ss.find? (fun x => readyB f (orderL f ss n out) x.1) = none)
  | 0, out, h => ⟨h, .inl rfl⟩
  | n + 1, out, h => by
    cases hx : ss.find? (fun x => readyB f out x.1) with
    | none => rw [orderL_none hx]; exact ⟨h, .inr hx⟩
    | some x =>
      rw [orderL_some hx]
      have ih := orderL_ordd n _ (h.next hx)
      refine ⟨ih.1, ih.2.imp (fun e => ?_) (fun e => e)⟩
      rw [e, List.length_append, List.length_singleton]; omega
/-- Links but for those that go to the stanza itself. -/
def othP (ps : List (Int × Int)) : List (Int × Int) := ps.filter fun p => !(p.1 == p.2)
theorem mem_othP {ps : List (Int × Int)} {p : Int × Int} : p ∈ othP ps ↔ p ∈ ps ∧ p.1 ≠ p.2 := by simp [othP]
/-- A place in a list. -/
theorem Ordd.step {ps : List (Int × Int)} {ss : List St} {out : List Int} (h : Ordd (nextF ps) ss out) {i : Nat} {a t : Int} (hi : out[i]? = some a) (hp : (a, t) ∈ ps) (h0 : t ≠ 0) (hne : t ≠ a) : ∃ j, j < i ∧ out[j]? = some t := by
  have := h.behind i a hi t (mem_nextF.2 ⟨hp, h0⟩) hne
  obtain ⟨j, hj⟩ := List.getElem?_of_mem this
  have hl := (List.getElem?_eq_some_iff.1 hj).1
  rw [List.length_take] at hl
  refine ⟨j, by omega, ?_⟩
  rw [List.getElem?_take, if_pos (by omega)] at hj
  exact hj
theorem Ordd.rch {ps : List (Int × Int)} {ss : List St} {out : List Int} (h : Ordd (nextF ps) ss out) {i : Nat} {a t : Int} (hi : out[i]? = some a) (hr : Rch (othP ps) a t) : ∃ j, j < i ∧ out[j]? = some t := by
  induction hr with
  | one t h1 h2 => exact h.step hi (mem_othP.1 h1).1 h2 (fun e => (mem_othP.1 h1).2 e.symm)
  | more f t _ h1 h2 ih =>
    obtain ⟨j, hj, hf⟩ := ih
    obtain ⟨k, hk, ht⟩ := h.step hf (mem_othP.1 h1).1 h2 (fun e => (mem_othP.1 h1).2 e.symm)
    exact ⟨k, by omega, ht⟩
theorem nodup_get {out : List Int} (h : out.Nodup) {i j : Nat} {a : Int} (hi : out[i]? = some a) (hj : out[j]? = some a) : i = j := by
  obtain ⟨h1, e1⟩ := List.getElem?_eq_some_iff.1 hi
  obtain ⟨h2, e2⟩ := List.getElem?_eq_some_iff.1 hj
  exact (List.getElem_inj h).1 (e1.trans e2.symm)
theorem Ordd.acyclic {ps : List (Int × Int)} {ss : List St} {out : List Int} (h : Ordd (nextF ps) ss out) {a : Int} (ha : a ∈ out) : ¬ Rch (othP ps) a a := fun hr => by
  obtain ⟨i, hi⟩ := List.getElem?_of_mem ha
  obtain ⟨j, hj, hj2⟩ := h.rch hi hr
  have := nodup_get h.nd hi hj2
  omega
theorem filter_less {α : Type} {p q : α → Bool} (h : ∀ z, p z = true → q z = true) : ∀ {s : List α} {y : α}, y ∈ s → q y = true → p y = false → (s.filter p).length < (s.filter q).length
  | x :: s, y, hy, h1, h2 => by
    have mono : ∀ s : List α, (s.filter p).length ≤ (s.filter q).length := fun s => by
      induction s with
      | nil => exact Nat.le_refl _
      | cons z s ih =>
        rw [List.filter_cons, List.filter_cons]
        have := h z
        split <;> split <;> (try simp only [List.length_cons]) <;> first | omega | simp_all
    rw [List.filter_cons, List.filter_cons]
    rcases List.mem_cons.1 hy with e | e
    · subst e
      rw [h1, h2]
      simp only [Bool.false_eq_true, if_false, if_true, List.length_cons]
      have := mono s
      omega
    · have ih := filter_less h e h1 h2
      have := h x
      split <;> split <;> (try simp only [List.length_cons]) <;> first | omega | simp_all
/-- Where each has one to go to, one reaches itself. -/
theorem cycle {ps : List (Int × Int)} {S : List Int} (h : ∀ x ∈ S, ∃ y ∈ S, (x, y) ∈ ps ∧ y ≠ 0) : ∀ (n : Nat) (x : Int), x ∈ S → (∃ p : Int → Bool, (∀ y, p y = true ↔ Rch ps x y) ∧ (S.filter p).length ≤ n) → ∃ y ∈ S, Rch ps y y
  | n, x, hx, ⟨p, hp, hn⟩ => by
    obtain ⟨y, hy, h1, h2⟩ := h x hx
    have hr : Rch ps x y := .one y h1 h2
    rcases Classical.em (Rch ps y y) with hc | hc
    · exact ⟨y, hy, hc⟩
    · have : ∃ q : Int → Bool, ∀ z, q z = true ↔ Rch ps y z := ⟨fun z => @decide (Rch ps y z) (Classical.propDecidable _), fun z => by simp⟩
      obtain ⟨q, hq⟩ := this
      have hl := filter_less (p := q) (q := p) (fun z hz => (hp z).2 (hr.trans ((hq z).1 hz))) hy ((hp y).2 hr) (by rw [Bool.eq_false_iff]; exact fun e => hc ((hq y).1 e))
      cases n with
      | zero => omega
      | succ n => exact cycle h n y hy ⟨q, hq, by omega⟩
theorem nodup_len_lt {a b : List Int} (ha : a.Nodup) (h : b.length < a.length) : ∃ x ∈ a, x ∉ b := by
  rcases Classical.em (∃ x ∈ a, x ∉ b) with hc | hc
  · exact hc
  · have := nodup_len ha (b := b) fun x hx => by
      rcases Classical.em (x ∈ b) with hm | hm
      · exact hm
      · exact absurd ⟨x, hx, hm⟩ hc
    omega
/-- There is an order of all just if no stanza reaches itself through another one. -/
theorem order_rounds {ps : List (Int × Int)} {ss : List St} (hid : (ss.map fun x => (x.1 : Int)).Nodup) (hto : ∀ p ∈ ps, p.2 ≠ 0 → ∃ x ∈ ss, (x.1 : Int) = p.2) :
    (orderL (nextF ps) ss ss.length []).length = ss.length ↔ ∀ x ∈ ss, ¬ Rch (othP ps) x.1 x.1 := by
  obtain ⟨ho, he⟩ := orderL_ordd (f := nextF ps) (ss := ss) ss.length [] (.start _ _)
  generalize orderL (nextF ps) ss ss.length [] = os at ho he
  simp only [List.length_nil, Nat.zero_add] at he
  constructor
  · intro hl x hx
    refine ho.acyclic ?_
    rcases Classical.em ((x.1 : Int) ∈ os) with hm | hm
    · exact hm
    · have := nodup_len (a := (x.1 : Int) :: os) (b := ss.map fun x => (x.1 : Int)) (List.nodup_cons.2 ⟨hm, ho.nd⟩) fun y hy => by
        rcases List.mem_cons.1 hy with rfl | hy
        · exact List.mem_map.2 ⟨x, hx, rfl⟩
        · obtain ⟨z, hz, e⟩ := ho.sub y hy
          exact List.mem_map.2 ⟨z, hz, e⟩
      simp only [List.length_cons, List.length_map] at this
      omega
  · intro h
    rcases he with he | he
    · exact he
    · rcases Nat.lt_or_ge os.length ss.length with hl | hl
      · exfalso
        obtain ⟨x0, hx0, hn0⟩ := nodup_len_lt hid (b := os) (by simpa using hl)
        rw [List.find?_eq_none] at he
        obtain ⟨S, hS⟩ : ∃ S, S = (ss.map fun x => (x.1 : Int)).filter fun z => !os.contains z := ⟨_, rfl⟩
        have hmem : ∀ z, z ∈ S ↔ (∃ x ∈ ss, (x.1 : Int) = z) ∧ z ∉ os := fun z => by rw [hS]; simp
        obtain ⟨y, hy, hr⟩ := cycle (ps := othP ps) (S := S) (fun z hz => by
          obtain ⟨⟨x, hx, e⟩, hzo⟩ := (hmem z).1 hz
          have hnr := he x hx
          rw [readyB_iff, e] at hnr
          have : ∃ y ∈ nextF ps z, y ≠ z ∧ y ∉ os := by
            rcases Classical.em (∃ y ∈ nextF ps z, y ≠ z ∧ y ∉ os) with hc | hc
            · exact hc
            · refine absurd ⟨hzo, fun y hy hne => ?_⟩ hnr
              rcases Classical.em (y ∈ os) with hm | hm
              · exact hm
              · exact absurd ⟨y, hy, hne, hm⟩ hc
          obtain ⟨y, hy, hne, hyo⟩ := this
          have hm := mem_nextF.1 hy
          exact ⟨y, (hmem y).2 ⟨hto _ hm.1 hm.2, hyo⟩, mem_othP.2 ⟨hm.1, fun e => hne e.symm⟩, hm.2⟩) S.length x0 ((hmem x0).2 ⟨by simpa using hx0, hn0⟩) ⟨fun z => @decide (Rch (othP ps) x0 z) (Classical.propDecidable _), fun z => by simp, List.length_filter_le _ _⟩
        obtain ⟨⟨x, hx, e⟩, _⟩ := (hmem y).1 hy
        exact h x hx (e ▸ hr)
      · have := nodup_len ho.nd (b := ss.map fun x => (x.1 : Int)) fun z hz => by
          obtain ⟨x, hx, e⟩ := ho.sub z hz
          exact List.mem_map.2 ⟨x, hx, e⟩
        rw [List.length_map] at this
        omega
end Go.Proofs.YtjbnjlkoipkpoaaGreatDoor.T

namespace Go.Proofs.YtjbnjlkoipkpoaaGreatDoor.T
open Go.RowKit Go.Shelf Go.Maps
open Go.Proofs.YtjbnjlkoipkpoaaGreatDoor.B

theorem infoIn : (Tryz.prog.info? 3).map (fun i => (i.zero, i.size, i.bytes)) = some (some (.int .i64 0), 1, 8) := by kernel_rfl
/-- Numbers in a block of one's own at or beyond B, at whatever place of it. -/
def WRow (B : Nat) (w : World) (v : Value) (zs : List Int) : Prop :=
  (v = .slice none 0 0 ∧ zs = []) ∨ ∃ (g off cap : Nat) (cur : Array Value), v = .slice (some ⟨g, off, none⟩) zs.length cap ∧ B ≤ g ∧ w.heap[g]? = some (.cells cur 3 (0, 0)) ∧ zs.length ≤ cap ∧ off + cap ≤ cur.size ∧ cap ≤ maxLen ∧ ∀ (p : Nat) (z : Int), zs[p]? = some z → cur[off + p]? = some (.int .i64 z)
theorem WRow.of {B : Nat} {w : World} {v : Value} {zs : List Int} (h : ZRow B w v zs) : WRow B w v zs := by
  rcases h.2 with ⟨h0, h1⟩ | ⟨g, cap, cur, hv, hB, hg, hle, hm, hs, htk⟩
  · exact .inl ⟨h0, List.eq_nil_of_length_eq_zero h1⟩
  · refine .inr ⟨g, 0, cap, cur, hv, hB, hg, hle, by omega, hm, fun p z hz => ?_⟩
    have hp := (List.getElem?_eq_some_iff.1 hz).1
    have e : (cur.toList.take (zs.length * 1))[p]? = some (.int .i64 z) := by rw [htk]; unfold zVals; rw [List.getElem?_map, hz]; rfl
    rw [List.getElem?_take, if_pos (by omega), Array.getElem?_toList] at e
    rw [Nat.zero_add]; exact e
theorem WRow.block {B : Nat} {w w' : World} {v : Value} {zs : List Int} (h : WRow B w v zs) (hk : ∀ k, B ≤ k → k < w.heap.size → w'.heap[k]? = w.heap[k]?) : WRow B w' v zs := by
  rcases h with h | ⟨g, off, cap, cur, hv, hB, hg, hr⟩
  · exact .inl h
  · exact .inr ⟨g, off, cap, cur, hv, hB, (hk g hB (Array.getElem?_eq_some_iff.1 hg).1).trans hg, hr⟩
/-- The first. -/
theorem WRow.head {B : Nat} {w : World} {v : Value} {z : Int} {zs : List Int} (h : WRow B w v (z :: zs)) : ∃ g off cap, v = .slice (some ⟨g, off, none⟩) (zs.length + 1) cap ∧ zs.length + 1 ≤ cap ∧ cap ≤ maxLen ∧ w.cell? ⟨g, off, none⟩ = some (.int .i64 z) := by
  rcases h with ⟨_, h⟩ | ⟨g, off, cap, cur, hv, hB, hg, hle, hs, hm, hc⟩
  · cases h
  · refine ⟨g, off, cap, hv, by simpa using hle, hm, ?_⟩
    rw [_root_.Go.Proofs.YtjbnjlkoipkpoaaGreatDoor.B.cell_of_row _ _ _ _ _ hg]
    exact hc 0 z rfl
/-- What is left behind the first. -/
theorem WRow.tail {B : Nat} {w : World} {g off cap : Nat} {z : Int} {zs : List Int} (h : WRow B w (.slice (some ⟨g, off, none⟩) (zs.length + 1) cap) (z :: zs)) :
    ∃ off', WRow B w (.slice (some ⟨g, off', none⟩) zs.length (cap - 1)) zs ∧ ∀ W : World, (Instr.slice 68 (.slice (some ⟨g, off, none⟩) (zs.length + 1) cap) (some (.int .i64 1)) none none).run Tryz.prog W = .ok (.slice (some ⟨g, off', none⟩) zs.length (cap - 1)) W := by
  rcases h with ⟨_, h⟩ | ⟨g', off2, cap', cur, hv, hB, hg, hle, hs, hm, hc⟩
  · cases h
  · injection hv with z1 z2 z3
    injection z1 with z1
    injection z1 with z1 z4 _
    subst z1 z3 z4
    simp only [List.length_cons] at hle
    have h1 : (1 : Int) ≤ (zs.length : Int) + 1 := by omega
    by_cases hc1 : cap = 1
    · subst hc1
      have hz : zs = [] := List.eq_nil_of_length_eq_zero (by omega)
      subst hz
      refine ⟨off, .inr ⟨g, off, 0, cur, rfl, hB, hg, by simp, by omega, by omega, fun p z hz => by simp at hz⟩, fun W => ?_⟩
      simp [go_sem]
    · refine ⟨off + 1, .inr ⟨g, off + 1, cap - 1, cur, rfl, hB, hg, by omega, by omega, by omega, fun p x hx => ?_⟩, fun W => ?_⟩
      · rw [show off + 1 + p = off + (p + 1) by omega]
        exact hc (p + 1) x (by simpa using hx)
      · simp [go_sem, h1, hc1, Addr.add]
/-- An append of a row. -/
theorem WRow.append {B B2 : Nat} {w : World} {v u : Value} {zs ys : List Int} (h : WRow B w v zs) (hu : ZRow B2 w u ys) (hB : B ≤ w.heap.size) (hn : zs.length + ys.length ≤ 40040000 * 2) :
    ∃ v' w', (∀ ty : TypeId, (Builtin.append_ #[68, 68] ty #[v, u]).run Tryz.prog w = .ok v' w') ∧ WRow B w' v' (zs ++ ys) ∧ w.grownBy w' v.ownBlock ∧ ∀ g, v.ownBlock = some g → B ≤ g := by
  obtain ⟨i0, hi0, hz0, hz1, hz2⟩ := info_parts infoIn
  have hml : zs.length + ys.length ≤ maxLen := by unfold maxLen; omega
  have hlow : ∀ g, v.ownBlock = some g → B ≤ g := fun g hg => by
    rcases h with ⟨h, _⟩ | ⟨g', off, cap, cur, hv, hb, _⟩
    · rw [h] at hg; simp [Value.ownBlock] at hg
    · rw [hv] at hg; simp [Value.ownBlock] at hg; omega
  -- a new block
  have fresh : ∀ (old : Nat), old < zs.length + ys.length → ∀ (row : Option Nat),
      WRow B (w.drew.alloc (.cells ((zVals zs).toArray ++ (zVals ys).toArray ++ Builtin.zeroCells (Value.int .i64 0).cells (grownCap w (zs.length + ys.length) old 3 - (zs.length + ys.length))) 3)) (.slice (some ⟨w.heap.size, 0, none⟩) (zs.length + ys.length) (grownCap w (zs.length + ys.length) old 3)) (zs ++ ys) ∧
      w.grownBy (w.drew.alloc (.cells ((zVals zs).toArray ++ (zVals ys).toArray ++ Builtin.zeroCells (Value.int .i64 0).cells (grownCap w (zs.length + ys.length) old 3 - (zs.length + ys.length))) 3)) row := by
    intro old ho row
    have hge := grownCap_ge w (zs.length + ys.length) old 3
    have hcm : grownCap w (zs.length + ys.length) old 3 ≤ maxLen := grownCap_le_maxLen w (zs.length + ys.length) old 3 hml
    refine ⟨.inr ⟨w.heap.size, 0, _, _, by rw [List.length_append], hB, heap_alloc_new w.drew _, by rw [List.length_append]; exact hge, ?_, hcm, fun p z hz => ?_⟩, ⟨rfl, rfl, rfl, by simp, fun k hk _ => Below.heap_alloc w.drew _ k hk⟩⟩
    · simp only [Array.size_append, List.size_toArray, size_zeroCells, zVals, List.length_map]
      simp [Value.cells]; omega
    · have hp := (List.getElem?_eq_some_iff.1 hz).1
      rw [Nat.zero_add, Array.getElem?_append_left (by simp only [Array.size_append, List.size_toArray, zVals, List.length_map]; rw [List.length_append] at hp; exact hp)]
      rw [List.append_toArray, List.getElem?_toArray]
      unfold zVals
      rw [← List.map_append, List.getElem?_map, hz]; rfl
  by_cases hy : ys = []
  · subst hy
    rw [List.append_nil]
    have hu0 : ∃ a c, u = .slice a 0 c := by
      rcases hu.2 with ⟨e, _⟩ | ⟨g, cap, cur, e, _⟩
      · exact ⟨none, 0, e⟩
      · exact ⟨_, cap, e⟩
    obtain ⟨a, c, rfl⟩ := hu0
    refine ⟨v, w, fun ty => ?_, h, ⟨rfl, rfl, rfl, Nat.le_refl _, fun _ _ _ => rfl⟩, hlow⟩
    have hf : (Builtin.firstCells i0.size 0 (.slice a 0 c)).run Tryz.prog w = .ok #[] w := by
      cases a with
      | none => exact run_firstCells_none w _ _ _ _
      | some b => exact run_firstCells_some w i0.size 0 b 0 c [] (by simp) (fun j v hv => by simp at hv)
    rcases h with ⟨rfl, -⟩ | ⟨g, off, cap, cur, rfl, _, _, hle, _⟩
    · simp [Builtin.append_, run_underlying Tryz.underlying68, sizeOf, typeInfo, hi0, Builtin.lenOf, hf]
    · simp [Builtin.append_, run_underlying Tryz.underlying68, sizeOf, typeInfo, hi0, Builtin.lenOf, hf, hle, storeCells]
  · have hyl : 0 < ys.length := List.length_pos_iff.2 hy
    obtain ⟨g2, c2, hu2, -, hg2⟩ := World.ownsRow.form hu hyl
    have hnews : ∀ j x, (zVals ys)[j]? = some x → w.cell? ((⟨g2, 0, none⟩ : Addr).add j) = some x := World.ownsRow.cells hu (by rw [hu2]; rfl)
    have hl : (zVals ys).length = ys.length * i0.size := by rw [hz1]; simp [zVals]
    subst hu2
    rcases h with ⟨rfl, rfl⟩ | ⟨g, off, cap, cur, rfl, hb, hg, hle, hs, hm, hc⟩
    · have hr := fun ty => run_append_nil (P := Tryz.prog) w 68 ty 3 i0 _ Tryz.underlying68 hi0 hz0 ⟨g2, 0, none⟩ ys.length c2 (zVals ys) hl hnews hyl (by omega) (by rw [hz2]; omega)
      have hf := fresh 0 (by simpa using hyl) (Value.ownBlock (.slice none 0 0))
      simp only [List.length_nil, Nat.zero_add, zVals, List.map_nil, List.nil_append, Array.empty_append] at hf hr ⊢
      exact ⟨_, _, hr, hf.1, hf.2, hlow⟩
    · by_cases hroom : zs.length + ys.length ≤ cap
      · have hst := run_storeCells_at Tryz.prog g (off + zs.length) 3 (zVals ys) 0 cur w hg (by simp [zVals]; omega) (fun v hv => by obtain ⟨z, _, rfl⟩ := List.mem_map.1 hv; rfl)
        have hf := run_firstCells_some (P := Tryz.prog) w i0.size ys.length ⟨g2, 0, none⟩ ys.length c2 (zVals ys) hl hnews
        have hadd : (⟨g, off, none⟩ : Addr).add (zs.length * i0.size) = ⟨g, off + zs.length, none⟩ := by rw [hz1, Nat.mul_one]; unfold Addr.add; simp
        simp only [Nat.add_zero] at hst
        refine ⟨.slice (some ⟨g, off, none⟩) (zs.length + ys.length) cap, w.setRow g (cur.toList.take (off + zs.length) ++ zVals ys ++ cur.toList.drop (off + zs.length + (zVals ys).length)).toArray, fun ty => ?_, .inr ⟨g, off, cap, (cur.toList.take (off + zs.length) ++ zVals ys ++ cur.toList.drop (off + zs.length + (zVals ys).length)).toArray, by rw [List.length_append], hb, setRow_heap w g cur _ _ _ hg, by rw [List.length_append]; exact hroom, ?_, hm, fun p z hz => ?_⟩, ⟨rfl, rfl, rfl, by simp, fun k _ hk => setRow_other w g k _ (fun e => hk (by simp [Value.ownBlock, e]))⟩, hlow⟩
        · simp [Builtin.append_, run_underlying Tryz.underlying68, sizeOf, typeInfo, hi0, Builtin.lenOf, hroom, hf, hadd, hst]
        · simp only [List.size_toArray, List.length_append, List.length_take, List.length_drop, Array.length_toList, zVals, List.length_map]
          omega
        · have hp := (List.getElem?_eq_some_iff.1 hz).1
          rw [List.length_append] at hp
          rw [List.getElem?_toArray, List.append_assoc]
          have hcl : cur.toList.length = cur.size := Array.length_toList
          have hct : (cur.toList.take (off + zs.length)).length = off + zs.length := by rw [List.length_take, hcl]; omega
          by_cases hpz : p < zs.length
          · rw [List.getElem?_append_left hpz] at hz
            rw [List.getElem?_append_left (by rw [hct]; omega), List.getElem?_take, if_pos (by omega), Array.getElem?_toList]
            exact hc p z hz
          · rw [List.getElem?_append_right (by omega)] at hz
            rw [List.getElem?_append_right (by rw [hct]; omega), hct, show off + p - (off + zs.length) = p - zs.length by omega]
            rw [List.getElem?_append_left (by simp [zVals]; omega)]
            unfold zVals
            rw [List.getElem?_map, hz]; rfl
      · have holds : ∀ j x, (zVals zs)[j]? = some x → w.cell? ((⟨g, off, none⟩ : Addr).add j) = some x := fun j x hx => by
          rw [show (⟨g, off, none⟩ : Addr).add j = ⟨g, off + j, none⟩ by unfold Addr.add; simp, _root_.Go.Proofs.YtjbnjlkoipkpoaaGreatDoor.B.cell_of_row _ _ _ _ _ hg]
          unfold zVals at hx
          rw [List.getElem?_map] at hx
          obtain ⟨z, hz, rfl⟩ := Option.map_eq_some_iff.1 hx
          exact hc j z hz
        have hr := fun ty => run_append_grow (P := Tryz.prog) w 68 ty 3 i0 _ Tryz.underlying68 hi0 hz0 ⟨g, off, none⟩ zs.length cap (zVals zs) (by rw [hz1]; simp [zVals]) holds ⟨g2, 0, none⟩ ys.length c2 (zVals ys) hl hnews (by omega) (by omega) (growslice_fits (by omega) (by rw [hz2]; omega))
        have hf := fresh cap (by omega) (Value.ownBlock (.slice (some ⟨g, off, none⟩) zs.length cap))
        exact ⟨_, _, hr, hf.1, hf.2, hlow⟩
end Go.Proofs.YtjbnjlkoipkpoaaGreatDoor.T

namespace Go.Proofs.YtjbnjlkoipkpoaaGreatDoor.T
open Go.RowKit Go.Shelf Go.Maps Go.ChangeShapes
open Go.Proofs.YtjbnjlkoipkpoaaGreatDoor.B

/-- What has been seen, as the map holds it. -/
def SMap (w : World) (B : Nat) (seen : List Int) : Prop :=
  ∃ D : DataW Unit, w.ownsMap Tryz.prog 3 (plainElem Tryz.prog 3) B seen.length D ∧ (∀ x : Int, D.atKey (.int .i64 x) (.lit (.int .i64 0)) = .lit (.int .i64 (if x ∈ seen then 1 else 0))) ∧ ∀ x : Int, Maps.has D (.int .i64 x) = decide (x ∈ seen)
theorem SMap.block {w w' : World} {B : Nat} {seen : List Int} (h : SMap w B seen) (hk : w'.heap[B]? = w.heap[B]?) : SMap w' B seen :=
  let ⟨D, h1, h2⟩ := h
  ⟨D, ownsMap_of_block h1 hk, h2⟩
theorem SMap.lt {w : World} {B : Nat} {seen : List Int} (h : SMap w B seen) : B < w.heap.size := let ⟨_, h1, _⟩ := h; h1.lt
theorem SMap.made (w : World) : SMap (w.alloc (.map #[] 0)) w.heap.size [] := ⟨.map [], World.ownsMap_made _ _ _ _, fun _ => rfl, fun _ => rfl⟩
theorem SMap.put {w' : World} {B : Nat} {seen : List Int} {D : DataW Unit} {z : Int} (hI : IsMap D) (h2 : ∀ x : Int, D.atKey (.int .i64 x) (.lit (.int .i64 0)) = .lit (.int .i64 (if x ∈ seen then 1 else 0))) (h3 : ∀ x : Int, Maps.has D (.int .i64 x) = decide (x ∈ seen))
    (h : w'.ownsMap Tryz.prog 3 (plainElem Tryz.prog 3) B (seen.length + 1) (D.put (.int .i64 z) (.lit (.int .i64 1)))) : SMap w' B (seen ++ [z]) := by
  refine ⟨_, by rw [List.length_append]; exact h, fun x => ?_, fun x => ?_⟩
  · by_cases e : z = x
    · subst e
      rw [atKey_put_same hI (show WideAt.IsKeyLit (.int .i64 z) from trivial)]
      simp
    · rw [atKey_put_other (fun k => e (by simpa using k.symm)), h2]
      have : ¬ x = z := fun k => e k.symm
      simp [this]
  · by_cases e : z = x
    · subst e
      rw [has_put_same hI (show WideAt.IsKeyLit (.int .i64 z) from trivial)]
      simp
    · rw [has_put_other (fun k => e (by simpa using k.symm)), h3]
      have : ¬ x = z := fun k => e k.symm
      simp [this]
/-- Its keys. -/
theorem SMap.perm {w : World} {B : Nat} {seen : List Int} {D : DataW Unit} (hown : w.ownsMap Tryz.prog 3 (plainElem Tryz.prog 3) B seen.length D) (h3 : ∀ x : Int, Maps.has D (.int .i64 x) = decide (x ∈ seen)) (hnd : seen.Nodup) : seen.Perm (intKeys D) := by
  obtain ⟨es, hD, hpw, _⟩ := hown.entries keyedI
  obtain ⟨es', hD', hko⟩ := hown.keysOf
  obtain rfl : es = es' := by rw [hD] at hD'; simpa using hD'
  subst hD
  exact perm_intKeys hpw (fun p hp => by obtain ⟨v, hv⟩ := hko p hp; obtain ⟨x, _, hx, _⟩ := Maps.keyOf_i64 Tryz.underlying3 hv; exact ⟨x, hx⟩) hnd (fun x => by rw [h3]; simp)
theorem sortI_rising {l : List Int} (h : l.Nodup) : (l.mergeSort (fun x y => decide (x ≤ y))).Pairwise (· < ·) := by
  have h1 : (l.mergeSort (fun x y => decide (x ≤ y))).Pairwise (fun x y => decide (x ≤ y) = true) := List.pairwise_mergeSort (fun a b c hab hbc => by simp only [decide_eq_true_eq] at *; omega) (fun a b => by simp only [Bool.or_eq_true, decide_eq_true_eq]; omega) l
  have h2 : (l.mergeSort (fun x y => decide (x ≤ y))).Nodup := (List.mergeSort_perm l _).nodup_iff.2 h
  exact (h1.and h2).imp fun ⟨a, b⟩ => by simp only [decide_eq_true_eq] at a; omega
set_option maxHeartbeats 1600000 in
theorem cloneI_none (ao : Option Addr) (c : Nat) (w : World) : Calls Tryz.prog 76 #[.slice ao 0 c] w fun e w' => (∃ bo cb, e = .returned (.slice bo 0 cb) ∧ ZRow w.heap.size w' (.slice bo 0 cb) []) ∧ Below w.heap.size w w' := by
  obtain ⟨i0, hi0, hz0, hz1, hz2⟩ := info_parts infoIn
  cases ao with
  | none =>
    have hq : ∀ w, (binOp .eql 68 (.slice none 0 c) (.slice none 0 0)).run Tryz.prog w = .ok (.bool true) w := fun w => by kernel_rfl
    go_enter Tryz.func76, Tryz.ntmps76
    go_wp2_with fail
    go_ret
    exact ⟨⟨_, _, rfl, World.ownsRow_nil _ _ _ _⟩, Below.refl _ _⟩
  | some a =>
    have hq : ∀ w, (binOp .eql 68 (.slice (some a) 0 c) (.slice none 0 0)).run Tryz.prog w = .ok (.bool false) w := fun w => by kernel_rfl
    have hap : ∀ W ty, (Builtin.append_ #[68, 68] ty #[.slice (some ⟨w.heap.size, 0, none⟩) 0 0, .slice (some a) 0 c]).run Tryz.prog W = .ok (.slice (some ⟨w.heap.size, 0, none⟩) 0 0) W := fun W ty => by
      have hf : (Builtin.firstCells i0.size 0 (.slice (some a) 0 c)).run Tryz.prog W = .ok #[] W := run_firstCells_some W i0.size 0 a 0 c [] (by simp) (fun j v hv => by simp at hv)
      simp [Builtin.append_, run_underlying Tryz.underlying68, sizeOf, typeInfo, hi0, Builtin.lenOf, hf, storeCells]
    have hb1 := Lib.hid (below_grow1 w (.cells #[] 3))
    have hm : Hid (ZRow w.heap.size (w.alloc (.cells #[] 3)) (.slice (some ⟨w.heap.size, 0, none⟩) 0 0) []) := Lib.hid (World.ownsRow_made (base := w.heap.size) (e := 3) (size := 1) w #[] 0 (Nat.le_refl _) (Nat.zero_le _) rfl)
    go_enter Tryz.func76, Tryz.ntmps76
    go_wp2_with fail
    go_ret
    exact ⟨⟨_, _, rfl, hm.out⟩, hb1.out⟩
set_option maxHeartbeats 1600000 in
theorem cloneI_any (v : Value) (zs : List Int) (w : World) (B : Nat) (hown : ZRow B w v zs) (hn : 0 < zs.length) (hn1 : zs.length ≤ 40040000) :
    Calls Tryz.prog 76 #[v] w fun e w' => ∃ u, e = .returned u ∧ ZRow w.heap.size w' u zs ∧ Below w.heap.size w w' := by
  obtain ⟨i0, hi0, hz0, hz1, hz2⟩ := info_parts infoIn
  obtain ⟨g, c, hv, -, hg⟩ := World.ownsRow.form hown hn
  have hcells := World.ownsRow.cells hown (g := g) (by rw [hv]; rfl)
  have HC := Lib.hid hcells
  have H1 : Hid (∀ u ∈ zVals zs, u.oneCell' = true) := Lib.hid fun u hu => by obtain ⟨z, _, rfl⟩ := List.mem_map.1 hu; rfl
  have hlen : Hid ((zVals zs).length = zs.length * 1) := Lib.hid (by simp [zVals])
  have hq : ∀ w, (binOp .eql 68 (.slice (some ⟨g, 0, none⟩) zs.length c) (.slice none 0 0)).run Tryz.prog w = .ok (.bool false) w := fun w => by kernel_rfl
  subst hv
  clear hown hcells
  obtain ⟨n, hnn⟩ : ∃ n, zs.length = n := ⟨_, rfl⟩
  obtain ⟨xs, hxs⟩ : ∃ xs, zVals zs = xs := ⟨_, rfl⟩
  have HZ : Hid (∀ B w u, World.ownsRow w B 3 1 u n xs → ZRow B w u zs) := Lib.hid fun B w u h => by unfold ZRow; rw [hnn, hxs]; exact h
  rw [hnn] at hn hn1 hq hlen ⊢
  rw [hxs] at HC H1 hlen
  clear hnn hxs
  obtain ⟨Q, hQ⟩ : ∃ Q : Value → World → Prop, (fun u w' => ZRow w.heap.size w' u zs) = Q := ⟨_, rfl⟩
  have HQ : Hid (∀ u w', World.ownsRow w' w.heap.size 3 1 u n xs → Q u w') := Lib.hid fun u w' h => by rw [← hQ]; exact HZ.out _ _ _ h
  rw [show (fun e w' => ∃ u, e = Ending.returned u ∧ ZRow w.heap.size w' u zs ∧ Below w.heap.size w w') = (fun e w' => ∃ u, e = Ending.returned u ∧ Q u w' ∧ Below w.heap.size w w') by rw [← hQ]]
  clear hQ HZ
  go_enter Tryz.func76, Tryz.ntmps76
  have hm := World.ownsRow_made (base := w.heap.size) (e := 3) (size := 1) w #[] 0 (Nat.le_refl _) (Nat.zero_le _) rfl
  have hb1 : Below w.heap.size w (w.alloc (.cells #[] 3)) := (Below.refl _ _).alloc (Nat.le_refl _) _
  have HM := Lib.hid hm
  have HB1 := Lib.hid hb1
  clear hm hb1
  go_wp2_with (at_builtin; refine wpList_append_lies _ rfl _ _ _ rfl w.heap.size 3 i0 _ 1 8 Tryz.underlying68 hi0 hz0 hz1 hz2 rfl (by omega) (.slice (some ⟨w.heap.size, 0, none⟩) 0 0) 0 [] rfl HM.out ⟨g, 0, none⟩ n c xs rfl hlen.out (fun j u hu => by rw [HB1.out.cell (p := (⟨g, 0, none⟩ : Addr).add j) (by rw [addr0]; exact hg)]; exact HC.out j u hu) H1.out hn (by unfold maxLen; omega) (by omega) (by simp) _ rfl ?_; refine Hid.out ?_)
  refine Lib.hid ?_
  intro gg cap w1 hown1 hgrow hat hlt
  have hown1 := Lib.hid hown1
  have hgrow := Lib.hid hgrow
  go_wp2
  go_ret
  exact ⟨_, rfl, HQ.out _ _ (by simpa using hown1.out), HB1.out.grown hgrow.out HB1.out.size (fun k hk => by cases hk; exact Nat.le_refl _)⟩
theorem cloneI_all (v : Value) (zs : List Int) (w : World) (B : Nat) (hown : ZRow B w v zs) (hn1 : zs.length ≤ 40040000) :
    Calls Tryz.prog 76 #[v] w fun e w' => ∃ u, e = .returned u ∧ ZRow w.heap.size w' u zs ∧ Below w.heap.size w w' := by
  by_cases h0 : zs = []
  · obtain ⟨ao, c, hv⟩ := own_shape hown
    subst h0
    simp only [List.length_nil] at hv
    subst hv
    exact (cloneI_none ao c w).mono fun e w' ⟨⟨bo, cb, h1, h2⟩, h3⟩ => ⟨_, h1, h2, h3⟩
  · exact cloneI_any v zs w B hown (List.length_pos_iff.2 h0) hn1
end Go.Proofs.YtjbnjlkoipkpoaaGreatDoor.T

namespace Go.Proofs.YtjbnjlkoipkpoaaGreatDoor.T
open Go.RowKit Go.Shelf Go.Maps Go.ChangeShapes
open Go.Proofs.YtjbnjlkoipkpoaaGreatDoor.B

/-- Where the loop stands: w1 is the world behind the links' map. -/
structure ReI (ps : List (Int × Int)) (id : Int) (w1 : World) (seen work : List Int) (v : Value) (W : World) : Prop where
  below : Below w1.heap.size w1 W
  map : SMap W w1.heap.size seen
  row : WRow (w1.heap.size + 1) W v work
  law : Wk ps id seen work
/-- A look-up in the map of the links. -/
theorem look_groups {w : World} {base mb n : Nat} {f : Int → List Int} (h : GMap w base mb n f) (hn : n ≤ 100000000) {k : Int} (hk : (Lit.int .i64 k).wf = true) :
    ∃ v, (Instr.lookup 130 (.map (some mb)) (.int .i64 k) false).run Tryz.prog w = .ok v w ∧ ZRow base w v (f k) ∧ (f k).length ≤ n := by
  obtain ⟨D, hown, hism, hat0⟩ := h
  obtain ⟨v, zs, hrun, hat, hoi, hzl, hback⟩ := World.ownsGroups.at hown keyedI Tryz.underlying130 (zeroSl _) (by unfold maxLen; omega) (keyOf_int_mk Tryz.underlying3 hk)
  have hzs := GD_read hoi ((hat0 k).symm.trans hat)
  subst hzs
  exact ⟨v, hrun, hoi.1, hzl⟩
/-- An append by its run. -/
theorem wpList_append_eq {w : World} {ops : Array Oper} {rest : List Oper} {o : Oper} {a : Act} {Q : Exit → Act → World → Prop} (hgd : o.guard = none) (s x : Operand) (t : TypeId)
    (ho : o.op = .call { callee := .builtin .append, args := #[s, x], argTypes := #[t, t] }) {v u v' : Value} {w' : World} (hs : a.eval s = v) (hx : a.eval x = u)
    (hr : ∀ ty, (Builtin.append_ #[t, t] ty #[v, u]).run Tryz.prog w = .ok v' w') (h : wpList Tryz.prog ops Q rest (a.put o.dst v') w') : wpList Tryz.prog ops Q (o :: rest) a w :=
  wpList_plain hgd fun _ hK => by
    unfold Oper.wp execOp
    simp only [ho, resolve, invoke, builtin, Sem.run_bind, Sem.run_pure, Result.andThen_ok, List.map_toArray, List.map_cons, List.map_nil, hs, hx, hr]
    exact hK _ _ h
theorem mem_step {ps : List (Int × Int)} {id : Int} {seen work : List Int} (h : Wk ps id seen work) (hwf : ∀ p ∈ ps, WfP p) {z : Int} (hz : z ∈ work) : (Lit.int .i64 z).wf = true := by
  obtain ⟨p, hp, e⟩ := (h.sound z (.inr hz)).mem
  exact e ▸ (hwf p hp).2
set_option maxRecDepth 100000 in
set_option maxHeartbeats 6400000 in
theorem reach_any (v : Value) (ps : List (Int × Int)) (id : Int) (w : World) (h : LsAt w.heap.size w v ps) (hn : ps.length ≤ 40040000) (hwf : ∀ p ∈ ps, WfP p) (hid : (Lit.int .i64 id).wf = true) :
    Calls Tryz.prog 36 #[v, .int .i64 id] w fun e w' => ∃ u zs, e = .returned u ∧ ZRow w.heap.size w' u zs ∧ Reached ps id zs ∧ Below w.heap.size w w' := by
  have hmm := @run_makeMap Tryz.prog
  have FR := Lib.hid (from_any v ps w h hn hwf)
  have HWF := Lib.hid hwf
  have HIDW := Lib.hid hid
  have hv : ∃ ao c, v = .slice ao ps.length c := let ⟨ao, c, h1, _⟩ := h; ⟨ao, c, h1⟩
  obtain ⟨ao, c, rfl⟩ := hv
  clear h hwf hid
  go_enter Tryz.func36, Tryz.ntmps36
  go_wp2_with fail
  refine FR.out.mono ?_
  rintro e w1 ⟨rfl, hG, hb1⟩
  have HB1 := Lib.hid hb1
  have HG1 : Hid (∀ W, Below w1.heap.size w1 W → GMap W (w.heap.size + 1) w.heap.size ps.length (nextF ps)) := Lib.hid fun W hW => GMap.keep hG (grown_below hW)
  have hM2 := SMap.made w1
  have hb2 : Below w1.heap.size w1 (w1.alloc (.map #[] 0)) := below_grow1 w1 _
  obtain ⟨w2, hw2⟩ : ∃ w2, w1.alloc (.map #[] 0) = w2 := ⟨_, rfl⟩
  rw [hw2] at hM2 hb2
  have hs2 : w2.heap.size = w1.heap.size + 1 := by rw [← hw2]; simp
  have HM2 := Lib.hid hM2
  have HB2 := Lib.hid hb2
  have HW2 := Lib.hid hw2
  obtain ⟨r0, hrun, hr0, hl0⟩ := look_groups (HG1.out w2 hb2) (by omega) HIDW.out
  have CL : Hid (Calls Tryz.prog 76 #[r0] w2 fun e w' => ∃ u, e = .returned u ∧ ZRow w2.heap.size w' u (nextF ps id) ∧ Below w2.heap.size w2 w') := Lib.hid (cloneI_all r0 _ w2 _ hr0 (by omega))
  have HS0 := Lib.hid (Wk.start ps id)
  obtain ⟨wk0, hwk0⟩ : ∃ wk0, nextF ps id = wk0 := ⟨_, rfl⟩
  rw [hwk0] at CL HS0 hl0
  obtain ⟨ro, rc, hro⟩ := own_shape hr0
  subst hro
  clear hG hb1 hb2 hM2 hr0 hwk0 FR
  go_wp2_with fail
  try rw [HW2.out]
  refine CL.out.mono ?_
  rintro e w3 ⟨u, rfl, hu, hb3⟩
  have HB3 := Lib.hid (HB2.out.trans (hb3.mono HB2.out.size))
  have HI3 : Hid (ReI ps id w1 [] wk0 u w3) := Lib.hid ⟨HB3.out, HM2.out.block (hb3.block _ (by omega)), WRow.of (ZRow.low hu (by omega)), HS0.out⟩
  clear hrun hu hb3 CL HM2 HB2 HS0 HW2 HIDW hmm
  go_wp2
  go_loopg [7, 8] (ps.length + ps.length) (fun gg s7 _ wr => ∃ seen work, work.length + unseen ps seen ≤ gg ∧ work.length + unseen ps seen ≤ ps.length + ps.length ∧ Hid (ReI ps id w1 seen work s7 wr))
  case atStart => exact ⟨[], wk0, by have := unseen_le ps []; omega, by have := unseen_le ps []; omega, HI3⟩
  case round =>
    clear HI3
    obtain ⟨seen, work, hgg, hg2, hI⟩ := hrel
    have hsl := hI.out.law.seen_len
    obtain ⟨vo, vc, hvo⟩ : ∃ vo vc, u7 = .slice vo work.length vc := by
      rcases hI.out.row with ⟨h1, h2⟩ | ⟨g, off, cap, cur, h1, -⟩
      · exact ⟨none, 0, by rw [h1, h2]; rfl⟩
      · exact ⟨_, _, h1⟩
    subst hvo
    cases work with
    | nil =>
      obtain ⟨D, hown, h2, h3⟩ := hI.out.map
      have hsz := size_le hown
      have SO := Lib.hid (sortedI_any w1.heap.size seen.length D (plainElem Tryz.prog 3) wr hown (by unfold maxLen; omega) (by omega))
      have HPM := Lib.hid (SMap.perm hown h3 hI.out.law.nd)
      have HDN := Lib.hid hI.out.law.done
      have HNDP := Lib.hid hI.out.law.nd
      have HBW := Lib.hid (HB1.out.trans (hI.out.below.mono HB1.out.size))
      have hwz := HBW.out.size
      simp only [List.length_nil] at hgg hg2 ⊢
      clear hown h2 h3 hI
      go_wp2_with fail
      refine (keysI_any _ _).mono ?_
      rintro e w' ⟨rfl, rfl⟩
      go_wp2_with fail
      refine SO.out.mono ?_
      rintro e w6 ⟨u, ks0, rfl, hperm, hrow, hb6⟩
      have hp2 : ks0.Perm seen := hperm.trans HPM.out.symm
      have HR : Hid (Reached ps id (ks0.mergeSort (fun x y => decide (x ≤ y)))) := Lib.hid ⟨sortI_rising (hp2.nodup_iff.2 HNDP.out), fun x => by rw [(List.mergeSort_perm ks0 _).mem_iff, hp2.mem_iff]; exact HDN.out x⟩
      have HZ : Hid (ZRow w.heap.size w6 u (ks0.mergeSort (fun x y => decide (x ≤ y)))) := Lib.hid (ZRow.low (B := (wr.alloc (.cells #[.map (some w1.heap.size)] 132)).heap.size) (by unfold ZRow zVals; rw [List.length_mergeSort]; exact hrow) (by simp; omega))
      have HB6 := Lib.hid (((HBW.out.alloc hwz (.cells #[.map (some w1.heap.size)] 132))).trans (hb6.mono (by simp; omega)))
      clear hperm hrow hb6 hp2 SO
      go_wp2_with fail
      go_ret
      exact ⟨_, _, rfl, HZ.out, HR.out, HB6.out⟩
    | cons z rest =>
      obtain ⟨g, off, cap, hv, hle, hcm, hc0⟩ := hI.out.row.head
      obtain ⟨rfl, -, rfl⟩ : vo = some ⟨g, off, none⟩ ∧ True ∧ vc = cap := by injection hv with a b c; exact ⟨a, trivial, c⟩
      obtain ⟨off', htl, hsl2⟩ := WRow.tail (by simpa using hI.out.row)
      have hzw := mem_step hI.out.law HWF.out (z := z) (by simp)
      have HKEY := Lib.hid (keyOf_int_mk Tryz.underlying3 hzw)
      have hbl := hI.out.below
      obtain ⟨rz, hrun, hrz, hlz⟩ := look_groups (HG1.out wr hbl) (by omega) hzw
      obtain ⟨D, hown, h2, h3⟩ := hI.out.map
      have HO := Lib.hid hown
      have H2 := Lib.hid h2
      have H3 := Lib.hid h3
      have HTL := Lib.hid htl
      simp only [List.length_cons] at hgg hg2 ⊢
      have hpos : (0 : Int) < (rest.length : Int) + 1 := by omega
      have hszl : seen.length ≤ 40040000 := by omega
      by_cases hzs : z ∈ seen
      · have HI2 : Hid (∀ W, Below wr.heap.size wr W → ReI ps id w1 seen rest (.slice (some ⟨g, off', none⟩) rest.length (vc - 1)) W) := Lib.hid fun W hW => ⟨hI.out.below.trans (hW.mono hI.out.below.size), hI.out.map.block (hW.block _ hI.out.map.lt), HTL.out.block (fun k _ hk => hW.block k hk), hI.out.law.old hzs⟩
        clear hown h2 h3 htl hv hbl hrun hrz hlz hI
        go_wp2_with (at_lookup; refine wpList_lookup_own_int _ rfl _ _ 132 rfl 3 3 .i64 keyedI Tryz.underlying132 Tryz.underlying3 (zeroI _) w1.heap.size seen.length D rfl HO.out _ _ rfl HKEY.out ?_; intro c hat _; refine Hid.out ?_)
        refine Lib.hid ?_
        obtain rfl : c = 1 := by
          rw [H2.out, if_pos hzs] at hat
          injection hat with hat
          injection hat with _ hat
          exact hat.symm
        clear hat hzs
        go_wp2_with fail
        go_roundg (rest.length + unseen ps seen)
        case measure => omega
        case rel => exact ⟨seen, rest, Nat.le_refl _, by omega, Lib.hid (HI2.out _ (Below.refl _ _))⟩
      · have hun := unseen_new seen z hzs ps
        have HNEW := Lib.hid (hI.out.law.new hzs)
        have HI := hI
        clear hown h2 h3 htl hv hbl hrun hrz hlz hI
        go_wp2_with (at_lookup; refine wpList_lookup_own_int _ rfl _ _ 132 rfl 3 3 .i64 keyedI Tryz.underlying132 Tryz.underlying3 (zeroI _) w1.heap.size seen.length D rfl HO.out _ _ rfl HKEY.out ?_; intro c hat _; refine Hid.out ?_)
        refine Lib.hid ?_
        obtain rfl : c = 0 := by
          rw [H2.out, if_neg hzs] at hat
          injection hat with hat
          injection hat with _ hat
          exact hat.symm
        have hwf1 : (Lit.int .i64 1).wf = true := by decide
        have HWF1 := Lib.hid (plainElem_int (H := Unit) Tryz.underlying3 hwf1)
        clear hat hwf1
        go_wp2_with (at_mapUpdate; refine wpList_mapUpdate_own _ rfl _ _ _ 132 rfl 3 3 keyedI Tryz.underlying132 (plainElem Tryz.prog 3) w1.heap.size seen.length D rfl HO.out (by unfold maxLen; omega) _ _ _ rfl rfl HKEY.out _ _ HWF1.out ?_; intro w7 hm7 hg7; refine Hid.out ?_)
        refine Lib.hid ?_
        have HM7 := Lib.hid (SMap.put (HO.out.tidy keyedI).isMap H2.out H3.out hm7)
        have HB7 := Lib.hid (HI.out.below.grown hg7 HI.out.below.size (fun q hq => by cases hq; exact Nat.le_refl _))
        have hr7 := HTL.out.block (w' := w7) (fun k hk hl => hg7.block k hl (by intro e; injection e with e; omega))
        obtain ⟨rz, hrun, hrz, hlz⟩ := look_groups (HG1.out w7 HB7.out) (by omega) hzw
        have hs7 := HB7.out.size
        obtain ⟨v8, w8, hap, hr8, hg8, hlow⟩ := WRow.append hr7 hrz (by have := hg7.size; have := SMap.lt HM7.out; omega) (by omega)
        have HI8 : Hid (ReI ps id w1 (seen ++ [z]) (rest ++ nextF ps z) v8 w8) := Lib.hid ⟨HB7.out.grown hg8 hs7 (fun q hq => by have := hlow q hq; omega), SMap.block HM7.out (hg8.block _ (SMap.lt HM7.out) (by intro e; have := hlow _ e.symm; omega)), hr8, HNEW.out⟩
        have hlen : (rest ++ nextF ps z).length + unseen ps (seen ++ [z]) ≤ rest.length + unseen ps seen := by rw [List.length_append]; omega
        obtain ⟨ro', rc', hro'⟩ := own_shape hrz
        subst hro'
        have HAP := Lib.hid hap
        clear hm7 hg7 hr7 hrz hlz hr8 hg8 hlow hzs hun hap
        go_wp2_with (at_builtin; refine wpList_append_eq rfl _ _ _ rfl rfl rfl HAP.out ?_; refine Hid.out ?_)
        refine Lib.hid ?_
        go_wp2_with fail
        go_roundg (rest.length + unseen ps seen)
        case measure => omega
        case rel => exact ⟨seen ++ [z], rest ++ nextF ps z, hlen, Nat.le_trans hlen (by omega), HI8⟩
end Go.Proofs.YtjbnjlkoipkpoaaGreatDoor.T
