/- An index in memory, with what it has been told of. -/
import Derived.Test.YtklbbcemacpimaaGreatDoorIAdd
namespace Go.Proofs.YtklbbcemacpimaaGreatDoor.I
open Go Go.Maps Go.Proofs Go.RowKit

/-- Fields lie in blocks that are own. -/
def FldsIn (own : Nat → Prop) (w : World) (v : Value) (fs : List Fld) : Prop :=
  FldsAt w v fs ∧ (fs ≠ [] → ∃ g o n c, v = .slice (some ⟨g, o, none⟩) n c ∧ own g)
theorem FldsAt.keep {w w' : World} {g o n c : Nat} {fs : List Fld} (h : FldsAt w (.slice (some ⟨g, o, none⟩) n c) fs) (hb : w'.heap[g]? = w.heap[g]?) : FldsAt w' (.slice (some ⟨g, o, none⟩) n c) fs := by
  obtain ⟨ao, cp, h1, h2, h3⟩ := h
  injection h1 with e1 e2 e3
  subst e1
  refine ⟨_, cp, by rw [e2, e3], h2, fun k f hk => ?_⟩
  obtain ⟨g', o', e, c1, c2⟩ := h3 k f hk
  injection e with e
  injection e with e4 e5 e6
  subst e4; subst e5
  exact ⟨_, _, rfl, by rw [← c1]; simp [World.cell?, hb], by rw [← c2]; simp [World.cell?, hb]⟩
theorem FldsAt.nil {w : World} {ao : Option Addr} {cp : Nat} : FldsAt w (.slice ao 0 cp) [] := ⟨ao, cp, rfl, by simp, fun k f hk => by simp at hk⟩
theorem FldsIn.keep {own : Nat → Prop} {w w' : World} {v : Value} {fs : List Fld} (h : FldsIn own w v fs) (hb : ∀ b, own b → w'.heap[b]? = w.heap[b]?) : FldsIn own w' v fs := by
  refine ⟨?_, h.2⟩
  by_cases h0 : fs = []
  · subst h0
    obtain ⟨⟨ao, cp, h1, h2, _⟩, _⟩ := h
    exact ⟨ao, cp, h1, h2, fun k f hk => by simp at hk⟩
  · obtain ⟨g, o, n, c, rfl, hg⟩ := h.2 h0
    exact h.1.keep (hb g hg)
theorem FldsIn.wide {own own' : Nat → Prop} {w : World} {v : Value} {fs : List Fld} (h : FldsIn own w v fs) (hb : ∀ b, own b → own' b) : FldsIn own' w v fs :=
  ⟨h.1, fun h0 => let ⟨g, o, n, c, e, hg⟩ := h.2 h0; ⟨g, o, n, c, e, hb _ hg⟩⟩
/-- What a stanza's fields are held to. -/
structure Fine (s : Int × List Fld) : Prop where
  id : (Lit.int .i64 s.1).wf = true
  few : s.2.length ≤ 1000
  small : ∀ f ∈ s.2, f.key.length ≤ maxLen ∧ f.val.length ≤ maxLen
abbrev SMap (w : World) (b n : Nat) (f : Int → Option (Option (Nat × Nat × Nat))) : Prop := MF Tryz.prog 3 slEl mkN w b n f
/-- An index in memory: what it is made of. -/
structure XIn (own : Nat → Prop) (w : World) (xb kb sb n : Nat) (vb : Vb) (cb : Cb) (cf : Cf) (sf : Int → Option (Option (Nat × Nat × Nat))) (m : Ms) : Prop where
  hx : w.heap[xb]? = some (.cells #[.map (some kb), .map (some sb)] 75 (0, 0))
  ix : Ix tys w 0 kb vb cb cf n
  lv : Live vb cb cf (cM m)
  st : SMap w sb n sf
  no : ∀ i, sf i = none → ∀ s ∈ m, s.1 ≠ i
  yes : ∀ i e, sf i = some e → ∃ fs, (i, fs) ∈ m ∧ FldsIn own w (slEl.enc e) fs
  ox : own xb
  os : own sb
  oi : ∀ b, Own kb vb cb b → own b
  apart : ¬ Own kb vb cb sb
  low : ∀ b, own b → b < w.heap.size
  rise : Rising m
  fine : ∀ s ∈ m, Fine s
def XAt (own : Nat → Prop) (w : World) (xb n : Nat) (m : Ms) : Prop := ∃ kb sb vb cb cf sf, XIn own w xb kb sb n vb cb cf sf m
section
variable {own own' : Nat → Prop} {w w' : World} {xb kb sb n : Nat} {vb : Vb} {cb : Cb} {cf : Cf} {sf : Int → Option (Option (Nat × Nat × Nat))} {m : Ms}
theorem XIn.keep (h : XIn own w xb kb sb n vb cb cf sf m) (hb : ∀ b, own b → w'.heap[b]? = w.heap[b]?) (hs : w.heap.size ≤ w'.heap.size) : XIn own w' xb kb sb n vb cb cf sf m where
  hx := (hb _ h.ox).trans h.hx
  ix := h.ix.keep fun b _ ho => hb b (h.oi b ho)
  lv := h.lv
  st := h.st.block (hb _ h.os)
  no := h.no
  yes := fun i e hi => let ⟨fs, h1, h2⟩ := h.yes i e hi; ⟨fs, h1, h2.keep hb⟩
  ox := h.ox
  os := h.os
  oi := h.oi
  apart := h.apart
  low := fun b hb' => Nat.lt_of_lt_of_le (h.low b hb') hs
  rise := h.rise
  fine := h.fine
theorem XAt.keep (h : XAt own w xb n m) (hb : ∀ b, own b → w'.heap[b]? = w.heap[b]?) (hs : w.heap.size ≤ w'.heap.size) : XAt own w' xb n m :=
  let ⟨kb, sb, vb, cb, cf, sf, h⟩ := h
  ⟨kb, sb, vb, cb, cf, sf, h.keep hb hs⟩
theorem XAt.low (h : XAt own w xb n m) (b : Nat) (hb : own b) : b < w.heap.size := let ⟨_, _, _, _, _, _, h⟩ := h; XIn.low h b hb
theorem XAt.below (h : XAt own w xb n m) (hb : Below w.heap.size w w') : XAt own w' xb n m := h.keep (fun b ho => hb.block b (h.low b ho)) hb.size
theorem XIn.more (h : XIn own w xb kb sb n vb cb cf sf m) {n' : Nat} (hn : n ≤ n') : XIn own w xb kb sb n' vb cb cf sf m :=
  { h with ix := h.ix.more hn, st := h.st.more hn }
theorem XAt.more (h : XAt own w xb n m) {n' : Nat} (hn : n ≤ n') : XAt own w xb n' m :=
  let ⟨kb, sb, vb, cb, cf, sf, h⟩ := h
  ⟨kb, sb, vb, cb, cf, sf, h.more hn⟩
end
/-- What a method leaves that turns an index. -/
def XPost (own : Nat → Prop) (xb n : Nat) (m : Ms) (w w' : World) : Prop :=
  ∃ own', XAt own' w' xb n m ∧ Upd own w w' ∧ (∀ b, own' b → own b ∨ w.heap.size ≤ b) ∧ Kept w w'
theorem XPost.trans {own own1 : Nat → Prop} {xb n : Nat} {m : Ms} {w w1 w2 : World} (hU : Upd own w w1) (ho : ∀ b, own1 b → own b ∨ w.heap.size ≤ b) (hk : Kept w w1) (h : XPost own1 xb n m w1 w2) : XPost own xb n m w w2 := by
  obtain ⟨own2, h1, h2, h3, h4⟩ := h
  refine ⟨own2, h1, ((hU.wide (own' := fun b => own b ∨ w.heap.size ≤ b) fun _ h => .inl h).trans (h2.wide ho)).narrow, fun b hb => ?_, hk.trans h4⟩
  rcases h3 b hb with h | h
  · exact ho b h
  · right; have := hU.size; omega
/-- The index of no stanza. -/
theorem live_none : Live (fun _ => none) (fun _ _ => none) (fun _ _ _ => none) (cM []) where
  cf := fun k v i => by simp [cM, nz]
  cb := fun k v => by simp [cM]
  vb := fun k => by simp [cM]
theorem ix_none {w : World} {N kb n : Nat} (hk : KMap tys w kb n (fun _ => none)) (hN : N ≤ kb) : Ix tys w N kb (fun _ => none) (fun _ _ => none) (fun _ _ _ => none) n where
  keys := hk
  vals := fun _ _ e => by cases e
  cnts := fun _ _ _ e => by cases e
  kN := hN
  vN := fun _ _ e => by cases e
  cN := fun _ _ _ e => by cases e
  vinj := fun _ _ _ e => by cases e
  cinj := fun _ _ _ _ _ e => by cases e
  apart := fun _ _ _ _ e => by cases e
  up := fun _ _ _ e => by cases e
set_option maxRecDepth 100000 in
set_option maxHeartbeats 1600000 in
theorem new_any (w : World) : Calls Tryz.prog 25 #[] w fun e w' => ∃ xb own, e = .returned (.pointer (some ⟨xb, 0, none⟩)) ∧ XAt own w' xb 0 [] ∧ Below w.heap.size w w' ∧ ∀ b, own b → w.heap.size ≤ b := by
  obtain ⟨w1, hw1⟩ : ∃ w1, w.alloc (.map #[] 0) = w1 := ⟨_, rfl⟩
  obtain ⟨w2, hw2⟩ : ∃ w2, w1.alloc (.map #[] 0) = w2 := ⟨_, rfl⟩
  have lm1 : (Instr.makeMap 72 none).run Tryz.prog w = .ok (.map (some w.heap.size)) w1 := by rw [← hw1]; rfl
  have lm2 : (Instr.makeMap 73 none).run Tryz.prog w1 = .ok (.map (some w1.heap.size)) w2 := by rw [← hw2]; rfl
  have hs1 : w1.heap.size = w.heap.size + 1 := by rw [← hw1]; simp
  have hs2 : w2.heap.size = w.heap.size + 2 := by rw [← hw2]; simp [hs1]
  obtain ⟨w3, hw3⟩ : ∃ w3, w2.alloc (.cells #[.map (some w.heap.size), .map (some w1.heap.size)] 75) = w3 := ⟨_, rfl⟩
  have hs3 : w3.heap.size = w.heap.size + 3 := by rw [← hw3]; simp [hs2]
  have hb3 : Below w.heap.size w w3 := by
    rw [← hw3, ← hw2, ← hw1]
    exact (((Below.refl _ _).alloc (Nat.le_refl _) _).alloc (by simp) _).alloc (by simp; omega) _
  have e0 : w3.heap[w.heap.size]? = (w.alloc (.map #[] 0)).heap[w.heap.size]? := by
    rw [← hw3, Below.heap_alloc _ _ _ (by omega), ← hw2, Below.heap_alloc _ _ _ (by omega), ← hw1]
  have e1 : w3.heap[w1.heap.size]? = (w1.alloc (.map #[] 0)).heap[w1.heap.size]? := by
    rw [← hw3, Below.heap_alloc _ _ _ (by omega), ← hw2]
  have e2 : w3.heap[w2.heap.size]? = some (.cells #[.map (some w.heap.size), .map (some w1.heap.size)] 75 (0, 0)) := by rw [← hw3]; exact heap_alloc_new w2 _
  have hX : Hid (XAt (fun b => w.heap.size ≤ b ∧ b < w3.heap.size) w3 w2.heap.size 0 []) := Lib.hid ⟨w.heap.size, w1.heap.size, _, _, _, fun _ => none, {
    hx := e2
    ix := ix_none ((MF.made Tryz.prog tys.ts ptrEl mkS w).block e0) (Nat.zero_le _)
    lv := live_none
    st := (MF.made Tryz.prog 3 slEl mkN w1).block e1
    no := fun i _ s hs => by cases hs
    yes := fun i e hi => by cases hi
    ox := ⟨by omega, by omega⟩
    os := ⟨by omega, by omega⟩
    oi := fun b hb => by
      rcases hb with rfl | ⟨_, e⟩ | ⟨_, _, e⟩
      · exact ⟨by omega, by omega⟩
      · cases e
      · cases e
    apart := fun hb => by
      rcases hb with h | ⟨_, e⟩ | ⟨_, _, e⟩
      · omega
      · cases e
      · cases e
    low := fun b hb => hb.2
    rise := List.Pairwise.nil
    fine := fun s hs => by cases hs }⟩
  have HB := Lib.hid hb3
  have HW3 := Lib.hid hw3
  clear e0 e1 e2 hb3 hw1 hw2 hw3 hs1 hs2 hs3
  go_enter Tryz.func25, Tryz.ntmps25
  go_wp2_with fail
  go_ret
  rw [HW3.out]
  exact ⟨_, _, rfl, hX.out, HB.out, fun b hb => hb.1⟩
end Go.Proofs.YtklbbcemacpimaaGreatDoor.I
