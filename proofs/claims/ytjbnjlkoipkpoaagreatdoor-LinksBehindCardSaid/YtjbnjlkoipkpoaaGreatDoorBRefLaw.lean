/- Parsing, by groups: a Pair line and the More lines right behind it are taken at once. The parser of the plain law comes to the same. No program is named here. The reference's way of parsing, line by line with a look ahead, comes to the groups' way. No program is named here. -/
import Derived.Test.YtjbnjlkoipkpoaaGreatDoorBLaw
namespace Go.Proofs.YtjbnjlkoipkpoaaGreatDoor.B
open Go.RowKit

/-- What is under way between two groups. -/
structure Gs where
  items : List It
  block : List (List UInt8)
  fields : List Fd
  records : Nat
def Gs.zero : Gs := ⟨[], [], [], 0⟩
def Gs.item (g : Gs) : It := ⟨if g.fields = [] then 2 else 3, Lib.join g.block [10] ++ [10], g.fields⟩
def Gs.ended (g : Gs) : Gs := if g.block = [] then ⟨g.items, [], [], g.records⟩ else ⟨g.items ++ [g.item], [], [], if g.fields = [] then g.records else g.records + 1⟩
def Gs.full (g : Gs) : Bool := decide (g.fields.length = 40) || (decide (g.fields.length = 0) && decide (g.records = 400))
def Gs.blank (g : Gs) (l : LineD) : Gs := { g with items := g.items ++ [⟨1, l.text ++ [10], []⟩] }
def Gs.kept (g : Gs) (ls : List (List UInt8)) : Gs := { g with block := g.block ++ ls }
def Gs.field (g : Gs) (ls : List (List UInt8)) : Gs := { g with block := g.block ++ ls, fields := g.fields ++ [unfoldF ls] }
/-- The More lines at the beginning. -/
def mores (r : List LineD) : List LineD := r.takeWhile fun l => kindOf l.text == 3
def others (r : List LineD) : List LineD := r.dropWhile fun l => kindOf l.text == 3
theorem mores_others (r : List LineD) : mores r ++ others r = r := List.takeWhile_append_dropWhile
theorem others_le (r : List LineD) : (others r).length ≤ r.length := by
  have := congrArg List.length (mores_others r)
  rw [List.length_append] at this; omega
theorem mores_kind {r : List LineD} : ∀ m ∈ mores r, kindOf m.text = 3 := by
  intro m hm
  have := List.all_takeWhile (p := fun l : LineD => kindOf l.text == 3) (l := r)
  have h2 := List.all_eq_true.1 this m hm
  simpa using h2
theorem others_kind {r t : List LineD} {y : LineD} (h : others r = y :: t) : kindOf y.text ≠ 3 := by
  unfold others at h
  intro e
  have h1 : (r.dropWhile fun l => kindOf l.text == 3).head? = some y := by rw [h]; rfl
  induction r with
  | nil => simp at h
  | cons a b ih =>
    rw [List.dropWhile_cons] at h h1
    split at h
    · rename_i h2
      rw [if_pos h2] at h1
      exact ih h h1
    · rename_i h2
      injection h with h3 h4
      subst h3
      exact h2 (by simpa using e)
/-- All lines, from a state between two groups; none: something is wrong. -/
def gpar : Nat → Gs → List LineD → Option Gs
  | _, g, [] => some g
  | 0, _, _ :: _ => none
  | f + 1, g, x :: r =>
    if kindOf x.text = 5 ∨ kindOf x.text = 3 ∨ x.ended = false then none
    else if kindOf x.text = 1 then gpar f (g.ended.blank x) r
    else if kindOf x.text = 4 then
      (if (mores r).any (fun m => !m.ended) = true ∨ unfoldN (x.text :: (mores r).map (·.text)) ≠ 0 ∨ g.full = true then none
      else gpar f (g.field (x.text :: (mores r).map (·.text))) (others r))
    else gpar f (g.kept [x.text]) r
/-- How a parse ends. -/
def pend (r : Res) : Option (List It) := if r.err ≠ 0 then none else if r.st.fin.err ≠ 0 then none else some r.st.fin.st.items
def toGs (p : Ps) : Gs := ⟨p.items, p.block, p.fields, p.records⟩
theorem pend_err {r : Res} (h : r.err ≠ 0) : pend r = none := if_pos h
theorem parse_pend (t : List UInt8) : (if (parse t).err = 0 then some (parse t).st.items else none) = pend (parseFrom Ps.zero (splitL t)) := by
  unfold parse pend
  by_cases h : (parseFrom Ps.zero (splitL t)).err = 0
  · by_cases h2 : (parseFrom Ps.zero (splitL t)).st.fin.err = 0
    · simp [h, h2]
    · simp [h, h2]
  · simp [h]
theorem parseFrom_cons (p : Ps) (l : LineD) (r : List LineD) : parseFrom p (l :: r) = if (p.take l).err ≠ 0 then p.take l else parseFrom (p.take l).st r := rfl
theorem flush_nil {p : Ps} (h : p.lines = []) : p.flush = ⟨0, 0, p⟩ := if_pos h
/-- The More lines of a field are taken one by one; none of them unended: they are all kept. -/
def Ps.mored (p : Ps) (ms : List LineD) : Ps := { p with lines := p.lines ++ ms.map (·.text), block := p.block ++ ms.map (·.text) }
theorem mored_nil (p : Ps) : p.mored [] = p := by simp [Ps.mored]
theorem more_step {p : Ps} (hl : p.lines ≠ []) {m : LineD} (hk : kindOf m.text = 3) (he : m.ended = true) : p.take m = ⟨0, 0, p.mored [m]⟩ := by
  unfold Ps.take Ps.aheadOf
  rw [hk]
  simp only [if_true, hl, if_false, he, ne_eq, not_true_eq_false]
  unfold Ps.taken
  simp only [he]
  rfl
theorem more_bad {p : Ps} {m : LineD} (he : m.ended = false) : (p.take m).err ≠ 0 := by
  unfold Ps.take
  split
  · rename_i h; exact h
  · unfold Ps.taken
    rw [if_pos (.inr he)]
    simp
theorem mored_cons (p : Ps) (m : LineD) (ms : List LineD) : (p.mored [m]).mored ms = p.mored (m :: ms) := by simp [Ps.mored]
theorem mored_lines {p : Ps} (hl : p.lines ≠ []) (ms : List LineD) : (p.mored ms).lines ≠ [] := by
  intro h
  have : p.lines ++ ms.map (·.text) = [] := h
  exact hl (List.append_eq_nil_iff.1 this).1
theorem mores_run : ∀ (ms : List LineD) (p : Ps) (r : List LineD), p.lines ≠ [] → (∀ m ∈ ms, kindOf m.text = 3) → pend (parseFrom p (ms ++ r)) = if ms.any (fun m => !m.ended) = true then none else pend (parseFrom (p.mored ms) r)
  | [], p, r, _, _ => by rw [mored_nil]; rfl
  | m :: ms, p, r, hl, hk => by
    have hk1 := hk m (by simp)
    rw [List.cons_append, parseFrom_cons]
    cases he : m.ended with
    | false =>
      rw [if_pos (more_bad he), pend_err (more_bad he)]
      simp [he]
    | true =>
      rw [more_step hl hk1 he]
      have := mores_run ms (p.mored [m]) r (mored_lines hl _) fun x hx => hk x (by simp [hx])
      simp only [ne_eq, not_true_eq_false, if_false]
      rw [this, mored_cons]
      simp [he]
/-- What stands behind a field flushes it first. -/
theorem flush_first {q : Ps} (hf : q.flush.err = 0) : ∀ (r : List LineD), (∀ y t, r = y :: t → kindOf y.text ≠ 3) → pend (parseFrom q r) = pend (parseFrom q.flush.st r)
  | [], _ => by
    have h1 := flush_nil (flush_lines hf)
    show pend ⟨0, 0, q⟩ = pend ⟨0, 0, q.flush.st⟩
    unfold pend
    have e : q.fin = q.flush.st.fin := by
      unfold Ps.fin
      rw [h1, if_neg (by rw [hf]; simp), if_neg (by simp)]
    simp only [e]
  | y :: t, hy => by
    have hk := hy y t rfl
    have h1 := flush_nil (flush_lines hf)
    have e : q.take y = q.flush.st.take y := by
      by_cases h5 : kindOf y.text = 1
      · have ha : q.aheadOf y (kindOf y.text) = ⟨0, 0, q.flush.st.ended⟩ := by
          unfold Ps.aheadOf
          rw [if_neg hk, if_pos h5]
          unfold Ps.fin
          rw [if_neg (by rw [hf]; simp)]
        have hb : q.flush.st.aheadOf y (kindOf y.text) = ⟨0, 0, q.flush.st.ended⟩ := by
          unfold Ps.aheadOf
          rw [if_neg hk, if_pos h5]
          unfold Ps.fin
          rw [h1, if_neg (by simp)]
        unfold Ps.take
        rw [ha, hb]
      · have ha : q.aheadOf y (kindOf y.text) = q.flush := by
          unfold Ps.aheadOf
          rw [if_neg hk, if_neg h5]
        have hb : q.flush.st.aheadOf y (kindOf y.text) = ⟨0, 0, q.flush.st⟩ := by
          unfold Ps.aheadOf
          rw [if_neg hk, if_neg h5, h1]
        unfold Ps.take
        rw [ha, hb, if_neg (by rw [hf]; simp), if_neg (by simp)]
    rw [parseFrom_cons, parseFrom_cons, e]
theorem flush_bad {q : Ps} (hf : q.flush.err ≠ 0) : ∀ (r : List LineD), (∀ y t, r = y :: t → kindOf y.text ≠ 3) → pend (parseFrom q r) = none
  | [], _ => by
    show pend ⟨0, 0, q⟩ = none
    unfold pend
    have e : q.fin.err ≠ 0 := by unfold Ps.fin; rw [if_pos hf]; exact hf
    simp only [ne_eq, not_true_eq_false, if_false]
    rw [if_pos e]
  | y :: t, hy => by
    have hk := hy y t rfl
    have e : (q.take y).err ≠ 0 := by
      have e1 : (q.aheadOf y (kindOf y.text)).err ≠ 0 := by
        unfold Ps.aheadOf
        simp only [hk, if_false]
        by_cases h5 : kindOf y.text = 1
        · simp only [h5, if_true]
          unfold Ps.fin; rw [if_pos hf]; exact hf
        · simp only [h5, if_false]; exact hf
      unfold Ps.take
      rw [if_pos e1]; exact e1
    rw [parseFrom_cons, if_pos e, pend_err e]
theorem toGs_ended {p : Ps} : toGs p.ended = (toGs p).ended := by
  unfold Ps.ended Gs.ended toGs
  by_cases h : p.block = []
  · simp [h]
  · simp only [h, if_false]
    rfl
theorem pend_nil {p : Ps} (hl : p.lines = []) : pend ⟨0, 0, p⟩ = some (toGs p).ended.items := by
  unfold pend Ps.fin
  rw [flush_nil hl]
  simp only [ne_eq, not_true_eq_false, if_false]
  rw [← toGs_ended]; rfl
theorem ended_lines {p : Ps} (h : p.lines = []) : p.ended.lines = [] := by
  unfold Ps.ended
  split <;> exact h
/-- The parser comes to what the groups come to. -/
theorem pend_group : ∀ (f : Nat) (p : Ps) (ls : List LineD), p.lines = [] → ls.length ≤ f → pend (parseFrom p ls) = (gpar f (toGs p) ls).map fun g => g.ended.items
  | f, p, [], hl, _ => by
    have e : gpar f (toGs p) [] = some (toGs p) := by cases f <;> rfl
    rw [e]
    exact pend_nil hl
  | 0, p, x :: r, _, h => by simp at h
  | f + 1, p, x :: r, hl, hf => by
    have hf' : r.length ≤ f := by simpa using hf
    have hfl := flush_nil hl
    rw [parseFrom_cons]
    unfold gpar
    by_cases h3 : kindOf x.text = 3
    · have e : (p.take x).err ≠ 0 := by
        unfold Ps.take Ps.aheadOf
        simp [h3, hl]
      rw [if_pos e, pend_err e, if_pos (.inr (.inl h3))]; rfl
    · -- what is ahead of the line makes no fault
      have ha : p.aheadOf x (kindOf x.text) = ⟨0, 0, if kindOf x.text = 1 then p.ended else p⟩ := by
        unfold Ps.aheadOf
        simp only [h3, if_false]
        by_cases h1 : kindOf x.text = 1
        · simp only [h1, if_true]
          unfold Ps.fin
          rw [hfl]; simp
        · simp only [h1, if_false]; exact hfl
      have ht : p.take x = (if kindOf x.text = 1 then p.ended else p).taken x (kindOf x.text) := by
        unfold Ps.take
        rw [ha]; simp
      rw [ht]
      by_cases hbad : kindOf x.text = 5 ∨ x.ended = false
      · have e : ((if kindOf x.text = 1 then p.ended else p).taken x (kindOf x.text)).err ≠ 0 := by unfold Ps.taken; rw [if_pos hbad]; simp
        rw [if_pos e, pend_err e, if_pos (by rcases hbad with h | h; exact .inl h; exact .inr (.inr h))]; rfl
      · have hg : ¬ (kindOf x.text = 5 ∨ kindOf x.text = 3 ∨ x.ended = false) := by
          rintro (h | h | h)
          · exact hbad (.inl h)
          · exact h3 h
          · exact hbad (.inr h)
        rw [if_neg hg]
        by_cases h1 : kindOf x.text = 1
        · have e : (if kindOf x.text = 1 then p.ended else p).taken x (kindOf x.text) = ⟨0, 0, p.ended.blank x⟩ := by
            rw [if_pos h1]; unfold Ps.taken; rw [if_neg hbad, if_pos h1]
          rw [e, if_pos h1]
          simp only [ne_eq, not_true_eq_false, if_false]
          rw [pend_group f (p.ended.blank x) r (ended_lines hl) hf']
          have e2 : toGs (p.ended.blank x) = (toGs p).ended.blank x := by rw [← toGs_ended]; rfl
          rw [e2]
        · by_cases h4 : kindOf x.text = 4
          · have e : (if kindOf x.text = 1 then p.ended else p).taken x (kindOf x.text) = ⟨0, 0, (p.begun x).kept x⟩ := by
              rw [if_neg h1]; unfold Ps.taken; rw [if_neg hbad, if_neg h1, if_pos h4]
            rw [e, if_neg h1, if_pos h4]
            simp only [ne_eq, not_true_eq_false, if_false]
            have hl2 : ((p.begun x).kept x).lines ≠ [] := by simp [Ps.kept, Ps.begun]
            have hr : pend (parseFrom ((p.begun x).kept x) r) = if (mores r).any (fun m => !m.ended) = true then none else pend (parseFrom (((p.begun x).kept x).mored (mores r)) (others r)) := by
              have h := mores_run (mores r) ((p.begun x).kept x) (others r) hl2 mores_kind
              rw [mores_others] at h; exact h
            rw [hr]
            by_cases ha : (mores r).any (fun m => !m.ended) = true
            · rw [if_pos ha, if_pos (.inl ha)]; rfl
            · rw [if_neg ha]
              obtain ⟨q, hq⟩ : ∃ q, ((p.begun x).kept x).mored (mores r) = q := ⟨_, rfl⟩
              rw [hq]
              have hql : q.lines = x.text :: (mores r).map (·.text) := by rw [← hq]; rfl
              have hqf : q.full = (toGs p).full := by rw [← hq]; rfl
              have hne : q.lines ≠ [] := by rw [hql]; simp
              have hok := fun y t (h : others r = y :: t) => others_kind h
              have hfl2 : q.flush = if unfoldN q.lines ≠ 0 then ⟨unfoldN q.lines, q.from_, q⟩ else if q.full = true then ⟨11, q.from_, q⟩ else ⟨0, 0, q.flushed⟩ := by unfold Ps.flush; rw [if_neg hne]
              by_cases hb : unfoldN (x.text :: (mores r).map (·.text)) ≠ 0 ∨ (toGs p).full = true
              · rw [if_pos (by rcases hb with h | h; exact .inr (.inl h); exact .inr (.inr h))]
                refine flush_bad ?_ _ hok
                rw [hfl2]
                rcases hb with h | h
                · rw [hql, if_pos h]; exact h
                · by_cases h5 : unfoldN q.lines ≠ 0
                  · rw [if_pos h5]; exact h5
                  · rw [if_neg h5, hqf, if_pos h]; simp
              · rw [if_neg (by rintro (h | h | h); exact ha h; exact hb (.inl h); exact hb (.inr h))]
                have h5 : ¬ unfoldN q.lines ≠ 0 := by rw [hql]; exact fun h => hb (.inl h)
                have h6 : ¬ q.full = true := by rw [hqf]; exact fun h => hb (.inr h)
                rw [if_neg h5, if_neg h6] at hfl2
                rw [flush_first (by rw [hfl2]) _ hok, hfl2]
                rw [pend_group f q.flushed (others r) rfl (Nat.le_trans (others_le r) hf')]
                have e2 : toGs q.flushed = (toGs p).field (x.text :: (mores r).map (·.text)) := by
                  rw [← hql]
                  unfold toGs Gs.field Ps.flushed
                  rw [hql, ← hq]
                  simp [Ps.mored, Ps.kept, Ps.begun]
                rw [e2]
          · have e : (if kindOf x.text = 1 then p.ended else p).taken x (kindOf x.text) = ⟨0, 0, p.kept x⟩ := by
              rw [if_neg h1]; unfold Ps.taken; rw [if_neg hbad, if_neg h1, if_neg h4]
            rw [e, if_neg h1, if_neg h4]
            simp only [ne_eq, not_true_eq_false, if_false]
            rw [pend_group f (p.kept x) r hl hf']; rfl
end Go.Proofs.YtjbnjlkoipkpoaaGreatDoor.B

namespace Go.Proofs.YtjbnjlkoipkpoaaGreatDoor.B
open Go.RowKit

/-- What the reference has under way. -/
structure Rs where
  out : List It
  raw : List UInt8
  fields : List Fd
  records : Nat
def Rs.zero : Rs := ⟨[], [], [], 0⟩
def Rs.now (s : Rs) : It := ⟨if s.fields = [] then 2 else 3, s.raw, s.fields⟩
def Rs.fin (s : Rs) : List It := if s.raw = [] then s.out else s.out ++ [s.now]
def Rs.blank (s : Rs) (x : LineD) : Rs := ⟨s.fin ++ [⟨1, x.text ++ [10], []⟩], [], [], s.records⟩
def Rs.line (s : Rs) (x : LineD) : Rs := { s with raw := s.raw ++ (x.text ++ [10]) }
def Rs.field (s : Rs) (x : LineD) (ls : List (List UInt8)) : Rs := ⟨s.out, s.raw ++ (x.text ++ [10]), s.fields ++ [unfoldF ls], if s.fields = [] then s.records + 1 else s.records⟩
/-- What is wrong at a line. -/
def wrongN (b : Bool) (s : Rs) (x : LineD) (r : List LineD) : Nat :=
  if kindOf x.text = 5 ∨ (kindOf x.text = 3 ∧ b = false) ∨ x.ended = false then 2
  else if kindOf x.text ≠ 4 then 0
  else if unfoldN (x.text :: (mores r).map (·.text)) ≠ 0 then unfoldN (x.text :: (mores r).map (·.text))
  else if 40 ≤ s.fields.length ∨ (s.fields.length = 0 ∧ 400 ≤ s.records) then 11 else 0
def Rs.step (s : Rs) (x : LineD) (r : List LineD) : Rs :=
  if kindOf x.text = 1 then s.blank x else if kindOf x.text = 4 then s.field x (x.text :: (mores r).map (·.text)) else s.line x
def isPart (k : Nat) : Bool := k == 4 || k == 3
def rpar : Bool → Rs → List LineD → Option Rs
  | _, s, [] => some s
  | b, s, x :: r => if wrongN b s x r ≠ 0 then none else rpar (isPart (kindOf x.text)) (s.step x r) r
theorem rpar_cons (b : Bool) (s : Rs) (x : LineD) (r : List LineD) : rpar b s (x :: r) = if wrongN b s x r ≠ 0 then none else rpar (isPart (kindOf x.text)) (s.step x r) r := rfl
/-! ### The same as the groups' -/
def rawOf (b : List (List UInt8)) : List UInt8 := b.flatMap (· ++ [10])
theorem rawOf_app (a b : List (List UInt8)) : rawOf (a ++ b) = rawOf a ++ rawOf b := by simp [rawOf]
theorem rawOf_one (a : List UInt8) : rawOf [a] = a ++ [10] := by simp [rawOf]
theorem rawOf_nil {b : List (List UInt8)} (h : rawOf b = []) : b = [] := by
  cases b with
  | nil => rfl
  | cons x t => simp [rawOf] at h
theorem rawOf_join : ∀ {b : List (List UInt8)}, b ≠ [] → Lib.join b [10] ++ [10] = rawOf b
  | [], h => absurd rfl h
  | x :: t, _ => by
    rw [Lib.join_cons]
    have : ∀ t : List (List UInt8), ∀ x : List UInt8, x ++ Lib.joinTail [10] t ++ [10] = rawOf (x :: t) := by
      intro t
      induction t with
      | nil => intro x; simp [Lib.joinTail, rawOf]
      | cons y t ih =>
        intro x
        have h1 := ih y
        simp only [Lib.joinTail, List.map_cons, List.flatten_cons, rawOf, List.flatMap_cons] at h1 ⊢
        rw [← h1]
        simp [List.append_assoc]
    exact this t x
def ofGs (g : Gs) : Rs := ⟨g.items, rawOf g.block, g.fields, if g.fields = [] then g.records else g.records + 1⟩
structure Gs.Inv (g : Gs) : Prop where
  f40 : g.fields.length ≤ 40
  r400 : g.records ≤ 400
  rf : g.fields ≠ [] → g.records < 400
  bf : g.fields ≠ [] → g.block ≠ []
theorem Gs.zero_inv : Gs.zero.Inv := ⟨by simp [Gs.zero], by simp [Gs.zero], fun h => absurd rfl h, fun h => absurd rfl h⟩
theorem fin_of (g : Gs) : (ofGs g).fin = g.ended.items := by
  unfold Rs.fin Gs.ended
  by_cases h : g.block = []
  · rw [if_pos h, if_pos (by show rawOf g.block = []; rw [h]; rfl)]; rfl
  · rw [if_neg h, if_neg (show ¬ (ofGs g).raw = [] from fun e => h (rawOf_nil e))]
    show g.items ++ [_] = g.items ++ [_]
    unfold Rs.now Gs.item ofGs
    simp only [rawOf_join h]
theorem Gs.Inv.ended {g : Gs} (h : g.Inv) (x : LineD) : (g.ended.blank x).Inv ∧ ofGs (g.ended.blank x) = (ofGs g).blank x := by
  constructor
  · unfold Gs.ended
    split
    · exact ⟨by simp [Gs.blank], h.r400, fun e => absurd rfl e, fun e => absurd rfl e⟩
    · refine ⟨by simp [Gs.blank], ?_, fun e => absurd rfl e, fun e => absurd rfl e⟩
      show (if g.fields = [] then g.records else g.records + 1) ≤ 400
      split
      · exact h.r400
      · rename_i e; exact h.rf e
  · have h1 := fin_of g
    unfold Rs.blank
    rw [h1]
    unfold Gs.ended ofGs Gs.blank
    by_cases hb : g.block = []
    · have hf : g.fields = [] := Classical.byContradiction fun e => h.bf e hb
      simp [hb, hf, rawOf]
    · simp only [hb, if_false]
      simp [rawOf]
theorem wrong_full {g : Gs} (h : g.Inv) : (40 ≤ (ofGs g).fields.length ∨ ((ofGs g).fields.length = 0 ∧ 400 ≤ (ofGs g).records)) ↔ g.full = true := by
  unfold Gs.full ofGs
  have h1 := h.f40
  have h2 := h.r400
  by_cases e : g.fields = []
  · simp only [e, List.length_nil, if_true]
    simp
    omega
  · have e2 : g.fields.length ≠ 0 := fun e3 => e (List.eq_nil_of_length_eq_zero e3)
    simp only [e2, false_and, or_false, decide_false, Bool.false_and, Bool.or_false, decide_eq_true_eq]
    omega
theorem mores_cons {m : LineD} {r : List LineD} (h : kindOf m.text = 3) : mores (m :: r) = m :: mores r := by unfold mores; rw [List.takeWhile_cons, if_pos (by simpa using h)]
/-- The More lines of a group, one by one. -/
theorem rmores_run : ∀ (ms : List LineD) (s : Rs) (r : List LineD), (∀ m ∈ ms, kindOf m.text = 3) → rpar true s (ms ++ r) = if ms.any (fun m => !m.ended) = true then none else rpar true { s with raw := s.raw ++ rawOf (ms.map (·.text)) } r
  | [], s, r, _ => by simp [rawOf]
  | m :: ms, s, r, hk => by
    have hk1 := hk m (by simp)
    rw [List.cons_append, rpar_cons]
    cases he : m.ended with
    | false =>
      have : wrongN true s m (ms ++ r) ≠ 0 := by unfold wrongN; rw [if_pos (.inr (.inr he))]; simp
      rw [if_pos this]
      simp [he]
    | true =>
      have : wrongN true s m (ms ++ r) = 0 := by
        unfold wrongN
        rw [if_neg (by rw [hk1, he]; simp), if_pos (by rw [hk1]; simp)]
      rw [if_neg (by rw [this]; simp)]
      have e1 : isPart (kindOf m.text) = true := by rw [hk1]; rfl
      have e2 : s.step m (ms ++ r) = s.line m := by unfold Rs.step; rw [if_neg (by rw [hk1]; simp), if_neg (by rw [hk1]; simp)]
      rw [e1, e2, rmores_run ms (s.line m) r fun x hx => hk x (by simp [hx])]
      have e3 : (s.line m).raw ++ rawOf (ms.map (·.text)) = s.raw ++ rawOf ((m :: ms).map (·.text)) := by
        show s.raw ++ (m.text ++ [10]) ++ _ = _
        simp [rawOf]
      rw [e3]
      have e5 : (m :: ms).any (fun m => !m.ended) = ms.any (fun m => !m.ended) := by rw [List.any_cons, he]; rfl
      rw [e5]; rfl
theorem Gs.Inv.kept {g : Gs} (h : g.Inv) (x : LineD) : (g.kept [x.text]).Inv ∧ ofGs (g.kept [x.text]) = (ofGs g).line x := by
  refine ⟨⟨h.f40, h.r400, h.rf, fun e e2 => ?_⟩, ?_⟩
  · have : g.block ++ [x.text] = [] := e2
    simp at this
  · unfold ofGs Gs.kept Rs.line
    simp only [rawOf_app, rawOf_one]
theorem Gs.Inv.field {g : Gs} (h : g.Inv) (hf : g.full = false) (x : LineD) (ms : List (List UInt8)) :
    (g.field (x.text :: ms)).Inv ∧ ofGs (g.field (x.text :: ms)) = { (ofGs g).field x (x.text :: ms) with raw := ((ofGs g).field x (x.text :: ms)).raw ++ rawOf ms } := by
  unfold Gs.full at hf
  simp only [Bool.or_eq_false_iff, decide_eq_false_iff_not, Bool.and_eq_false_iff] at hf
  have h1 := h.f40
  have h2 := h.r400
  have hr : g.records < 400 := by
    by_cases e : g.fields = []
    · rcases hf.2 with h3 | h3
      · exact absurd (by rw [e]; rfl) h3
      · omega
    · exact h.rf e
  refine ⟨⟨?_, h2, fun _ => hr, fun _ e => ?_⟩, ?_⟩
  · show (g.fields ++ [_]).length ≤ 40
    rw [List.length_append]; simp; omega
  · have : g.block ++ (x.text :: ms) = [] := e
    simp at this
  · unfold ofGs Gs.field Rs.field
    have e : x.text :: ms = [x.text] ++ ms := rfl
    simp only [rawOf_app, e, rawOf_one, List.append_assoc]
    by_cases e2 : g.fields = []
    · simp [e2]
    · simp [e2]
theorem rpar_group : ∀ (f : Nat) (g : Gs) (b : Bool) (ls : List LineD), g.Inv → ls.length ≤ f → (b = true → ∀ y t, ls = y :: t → kindOf y.text ≠ 3) →
    (rpar b (ofGs g) ls).map Rs.fin = (gpar f g ls).map fun g => g.ended.items
  | f, g, b, [], _, _, _ => by
    have e : gpar f g [] = some g := by cases f <;> rfl
    rw [e]
    show some (ofGs g).fin = _
    rw [fin_of]; rfl
  | 0, g, b, x :: r, _, h, _ => by simp at h
  | f + 1, g, b, x :: r, hi, hf, hb => by
    have hf' : r.length ≤ f := by simpa using hf
    unfold rpar gpar
    by_cases hbad : kindOf x.text = 5 ∨ kindOf x.text = 3 ∨ x.ended = false
    · rw [if_pos hbad]
      have : wrongN b (ofGs g) x r ≠ 0 := by
        unfold wrongN
        rw [if_pos]
        · simp
        · rcases hbad with h | h | h
          · exact .inl h
          · refine .inr (.inl ⟨h, ?_⟩)
            cases b with
            | false => rfl
            | true => exact absurd h (hb rfl x r rfl)
          · exact .inr (.inr h)
      rw [if_pos this]; rfl
    · rw [if_neg hbad]
      have hbad2 : ¬ (kindOf x.text = 5 ∨ (kindOf x.text = 3 ∧ b = false) ∨ x.ended = false) := fun h => hbad (by
        rcases h with h | h | h
        · exact .inl h
        · exact .inr (.inl h.1)
        · exact .inr (.inr h))
      have h3 : kindOf x.text ≠ 3 := fun h => hbad (.inr (.inl h))
      by_cases h1 : kindOf x.text = 1
      · have hw : wrongN b (ofGs g) x r = 0 := by unfold wrongN; rw [if_neg hbad2, if_pos (by rw [h1]; simp)]
        rw [if_neg (by rw [hw]; simp), if_pos h1]
        have e1 : isPart (kindOf x.text) = false := by rw [h1]; rfl
        have e2 : (ofGs g).step x r = (ofGs g).blank x := if_pos h1
        obtain ⟨i1, i2⟩ := hi.ended x
        rw [e1, e2, ← i2]
        exact rpar_group f _ false r i1 hf' fun h => by cases h
      · rw [if_neg h1]
        by_cases h4 : kindOf x.text = 4
        · rw [if_pos h4]
          by_cases hu : unfoldN (x.text :: (mores r).map (·.text)) ≠ 0
          · have hw : wrongN b (ofGs g) x r ≠ 0 := by unfold wrongN; rw [if_neg hbad2, if_neg (by rw [h4]; simp), if_pos hu]; exact hu
            rw [if_pos hw, if_pos (.inr (.inl hu))]; rfl
          · by_cases hg : g.full = true
            · have hw : wrongN b (ofGs g) x r ≠ 0 := by unfold wrongN; rw [if_neg hbad2, if_neg (by rw [h4]; simp), if_neg hu, if_pos ((wrong_full hi).2 hg)]; simp
              rw [if_pos hw, if_pos (.inr (.inr hg))]; rfl
            · have hw : wrongN b (ofGs g) x r = 0 := by unfold wrongN; rw [if_neg hbad2, if_neg (by rw [h4]; simp), if_neg hu, if_neg (fun h => hg ((wrong_full hi).1 h))]
              rw [if_neg (by rw [hw]; simp)]
              have e1 : isPart (kindOf x.text) = true := by rw [h4]; rfl
              have e2 : (ofGs g).step x r = (ofGs g).field x (x.text :: (mores r).map (·.text)) := by unfold Rs.step; rw [if_neg h1, if_pos h4]
              rw [e1, e2]
              have hr := rmores_run (mores r) ((ofGs g).field x (x.text :: (mores r).map (·.text))) (others r) mores_kind
              rw [mores_others] at hr
              rw [hr]
              by_cases ha : (mores r).any (fun m => !m.ended) = true
              · rw [if_pos ha, if_pos (.inl ha)]; rfl
              · rw [if_neg ha, if_neg (by rintro (h | h | h); exact ha h; exact hu h; exact hg h)]
                obtain ⟨i1, i2⟩ := hi.field (by simpa using hg) x ((mores r).map (·.text))
                rw [← i2]
                exact rpar_group f _ true (others r) i1 (Nat.le_trans (others_le r) hf') fun _ y t h => others_kind h
        · rw [if_neg h4]
          have hw : wrongN b (ofGs g) x r = 0 := by unfold wrongN; rw [if_neg hbad2, if_pos h4]
          rw [if_neg (by rw [hw]; simp)]
          have e1 : isPart (kindOf x.text) = false := by unfold isPart; simp [h4, h3]
          have e2 : (ofGs g).step x r = (ofGs g).line x := by unfold Rs.step; rw [if_neg h1, if_neg h4]
          obtain ⟨i1, i2⟩ := hi.kept x
          rw [e1, e2, ← i2]
          exact rpar_group f _ false r i1 hf' fun h => by cases h
/-- THE REFERENCE PARSES AS THE PROGRAM DOES: a fault there just if there is one here; else the same items. -/
theorem rpar_parse (t : List UInt8) : (rpar false Rs.zero (splitL t)).map Rs.fin = if (parse t).err = 0 then some (parse t).st.items else none := by
  rw [parse_pend, pend_group (splitL t).length Ps.zero (splitL t) rfl (Nat.le_refl _)]
  exact rpar_group _ Gs.zero false (splitL t) Gs.zero_inv (Nat.le_refl _) fun h => by cases h
end Go.Proofs.YtjbnjlkoipkpoaaGreatDoor.B
