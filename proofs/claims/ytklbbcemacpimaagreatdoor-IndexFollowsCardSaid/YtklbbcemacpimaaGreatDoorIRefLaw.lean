/- The plain law of the reference's index: what it answers, and that the index answers the same. -/
import Derived.Test.YtklbbcemacpimaaGreatDoorISt
import Derived.Sort.Walk0
namespace Go.Proofs.YtklbbcemacpimaaGreatDoor.I
open Go Go.Maps Go.Proofs Go.RowKit Go.Sort

theorem l8_irr (a : L8) : ¬ a < a := List.lt_irrefl a
theorem l8_trans {a b c : L8} (h : a < b) (k : b < c) : a < c := List.lt_trans h k
theorem l8_tri {a b : L8} (h : ¬ a < b) (h' : ¬ a = b) : b < a := by
  rcases List.le_total a b with k | k
  · rcases List.le_iff_lt_or_eq.1 k with k | k
    · exact absurd k h
    · exact absurd k h'
  · rcases List.le_iff_lt_or_eq.1 k with k | k
    · exact k
    · exact absurd k.symm h'
/-- Two rising rows with the same members are the same. -/
theorem rise_eq {α : Type} {r : α → α → Prop} (irr : ∀ a, ¬ r a a) (asy : ∀ a b, r a b → ¬ r b a) : ∀ {l l' : List α}, l.Pairwise r → l'.Pairwise r → (∀ x, x ∈ l ↔ x ∈ l') → l = l'
  | [], [], _, _, _ => rfl
  | [], b :: l', _, _, h => by have := (h b).2 (by simp); cases this
  | a :: l, [], _, _, h => by have := (h a).1 (by simp); cases this
  | a :: l, b :: l', h1, h2, h => by
    rw [List.pairwise_cons] at h1 h2
    have hab : a = b := by
      rcases List.mem_cons.1 ((h a).1 (by simp)) with e | e
      · exact e
      · rcases List.mem_cons.1 ((h b).2 (by simp)) with e' | e'
        · exact e'.symm
        · exact absurd (h1.1 b e') (asy b a (h2.1 a e))
    subst hab
    congr 1
    refine rise_eq irr asy h1.2 h2.2 fun x => ⟨fun hx => ?_, fun hx => ?_⟩
    · rcases List.mem_cons.1 ((h x).1 (by simp [hx])) with e | e
      · subst e; exact absurd (h1.1 x hx) (irr x)
      · exact e
    · rcases List.mem_cons.1 ((h x).2 (by simp [hx])) with e | e
      · subst e; exact absurd (h2.1 x hx) (irr x)
      · exact e
theorem rise_int {l l' : List Int} (h1 : l.Pairwise (· < ·)) (h2 : l'.Pairwise (· < ·)) (h : ∀ x, x ∈ l ↔ x ∈ l') : l = l' :=
  rise_eq (fun a => by omega) (fun a b => by omega) h1 h2 h
theorem rise_l8 {l l' : List L8} (h1 : l.Pairwise (· < ·)) (h2 : l'.Pairwise (· < ·)) (h : ∀ x, x ∈ l ↔ x ∈ l') : l = l' :=
  rise_eq l8_irr (fun _ _ h k => l8_irr _ (l8_trans h k)) h1 h2 h
/-! ### add -/
/-- Texts, rising, with one more. -/
def rAdd (s : L8) (l : List L8) : List L8 := l.filter (fun x => decide (x < s)) ++ [s] ++ l.filter (fun x => decide (s < x))
def addDone (s : L8) (p : List L8) : Bool := p.any fun x => !decide (x < s)
def addOut (s : L8) (p : List L8) : List L8 := if addDone s p = true then rAdd s p else p
theorem rAdd_mem {s x : L8} {l : List L8} : x ∈ rAdd s l ↔ x = s ∨ x ∈ l := by
  unfold rAdd
  simp only [List.mem_append, List.mem_filter, List.mem_singleton, decide_eq_true_eq]
  constructor
  · rintro ((h | h) | h)
    · exact .inr h.1
    · exact .inl h
    · exact .inr h.1
  · rintro (h | h)
    · exact .inl (.inr h)
    · by_cases h1 : x < s
      · exact .inl (.inl ⟨h, h1⟩)
      · by_cases h2 : x = s
        · exact .inl (.inr h2)
        · exact .inr ⟨h, l8_tri h1 h2⟩
theorem rAdd_rising {s : L8} {l : List L8} (h : l.Pairwise (· < ·)) : (rAdd s l).Pairwise (· < ·) := by
  unfold rAdd
  rw [List.pairwise_append, List.pairwise_append]
  refine ⟨⟨h.filter _, List.pairwise_singleton _ _, fun a ha b hb => ?_⟩, h.filter _, fun a ha b hb => ?_⟩
  · have h1 := (List.mem_filter.1 ha).2
    rw [List.mem_singleton.1 hb]
    simpa using h1
  · have h2 : s < b := by simpa using (List.mem_filter.1 hb).2
    rcases List.mem_append.1 ha with ha | ha
    · have h1 : a < s := by simpa using (List.mem_filter.1 ha).2
      exact l8_trans h1 h2
    · rw [List.mem_singleton.1 ha]; exact h2
theorem rAdd_len {s : L8} {l : List L8} : (rAdd s l).length ≤ l.length + 1 := by
  have h : ∀ l : List L8, (l.filter (fun x => decide (x < s))).length + (l.filter (fun x => decide (s < x))).length ≤ l.length := by
    intro l
    induction l with
    | nil => simp
    | cons x r ih =>
      rw [List.filter_cons, List.filter_cons]
      by_cases h1 : x < s
      · have h2 : ¬ s < x := fun k => l8_irr _ (l8_trans h1 k)
        simp only [h1, h2, decide_true, decide_false, if_true, Bool.false_eq_true, if_false, List.length_cons]; omega
      · by_cases h2 : s < x
        · simp only [h1, h2, decide_true, decide_false, if_true, Bool.false_eq_true, if_false, List.length_cons]; omega
        · simp only [h1, h2, decide_false, Bool.false_eq_true, if_false, List.length_cons]; omega
  have := h l
  unfold rAdd
  simp only [List.length_append, List.length_cons, List.length_nil]
  omega
theorem filter_all {p : List L8} {q : L8 → Bool} (h : ∀ x ∈ p, q x = true) : p.filter q = p := List.filter_eq_self.2 h
theorem filter_none {p : List L8} {q : L8 → Bool} (h : ∀ x ∈ p, q x = false) : p.filter q = [] := List.filter_eq_nil_iff.2 fun x hx => by rw [h x hx]; simp
theorem addDone_snoc (s x : L8) (p : List L8) : addDone s (p ++ [x]) = (addDone s p || !decide (x < s)) := by simp [addDone]
theorem not_done {s : L8} {p : List L8} (h : addDone s p = false) : ∀ x ∈ p, x < s := fun x hx => by
  have := List.any_eq_false.1 h x hx
  simpa using this
theorem is_done {s : L8} {p : List L8} (h : addDone s p = true) : ∃ x ∈ p, ¬ x < s := by
  obtain ⟨x, hx, h1⟩ := List.any_eq_true.1 h
  exact ⟨x, hx, by simpa using h1⟩
/-- A round that only goes on. -/
theorem addOut_low {s x : L8} {p : List L8} (hd : addDone s p = false) (h : x < s) : addOut s (p ++ [x]) = addOut s p ++ [x] := by
  unfold addOut
  rw [addDone_snoc, hd, decide_eq_true h]
  simp
theorem addOut_high {s x : L8} {p : List L8} (hp : (p ++ [x]).Pairwise (· < ·)) (hd : addDone s p = true) : addOut s (p ++ [x]) = addOut s p ++ [x] ∧ s < x := by
  obtain ⟨y, hy, hys⟩ := is_done hd
  have hyx : y < x := (List.pairwise_append.1 hp).2.2 y hy x (by simp)
  have hsx : s < x := by
    by_cases e : y = s
    · rw [← e]; exact hyx
    · exact l8_trans (l8_tri hys e) hyx
  refine ⟨?_, hsx⟩
  have hxs : ¬ x < s := fun k => l8_irr _ (l8_trans k hsx)
  unfold addOut
  rw [addDone_snoc, hd]
  simp only [Bool.true_or, if_true]
  unfold rAdd
  rw [List.filter_append, List.filter_append, filter_none (p := [x]) (q := fun x => decide (x < s)) (fun y hy => by rw [List.mem_singleton.1 hy]; exact decide_eq_false hxs), filter_all (p := [x]) (q := fun x => decide (s < x)) (fun y hy => by rw [List.mem_singleton.1 hy]; exact decide_eq_true hsx)]
  simp
theorem addOut_now {s x : L8} {p : List L8} (hd : addDone s p = false) (h : s < x) : addOut s (p ++ [x]) = addOut s p ++ [s] ++ [x] := by
  have hxs : ¬ x < s := fun k => l8_irr _ (l8_trans k h)
  have hp := not_done hd
  unfold addOut
  rw [addDone_snoc, hd, decide_eq_false hxs]
  simp only [Bool.false_or, Bool.not_false, if_true, Bool.false_eq_true, if_false]
  unfold rAdd
  rw [List.filter_append, List.filter_append, filter_none (p := [x]) (q := fun x => decide (x < s)) (fun y hy => by rw [List.mem_singleton.1 hy]; exact decide_eq_false hxs), filter_all (p := [x]) (q := fun x => decide (s < x)) (fun y hy => by rw [List.mem_singleton.1 hy]; exact decide_eq_true h), filter_all (p := p) (q := fun x => decide (x < s)) (fun y hy => decide_eq_true (hp y hy)), filter_none (p := p) (q := fun x => decide (s < x)) (fun y hy => decide_eq_false fun k => l8_irr _ (l8_trans (hp y hy) k))]
  simp
theorem addOut_same {s : L8} {p : List L8} (hd : addDone s p = false) : addOut s (p ++ [s]) = addOut s p ++ [s] := by
  have hp := not_done hd
  unfold addOut
  rw [addDone_snoc, hd, decide_eq_false (l8_irr s)]
  simp only [Bool.false_or, Bool.not_false, if_true, Bool.false_eq_true, if_false]
  unfold rAdd
  rw [List.filter_append, List.filter_append, filter_none (p := [s]) (q := fun x => decide (x < s)) (fun y hy => by rw [List.mem_singleton.1 hy]; exact decide_eq_false (l8_irr s)), filter_none (p := [s]) (q := fun x => decide (s < x)) (fun y hy => by rw [List.mem_singleton.1 hy]; exact decide_eq_false (l8_irr s)), filter_all (p := p) (q := fun x => decide (x < s)) (fun y hy => decide_eq_true (hp y hy)), filter_none (p := p) (q := fun x => decide (s < x)) (fun y hy => decide_eq_false fun k => l8_irr _ (l8_trans (hp y hy) k))]
  simp
theorem addOut_end {s : L8} {l : List L8} : (if addDone s l = true then addOut s l else addOut s l ++ [s]) = rAdd s l := by
  cases h : addDone s l with
  | true => unfold addOut; simp [h]
  | false =>
    have hp := not_done h
    unfold addOut rAdd
    rw [h, filter_all (p := l) (q := fun x => decide (x < s)) (fun y hy => decide_eq_true (hp y hy)), filter_none (p := l) (q := fun x => decide (s < x)) (fun y hy => decide_eq_false fun k => l8_irr _ (l8_trans (hp y hy) k))]
    simp
/-- All of them, added one by one. -/
def addAllS (ks : List L8) : List L8 := ks.foldl (fun acc k => rAdd k acc) []
theorem addAllS_snoc (ks : List L8) (k : L8) : addAllS (ks ++ [k]) = rAdd k (addAllS ks) := by simp [addAllS]
theorem foldl_rising : ∀ (ks acc : List L8), acc.Pairwise (· < ·) → (ks.foldl (fun acc k => rAdd k acc) acc).Pairwise (· < ·)
  | [], _, h => h
  | _ :: r, _, h => foldl_rising r _ (rAdd_rising h)
theorem addAllS_rising (ks : List L8) : (addAllS ks).Pairwise (· < ·) := foldl_rising ks [] List.Pairwise.nil
theorem foldl_mem (x : L8) : ∀ (ks acc : List L8), x ∈ ks.foldl (fun acc k => rAdd k acc) acc ↔ x ∈ acc ∨ x ∈ ks
  | [], _ => by simp
  | k :: r, acc => by
    rw [List.foldl_cons, foldl_mem x r, rAdd_mem, List.mem_cons]
    constructor
    · rintro ((h | h) | h) <;> simp [h]
    · rintro (h | h | h) <;> simp [h]
theorem addAllS_mem (ks : List L8) (x : L8) : x ∈ addAllS ks ↔ x ∈ ks := by unfold addAllS; rw [foldl_mem]; simp
theorem foldl_len : ∀ (ks acc : List L8), (ks.foldl (fun acc k => rAdd k acc) acc).length ≤ acc.length + ks.length
  | [], _ => by simp
  | k :: r, acc => by
    have h1 := foldl_len r (rAdd k acc)
    have h2 : (rAdd k acc).length ≤ acc.length + 1 := rAdd_len
    rw [List.foldl_cons, List.length_cons]
    omega
theorem addAllS_len (ks : List L8) : (addAllS ks).length ≤ ks.length := by have := foldl_len ks []; unfold addAllS; simpa using this
/-! ### What the reference answers, by the stanzas -/
def keysF (fs : List Fld) : List L8 := fs.map Fld.key
def keysM (m : Ms) : List L8 := m.flatMap fun s => keysF s.2
def valsF (key : L8) (fs : List Fld) : List L8 := (fs.filter fun f => f.key == key).map Fld.val
def valsM (key : L8) (m : Ms) : List L8 := m.flatMap fun s => valsF key s.2
theorem keysM_mem {m : Ms} (h : Rising m) (k : L8) : k ∈ addAllS (keysM m) ↔ ∃ v i, cM m k v i ≠ 0 := by
  rw [addAllS_mem]
  unfold keysM keysF
  simp only [List.mem_flatMap, List.mem_map]
  constructor
  · rintro ⟨s, hs, f, hf, e⟩
    exact ⟨f.val, s.1, (cM_mem h).2 ⟨s, hs, rfl, f, hf, e, rfl⟩⟩
  · rintro ⟨v, i, hc⟩
    obtain ⟨s, hs, -, f, hf, e, -⟩ := (cM_mem h).1 hc
    exact ⟨s, hs, f, hf, e⟩
theorem valsM_mem {m : Ms} (h : Rising m) (key v : L8) : v ∈ addAllS (valsM key m) ↔ ∃ i, cM m key v i ≠ 0 := by
  rw [addAllS_mem]
  unfold valsM valsF
  simp only [List.mem_flatMap, List.mem_map, List.mem_filter, beq_iff_eq]
  constructor
  · rintro ⟨s, hs, f, ⟨hf, e1⟩, e2⟩
    exact ⟨s.1, (cM_mem h).2 ⟨s, hs, rfl, f, hf, e1, e2⟩⟩
  · rintro ⟨i, hc⟩
    obtain ⟨s, hs, -, f, hf, e1, e2⟩ := (cM_mem h).1 hc
    exact ⟨s, hs, f, ⟨hf, e1⟩, e2⟩
/-- A text between two others. -/
def inR (lo hi v : L8) : Bool := !(Op.bytesLess v lo) && (Op.bytesLess v hi || v == hi)
/-- Which fields are asked for. -/
def pick (key lo hi : L8) (all : Bool) (f : Fld) : Bool := f.key == key && (all || inR lo hi f.val)
theorem pick_mem {m : Ms} (h : Rising m) (key lo hi : L8) (all : Bool) (i : Int) : i ∈ rWho (pick key lo hi all) m ↔ ∃ v, (all || inR lo hi v) = true ∧ cM m key v i ≠ 0 := by
  rw [rWho_mem h]
  unfold pick
  simp only [Bool.and_eq_true, beq_iff_eq]
  constructor
  · rintro ⟨k, v, ⟨rfl, h1⟩, h2⟩; exact ⟨v, h1, h2⟩
  · rintro ⟨v, h1, h2⟩; exact ⟨key, v, ⟨rfl, h1⟩, h2⟩
theorem inR_self (a v : L8) : inR a a v = true ↔ v = a := by
  unfold inR
  rw [bytesLess_eq]
  simp only [Bool.and_eq_true, Bool.or_eq_true, beq_iff_eq, Bool.not_eq_true', decide_eq_false_iff_not, decide_eq_true_eq]
  constructor
  · rintro ⟨h1, h2 | h2⟩
    · exact absurd h2 h1
    · exact h2
  · rintro rfl; exact ⟨l8_irr _, .inr rfl⟩
theorem who_all {m : Ms} (h : Rising m) (key : L8) {ss : List Int} (hs : ss.Pairwise (· < ·)) (hm : ∀ i, i ∈ ss ↔ ∃ v, cM m key v i ≠ 0) : ss = rWho (pick key [] [] true) m :=
  rise_int hs (rWho_rising h) fun i => by rw [hm, pick_mem h]; simp
theorem who_eq {m : Ms} (h : Rising m) (key val : L8) {ss : List Int} (hs : ss.Pairwise (· < ·)) (hm : ∀ i, i ∈ ss ↔ cM m key val i ≠ 0) : ss = rWho (pick key val val false) m :=
  rise_int hs (rWho_rising h) fun i => by
    rw [hm, pick_mem h]
    simp only [Bool.false_or, inR_self]
    constructor
    · exact fun h => ⟨val, rfl, h⟩
    · rintro ⟨v, rfl, h⟩; exact h
theorem who_between {m : Ms} (h : Rising m) (key lo hi : L8) {ss : List Int} (hs : ss.Pairwise (· < ·)) (hm : ∀ i, i ∈ ss ↔ ∃ v, inR lo hi v = true ∧ cM m key v i ≠ 0) : ss = rWho (pick key lo hi false) m :=
  rise_int hs (rWho_rising h) fun i => by rw [hm, pick_mem h]; simp
theorem keys_eq {m : Ms} (h : Rising m) {ss : List L8} (hs : ss.Pairwise (· < ·)) (hm : ∀ k, k ∈ ss ↔ ∃ v i, cM m k v i ≠ 0) : ss = addAllS (keysM m) :=
  rise_l8 hs (addAllS_rising _) fun k => by rw [hm, keysM_mem h]
theorem vals_eq {m : Ms} (h : Rising m) (key : L8) {ss : List L8} (hs : ss.Pairwise (· < ·)) (hm : ∀ v, v ∈ ss ↔ ∃ i, cM m key v i ≠ 0) : ss = addAllS (valsM key m) :=
  rise_l8 hs (addAllS_rising _) fun v => by rw [hm, valsM_mem h]
/-! ### Drop, Put -/
theorem rDrop_len (m : Ms) (id : Int) : (rDrop m id).length ≤ m.length := List.length_filter_le _ _
theorem rIns_len (id : Int) (fs : List Fld) : ∀ m, (rIns id fs m).length = m.length + 1
  | [] => rfl
  | s :: r => by
    unfold rIns
    split
    · rfl
    · rw [List.length_cons, rIns_len id fs r, List.length_cons]
theorem drop_less (m : Ms) (id : Int) : ((rDrop m id).length < m.length) ↔ (m.any fun s => s.1 == id) = true := by
  unfold rDrop
  induction m with
  | nil => simp
  | cons s r ih =>
    rw [List.filter_cons, List.any_cons]
    have := List.length_filter_le (fun s => s.1 != id) r
    by_cases h : s.1 = id
    · simp [h]
      omega
    · simp [h]
end Go.Proofs.YtklbbcemacpimaaGreatDoor.I
