/- Plain facts on lists of bytes for the layer of lines: which kind a line is of, which keys are good, how a text is cut into lines. No program is named here; nothing is assumed. -/
import Derived.Lib.Strings
import Derived.Lib.Index
import Derived.Lib.CutLaws
import Derived.Lib.CountLaws
import Derived.Lib.SlTrimSet
namespace Go.Proofs.YtboiaoaephimhaaDoor.B

/-- Is a byte a blank? -/
def isBlank (c : UInt8) : Bool := c == 32 || c == 9
/-- Is a key good? -/
def goodKey (k : List UInt8) : Bool :=
  match k with
  | [] => false
  | c :: _ => decide (k.length ≤ 32) && !isBlank c && !(c == 35) && !k.contains 58 && !k.contains 10
/-- What stands ahead of the first byte c. -/
def ahead (c : UInt8) (l : List UInt8) : List UInt8 := l.takeWhile (· != c)
/-- What stands behind it. -/
def behind (c : UInt8) (l : List UInt8) : List UInt8 := (l.dropWhile (· != c)).tail
/-- A line's kind. -/
def kindOf (l : List UInt8) : Nat :=
  if l.contains 10 then 5 else if l.all isBlank then 1 else
  match l with
  | [] => 1
  | c :: _ => if c == 35 then 2 else if isBlank c then 3 else if l.contains 58 && goodKey (ahead 58 l) then 4 else 5
/-- A text's lines: each one's bytes, and whether a line end is behind it. -/
def linesOf : Nat → List UInt8 → List (List UInt8 × Bool)
  | 0, _ => []
  | f + 1, l => if l.isEmpty then [] else (ahead 10 l, l.contains 10) :: linesOf f (behind 10 l)

theorem ahead_append (c : UInt8) (l : List UInt8) (h : l.contains c = true) : ahead c l ++ c :: behind c l = l := by
  induction l with
  | nil => simp at h
  | cons x t ih =>
    by_cases hx : x = c
    · subst hx; simp [ahead, behind]
    · have h' : t.contains c = true := by
        simp only [List.contains_cons, Bool.or_eq_true, beq_iff_eq] at h
        rcases h with h | h
        · exact absurd h.symm hx
        · exact h
      have := ih h'
      unfold ahead behind at *
      simp [hx, this]
theorem ahead_not (c : UInt8) (l : List UInt8) : (ahead c l).contains c = false := by
  induction l with
  | nil => rfl
  | cons x t ih =>
    unfold ahead at *
    by_cases hx : x = c
    · simp [hx]
    · simp only [List.takeWhile_cons, bne_iff_ne, ne_eq, hx, not_false_eq_true, if_true, List.contains_cons]
      rw [ih]; simp; exact fun h => hx h.symm
theorem ahead_none (c : UInt8) (l : List UInt8) (h : l.contains c = false) : ahead c l = l := by
  induction l with
  | nil => rfl
  | cons x t ih =>
    simp only [List.contains_cons, Bool.or_eq_false_iff, beq_eq_false_iff_ne] at h
    unfold ahead at *
    rw [List.takeWhile_cons, if_pos (by simpa using fun e => h.1 e.symm), ih h.2]
theorem behind_none (c : UInt8) (l : List UInt8) (h : l.contains c = false) : behind c l = [] := by
  induction l with
  | nil => rfl
  | cons x t ih =>
    simp only [List.contains_cons, Bool.or_eq_false_iff, beq_eq_false_iff_ne] at h
    unfold behind at *
    rw [List.dropWhile_cons, if_pos (by simpa using fun e => h.1 e.symm), ih h.2]
theorem ahead_le (c : UInt8) (l : List UInt8) : (ahead c l).length ≤ l.length := List.takeWhile_prefix _ |>.length_le
/-- The first place of a byte, as a length. -/
theorem ahead_eq_take (c : UInt8) (l : List UInt8) (i : Nat) (h : l[i]? = some c) (hn : ∀ j : Nat, j < i → l[j]? ≠ some c) : ahead c l = l.take i := by
  induction l generalizing i with
  | nil => simp at h
  | cons x t ih =>
    unfold ahead at *
    cases i with
    | zero => simp at h; simp [h]
    | succ i =>
      have hx : x ≠ c := by have := hn 0 (by omega); simpa using this
      rw [List.takeWhile_cons, if_pos (by simpa using hx), List.take_succ_cons, ih i (by simpa using h) (fun j hj => by have := hn (j + 1) (by omega); simpa using this)]
theorem behind_eq_drop (c : UInt8) (l : List UInt8) (i : Nat) (h : l[i]? = some c) (hn : ∀ j : Nat, j < i → l[j]? ≠ some c) : behind c l = l.drop (i + 1) := by
  induction l generalizing i with
  | nil => simp at h
  | cons x t ih =>
    unfold behind at *
    cases i with
    | zero => simp at h; simp [h]
    | succ i =>
      have hx : x ≠ c := by have := hn 0 (by omega); simpa using this
      rw [List.dropWhile_cons, if_pos (by simpa using hx), List.drop_succ_cons, ih i (by simpa using h) (fun j hj => by have := hn (j + 1) (by omega); simpa using this)]
theorem contains_of_get (c : UInt8) (l : List UInt8) (i : Nat) (h : l[i]? = some c) : l.contains c = true := by
  rw [List.contains_iff_mem]; exact List.mem_of_getElem? h
theorem not_contains_of (c : UInt8) (l : List UInt8) (h : ∀ j : Nat, j < l.length → l[j]? ≠ some c) : l.contains c = false := by
  rw [Bool.eq_false_iff, ne_eq, List.contains_iff_mem]
  intro hm
  obtain ⟨j, hj, he⟩ := List.mem_iff_getElem.1 hm
  exact h j hj (by rw [List.getElem?_eq_getElem hj, he])
theorem get_of_contains (c : UInt8) (l : List UInt8) (h : l.contains c = true) : ∃ i : Nat, l[i]? = some c ∧ ∀ j : Nat, j < i → l[j]? ≠ some c := by
  induction l with
  | nil => simp at h
  | cons x t ih =>
    by_cases hx : x = c
    · exact ⟨0, by simp [hx], fun j hj => absurd hj (Nat.not_lt_zero _)⟩
    · have h' : t.contains c = true := by
        simp only [List.contains_cons, Bool.or_eq_true, beq_iff_eq] at h
        rcases h with h | h
        · exact absurd h.symm hx
        · exact h
      obtain ⟨i, hi, hn⟩ := ih h'
      refine ⟨i + 1, by simpa using hi, fun j hj => ?_⟩
      cases j with
      | zero => simpa using hx
      | succ j => simpa using hn j (by omega)
/-! ### Of strings: bytes by their place -/
theorem get_data (s : ByteArray) (k : Nat) (h : k < s.size) : s.data.toList[k]? = some s[k] := by
  rw [Array.getElem?_toList, Array.getElem?_eq_getElem h]; rfl
theorem byte_eq (c d : UInt8) : ((c.toNat : Int) == (d.toNat : Int)) = (c == d) := by
  rw [Bool.eq_iff_iff]; simp [← UInt8.toNat_inj]; omega
theorem byte_is {c : UInt8} (n : Nat) (h : (c.toNat : Int) = n) (hn : n < 256 := by decide) : c = UInt8.ofNat n := by
  rw [← UInt8.toNat_inj, UInt8.toNat_ofNat']; omega
theorem byte_not {c : UInt8} (n : Nat) (h : ¬ (c.toNat : Int) = n) (hn : n < 256 := by decide) : c ≠ UInt8.ofNat n := by
  intro e; apply h; rw [e, UInt8.toNat_ofNat']; omega
theorem get_is (s : ByteArray) (k : Nat) (hk : k < s.size) (n : Nat) (h : (s[k].toNat : Int) = n) (hn : n < 256 := by decide) : s.data.toList[k]? = some (UInt8.ofNat n) := by
  rw [get_data s k hk, byte_is n h hn]
theorem get_not (s : ByteArray) (k : Nat) (hk : k < s.size) (n : Nat) (h : ¬ (s[k].toNat : Int) = n) (hn : n < 256 := by decide) : s.data.toList[k]? ≠ some (UInt8.ofNat n) := by
  rw [get_data s k hk]; intro e; exact byte_not n h hn (by simpa using e)
theorem get_isb (s : ByteArray) (k : Nat) (hk : k < s.size) (n : Nat) (h : ((s[k].toNat : Int) == (n : Int)) = true) (hn : n < 256 := by decide) : s.data.toList[k]? = some (UInt8.ofNat n) :=
  get_is s k hk n (by simpa using h) hn
theorem get_notb (s : ByteArray) (k : Nat) (hk : k < s.size) (n : Nat) (h : ((s[k].toNat : Int) == (n : Int)) = false) (hn : n < 256 := by decide) : s.data.toList[k]? ≠ some (UInt8.ofNat n) :=
  get_not s k hk n (by simpa using h) hn
theorem size_len (s : ByteArray) : s.data.toList.length = s.size := by rw [Array.length_toList]; rfl
theorem data_cons (s : ByteArray) (h : 0 < s.size) : ∃ t, s.data.toList = s[0] :: t := by
  have := get_data s 0 h
  cases hl : s.data.toList with
  | nil => rw [hl] at this; simp at this
  | cons x t => rw [hl] at this; simp at this; exact ⟨t, by rw [this]⟩
theorem key_none (s : ByteArray) (h : (s.size : Int) < 1) : goodKey s.data.toList = false := by
  have : s.data.toList = [] := by rw [← List.length_eq_zero_iff, size_len]; omega
  rw [this]; rfl
theorem key_long (s : ByteArray) (h : 32 < (s.size : Int)) : goodKey s.data.toList = false := by
  obtain ⟨t, ht⟩ := data_cons s (by omega)
  have hl := size_len s
  rw [ht] at hl ⊢
  have : ¬ (s[0] :: t).length ≤ 32 := by omega
  simp only [goodKey]; rw [decide_eq_false this]; rfl
theorem key_blank (s : ByteArray) (h : 0 < s.size) (hb : isBlank s[0] = true) : goodKey s.data.toList = false := by
  obtain ⟨t, ht⟩ := data_cons s h
  rw [ht]; simp [goodKey, hb]
theorem key_hash (s : ByteArray) (h : 0 < s.size) (hb : s[0] = 35) : goodKey s.data.toList = false := by
  obtain ⟨t, ht⟩ := data_cons s h
  rw [ht]; simp [goodKey, hb]
theorem key_has (l : List UInt8) (k : Nat) (hb : l[k]? = some 58 ∨ l[k]? = some 10) : goodKey l = false := by
  cases l with
  | nil => rfl
  | cons c t =>
    simp only [goodKey]
    rcases hb with hb | hb
    · rw [contains_of_get _ _ _ hb]; simp
    · rw [contains_of_get _ _ _ hb]; simp
/-- None of the first k bytes is a colon or a line end. -/
def Clean (l : List UInt8) (k : Nat) : Prop := ∀ j : Nat, j < k → l[j]? ≠ some 58 ∧ l[j]? ≠ some 10
theorem Clean.zero (l : List UInt8) : Clean l 0 := fun _ h => absurd h (Nat.not_lt_zero _)
theorem Clean.succ {l : List UInt8} {k : Nat} (h : Clean l k) (h1 : l[k]? ≠ some 58) (h2 : l[k]? ≠ some 10) : Clean l (k + 1) := fun j hj => by
  rcases Nat.lt_or_ge j k with hl | hl
  · exact h j hl
  · obtain rfl : j = k := by omega
    exact ⟨h1, h2⟩
theorem key_good (s : ByteArray) (h0 : 0 < s.size) (h1 : (s.size : Int) ≤ 32) (h2 : ¬ isBlank s[0] = true) (h3 : s[0] ≠ 35) (h4 : Clean s.data.toList s.size) : goodKey s.data.toList = true := by
  obtain ⟨t, ht⟩ := data_cons s h0
  have hl := size_len s
  have c58 : s.data.toList.contains 58 = false := not_contains_of _ _ fun j hj => (h4 j (by omega)).1
  have c10 : s.data.toList.contains 10 = false := not_contains_of _ _ fun j hj => (h4 j (by omega)).2
  rw [ht] at hl c58 c10 ⊢
  have hle : (s[0] :: t).length ≤ 32 := by omega
  simp only [goodKey]
  rw [c58, c10, decide_eq_true hle]
  simp [h2, h3]
/-- What stands ahead of a line's first colon, and behind it; false: that is no good key. -/
def cutOf (l : List UInt8) : List UInt8 × List UInt8 × Bool :=
  if l.contains 10 then ([], [], false) else if l.contains 58 && goodKey (ahead 58 l) then (ahead 58 l, behind 58 l, true) else ([], [], false)
/-- None of the first k bytes is this one. -/
def Free (c : UInt8) (l : List UInt8) (k : Nat) : Prop := ∀ j : Nat, j < k → l[j]? ≠ some c
theorem Free.zero (c : UInt8) (l : List UInt8) : Free c l 0 := fun _ h => absurd h (Nat.not_lt_zero _)
theorem Free.succ {c : UInt8} {l : List UInt8} {k : Nat} (h : Free c l k) (h1 : l[k]? ≠ some c) : Free c l (k + 1) := fun j hj => by
  rcases Nat.lt_or_ge j k with hl | hl
  · exact h j hl
  · obtain rfl : j = k := by omega
    exact h1
theorem Free.none {c : UInt8} {l : List UInt8} {k : Nat} (h : Free c l k) (hk : l.length ≤ k) : l.contains c = false := not_contains_of _ _ fun j hj => h j (by omega)
theorem cut_end {l : List UInt8} {k : Nat} (h : l[k]? = some 10) : cutOf l = ([], [], false) := by
  unfold cutOf; rw [contains_of_get _ _ _ h]; rfl
theorem cut_none {l : List UInt8} {k : Nat} (h : l.contains 10 = false) (hf : Free 58 l k) (hk : l.length ≤ k) : cutOf l = ([], [], false) := by
  unfold cutOf; rw [h, hf.none hk]; rfl
theorem cut_bad {l : List UInt8} {k : Nat} (h : l.contains 10 = false) (hf : Free 58 l k) (hk : l[k]? = some 58) (hb : goodKey (l.take k) = false) : cutOf l = ([], [], false) := by
  unfold cutOf; rw [h, ahead_eq_take _ _ _ hk hf, hb]; simp
theorem cut_good {l : List UInt8} {k : Nat} (h : l.contains 10 = false) (hf : Free 58 l k) (hk : l[k]? = some 58) (hb : goodKey (l.take k) = true) : cutOf l = (l.take k, l.drop (k + 1), true) := by
  unfold cutOf; rw [h, ahead_eq_take _ _ _ hk hf, hb, contains_of_get _ _ _ hk, behind_eq_drop _ _ _ hk hf]; rfl
theorem extract_take (s : ByteArray) (k : Nat) : s.extract 0 k = ⟨(s.data.toList.take k).toArray⟩ := by rw [Lib.extract_eq]; simp
theorem extract_drop (s : ByteArray) (k : Nat) : s.extract k s.size = ⟨(s.data.toList.drop k).toArray⟩ := by
  rw [Lib.extract_eq, List.take_of_length_le (by rw [List.length_drop, size_len]; exact Nat.le_refl _)]
theorem take_size_le (s : ByteArray) (k : Nat) : (s.extract 0 k).size ≤ s.size := by
  rw [extract_take, ← size_len, ← size_len]; simp; omega
theorem extract_take_data (s : ByteArray) (k : Nat) : (s.extract 0 k).data.toList = s.data.toList.take k := by rw [extract_take]
/-- Does a text begin with a blank? -/
def blankHead (l : List UInt8) : Bool := match l with | [] => false | c :: _ => isBlank c
/-- Does a text hold this byte? -/
def has (c : UInt8) (l : List UInt8) : Bool := l.contains c
/-- Does a text begin with this byte? -/
def begins (c : UInt8) (l : List UInt8) : Bool := match l with | [] => false | x :: _ => x == c
theorem goodKey_eq (l : List UInt8) : goodKey l = (!l.isEmpty && decide (l.length ≤ 32) && !blankHead l && !begins 35 l && !has 58 l && !has 10 l) := by
  cases l with
  | nil => rfl
  | cons c t => simp only [goodKey, List.isEmpty_cons, blankHead, begins, has, Bool.not_false, Bool.true_and]
theorem kindOf_eq (l : List UInt8) : kindOf l = if has 10 l then 5 else if l.all isBlank then 1 else if begins 35 l then 2 else if blankHead l then 3 else if has 58 l && goodKey (ahead 58 l) then 4 else 5 := by
  cases l with
  | nil => rfl
  | cons c t => rfl
theorem all_take_succ (l : List UInt8) (k : Nat) (c : UInt8) (h : l[k]? = some c) : (l.take (k + 1)).all isBlank = ((l.take k).all isBlank && isBlank c) := by
  rw [List.take_add_one, h]; simp
theorem cutOf_ok (l : List UInt8) (h : has 10 l = false) : (cutOf l).2.2 = (has 58 l && goodKey (ahead 58 l)) := by
  unfold cutOf has at *
  rw [h]
  rcases h1 : l.contains 58 with _ | _ <;> rcases h2 : goodKey (ahead 58 l) with _ | _ <;> simp
theorem begins_yes (s : ByteArray) (h : 0 < s.size) (e : ((s[0].toNat : Int) == 35) = true) : begins 35 s.data.toList = true := by
  obtain ⟨t, ht⟩ := data_cons s h
  rw [ht]; simp only [begins, beq_iff_eq]; exact byte_is 35 (by simpa using e)
theorem begins_no (s : ByteArray) (h : 0 < s.size) (e : ((s[0].toNat : Int) == 35) = false) : begins 35 s.data.toList = false := by
  obtain ⟨t, ht⟩ := data_cons s h
  rw [ht]; simp only [begins, beq_eq_false_iff_ne]; exact byte_not 35 (by simpa using e)
theorem blankHead_of (s : ByteArray) (h : 0 < s.size) : blankHead s.data.toList = isBlank s[0] := by
  obtain ⟨t, ht⟩ := data_cons s h
  rw [ht]; rfl
end Go.Proofs.YtboiaoaephimhaaDoor.B
