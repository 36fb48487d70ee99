/- Plain facts on lists of bytes for the layer of lines: which kind a line is of, which keys are good, how a text is cut into lines. No program is named here; nothing is assumed. Footprints: which blocks of the heap belong to which part of a thing that is built of many blocks. A colouring gives each block of the thing its part's number; what has no colour does not change. No program is named here. -/
import Derived.Lib.Strings
import Derived.Lib.Index
import Derived.Lib.CutLaws
import Derived.Lib.CountLaws
import Derived.Lib.SlTrimSet
import Derived.Below
import Derived.Laws.AppendOwn
import Derived.Deep.AppendLies
import Derived.Maps.OwnSet
import Derived.Maps.Range
namespace Go.Proofs.YtklbbcemacpimaaGreatDoor.B

/-- Is a byte a blank? -/
def isBlank (c : UInt8) : Bool := c == 32 || c == 9
/-- Is a key good? -/
def goodKey (k : List UInt8) : Bool :=
  match k with
  | [] => false
  | c :: _ => decide (k.length ≤ 32) && !isBlank c && !(c == 35) && !k.contains 58 && !k.contains 10
/-- What stands ahead of the first byte c. -/
def ahead (c : UInt8) (l : List UInt8) : List UInt8 := l.takeWhile (· != c)
/-- What stands behind it. -/
def behind (c : UInt8) (l : List UInt8) : List UInt8 := (l.dropWhile (· != c)).tail
/-- A line's kind. -/
def kindOf (l : List UInt8) : Nat :=
  if l.contains 10 then 5 else if l.all isBlank then 1 else
  match l with
  | [] => 1
  | c :: _ => if c == 35 then 2 else if isBlank c then 3 else if l.contains 58 && goodKey (ahead 58 l) then 4 else 5
/-- A text's lines: each one's bytes, and whether a line end is behind it. -/
def linesOf : Nat → List UInt8 → List (List UInt8 × Bool)
  | 0, _ => []
  | f + 1, l => if l.isEmpty then [] else (ahead 10 l, l.contains 10) :: linesOf f (behind 10 l)

theorem ahead_append (c : UInt8) (l : List UInt8) (h : l.contains c = true) : ahead c l ++ c :: behind c l = l := by
  induction l with
  | nil => simp at h
  | cons x t ih =>
    by_cases hx : x = c
    · subst hx; simp [ahead, behind]
    · have h' : t.contains c = true := by
        simp only [List.contains_cons, Bool.or_eq_true, beq_iff_eq] at h
        rcases h with h | h
        · exact absurd h.symm hx
        · exact h
      have := ih h'
      unfold ahead behind at *
      simp [hx, this]
theorem ahead_not (c : UInt8) (l : List UInt8) : (ahead c l).contains c = false := by
  induction l with
  | nil => rfl
  | cons x t ih =>
    unfold ahead at *
    by_cases hx : x = c
    · simp [hx]
    · simp only [List.takeWhile_cons, bne_iff_ne, ne_eq, hx, not_false_eq_true, if_true, List.contains_cons]
      rw [ih]; simp; exact fun h => hx h.symm
theorem ahead_none (c : UInt8) (l : List UInt8) (h : l.contains c = false) : ahead c l = l := by
  induction l with
  | nil => rfl
  | cons x t ih =>
    simp only [List.contains_cons, Bool.or_eq_false_iff, beq_eq_false_iff_ne] at h
    unfold ahead at *
    rw [List.takeWhile_cons, if_pos (by simpa using fun e => h.1 e.symm), ih h.2]
theorem behind_none (c : UInt8) (l : List UInt8) (h : l.contains c = false) : behind c l = [] := by
  induction l with
  | nil => rfl
  | cons x t ih =>
    simp only [List.contains_cons, Bool.or_eq_false_iff, beq_eq_false_iff_ne] at h
    unfold behind at *
    rw [List.dropWhile_cons, if_pos (by simpa using fun e => h.1 e.symm), ih h.2]
theorem ahead_le (c : UInt8) (l : List UInt8) : (ahead c l).length ≤ l.length := List.takeWhile_prefix _ |>.length_le
/-- The first place of a byte, as a length. -/
theorem ahead_eq_take (c : UInt8) (l : List UInt8) (i : Nat) (h : l[i]? = some c) (hn : ∀ j : Nat, j < i → l[j]? ≠ some c) : ahead c l = l.take i := by
  induction l generalizing i with
  | nil => simp at h
  | cons x t ih =>
    unfold ahead at *
    cases i with
    | zero => simp at h; simp [h]
    | succ i =>
      have hx : x ≠ c := by have := hn 0 (by omega); simpa using this
      rw [List.takeWhile_cons, if_pos (by simpa using hx), List.take_succ_cons, ih i (by simpa using h) (fun j hj => by have := hn (j + 1) (by omega); simpa using this)]
theorem behind_eq_drop (c : UInt8) (l : List UInt8) (i : Nat) (h : l[i]? = some c) (hn : ∀ j : Nat, j < i → l[j]? ≠ some c) : behind c l = l.drop (i + 1) := by
  induction l generalizing i with
  | nil => simp at h
  | cons x t ih =>
    unfold behind at *
    cases i with
    | zero => simp at h; simp [h]
    | succ i =>
      have hx : x ≠ c := by have := hn 0 (by omega); simpa using this
      rw [List.dropWhile_cons, if_pos (by simpa using hx), List.drop_succ_cons, ih i (by simpa using h) (fun j hj => by have := hn (j + 1) (by omega); simpa using this)]
theorem contains_of_get (c : UInt8) (l : List UInt8) (i : Nat) (h : l[i]? = some c) : l.contains c = true := by
  rw [List.contains_iff_mem]; exact List.mem_of_getElem? h
theorem not_contains_of (c : UInt8) (l : List UInt8) (h : ∀ j : Nat, j < l.length → l[j]? ≠ some c) : l.contains c = false := by
  rw [Bool.eq_false_iff, ne_eq, List.contains_iff_mem]
  intro hm
  obtain ⟨j, hj, he⟩ := List.mem_iff_getElem.1 hm
  exact h j hj (by rw [List.getElem?_eq_getElem hj, he])
theorem get_of_contains (c : UInt8) (l : List UInt8) (h : l.contains c = true) : ∃ i : Nat, l[i]? = some c ∧ ∀ j : Nat, j < i → l[j]? ≠ some c := by
  induction l with
  | nil => simp at h
  | cons x t ih =>
    by_cases hx : x = c
    · exact ⟨0, by simp [hx], fun j hj => absurd hj (Nat.not_lt_zero _)⟩
    · have h' : t.contains c = true := by
        simp only [List.contains_cons, Bool.or_eq_true, beq_iff_eq] at h
        rcases h with h | h
        · exact absurd h.symm hx
        · exact h
      obtain ⟨i, hi, hn⟩ := ih h'
      refine ⟨i + 1, by simpa using hi, fun j hj => ?_⟩
      cases j with
      | zero => simpa using hx
      | succ j => simpa using hn j (by omega)
/-! ### Of strings: bytes by their place -/
theorem get_data (s : ByteArray) (k : Nat) (h : k < s.size) : s.data.toList[k]? = some s[k] := by
  rw [Array.getElem?_toList, Array.getElem?_eq_getElem h]; rfl
theorem byte_eq (c d : UInt8) : ((c.toNat : Int) == (d.toNat : Int)) = (c == d) := by
  rw [Bool.eq_iff_iff]; simp [← UInt8.toNat_inj]; omega
theorem byte_is {c : UInt8} (n : Nat) (h : (c.toNat : Int) = n) (hn : n < 256 := by decide) : c = UInt8.ofNat n := by
  rw [← UInt8.toNat_inj, UInt8.toNat_ofNat']; omega
theorem byte_not {c : UInt8} (n : Nat) (h : ¬ (c.toNat : Int) = n) (hn : n < 256 := by decide) : c ≠ UInt8.ofNat n := by
  intro e; apply h; rw [e, UInt8.toNat_ofNat']; omega
theorem get_is (s : ByteArray) (k : Nat) (hk : k < s.size) (n : Nat) (h : (s[k].toNat : Int) = n) (hn : n < 256 := by decide) : s.data.toList[k]? = some (UInt8.ofNat n) := by
  rw [get_data s k hk, byte_is n h hn]
theorem get_not (s : ByteArray) (k : Nat) (hk : k < s.size) (n : Nat) (h : ¬ (s[k].toNat : Int) = n) (hn : n < 256 := by decide) : s.data.toList[k]? ≠ some (UInt8.ofNat n) := by
  rw [get_data s k hk]; intro e; exact byte_not n h hn (by simpa using e)
theorem get_isb (s : ByteArray) (k : Nat) (hk : k < s.size) (n : Nat) (h : ((s[k].toNat : Int) == (n : Int)) = true) (hn : n < 256 := by decide) : s.data.toList[k]? = some (UInt8.ofNat n) :=
  get_is s k hk n (by simpa using h) hn
theorem get_notb (s : ByteArray) (k : Nat) (hk : k < s.size) (n : Nat) (h : ((s[k].toNat : Int) == (n : Int)) = false) (hn : n < 256 := by decide) : s.data.toList[k]? ≠ some (UInt8.ofNat n) :=
  get_not s k hk n (by simpa using h) hn
theorem size_len (s : ByteArray) : s.data.toList.length = s.size := by rw [Array.length_toList]; rfl
theorem data_cons (s : ByteArray) (h : 0 < s.size) : ∃ t, s.data.toList = s[0] :: t := by
  have := get_data s 0 h
  cases hl : s.data.toList with
  | nil => rw [hl] at this; simp at this
  | cons x t => rw [hl] at this; simp at this; exact ⟨t, by rw [this]⟩
theorem key_none (s : ByteArray) (h : (s.size : Int) < 1) : goodKey s.data.toList = false := by
  have : s.data.toList = [] := by rw [← List.length_eq_zero_iff, size_len]; omega
  rw [this]; rfl
theorem key_long (s : ByteArray) (h : 32 < (s.size : Int)) : goodKey s.data.toList = false := by
  obtain ⟨t, ht⟩ := data_cons s (by omega)
  have hl := size_len s
  rw [ht] at hl ⊢
  have : ¬ (s[0] :: t).length ≤ 32 := by omega
  simp only [goodKey]; rw [decide_eq_false this]; rfl
theorem key_blank (s : ByteArray) (h : 0 < s.size) (hb : isBlank s[0] = true) : goodKey s.data.toList = false := by
  obtain ⟨t, ht⟩ := data_cons s h
  rw [ht]; simp [goodKey, hb]
theorem key_hash (s : ByteArray) (h : 0 < s.size) (hb : s[0] = 35) : goodKey s.data.toList = false := by
  obtain ⟨t, ht⟩ := data_cons s h
  rw [ht]; simp [goodKey, hb]
theorem key_has (l : List UInt8) (k : Nat) (hb : l[k]? = some 58 ∨ l[k]? = some 10) : goodKey l = false := by
  cases l with
  | nil => rfl
  | cons c t =>
    simp only [goodKey]
    rcases hb with hb | hb
    · rw [contains_of_get _ _ _ hb]; simp
    · rw [contains_of_get _ _ _ hb]; simp
/-- None of the first k bytes is a colon or a line end. -/
def Clean (l : List UInt8) (k : Nat) : Prop := ∀ j : Nat, j < k → l[j]? ≠ some 58 ∧ l[j]? ≠ some 10
theorem Clean.zero (l : List UInt8) : Clean l 0 := fun _ h => absurd h (Nat.not_lt_zero _)
theorem Clean.succ {l : List UInt8} {k : Nat} (h : Clean l k) (h1 : l[k]? ≠ some 58) (h2 : l[k]? ≠ some 10) : Clean l (k + 1) := fun j hj => by
  rcases Nat.lt_or_ge j k with hl | hl
  · exact h j hl
  · obtain rfl : j = k := by omega
    exact ⟨h1, h2⟩
theorem key_good (s : ByteArray) (h0 : 0 < s.size) (h1 : (s.size : Int) ≤ 32) (h2 : ¬ isBlank s[0] = true) (h3 : s[0] ≠ 35) (h4 : Clean s.data.toList s.size) : goodKey s.data.toList = true := by
  obtain ⟨t, ht⟩ := data_cons s h0
  have hl := size_len s
  have c58 : s.data.toList.contains 58 = false := not_contains_of _ _ fun j hj => (h4 j (by omega)).1
  have c10 : s.data.toList.contains 10 = false := not_contains_of _ _ fun j hj => (h4 j (by omega)).2
  rw [ht] at hl c58 c10 ⊢
  have hle : (s[0] :: t).length ≤ 32 := by omega
  simp only [goodKey]
  rw [c58, c10, decide_eq_true hle]
  simp [h2, h3]
/-- What stands ahead of a line's first colon, and behind it; false: that is no good key. -/
def cutOf (l : List UInt8) : List UInt8 × List UInt8 × Bool :=
  if l.contains 10 then ([], [], false) else if l.contains 58 && goodKey (ahead 58 l) then (ahead 58 l, behind 58 l, true) else ([], [], false)
/-- None of the first k bytes is this one. -/
def Free (c : UInt8) (l : List UInt8) (k : Nat) : Prop := ∀ j : Nat, j < k → l[j]? ≠ some c
theorem Free.zero (c : UInt8) (l : List UInt8) : Free c l 0 := fun _ h => absurd h (Nat.not_lt_zero _)
theorem Free.succ {c : UInt8} {l : List UInt8} {k : Nat} (h : Free c l k) (h1 : l[k]? ≠ some c) : Free c l (k + 1) := fun j hj => by
  rcases Nat.lt_or_ge j k with hl | hl
  · exact h j hl
  · obtain rfl : j = k := by omega
    exact h1
theorem Free.none {c : UInt8} {l : List UInt8} {k : Nat} (h : Free c l k) (hk : l.length ≤ k) : l.contains c = false := not_contains_of _ _ fun j hj => h j (by omega)
theorem cut_end {l : List UInt8} {k : Nat} (h : l[k]? = some 10) : cutOf l = ([], [], false) := by
  unfold cutOf; rw [contains_of_get _ _ _ h]; rfl
theorem cut_none {l : List UInt8} {k : Nat} (h : l.contains 10 = false) (hf : Free 58 l k) (hk : l.length ≤ k) : cutOf l = ([], [], false) := by
  unfold cutOf; rw [h, hf.none hk]; rfl
theorem cut_bad {l : List UInt8} {k : Nat} (h : l.contains 10 = false) (hf : Free 58 l k) (hk : l[k]? = some 58) (hb : goodKey (l.take k) = false) : cutOf l = ([], [], false) := by
  unfold cutOf; rw [h, ahead_eq_take _ _ _ hk hf, hb]; simp
theorem cut_good {l : List UInt8} {k : Nat} (h : l.contains 10 = false) (hf : Free 58 l k) (hk : l[k]? = some 58) (hb : goodKey (l.take k) = true) : cutOf l = (l.take k, l.drop (k + 1), true) := by
  unfold cutOf; rw [h, ahead_eq_take _ _ _ hk hf, hb, contains_of_get _ _ _ hk, behind_eq_drop _ _ _ hk hf]; rfl
theorem extract_take (s : ByteArray) (k : Nat) : s.extract 0 k = ⟨(s.data.toList.take k).toArray⟩ := by rw [Lib.extract_eq]; simp
theorem extract_drop (s : ByteArray) (k : Nat) : s.extract k s.size = ⟨(s.data.toList.drop k).toArray⟩ := by
  rw [Lib.extract_eq, List.take_of_length_le (by rw [List.length_drop, size_len]; exact Nat.le_refl _)]
theorem take_size_le (s : ByteArray) (k : Nat) : (s.extract 0 k).size ≤ s.size := by
  rw [extract_take, ← size_len, ← size_len]; simp; omega
theorem extract_take_data (s : ByteArray) (k : Nat) : (s.extract 0 k).data.toList = s.data.toList.take k := by rw [extract_take]
/-- Does a text begin with a blank? -/
def blankHead (l : List UInt8) : Bool := match l with | [] => false | c :: _ => isBlank c
/-- Does a text hold this byte? -/
def has (c : UInt8) (l : List UInt8) : Bool := l.contains c
/-- Does a text begin with this byte? -/
def begins (c : UInt8) (l : List UInt8) : Bool := match l with | [] => false | x :: _ => x == c
theorem goodKey_eq (l : List UInt8) : goodKey l = (!l.isEmpty && decide (l.length ≤ 32) && !blankHead l && !begins 35 l && !has 58 l && !has 10 l) := by
  cases l with
  | nil => rfl
  | cons c t => simp only [goodKey, List.isEmpty_cons, blankHead, begins, has, Bool.not_false, Bool.true_and]
theorem kindOf_eq (l : List UInt8) : kindOf l = if has 10 l then 5 else if l.all isBlank then 1 else if begins 35 l then 2 else if blankHead l then 3 else if has 58 l && goodKey (ahead 58 l) then 4 else 5 := by
  cases l with
  | nil => rfl
  | cons c t => rfl
theorem all_take_succ (l : List UInt8) (k : Nat) (c : UInt8) (h : l[k]? = some c) : (l.take (k + 1)).all isBlank = ((l.take k).all isBlank && isBlank c) := by
  rw [List.take_add_one, h]; simp
theorem cutOf_ok (l : List UInt8) (h : has 10 l = false) : (cutOf l).2.2 = (has 58 l && goodKey (ahead 58 l)) := by
  unfold cutOf has at *
  rw [h]
  rcases h1 : l.contains 58 with _ | _ <;> rcases h2 : goodKey (ahead 58 l) with _ | _ <;> simp
theorem begins_yes (s : ByteArray) (h : 0 < s.size) (e : ((s[0].toNat : Int) == 35) = true) : begins 35 s.data.toList = true := by
  obtain ⟨t, ht⟩ := data_cons s h
  rw [ht]; simp only [begins, beq_iff_eq]; exact byte_is 35 (by simpa using e)
theorem begins_no (s : ByteArray) (h : 0 < s.size) (e : ((s[0].toNat : Int) == 35) = false) : begins 35 s.data.toList = false := by
  obtain ⟨t, ht⟩ := data_cons s h
  rw [ht]; simp only [begins, beq_eq_false_iff_ne]; exact byte_not 35 (by simpa using e)
theorem blankHead_of (s : ByteArray) (h : 0 < s.size) : blankHead s.data.toList = isBlank s[0] := by
  obtain ⟨t, ht⟩ := data_cons s h
  rw [ht]; rfl
end Go.Proofs.YtklbbcemacpimaaGreatDoor.B

namespace Go.Proofs.YtklbbcemacpimaaGreatDoor.B
open Go.RowKit

/-- A colouring of the blocks: none: not of the thing. -/
abbrev Col := Nat → Option Nat
/-- What has no colour is as it was. -/
structure Kept (ρ : Col) (w w' : World) : Prop where
  os : w'.os = w.os
  tape : w'.tape = w.tape
  output : w'.output = w.output
  size : w.heap.size ≤ w'.heap.size
  block : ∀ k, k < w.heap.size → ρ k = none → w'.heap[k]? = w.heap[k]?
/-- What was there keeps its colour. -/
def Ext (w : World) (ρ ρ' : Col) : Prop := ∀ k, k < w.heap.size → ρ' k = ρ k
theorem Ext.refl (w : World) (ρ : Col) : Ext w ρ ρ := fun _ _ => rfl
theorem Ext.trans {w w' : World} {ρ ρ' ρ'' : Col} (h : Ext w ρ ρ') (h' : Ext w' ρ' ρ'') (hs : w.heap.size ≤ w'.heap.size) : Ext w ρ ρ'' :=
  fun k hk => (h' k (by omega)).trans (h k hk)
theorem Kept.refl (ρ : Col) (w : World) : Kept ρ w w := ⟨rfl, rfl, rfl, Nat.le_refl _, fun _ _ _ => rfl⟩
theorem Kept.trans {ρ ρ' : Col} {a b c : World} (h : Kept ρ a b) (he : Ext a ρ ρ') (k : Kept ρ' b c) : Kept ρ a c :=
  ⟨k.os.trans h.os, k.tape.trans h.tape, k.output.trans h.output, Nat.le_trans h.size k.size, fun i hi hn => (k.block i (Nat.lt_of_lt_of_le hi h.size) ((he i hi).trans hn)).trans (h.block i hi hn)⟩
theorem Kept.then {ρ : Col} {a b c : World} (h : Kept ρ a b) (k : Kept ρ b c) : Kept ρ a c := h.trans (Ext.refl _ _) k
theorem Kept.below {ρ : Col} {w w' : World} (h : Below w.heap.size w w') : Kept ρ w w' := ⟨h.os, h.tape, h.output, h.size, fun k hk _ => h.block k hk⟩
theorem Kept.toBelow {ρ : Col} {w w' : World} {B : Nat} (h : Kept ρ w w') (hB : B ≤ w.heap.size) (hρ : ∀ k, k < B → ρ k = none) : Below B w w' :=
  ⟨h.os, h.tape, h.output, h.size, fun k hk => h.block k (by omega) (hρ k hk)⟩
theorem Kept.grown {ρ : Col} {w w' : World} {row : Option Nat} (h : w.grownBy w' row) (hr : ∀ k, row = some k → ρ k ≠ none) : Kept ρ w w' :=
  ⟨h.os, h.tape, h.output, h.size, fun k hk hn => h.block k hk (fun e => hr k e.symm hn)⟩
theorem Kept.setCell {ρ : Col} {w : World} {a : Addr} {v : Value} (h : ρ a.block ≠ none) : Kept ρ w (w.setCell a v) :=
  ⟨rfl, rfl, rfl, by simp [World.setCell], fun k _ hn => Below.heap_setCell _ _ _ _ (fun e => h (e ▸ hn))⟩
theorem Kept.mono {ρ σ : Col} {w w' : World} (h : Kept ρ w w') (hs : ∀ k, σ k = none → ρ k = none) : Kept σ w w' :=
  ⟨h.os, h.tape, h.output, h.size, fun k hk hn => h.block k hk (hs k hn)⟩
/-- Only the blocks of one colour (and new ones) have changed. -/
def Only (c : Nat) (ρ : Col) : Col := fun k => if ρ k = some c then some c else none
theorem only_none {c : Nat} {ρ : Col} {k : Nat} (h : ρ k ≠ some c) : Only c ρ k = none := if_neg h
theorem only_some {c : Nat} {ρ : Col} {k : Nat} (h : ρ k = some c) : Only c ρ k = some c := if_pos h
theorem Kept.wide {ρ : Col} {c : Nat} {w w' : World} (h : Kept (Only c ρ) w w') : Kept ρ w w' :=
  h.mono fun k hk => only_none (by rw [hk]; exact fun e => by cases e)
/-- A block of the thing, known whole. -/
def Blk (w : World) (ρ : Col) (c b : Nat) (o : Obj) : Prop := w.heap[b]? = some o ∧ ρ b = some c
theorem Blk.lt {w : World} {ρ : Col} {c b : Nat} {o : Obj} (h : Blk w ρ c b o) : b < w.heap.size := (Array.getElem?_eq_some_iff.1 h.1).1
theorem Blk.keep {w w' : World} {ρ ρ' σ : Col} {c b : Nat} {o : Obj} (h : Blk w ρ c b o) (he : Ext w ρ ρ') (k : Kept σ w w') (hσ : σ b = none) : Blk w' ρ' c b o :=
  ⟨(k.block b h.lt hσ).trans h.1, (he b h.lt).trans h.2⟩
/-- A row of the thing. -/
def Row (w : World) (ρ : Col) (c : Nat) (e : TypeId) (size : Nat) (v : Value) (n : Nat) (xs : List Value) : Prop :=
  w.ownsRow 0 e size v n xs ∧ ∀ g, v.ownBlock = some g → ρ g = some c
theorem ownsRow_of_block {w w' : World} {base : Nat} {e : TypeId} {size : Nat} {v : Value} {n : Nat} {xs : List Value} (h : w.ownsRow base e size v n xs) (hk : ∀ g, v.ownBlock = some g → w'.heap[g]? = w.heap[g]?) : w'.ownsRow base e size v n xs := by
  refine ⟨h.1, ?_⟩
  rcases h.2 with h0 | ⟨g, cap, cur, rfl, hb, hg, r⟩
  · exact .inl h0
  · exact .inr ⟨g, cap, cur, rfl, hb, (hk g rfl).trans hg, r⟩
theorem Row.keep {w w' : World} {ρ ρ' σ : Col} {c : Nat} {e : TypeId} {size : Nat} {v : Value} {n : Nat} {xs : List Value} (h : Row w ρ c e size v n xs) (he : Ext w ρ ρ') (k : Kept σ w w') (hσ : ∀ g, ρ g = some c → σ g = none) : Row w' ρ' c e size v n xs :=
  ⟨ownsRow_of_block h.1 fun g hg => k.block g (h.1.lt g hg).2 (hσ g (h.2 g hg)), fun g hg => (he g (h.1.lt g hg).2).trans (h.2 g hg)⟩
theorem Row.nil (w : World) (ρ : Col) (c : Nat) (e : TypeId) (size : Nat) : Row w ρ c e size (.slice none 0 0) 0 [] :=
  ⟨World.ownsRow_nil w 0 e size, fun g hg => by simp [Value.ownBlock] at hg⟩
/-- A map of the thing. -/
def MapIs (w : World) (ρ : Col) (c : Nat) (P : Program) (k : TypeId) (R : Value → Option (DataW Unit × List MemPlace)) (b n : Nat) (D : DataW Unit) : Prop := w.ownsMap P k R b n D ∧ ρ b = some c
theorem ownsMap_of_block {H : Type} {w w' : World} {P : Program} {k : TypeId} {R : Value → Option (DataW H × List MemPlace)} {b n : Nat} {D : DataW H} (h : w.ownsMap P k R b n D) (hk : w'.heap[b]? = w.heap[b]?) : w'.ownsMap P k R b n D := by
  obtain ⟨es, clock, hb, r⟩ := h
  exact ⟨es, clock, hk.trans hb, r⟩
theorem MapIs.keep {w w' : World} {ρ ρ' σ : Col} {c : Nat} {P : Program} {k : TypeId} {R : Value → Option (DataW Unit × List MemPlace)} {b n : Nat} {D : DataW Unit} (h : MapIs w ρ c P k R b n D) (he : Ext w ρ ρ') (ke : Kept σ w w') (hσ : σ b = none) : MapIs w' ρ' c P k R b n D :=
  ⟨ownsMap_of_block h.1 (ke.block b h.1.lt hσ), (he b h.1.lt).trans h.2⟩
/-- A new block gets a colour. -/
def paint (ρ : Col) (b c : Nat) : Col := fun k => if k = b then some c else ρ k
theorem paint_here (ρ : Col) (b c : Nat) : paint ρ b c b = some c := if_pos rfl
theorem paint_else (ρ : Col) {b c k : Nat} (h : k ≠ b) : paint ρ b c k = ρ k := if_neg h
theorem paint_ext {w : World} (ρ : Col) {b : Nat} (c : Nat) (h : w.heap.size ≤ b) : Ext w ρ (paint ρ b c) := fun k hk => paint_else ρ (by omega)
/-- Nothing beyond the heap has a colour. -/
def Fits (w : World) (ρ : Col) : Prop := ∀ k, ρ k ≠ none → k < w.heap.size
theorem Fits.more {w w' : World} {ρ : Col} (h : Fits w ρ) (hs : w.heap.size ≤ w'.heap.size) : Fits w' ρ := fun k hk => Nat.lt_of_lt_of_le (h k hk) hs
theorem Fits.paint {w : World} {ρ : Col} {b c : Nat} (h : Fits w ρ) (hb : b < w.heap.size) : Fits w (paint ρ b c) := fun k hk => by
  by_cases e : k = b
  · rw [e]; exact hb
  · exact h k (by rw [paint_else ρ e] at hk; exact hk)
/-- Behind an append: the row lies where it lay, or in a new block, which gets the row's colour. -/
theorem Row.append {w w' : World} {ρ : Col} {c : Nat} {e : TypeId} {size : Nat} {v : Value} {n : Nat} {xs : List Value} (h : Row w ρ c e size v n xs)
    {g m cap : Nat} {ys : List Value} (hown : w'.ownsRow 0 e size (.slice (some ⟨g, 0, none⟩) m cap) m ys) (hgrow : w.grownBy w' v.ownBlock) (hat : v.ownBlock = some g ∨ w.heap.size ≤ g) :
    Row w' (paint ρ g c) c e size (.slice (some ⟨g, 0, none⟩) m cap) m ys ∧ Ext w ρ (paint ρ g c) ∧ Kept (Only c ρ) w w' := by
  refine ⟨⟨hown, fun g' hg' => ?_⟩, fun k hk => ?_, Kept.grown hgrow fun k hk => ?_⟩
  · simp only [Value.ownBlock, Option.some.injEq] at hg'
    rw [← hg']; exact paint_here _ _ _
  · by_cases e : k = g
    · rw [e, paint_here]
      rcases hat with hat | hat
      · exact (h.2 g hat).symm
      · omega
    · exact paint_else ρ e
  · rw [only_some (h.2 k hk)]; exact fun e => by cases e
/-- Only the blocks of some colours (and new ones) have changed. -/
def Those (p : Nat → Bool) (ρ : Col) : Col := fun k => (ρ k).filter p
theorem those_none {p : Nat → Bool} {ρ : Col} {k : Nat} (h : ∀ c, ρ k = some c → p c = false) : Those p ρ k = none := by
  unfold Those
  cases hk : ρ k with
  | none => rfl
  | some c => simp [Option.filter, h c hk]
theorem those_at {p : Nat → Bool} {ρ : Col} {k c : Nat} (h : ρ k = some c) (hp : p c = false) : Those p ρ k = none := those_none fun c' h' => by rw [h] at h'; cases h'; exact hp
theorem those_some {p : Nat → Bool} {ρ : Col} {k c : Nat} (h : ρ k = some c) (hp : p c = true) : Those p ρ k = some c := by
  unfold Those; rw [h]; simp [Option.filter, hp]
theorem Ext.those {w : World} {ρ ρ' : Col} (h : Ext w ρ ρ') (p : Nat → Bool) : Ext w (Those p ρ) (Those p ρ') := fun k hk => by unfold Those; rw [h k hk]
theorem Kept.only {p : Nat → Bool} {ρ : Col} {c : Nat} {w w' : World} (h : Kept (Only c ρ) w w') (hp : p c = true) : Kept (Those p ρ) w w' :=
  h.mono fun k hk => only_none fun e => by rw [those_some e hp] at hk; cases hk
theorem Kept.those {p : Nat → Bool} {ρ : Col} {w w' : World} (h : Kept (Those p ρ) w w') : Kept ρ w w' :=
  h.mono fun k hk => those_none fun c hc => by rw [hk] at hc; cases hc
theorem Kept.thoseTrans {p : Nat → Bool} {ρ ρ' : Col} {a b c : World} (h : Kept (Those p ρ) a b) (he : Ext a ρ ρ') (k : Kept (Those p ρ') b c) : Kept (Those p ρ) a c := h.trans (he.those p) k
end Go.Proofs.YtklbbcemacpimaaGreatDoor.B
