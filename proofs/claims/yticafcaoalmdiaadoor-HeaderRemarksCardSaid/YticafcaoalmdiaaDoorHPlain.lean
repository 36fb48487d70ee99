/- Plain facts on lists of bytes for the layer of headers: decimal numerals, and which texts begin with a header. No program is named here; nothing is assumed. -/
import Derived.Lib.Strings
import Derived.Lib.IndexMore
import Derived.Lib.CutLaws
import Derived.Lib.AtoiTie
import Derived.Lib.ItoaLen
import Derived.WalkKit
namespace Go.Proofs.YticafcaoalmdiaaDoor.H
open Go.RowKit

/-! ### Numerals -/
theorem digitVal_dig (d : Nat) (h : d < 10) : Lib.digitVal (UInt8.ofNat (48 + d)) = some d := by
  unfold Lib.digitVal
  have : (UInt8.ofNat (48 + d)).toNat = 48 + d := by rw [UInt8.toNat_ofNat']; omega
  rw [this, if_pos (by omega)]
  congr 1
  omega
theorem decFrom_snoc (b : UInt8) : ∀ (l : List UInt8) (acc : Nat), Lib.decFrom acc (l ++ [b]) = (Lib.decFrom acc l).bind fun n => (Lib.digitVal b).map fun d => n * 10 + d
  | [], acc => by
    simp only [List.nil_append, Lib.decFrom, Option.bind_some]
    cases Lib.digitVal b <;> rfl
  | c :: r, acc => by
    simp only [List.cons_append, Lib.decFrom]
    cases Lib.digitVal c with
    | none => rfl
    | some d => exact decFrom_snoc b r _
theorem decFrom_decDigits (u : Nat) : Lib.decFrom 0 (Lib.decDigits u) = some u := by
  induction u using Nat.strongRecOn with
  | _ u ih =>
    by_cases h : u < 10
    · rw [Lib.decDigits, dif_pos h]
      simp only [Lib.decFrom, digitVal_dig u h]
      congr 1
      omega
    · rw [Lib.decDigits, dif_neg h, decFrom_snoc, ih (u / 10) (by omega), digitVal_dig (u % 10) (by omega)]
      simp only [Option.bind_some, Option.map_some]
      congr 1
      omega
theorem decDigits_ne (u : Nat) : Lib.decDigits u ≠ [] := by
  intro h
  have := Lib.decDigits_length u
  rw [h] at this
  have := Lib.nDigits_pos u
  simp at *
  omega
theorem decDigits_digit (u : Nat) (c : UInt8) (h : c ∈ Lib.decDigits u) : 48 ≤ c.toNat ∧ c.toNat ≤ 57 := by
  obtain ⟨k, hk⟩ := List.mem_iff_getElem?.1 h
  obtain ⟨d, hd⟩ := Lib.digit_of_decFrom _ _ _ (decFrom_decDigits u) k c hk
  unfold Lib.digitVal at hd
  split at hd
  · assumption
  · cases hd
theorem decDigits_inj {a b : Nat} (h : Lib.decDigits a = Lib.decDigits b) : a = b := by
  have h1 := decFrom_decDigits a
  rw [h, decFrom_decDigits b] at h1
  exact (Option.some.inj h1).symm
theorem decDigits_short (u : Nat) (h : u ≤ 2147483648) : (Lib.decDigits u).length ≤ 18 := by
  rw [Lib.decDigits_length]
  rcases Nat.lt_or_ge (Lib.nDigits u) 19 with hl | hl
  · omega
  · exfalso
    by_cases h0 : u = 0
    · subst h0; rw [Lib.nDigits_small (by decide)] at hl; omega
    · have hle : Lib.nDigits u ≤ 10 := by
        rcases Nat.lt_or_ge u 10 with g | g
        · rw [Lib.nDigits_small g]; omega
        · have := @Lib.nDigits_unique
          have key : ∀ k : Nat, k ≤ 9 → 10 ^ k ≤ u → u < 10 ^ (k + 1) → Lib.nDigits u ≤ 10 := fun k hk a b => by rw [this k u a b]; omega
          rcases Nat.lt_or_ge u (10 ^ 2) with g1 | g1; · exact key 1 (by omega) (by omega) g1
          rcases Nat.lt_or_ge u (10 ^ 3) with g2 | g2; · exact key 2 (by omega) g1 g2
          rcases Nat.lt_or_ge u (10 ^ 4) with g3 | g3; · exact key 3 (by omega) g2 g3
          rcases Nat.lt_or_ge u (10 ^ 5) with g4 | g4; · exact key 4 (by omega) g3 g4
          rcases Nat.lt_or_ge u (10 ^ 6) with g5 | g5; · exact key 5 (by omega) g4 g5
          rcases Nat.lt_or_ge u (10 ^ 7) with g6 | g6; · exact key 6 (by omega) g5 g6
          rcases Nat.lt_or_ge u (10 ^ 8) with g7 | g7; · exact key 7 (by omega) g6 g7
          rcases Nat.lt_or_ge u (10 ^ 9) with g8 | g8; · exact key 8 (by omega) g7 g8
          exact key 9 (by omega) g8 (by omega)
      omega
theorem atoi_dec (u : Nat) (h : u ≤ 2147483648) : Lib.atoiAll (Lib.decDigits u) = .ok (u : Int) := by
  rw [Lib.atoiAll_short _ (decDigits_short u h)]
  have hd := decFrom_decDigits u
  have hc := decDigits_digit u
  cases hl : Lib.decDigits u with
  | nil => exact absurd hl (decDigits_ne u)
  | cons b r =>
    rw [hl] at hd hc
    have hb := hc b (List.mem_cons_self ..)
    have h1 : (b == 45) = false := by
      rw [beq_eq_false_iff_ne]; intro e; rw [e] at hb; revert hb; decide
    have h2 : (b == 43) = false := by
      rw [beq_eq_false_iff_ne]; intro e; rw [e] at hb; revert hb; decide
    simp only [Lib.atoi, h1, h2, Lib.decNat, List.isEmpty_cons, hd]
    rfl
/-- The number that the reference's loop gathers: the digits' value, negative, each step within 64 bits. -/
def accOf (a : Int) (l : List UInt8) : Int := l.foldl (fun a c => wrap64 (wrap64 (10 * a) - ((c.toNat : Int) - 48))) a
theorem accOf_dec : ∀ (l : List UInt8) (a m : Nat), Lib.decFrom a l = some m → m ≤ 2147483648 → accOf (-(a : Int)) l = -(m : Int) ∧ a ≤ m
  | [], a, m, h, _ => by
    simp only [Lib.decFrom, Option.some.injEq] at h
    subst h
    exact ⟨rfl, Nat.le_refl _⟩
  | c :: r, a, m, h, hm => by
    simp only [Lib.decFrom] at h
    cases hd : Lib.digitVal c with
    | none => rw [hd] at h; cases h
    | some d =>
      rw [hd] at h
      obtain ⟨h1, h2⟩ := accOf_dec r _ m h hm
      have hc : c.toNat = 48 + d ∧ d < 10 := by
        unfold Lib.digitVal at hd
        split at hd
        · have := Option.some.inj hd; omega
        · cases hd
      refine ⟨?_, by omega⟩
      unfold accOf at *
      rw [List.foldl_cons]
      have e : wrap64 (wrap64 (10 * -(a : Int)) - ((c.toNat : Int) - 48)) = -((a * 10 + d : Nat) : Int) := by
        unfold wrap64; omega
      rw [e]
      exact h1

/-! ### Headers -/
/-- What stands ahead of the generation. -/
def mark : List UInt8 := [35, 37, 103, 101, 110, 32]
/-- The header of a generation. -/
def hdr (n : Nat) : List UInt8 := mark ++ Lib.decDigits n ++ [10, 10]
/-- A text begins with the header of generation n, and r is the rest. -/
def Heads (l : List UInt8) (n : Nat) (r : List UInt8) : Prop := 1 ≤ n ∧ n ≤ 2147483648 ∧ l = hdr n ++ r
theorem first_end {a b r s : List UInt8} (ha : (10 : UInt8) ∉ a) (hb : (10 : UInt8) ∉ b) (h : a ++ 10 :: r = b ++ 10 :: s) : a = b ∧ r = s := by
  induction a generalizing b with
  | nil =>
    cases b with
    | nil => simpa using h
    | cons x t =>
      simp only [List.nil_append, List.cons_append, List.cons.injEq] at h
      rw [← h.1] at hb
      simp at hb
  | cons x t ih =>
    cases b with
    | nil =>
      simp only [List.nil_append, List.cons_append, List.cons.injEq] at h
      rw [h.1] at ha
      simp at ha
    | cons y u =>
      simp only [List.cons_append, List.cons.injEq] at h
      obtain ⟨h1, h2⟩ := ih (fun hm => ha (by simp [hm])) (fun hm => hb (by simp [hm])) h.2
      exact ⟨by rw [h.1, h1], h2⟩
theorem head_free (n : Nat) : (10 : UInt8) ∉ mark ++ Lib.decDigits n := by
  intro h
  rcases List.mem_append.1 h with h | h
  · revert h; decide
  · have := (decDigits_digit n _ h).1; revert this; decide
theorem hdr_form (n : Nat) (r : List UInt8) : hdr n ++ r = (mark ++ Lib.decDigits n) ++ 10 :: 10 :: r := by unfold hdr; simp
theorem Heads.inj {l r s : List UInt8} {n m : Nat} (h : Heads l n r) (k : Heads l m s) : n = m ∧ r = s := by
  obtain ⟨_, _, rfl⟩ := h
  obtain ⟨_, _, e⟩ := k
  rw [hdr_form, hdr_form] at e
  obtain ⟨h1, h2⟩ := first_end (head_free n) (head_free m) e
  exact ⟨decDigits_inj (List.append_cancel_left h1), by simpa using h2⟩
/-- The cut of a text that begins with a header. -/
theorem cut_heads {l r : List UInt8} {n : Nat} (h : Heads l n r) : Lib.cut l [10, 10] = (mark ++ Lib.decDigits n, r, true) := by
  obtain ⟨_, _, rfl⟩ := h
  rw [hdr_form]
  have hf := head_free n
  generalize mark ++ Lib.decDigits n = a at *
  have hi : Lib.index (a ++ 10 :: 10 :: r) [10, 10] = (a.length : Int) := by
    refine Lib.index_first (by simp) (by simp [Lib.occAt]) (fun j hj => ?_)
    unfold Lib.occAt
    rw [List.drop_append_of_le_length (by omega)]
    cases hd : a.drop j with
    | nil => have := List.length_drop (i := j) (l := a); rw [hd] at this; simp at this; omega
    | cons x t =>
      have hx : x ∈ a := List.mem_of_mem_drop (by rw [hd]; exact List.mem_cons_self ..)
      have : ((10 : UInt8) == x) = false := by rw [beq_eq_false_iff_ne]; rintro rfl; exact hf hx
      simp [List.isPrefixOf, this]
  unfold Lib.cut
  rw [hi, if_pos (by omega)]
  simp
theorem trim_mark (l : List UInt8) : Lib.trimPrefix (mark ++ l) mark = l := by
  unfold Lib.trimPrefix Lib.hasPrefix
  rw [if_pos (by rw [List.isPrefixOf_iff_prefix]; exact List.prefix_append _ _)]
  simp
/-- What a cut gives, where it finds the mark. -/
theorem cut_back {l : List UInt8} (h : (Lib.cut l [10, 10]).2.2 = true) : l = (Lib.cut l [10, 10]).1 ++ [10, 10] ++ (Lib.cut l [10, 10]).2.1 := by
  rcases Lib.index_spec l [10, 10] with ⟨hi, _⟩ | ⟨i, hi, _, ho, _⟩
  · unfold Lib.cut at h
    rw [hi, if_neg (by omega)] at h
    cases h
  · unfold Lib.cut
    rw [hi, if_pos (by omega)]
    simp only [Int.toNat_natCast]
    unfold Lib.occAt at ho
    obtain ⟨t, ht⟩ := List.isPrefixOf_iff_prefix.1 ho
    have hd : l.drop (i + ([10, 10] : List UInt8).length) = t := by rw [← List.drop_drop, ← ht]; simp
    rw [hd, List.append_assoc, ht, List.take_append_drop]
/-- What both readers of a header answer: the generation and the rest, where the text begins with a header, else 0 and the whole text. -/
def TakeRes (l : List UInt8) (n : Nat) (r : List UInt8) : Prop := Heads l n r ∨ (n = 0 ∧ r = l ∧ ∀ m s, ¬ Heads l m s)
theorem TakeRes.inj {l r s : List UInt8} {n m : Nat} (h : TakeRes l n r) (k : TakeRes l m s) : n = m ∧ r = s := by
  rcases h with h | ⟨rfl, rfl, h⟩
  · rcases k with k | ⟨_, _, k⟩
    · exact h.inj k
    · exact absurd h (k _ _)
  · rcases k with k | ⟨rfl, rfl, _⟩
    · exact absurd k (h _ _)
    · exact ⟨rfl, rfl⟩
/-- The numeral of a number: what a reader of numerals answers. -/
def NumRes (l : List UInt8) (n : Int) (ok : Bool) : Prop := (ok = true → l = Lib.itoa n) ∧ (ok = false → ∀ m : Nat, m ≤ 2147483648 → l ≠ Lib.decDigits m)
end Go.Proofs.YticafcaoalmdiaaDoor.H
