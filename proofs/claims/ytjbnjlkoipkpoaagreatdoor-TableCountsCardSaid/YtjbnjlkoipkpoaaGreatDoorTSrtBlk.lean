/- The plain law of a stable sort: blocks. -/
import Derived.Test.YtjbnjlkoipkpoaaGreatDoorTSrtLaw
namespace Go.Proofs.YtjbnjlkoipkpoaaGreatDoor.T

section
variable {lt : Nat → Nat → Bool}
/-- A block that is sorted and keeps to itself. -/
def SBlk (lt : Nat → Nat → Bool) (d : Nat → Nat) (x y : Nat) : Prop := Srt lt d x y ∧ ∀ p, x ≤ p → p < y → x ≤ d p ∧ d p < y
theorem SBlk.eq {d d' : Nat → Nat} {x y : Nat} (h : SBlk lt d x y) (k : ∀ p, x ≤ p → p < y → d' p = d p) : SBlk lt d' x y :=
  ⟨h.1.eq k, fun p h1 h2 => by rw [k p h1 h2]; exact h.2 p h1 h2⟩
theorem SBlk.crs {d : Nat → Nat} {a m b : Nat} (h : SBlk lt d a m) (k : SBlk lt d m b) : Crs d a m b := fun p q h1 h2 h3 h4 => by
  have := (h.2 p h1 h2).2
  have := (k.2 q h3 h4).1
  omega
theorem SBlk.merged {d d' : Nat → Nat} {a m b : Nat} (h : SBlk lt d a m) (k : SBlk lt d m b) (ha : a ≤ m) (hb : m ≤ b) (s : Srt lt d' a b) (i : Inc d d' a b) : SBlk lt d' a b :=
  ⟨s, fun p h1 h2 => by
    obtain ⟨q, q1, q2, q3⟩ := i.2 p h1 h2
    rw [q3]
    by_cases c : q < m
    · have := h.2 q q1 c
      omega
    · have := k.2 q (by omega) q2
      omega⟩
theorem dvd_gap {c x y : Nat} (hx : c ∣ x) (hy : c ∣ y) (h : x < y) : x + c ≤ y := by
  obtain ⟨i, rfl⟩ := hx
  obtain ⟨j, rfl⟩ := hy
  have h1 : i < j := Nat.lt_of_mul_lt_mul_left h
  have h2 : c * (i + 1) ≤ c * j := Nat.mul_le_mul_left c h1
  rw [Nat.mul_succ] at h2
  exact h2
/-- Up to a, blocks of twice the size; from there on blocks of the size. -/
structure Ph (lt : Nat → Nat → Bool) (n bs a : Nat) (d : Nat → Nat) : Prop where
  bnd : ∀ p, p < n → d p < n
  big : ∀ x, 2 * bs ∣ x → x + 2 * bs ≤ a → SBlk lt d x (x + 2 * bs)
  sml : ∀ x, bs ∣ x → a ≤ x → x < n → SBlk lt d x (min (x + bs) n)
theorem two_dvd {bs a : Nat} (h : 2 * bs ∣ a) : bs ∣ a := Nat.dvd_trans ⟨2, by omega⟩ h
theorem Ph.in_ {n bs a : Nat} {d : Nat → Nat} (h : Ph lt n bs a d) (ha : 2 * bs ∣ a) (hl : a + bs < n) : SBlk lt d a (a + bs) ∧ SBlk lt d (a + bs) (min (a + 2 * bs) n) := by
  constructor
  · have := h.sml a (two_dvd ha) (Nat.le_refl _) (by omega)
    rwa [Nat.min_eq_left (by omega)] at this
  · have := h.sml (a + bs) (Nat.dvd_add (two_dvd ha) (Nat.dvd_refl _)) (by omega) hl
    rwa [show a + bs + bs = a + 2 * bs by omega] at this
theorem inc_bnd {d d' : Nat → Nat} {a b n : Nat} (h : Inc d d' a b) (hb : b ≤ n) (k : ∀ p, p < n → d p < n) : ∀ p, p < n → d' p < n := fun p hp => by
  by_cases c : a ≤ p ∧ p < b
  · obtain ⟨q, q1, q2, q3⟩ := h.2 p c.1 c.2
    rw [q3]; exact k q (by omega)
  · rw [h.1 p c]; exact k p hp
theorem Ph.step {n bs a : Nat} {d d' : Nat → Nat} (h : Ph lt n bs a d) (h0 : 0 < bs) (ha : 2 * bs ∣ a) (hl : a + 2 * bs ≤ n) (s : Srt lt d' a (a + 2 * bs)) (i : Inc d d' a (a + 2 * bs)) : Ph lt n bs (a + 2 * bs) d' := by
  obtain ⟨k1, k2⟩ := h.in_ ha (by omega)
  rw [Nat.min_eq_left hl] at k2
  refine ⟨inc_bnd i hl h.bnd, fun x h1 h2 => ?_, fun x h1 h2 h3 => ?_⟩
  · by_cases c : x = a
    · subst c; exact k1.merged k2 (by omega) (by omega) s i
    · have := dvd_gap h1 ha (by omega)
      exact (h.big x h1 this).eq fun p _ _ => i.1 p (by omega)
  · exact (h.sml x h1 (by omega) h3).eq fun p _ _ => i.1 p (by omega)
theorem Ph.last {n bs a : Nat} {d d' : Nat → Nat} (h : Ph lt n bs a d) (h0 : 0 < bs) (ha : 2 * bs ∣ a) (hn : n < a + 2 * bs) (hl : a + bs < n) (s : Srt lt d' a n) (i : Inc d d' a n) : Ph lt n (2 * bs) 0 d' := by
  obtain ⟨k1, k2⟩ := h.in_ ha hl
  rw [Nat.min_eq_right (by omega)] at k2
  refine ⟨inc_bnd i (Nat.le_refl _) h.bnd, fun x h1 h2 => by omega, fun x h1 _ h3 => ?_⟩
  by_cases c : x = a
  · subst c
    rw [Nat.min_eq_right (by omega)]
    exact k1.merged k2 (by omega) (by omega) s i
  · by_cases c2 : x < a
    · have := dvd_gap h1 ha c2
      rw [Nat.min_eq_left (by omega)]
      exact (h.big x h1 this).eq fun p _ _ => i.1 p (by omega)
    · have := dvd_gap ha h1 (by omega)
      omega
theorem Ph.skip {n bs a : Nat} {d : Nat → Nat} (h : Ph lt n bs a d) (h0 : 0 < bs) (ha : 2 * bs ∣ a) (han : a ≤ n) (hl : n ≤ a + bs) : Ph lt n (2 * bs) 0 d := by
  refine ⟨h.bnd, fun x h1 h2 => by omega, fun x h1 _ h3 => ?_⟩
  by_cases c : x = a
  · subst c
    have := h.sml x (two_dvd h1) (Nat.le_refl _) h3
    rw [Nat.min_eq_right (by omega)] at this ⊢
    exact this
  · by_cases c2 : x < a
    · have := dvd_gap h1 ha c2
      rw [Nat.min_eq_left (by omega)]
      exact h.big x h1 this
    · have := dvd_gap ha h1 (by omega)
      omega
theorem Ph.done {n bs : Nat} {d : Nat → Nat} (h : Ph lt n bs 0 d) (hn : n ≤ bs) : Srt lt d 0 n := by
  by_cases c : 0 < n
  · have := (h.sml 0 (Nat.dvd_zero _) (Nat.le_refl _) c).1
    rwa [Nat.min_eq_right (by omega)] at this
  · intro p q h1 h2 h3
    omega
/-- The first round. -/
structure P0 (lt : Nat → Nat → Bool) (n a : Nat) (d : Nat → Nat) : Prop where
  bnd : ∀ p, p < n → d p < n
  same : ∀ p, a ≤ p → p < n → d p = p
  blk : ∀ x, 20 ∣ x → x + 20 ≤ a → SBlk lt d x (x + 20)
theorem P0.start (n : Nat) : P0 lt n 0 fun p => p := ⟨fun _ h => h, fun _ _ _ => rfl, fun x _ h => by omega⟩
theorem P0.idx {n a b : Nat} {d : Nat → Nat} (h : P0 lt n a d) (hb : b ≤ n) : ∀ p q, a ≤ p → p < q → q < b → d p < d q := fun p q h1 h2 h3 => by
  rw [h.same p h1 (by omega), h.same q (by omega) (by omega)]; exact h2
theorem P0.new {n a b : Nat} {d d' : Nat → Nat} (h : P0 lt n a d) (hb : b ≤ n) (s : Srt lt d' a b) (i : Inc d d' a b) : SBlk lt d' a b :=
  ⟨s, fun p h1 h2 => by
    obtain ⟨q, q1, q2, q3⟩ := i.2 p h1 h2
    rw [q3, h.same q q1 (by omega)]
    exact ⟨q1, q2⟩⟩
theorem P0.step {n a : Nat} {d d' : Nat → Nat} (h : P0 lt n a d) (ha : 20 ∣ a) (hl : a + 20 ≤ n) (s : Srt lt d' a (a + 20)) (i : Inc d d' a (a + 20)) : P0 lt n (a + 20) d' := by
  refine ⟨inc_bnd i hl h.bnd, fun p h1 h2 => by rw [i.1 p (by omega)]; exact h.same p (by omega) h2, fun x h1 h2 => ?_⟩
  by_cases c : x = a
  · subst c; exact h.new hl s i
  · have := dvd_gap h1 ha (by omega)
    exact (h.blk x h1 this).eq fun p _ _ => i.1 p (by omega)
theorem P0.last {n a : Nat} {d d' : Nat → Nat} (h : P0 lt n a d) (ha : 20 ∣ a) (han : a ≤ n) (hl : n < a + 20) (s : Srt lt d' a n) (i : Inc d d' a n) : Ph lt n 20 0 d' := by
  refine ⟨inc_bnd i (Nat.le_refl _) h.bnd, fun x _ h2 => by omega, fun x h1 _ h3 => ?_⟩
  by_cases c : x = a
  · subst c
    rw [Nat.min_eq_right (by omega)]
    exact h.new (Nat.le_refl _) s i
  · by_cases c2 : x < a
    · have := dvd_gap h1 ha c2
      rw [Nat.min_eq_left (by omega)]
      exact (h.blk x h1 this).eq fun p _ _ => i.1 p (by omega)
    · have := dvd_gap ha h1 (by omega)
      omega
end
end Go.Proofs.YtjbnjlkoipkpoaaGreatDoor.T
