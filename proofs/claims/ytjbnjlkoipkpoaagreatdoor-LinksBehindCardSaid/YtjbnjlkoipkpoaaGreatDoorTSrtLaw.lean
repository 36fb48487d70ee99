/- The plain law of a stable sort: merging in place. -/
import Derived.Test.YtjbnjlkoipkpoaaGreatDoorBPlain
namespace Go.Proofs.YtjbnjlkoipkpoaaGreatDoor.T

/-- What a comparison's 'less' must be. -/
structure Less (lt : Nat → Nat → Bool) : Prop where
  asym : ∀ x y, lt x y = true → lt y x = false
  neg : ∀ x y z, lt x y = false → lt y z = false → lt x z = false
section
variable {lt : Nat → Nat → Bool}
theorem Less.irr (h : Less lt) (x : Nat) : lt x x = false := by
  cases e : lt x x with
  | false => rfl
  | true => have := h.asym x x e; rw [e] at this; exact this
theorem Less.lt_le (h : Less lt) {x y z : Nat} (h1 : lt x y = true) (h2 : lt z y = false) : lt x z = true := by
  cases e : lt x z with
  | true => rfl
  | false => have := h.neg x z y e h2; rw [h1] at this; cases this
theorem Less.le_lt (h : Less lt) {x y z : Nat} (h1 : lt y x = false) (h2 : lt y z = true) : lt x z = true := by
  cases e : lt x z with
  | true => rfl
  | false => have := h.neg y x z h1 e; rw [h2] at this; cases this
/-- Less, or the same and earlier. -/
def Rr (lt : Nat → Nat → Bool) (x y : Nat) : Prop := lt x y = true ∨ (lt y x = false ∧ x < y)
theorem Rr.le (h : Less lt) {x y : Nat} (hr : Rr lt x y) : lt y x = false := hr.elim (fun e => h.asym x y e) (fun e => e.1)
theorem Rr.asym (h : Less lt) {x y : Nat} (h1 : Rr lt x y) (h2 : Rr lt y x) : False := by
  rcases h1 with a | ⟨a, b⟩
  · have := h2.le h; rw [a] at this; cases this
  · rcases h2 with c | ⟨_, d⟩
    · rw [a] at c; cases c
    · omega
def swf (d : Nat → Nat) (i j : Nat) : Nat → Nat := fun t => if t = i then d j else if t = j then d i else d t
def Srt (lt : Nat → Nat → Bool) (d : Nat → Nat) (a b : Nat) : Prop := ∀ p q, a ≤ p → p < q → q < b → Rr lt (d p) (d q)
def Inc (d d' : Nat → Nat) (a b : Nat) : Prop := (∀ p, ¬ (a ≤ p ∧ p < b) → d' p = d p) ∧ ∀ p, a ≤ p → p < b → ∃ q, a ≤ q ∧ q < b ∧ d' p = d q
def Crs (d : Nat → Nat) (a m b : Nat) : Prop := ∀ p q, a ≤ p → p < m → m ≤ q → q < b → d p < d q
theorem Inc.refl (d : Nat → Nat) (a b : Nat) : Inc d d a b := ⟨fun _ _ => rfl, fun p h1 h2 => ⟨p, h1, h2, rfl⟩⟩
theorem Inc.trans {d d1 d2 : Nat → Nat} {a b : Nat} (h : Inc d d1 a b) (k : Inc d1 d2 a b) : Inc d d2 a b :=
  ⟨fun p hp => (k.1 p hp).trans (h.1 p hp), fun p h1 h2 => let ⟨q, q1, q2, q3⟩ := k.2 p h1 h2; let ⟨r, r1, r2, r3⟩ := h.2 q q1 q2; ⟨r, r1, r2, q3.trans r3⟩⟩
theorem Inc.mono {d d1 : Nat → Nat} {a b a' b' : Nat} (h : Inc d d1 a b) (ha : a' ≤ a) (hb : b ≤ b') : Inc d d1 a' b' := by
  refine ⟨fun p hp => h.1 p (by omega), fun p h1 h2 => ?_⟩
  by_cases hp : a ≤ p ∧ p < b
  · obtain ⟨q, q1, q2, q3⟩ := h.2 p hp.1 hp.2
    exact ⟨q, by omega, by omega, q3⟩
  · exact ⟨p, h1, h2, h.1 p hp⟩
theorem Srt.le (h : Less lt) {d : Nat → Nat} {a b p q : Nat} (hs : Srt lt d a b) (h1 : a ≤ p) (h2 : p ≤ q) (h3 : q < b) : lt (d q) (d p) = false := by
  by_cases e : p = q
  · rw [e]; exact h.irr _
  · exact (hs p q h1 (by omega) h3).le h
theorem Srt.sub {d : Nat → Nat} {a b a' b' : Nat} (hs : Srt lt d a b) (ha : a ≤ a') (hb : b' ≤ b) : Srt lt d a' b' := fun p q h1 h2 h3 => hs p q (by omega) h2 (by omega)
theorem Srt.eq {d d' : Nat → Nat} {a b : Nat} (hs : Srt lt d a b) (h : ∀ p, a ≤ p → p < b → d' p = d p) : Srt lt d' a b := fun p q h1 h2 h3 => by
  rw [h p h1 (by omega), h q (by omega) h3]; exact hs p q h1 h2 h3
theorem Srt.few (d : Nat → Nat) {a b : Nat} (h : b ≤ a + 1) : Srt lt d a b := fun p q h1 h2 h3 => by omega
/-- One element at the front of what is sorted. -/
theorem front (h : Less lt) {d d' : Nat → Nat} {a i b : Nat} (hs : Srt lt d (a + 1) b) (hc : Crs d a (a + 1) b) (hi1 : a + 1 ≤ i) (hi2 : i ≤ b) (f1 : a + 1 < i → lt (d (i - 1)) (d a) = true) (f2 : i < b → lt (d i) (d a) = false)
    (hd : ∀ p, d' p = if a ≤ p ∧ p + 1 < i then d (p + 1) else if p + 1 = i then d a else d p) : Srt lt d' a b ∧ Inc d d' a b := by
  constructor
  · intro p q h1 h2 h3
    rw [hd p, hd q]
    by_cases c1 : p + 1 < i
    · rw [if_pos ⟨h1, c1⟩]
      by_cases c2 : q + 1 < i
      · rw [if_pos ⟨by omega, c2⟩]; exact hs _ _ (by omega) (by omega) (by omega)
      · rw [if_neg (by omega)]
        by_cases c3 : q + 1 = i
        · rw [if_pos c3]
          exact .inl (h.le_lt (hs.le h (p := p + 1) (q := i - 1) (by omega) (by omega) (by omega)) (f1 (by omega)))
        · rw [if_neg c3]; exact hs _ _ (by omega) (by omega) h3
    · rw [if_neg (by omega), if_neg (by omega : ¬ (a ≤ q ∧ q + 1 < i)), if_neg (by omega : ¬ q + 1 = i)]
      by_cases c3 : p + 1 = i
      · rw [if_pos c3]
        refine .inr ⟨?_, hc a q (by omega) (by omega) (by omega) h3⟩
        exact h.neg _ _ _ (hs.le h (p := i) (q := q) (by omega) (by omega) h3) (f2 (by omega))
      · rw [if_neg c3]; exact hs _ _ (by omega) h2 h3
  · refine ⟨fun p hp => ?_, fun p h1 h2 => ?_⟩
    · rw [hd p, if_neg (by omega), if_neg (by omega)]
    · rw [hd p]
      by_cases c1 : p + 1 < i
      · rw [if_pos ⟨h1, c1⟩]; exact ⟨p + 1, by omega, by omega, rfl⟩
      · rw [if_neg (by omega)]
        by_cases c3 : p + 1 = i
        · rw [if_pos c3]; exact ⟨a, by omega, by omega, rfl⟩
        · rw [if_neg c3]; exact ⟨p, h1, h2, rfl⟩
/-- One element behind what is sorted. -/
theorem back (h : Less lt) {d d' : Nat → Nat} {a i m : Nat} (hs : Srt lt d a m) (hc : Crs d a m (m + 1)) (hi1 : a ≤ i) (hi2 : i ≤ m) (f1 : a < i → lt (d m) (d (i - 1)) = false) (f2 : i < m → lt (d m) (d i) = true)
    (hd : ∀ p, d' p = if p = i then d m else if i < p ∧ p ≤ m then d (p - 1) else d p) : Srt lt d' a (m + 1) ∧ Inc d d' a (m + 1) := by
  constructor
  · intro p q h1 h2 h3
    rw [hd p, hd q]
    by_cases c1 : p = i
    · rw [if_pos c1, if_neg (by omega), if_pos (by omega)]
      exact .inl (h.lt_le (f2 (by omega)) (hs.le h (p := i) (q := q - 1) (by omega) (by omega) (by omega)))
    · rw [if_neg c1]
      by_cases c2 : q = i
      · rw [if_pos c2, if_neg (by omega)]
        refine .inr ⟨?_, hc p m h1 (by omega) (by omega) (by omega)⟩
        exact h.neg _ _ _ (f1 (by omega)) (hs.le h (p := p) (q := i - 1) h1 (by omega) (by omega))
      · rw [if_neg c2]
        by_cases c3 : i < p
        · rw [if_pos (by omega), if_pos (by omega)]; exact hs _ _ (by omega) (by omega) (by omega)
        · rw [if_neg (by omega)]
          by_cases c4 : i < q
          · rw [if_pos (by omega)]; exact hs _ _ h1 (by omega) (by omega)
          · rw [if_neg (by omega)]; exact hs _ _ h1 h2 (by omega)
  · refine ⟨fun p hp => ?_, fun p h1 h2 => ?_⟩
    · rw [hd p, if_neg (by omega), if_neg (by omega)]
    · rw [hd p]
      by_cases c1 : p = i
      · rw [if_pos c1]; exact ⟨m, by omega, by omega, rfl⟩
      · rw [if_neg c1]
        by_cases c3 : i < p ∧ p ≤ m
        · rw [if_pos c3]; exact ⟨p - 1, by omega, by omega, rfl⟩
        · rw [if_neg c3]; exact ⟨p, h1, h2, rfl⟩
/-- Where a merge in place is parted. -/
structure Part (lt : Nat → Nat → Bool) (d d1 : Nat → Nat) (a m b mid st en : Nat) : Prop where
  inc : Inc d d1 a b
  s1 : Srt lt d1 a st
  s2 : Srt lt d1 st mid
  c1 : Crs d1 a st mid
  s3 : Srt lt d1 mid en
  s4 : Srt lt d1 en b
  c2 : Crs d1 mid en b
  far : ∀ p q, a ≤ p → p < mid → mid ≤ q → q < b → Rr lt (d1 p) (d1 q)
/-- What has been turned about. -/
def Rot (d d1 : Nat → Nat) (a m b : Nat) : Prop := ∀ p, d1 p = if a ≤ p ∧ p < a + (b - m) then d (p - a + m) else if a + (b - m) ≤ p ∧ p < b then d (p - (b - m)) else d p
theorem part_of (h : Less lt) {d d1 : Nat → Nat} {a m b mid st en lo hi : Nat} (ham : a < m) (hmb : m < b) (hmid : a + b = 2 * mid ∨ a + b = 2 * mid + 1) (hs1 : Srt lt d a m) (hs2 : Srt lt d m b) (hc : Crs d a m b)
    (hlo : (mid < m ∧ lo + b = mid + m ∧ hi = mid) ∨ (m ≤ mid ∧ lo = a ∧ hi = m)) (hst1 : lo ≤ st) (hst2 : st ≤ hi) (hen : en + st = mid + m)
    (f1 : lo < st → lt (d en) (d (st - 1)) = false) (f2 : st < hi → lt (d (en - 1)) (d st) = true) (hd : Rot d d1 st m en) :
    a ≤ st ∧ st ≤ mid ∧ mid ≤ en ∧ en ≤ b ∧ st ≤ m ∧ m ≤ en ∧ Part lt d d1 a m b mid st en := by
  have k1 : a ≤ st := by omega
  have k2 : st ≤ mid := by omega
  have k3 : mid ≤ en := by omega
  have k4 : en ≤ b := by omega
  have k5 : st ≤ m := by omega
  have k6 : m ≤ en := by omega
  have e0 : st + (en - m) = mid := by omega
  have g1 : ∀ p, p < st → d1 p = d p := fun p hp => by rw [hd p, if_neg (by omega), if_neg (by omega)]
  have g2 : ∀ p, st ≤ p → p < mid → d1 p = d (p - st + m) := fun p h1 h2 => by rw [hd p, if_pos (by omega)]
  have g3 : ∀ p, mid ≤ p → p < en → d1 p = d (p - mid + st) := fun p h1 h2 => by
    rw [hd p, if_neg (by omega), if_pos (by omega)]
    congr 1; omega
  have g4 : ∀ p, en ≤ p → d1 p = d p := fun p hp => by rw [hd p, if_neg (by omega), if_neg (by omega)]
  refine ⟨k1, k2, k3, k4, k5, k6, ⟨?_, ?_, ?_, ?_, ?_, ?_, ?_, ?_⟩⟩
  · refine ⟨fun p hp => ?_, fun p h1 h2 => ?_⟩
    · by_cases c : p < st
      · exact g1 p c
      · exact g4 p (by omega)
    · by_cases c : p < st
      · exact ⟨p, h1, h2, g1 p c⟩
      · by_cases c2 : p < mid
        · exact ⟨_, by omega, by omega, g2 p (by omega) c2⟩
        · by_cases c3 : p < en
          · exact ⟨_, by omega, by omega, g3 p (by omega) c3⟩
          · exact ⟨p, h1, h2, g4 p (by omega)⟩
  · intro p q h1 h2 h3
    rw [g1 p (by omega), g1 q h3]; exact hs1 _ _ h1 h2 (by omega)
  · intro p q h1 h2 h3
    rw [g2 p h1 (by omega), g2 q (by omega) h3]; exact hs2 _ _ (by omega) (by omega) (by omega)
  · intro p q h1 h2 h3 h4
    rw [g1 p h2, g2 q h3 h4]; exact hc _ _ h1 (by omega) (by omega) (by omega)
  · intro p q h1 h2 h3
    rw [g3 p h1 (by omega), g3 q (by omega) h3]; exact hs1 _ _ (by omega) (by omega) (by omega)
  · intro p q h1 h2 h3
    rw [g4 p h1, g4 q (by omega)]; exact hs2 _ _ (by omega) h2 h3
  · intro p q h1 h2 h3 h4
    rw [g3 p h1 h2, g4 q h3]; exact hc _ _ (by omega) (by omega) (by omega) h4
  · intro p q h1 h2 h3 h4
    by_cases c : p < st
    · rw [g1 p c]
      by_cases c2 : q < en
      · rw [g3 q h3 c2]; exact hs1 _ _ h1 (by omega) (by omega)
      · rw [g4 q (by omega)]
        refine .inr ⟨?_, hc _ _ h1 (by omega) (by omega) h4⟩
        have f := f1 (by omega)
        exact h.neg _ _ _ (h.neg _ _ _ (hs2.le h (p := en) (q := q) (by omega) (by omega) h4) f) (hs1.le h (p := p) (q := st - 1) h1 (by omega) (by omega))
    · rw [g2 p (by omega) h2]
      by_cases c2 : q < en
      · rw [g3 q h3 c2]
        have f := f2 (by omega)
        exact .inl (h.le_lt (hs2.le h (p := p - st + m) (q := en - 1) (by omega) (by omega) (by omega)) (h.lt_le f (hs1.le h (p := st) (q := q - mid + st) (by omega) (by omega) (by omega))))
      · rw [g4 q (by omega)]; exact hs2 _ _ (by omega) (by omega) h4
/-- Both halves are sorted: so is the whole. -/
theorem part_end {d d1 d2 d3 : Nat → Nat} {a m b mid st en : Nat} (hP : Part lt d d1 a m b mid st en) (hmid : a ≤ mid ∧ mid ≤ b) (h2 : Srt lt d2 a mid) (i2 : Inc d1 d2 a mid) (h3 : Srt lt d3 mid b) (i3 : Inc d2 d3 mid b) : Srt lt d3 a b ∧ Inc d d3 a b := by
  refine ⟨fun p q k1 k2 k3 => ?_, hP.inc.trans ((i2.mono (Nat.le_refl _) hmid.2).trans (i3.mono hmid.1 (Nat.le_refl _)))⟩
  by_cases c : q < mid
  · rw [i3.1 p (by omega), i3.1 q (by omega)]; exact h2 p q k1 k2 c
  · by_cases c2 : p < mid
    · rw [i3.1 p (by omega)]
      obtain ⟨r, r1, r2, r3⟩ := i2.2 p k1 c2
      obtain ⟨s, s1, s2, s3⟩ := i3.2 q (by omega) k3
      rw [r3, s3, i2.1 s (by omega)]
      exact hP.far r s r1 r2 s1 s2
    · exact h3 p q (by omega) k2 k3
/-- A step of turning about, at the left. -/
theorem rot_left {D dk dk' : Nat → Nat} {m i j : Nat} (hij : j < i) (him : i ≤ m) (hin : ∀ p, m - i ≤ p → p < m + j → D p = if p < m - i + j then dk (p - (m - i) + m) else dk (p - j)) (hout : ∀ p, ¬ (m - i ≤ p ∧ p < m + j) → D p = dk p)
    (hsw : ∀ p, dk' p = if m - i ≤ p ∧ p < m - i + j then dk (p - (m - i) + m) else if m ≤ p ∧ p < m + j then dk (p - m + (m - i)) else dk p) :
    (∀ p, m - (i - j) ≤ p → p < m + j → D p = if p < m - (i - j) + j then dk' (p - (m - (i - j)) + m) else dk' (p - j)) ∧ ∀ p, ¬ (m - (i - j) ≤ p ∧ p < m + j) → D p = dk' p := by
  constructor
  · intro p h1 h2
    rw [hin p (by omega) h2, if_neg (by omega)]
    by_cases c : p < m - (i - j) + j
    · rw [if_pos c, hsw, if_neg (by omega), if_pos (by omega)]
      congr 1; omega
    · rw [if_neg c, hsw, if_neg (by omega), if_neg (by omega)]
  · intro p hp
    by_cases c : m - i ≤ p ∧ p < m + j
    · rw [hin p c.1 c.2, if_pos (by omega), hsw, if_pos (by omega)]
    · rw [hout p c, hsw, if_neg (by omega), if_neg (by omega)]
/-- .. and at the right. -/
theorem rot_right {D dk dk' : Nat → Nat} {m i j : Nat} (hij : i < j) (him : i ≤ m) (hin : ∀ p, m - i ≤ p → p < m + j → D p = if p < m - i + j then dk (p - (m - i) + m) else dk (p - j)) (hout : ∀ p, ¬ (m - i ≤ p ∧ p < m + j) → D p = dk p)
    (hsw : ∀ p, dk' p = if m - i ≤ p ∧ p < m - i + i then dk (p - (m - i) + (m + j - i)) else if m + j - i ≤ p ∧ p < m + j - i + i then dk (p - (m + j - i) + (m - i)) else dk p) :
    (∀ p, m - i ≤ p → p < m + (j - i) → D p = if p < m - i + (j - i) then dk' (p - (m - i) + m) else dk' (p - (j - i))) ∧ ∀ p, ¬ (m - i ≤ p ∧ p < m + (j - i)) → D p = dk' p := by
  constructor
  · intro p h1 h2
    rw [hin p h1 (by omega), if_pos (by omega)]
    by_cases c : p < m - i + (j - i)
    · rw [if_pos c, hsw, if_neg (by omega), if_neg (by omega)]
    · rw [if_neg c, hsw, if_pos (by omega)]
      congr 1; omega
  · intro p hp
    by_cases c : m - i ≤ p ∧ p < m + j
    · rw [hin p c.1 c.2, if_neg (by omega), hsw, if_neg (by omega), if_pos (by omega)]
      congr 1; omega
    · rw [hout p c, hsw, if_neg (by omega), if_neg (by omega)]
/-- .. and the end. -/
theorem rot_done {D dk dk' : Nat → Nat} {m i : Nat} (him : i ≤ m) (hin : ∀ p, m - i ≤ p → p < m + i → D p = if p < m - i + i then dk (p - (m - i) + m) else dk (p - i)) (hout : ∀ p, ¬ (m - i ≤ p ∧ p < m + i) → D p = dk p)
    (hsw : ∀ p, dk' p = if m - i ≤ p ∧ p < m - i + i then dk (p - (m - i) + m) else if m ≤ p ∧ p < m + i then dk (p - m + (m - i)) else dk p) : ∀ p, dk' p = D p := by
  intro p
  rw [hsw]
  by_cases c : m - i ≤ p ∧ p < m + i
  · rw [hin p c.1 c.2]
    by_cases c2 : p < m - i + i
    · rw [if_pos (by omega), if_pos c2]
    · rw [if_neg (by omega), if_pos (by omega), if_neg c2]
      congr 1; omega
  · rw [hout p c, if_neg (by omega), if_neg (by omega)]
/-! ### Blocks -/
/-- Up to a, blocks of twice the size are sorted, and from there on blocks of the size. -/
structure Blks (lt : Nat → Nat → Bool) (n bs a : Nat) (d : Nat → Nat) : Prop where
  bnd : ∀ p, p < n → d p < n
  two : ∀ p, p < n → d p / (2 * bs) = p / (2 * bs)
  one : ∀ p, a ≤ p → p < n → d p / bs = p / bs
  srt2 : ∀ p q, p < q → q < a → q < n → p / (2 * bs) = q / (2 * bs) → Rr lt (d p) (d q)
  srt1 : ∀ p q, a ≤ p → p < q → q < n → p / bs = q / bs → Rr lt (d p) (d q)
/-- The first round: blocks of one size; up to a they are sorted, beyond nothing has been moved. -/
structure Blk0 (lt : Nat → Nat → Bool) (n bs a : Nat) (d : Nat → Nat) : Prop where
  bnd : ∀ p, p < n → d p < n
  one : ∀ p, p < n → d p / bs = p / bs
  same : ∀ p, a ≤ p → p < n → d p = p
  srt : ∀ p q, p < q → q < a → q < n → p / bs = q / bs → Rr lt (d p) (d q)
theorem div_same {x y bs k : Nat} (h1 : k * bs ≤ x) (h2 : x < k * bs + bs) (h3 : k * bs ≤ y) (h4 : y < k * bs + bs) : x / bs = y / bs := by
  have e1 : x / bs = k := Nat.div_eq_of_lt_le (by rw [Nat.mul_comm]; rw [Nat.mul_comm] at h1; exact h1) (by rw [Nat.add_mul, Nat.one_mul]; exact h2)
  have e2 : y / bs = k := Nat.div_eq_of_lt_le (by rw [Nat.mul_comm]; rw [Nat.mul_comm] at h3; exact h3) (by rw [Nat.add_mul, Nat.one_mul]; exact h4)
  rw [e1, e2]
end
end Go.Proofs.YtjbnjlkoipkpoaaGreatDoor.T
