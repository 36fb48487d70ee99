/- The plain law of a stable sort: its answer is the only one. -/
import Derived.Test.YtjbnjlkoipkpoaaGreatDoorTSrtLaw
namespace Go.Proofs.YtjbnjlkoipkpoaaGreatDoor.T

section
variable {lt : Nat → Nat → Bool}
theorem pigeon : ∀ (n : Nat) (f : Nat → Nat), (∀ p, p < n → f p < n) → (∀ p q, p < q → q < n → f p ≠ f q) → ∀ y, y < n → ∃ x, x < n ∧ f x = y
  | 0, _, _, _, y, h => absurd h (Nat.not_lt_zero y)
  | n + 1, f, hb, hi, y, hy => by
    have hc := hb n (by omega)
    by_cases e : f n = n
    · have ih := pigeon n f (fun p hp => by have := hb p (by omega); have := hi p n hp (by omega); omega) (fun p q h1 h2 => hi p q h1 (by omega))
      by_cases e2 : y = n
      · exact ⟨n, by omega, by omega⟩
      · obtain ⟨x, h1, h2⟩ := ih y (by omega)
        exact ⟨x, by omega, h2⟩
    · have ih := pigeon n (fun p => if f p = n then f n else f p) (fun p hp => by
        have := hb p (by omega)
        show (if f p = n then f n else f p) < n
        split <;> omega) (fun p q h1 h2 => by
        have k1 := hi p q h1 (by omega)
        have k2 := hi p n (by omega) (by omega)
        have k3 := hi q n (by omega) (by omega)
        show (if f p = n then f n else f p) ≠ (if f q = n then f n else f q)
        split <;> split <;> omega)
      by_cases e2 : y = f n
      · exact ⟨n, by omega, e2.symm⟩
      · by_cases e3 : y = n
        · obtain ⟨x, h1, h2⟩ := ih (f n) (by omega)
          have k2 := hi x n (by omega) (by omega)
          refine ⟨x, by omega, ?_⟩
          have h3 : (if f x = n then f n else f x) = f n := h2
          split at h3
          · rename_i h4; omega
          · omega
        · obtain ⟨x, h1, h2⟩ := ih y (by omega)
          refine ⟨x, by omega, ?_⟩
          have h3 : (if f x = n then f n else f x) = y := h2
          split at h3
          · omega
          · exact h3
theorem Srt.inj (h : Less lt) {d : Nat → Nat} {n : Nat} (s : Srt lt d 0 n) : ∀ p q, p < q → q < n → d p ≠ d q := fun p q h1 h2 e => by
  have r := s p q (Nat.zero_le _) h1 h2
  rw [e] at r
  exact Rr.asym h r r
theorem Srt.onto (h : Less lt) {d : Nat → Nat} {n : Nat} (s : Srt lt d 0 n) (hb : ∀ p, p < n → d p < n) : ∀ y, y < n → ∃ x, x < n ∧ d x = y := pigeon n d hb (s.inj h)
theorem srt_uniq (h : Less lt) {d d' : Nat → Nat} {n : Nat} (s : Srt lt d 0 n) (s' : Srt lt d' 0 n) (hb : ∀ p, p < n → d p < n) (hb' : ∀ p, p < n → d' p < n) : ∀ m p, p < m → p < n → d p = d' p
  | 0, p, h1, _ => absurd h1 (Nat.not_lt_zero p)
  | m + 1, p, h1, h2 => by
    have ih := srt_uniq h s s' hb hb' m
    obtain ⟨x, hx, ex⟩ := s'.onto h hb' (d p) (hb p h2)
    obtain ⟨y, hy, ey⟩ := s.onto h hb (d' p) (hb' p h2)
    rcases Nat.lt_trichotomy x p with c | c | c
    · have := ih x (by omega) hx
      exact absurd (this.trans ex) (s.inj h x p c h2)
    · rw [← ex, c]
    · rcases Nat.lt_trichotomy y p with c2 | c2 | c2
      · have := ih y (by omega) hy
        exact absurd (this.symm.trans ey) (s'.inj h y p c2 h2)
      · rw [← ey, c2]
      · have r1 := s' p x (Nat.zero_le _) c hx
        have r2 := s p y (Nat.zero_le _) c2 hy
        rw [ex] at r1
        rw [ey] at r2
        exact (Rr.asym h r1 r2).elim
theorem srt_same (h : Less lt) {d d' : Nat → Nat} {n : Nat} (s : Srt lt d 0 n) (s' : Srt lt d' 0 n) (hb : ∀ p, p < n → d p < n) (hb' : ∀ p, p < n → d' p < n) : ∀ p, p < n → d p = d' p :=
  fun p hp => srt_uniq h s s' hb hb' (p + 1) p (Nat.lt_succ_self p) hp
end
end Go.Proofs.YtjbnjlkoipkpoaaGreatDoor.T
