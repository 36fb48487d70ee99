/- The walk of the statement LinesKeys: it returns true at every key and rest, and nothing that was there before the call has changed. -/
import Derived.Test.YteaeekhepgjliaaDoorAlive
namespace Go.Proofs.YteaeekhepgjliaaDoor
open Go.RowKit

theorem has_app (c : UInt8) (a b : List UInt8) : has c (a ++ b) = (has c a || has c b) := by
  unfold has; rw [Bool.eq_iff_iff]; simp
theorem good_parts {k : List UInt8} (h : goodKey k = true) : k ≠ [] ∧ blankHead k = false ∧ begins 35 k = false ∧ has 58 k = false ∧ has 10 k = false := by
  rw [goodKey_eq] at h
  simp only [Bool.and_eq_true, Bool.not_eq_true'] at h
  obtain ⟨⟨⟨⟨⟨h1, h2⟩, h3⟩, h4⟩, h5⟩, h6⟩ := h
  exact ⟨(by intro e; rw [e] at h1; cases h1), h3, h4, h5, h6⟩
theorem ahead_app (c : UInt8) (a b : List UInt8) (h : has c a = false) : ahead c (a ++ c :: b) = a := by
  induction a with
  | nil => simp [ahead]
  | cons x t ih =>
    unfold has ahead at *
    simp only [List.contains_cons, Bool.or_eq_false_iff, beq_eq_false_iff_ne] at h
    rw [List.cons_append, List.takeWhile_cons, if_pos (by simpa using fun e => h.1 e.symm), ih h.2]
theorem behind_app (c : UInt8) (a b : List UInt8) (h : has c a = false) : behind c (a ++ c :: b) = b := by
  induction a with
  | nil => simp [behind]
  | cons x t ih =>
    unfold has behind at *
    simp only [List.contains_cons, Bool.or_eq_false_iff, beq_eq_false_iff_ne] at h
    rw [List.cons_append, List.dropWhile_cons, if_pos (by simpa using fun e => h.1 e.symm), ih h.2]
/-- A line end behind the colon: no Pair. -/
theorem pair_end (k r : List UInt8) (h : has 10 r = true) : lineCut (k ++ 58 :: r) = ([], [], false) := by
  have h1 : has 10 (k ++ 58 :: r) = true := by
    rw [has_app]
    have : has 10 (58 :: r) = true := by unfold has at *; simp at h ⊢; exact h
    rw [this, Bool.or_true]
  unfold lineCut
  rw [if_neg (by rw [kindOf_eq, h1, if_pos rfl]; decide)]
/-- A good key, a colon, no line end: a Pair of this key. -/
theorem pair_good (k r : List UInt8) (hg : goodKey k = true) (h : has 10 r = false) : lineCut (k ++ 58 :: r) = (k, r, true) := by
  obtain ⟨h0, h1, h2, h3, h4⟩ := good_parts hg
  have a1 : has 10 (k ++ 58 :: r) = false := by
    rw [has_app, h4]
    unfold has at *; simp at h ⊢; exact h
  have a2 : (k ++ 58 :: r).all isBlank = false := by
    rw [List.all_append]; simp [isBlank]
  have a3 : begins 35 (k ++ 58 :: r) = false := by
    cases k with
    | nil => exact absurd rfl h0
    | cons x t => exact h2
  have a4 : blankHead (k ++ 58 :: r) = false := by
    cases k with
    | nil => exact absurd rfl h0
    | cons x t => exact h1
  have a5 : has 58 (k ++ 58 :: r) = true := by
    rw [has_app]; unfold has; simp
  have a6 := ahead_app 58 k r h3
  unfold lineCut
  rw [if_pos (by rw [kindOf_eq, a1, a2, a3, a4, a5, a6, hg]; rfl), a6, behind_app 58 k r h3]
/-- No good key: no Pair of this key. -/
theorem pair_bad (k r : List UInt8) (hg : goodKey k = false) : (lineCut (k ++ 58 :: r)).2.2 = false ∨ (lineCut (k ++ 58 :: r)).1 ≠ k := by
  unfold lineCut
  by_cases h4 : kindOf (k ++ 58 :: r) = 4
  · rw [if_pos h4]
    right
    intro e
    have := (kind4 h4).2.2
    rw [show ahead 58 (k ++ 58 :: r) = k from e, hg] at this
    cases this
  · rw [if_neg h4]
    exact .inl rfl
theorem join_data (k r : ByteArray) : (k ++ (⟨#[58]⟩ : ByteArray) ++ r).data.toList = k.data.toList ++ 58 :: r.data.toList := by simp
theorem join_size (k r : ByteArray) : (k ++ (⟨#[58]⟩ : ByteArray) ++ r).size = k.size + 1 + r.size := by
  have e1 : (⟨#[58]⟩ : ByteArray).size = 1 := rfl
  rw [ByteArray.size_append, ByteArray.size_append, e1]

theorem keys_long (s r : ByteArray) (w : World) (h : 300 < (s.size : Int) ∨ 300 < (r.size : Int)) :
    Calls Tryd.prog 4 #[.string s, .string r] w fun e w' => e = .returned (.bool true) ∧ Below w.heap.size w w' := by
  by_cases h1 : 300 < (s.size : Int)
  · clear h
    go_enter Tryd.func4, Tryd.ntmps4
    go_wp2_with (go_at_call 8; refine (alive_any _).mono ?_; rintro e w1 ⟨rfl, b1⟩)
    go_ret
    exact ⟨rfl, b1⟩
  · have h2 : 300 < (r.size : Int) := by omega
    have h1' : (s.size : Int) ≤ 300 := by omega
    clear h h1
    go_enter Tryd.func4, Tryd.ntmps4
    go_wp2_with (go_at_call 8; refine (alive_any _).mono ?_; rintro e w1 ⟨rfl, b1⟩)
    go_ret
    exact ⟨rfl, b1⟩
set_option maxHeartbeats 1000000 in
/-- The walk, at whatever the cut of the joined line gives. -/
theorem keys_short (s r a b : ByteArray) (g o : Bool) (w : World) (h1 : (s.size : Int) ≤ 300) (h2 : (r.size : Int) ≤ 300)
    (C : Hid (∀ w, Calls Tryd.prog 9 #[.string (s ++ ⟨#[58]⟩ ++ r)] w fun e w' => e = .returned (.tuple #[.string a, .string b, .bool o]) ∧ Below w.heap.size w w'))
    (G : Hid (∀ w, Calls Tryd.prog 13 #[.string s] w fun e w' => e = .returned (.bool g) ∧ w = w'))
    (R : Hid (∀ w, Calls Tryd.prog 14 #[.string s] w fun e w' => e = .returned (.bool g) ∧ w = w'))
    (F1 : Hid (has 10 r.data.toList = true → o = false)) (F2 : Hid (has 10 r.data.toList = false → g = true → o = true ∧ a.toList = s.toList ∧ b.toList = r.toList))
    (F3 : Hid (g = false → o = false ∨ a.toList ≠ s.toList)) :
    Calls Tryd.prog 4 #[.string s, .string r] w fun e w' => e = .returned (.bool true) ∧ Below w.heap.size w w' := by
  have L := Lib.hid (size_len r)
  go_enter Tryd.func4, Tryd.ntmps4
  go_wp2_with (first | (go_at_call 8; refine (alive_any _).mono ?_; rintro e w1 ⟨rfl, b1⟩) | (go_at_call 9; refine (C.out _).mono ?_; rintro e w2 ⟨rfl, b2⟩) | (go_at_call 14; refine (R.out _).mono ?_; rintro e w3 ⟨rfl, rfl⟩) | (go_at_call 13; refine (G.out _).mono ?_; rintro e w6 ⟨rfl, rfl⟩))
  go_loop [37] (fun i => ∃ k : Nat, k ≤ r.size ∧ i = .int .i64 k ∧ Free 10 r.data.toList k) (fun i => r.size - (intOf i).toNat)
  case atStart => exact ⟨0, Nat.zero_le _, rfl, Free.zero _ _⟩
  case round =>
    obtain ⟨k, hk, rfl, hc⟩ := hrel
    go_wp2
    · have hlt : k < r.size := by assumption
      have e : has 10 r.data.toList = true := contains_of_get _ _ _ (get_isb r k hlt 10 (by assumption))
      go_ret
      exact ⟨retb' (by rw [F1.out e]; rfl), below_cat b1 b2⟩
    · have hlt : k < r.size := by assumption
      have e := get_notb r k hlt 10 (by assumption)
      go_round
      case rel => exact ⟨k + 1, by omega, by go_num, hc.succ e⟩
      case measure => simp [intOf]; omega
    all_goals have h10 : has 10 r.data.toList = false := hc.none (by rw [L.out]; omega)
    · obtain ⟨_, _, hb⟩ := F2.out h10 (by assumption)
      go_ret
      exact ⟨retb' (by rw [hb]; simp), below_cat b1 b2⟩
    · obtain ⟨_, ha, _⟩ := F2.out h10 (by assumption)
      exact absurd ha (by assumption)
    · obtain ⟨ho, _, _⟩ := F2.out h10 (by assumption)
      exact absurd ho (by assumption)
    · have ho : o = true := by assumption
      go_ret
      exact ⟨retb' (by
        rcases F3.out (by assumption) with h | h
        · rw [ho] at h; cases h
        · simpa using h), below_cat b1 b2⟩
    · go_ret
      exact ⟨rfl, below_cat b1 b2⟩
theorem keys_walk (s r : ByteArray) (w : World) :
    Calls Tryd.prog 4 #[.string s, .string r] w fun e w' => e = .returned (.bool true) ∧ Below w.heap.size w w' := by
  by_cases h : 300 < (s.size : Int) ∨ 300 < (r.size : Int)
  · exact keys_long s r w h
  · have h1 : (s.size : Int) ≤ 300 := by omega
    have h2 : (r.size : Int) ≤ 300 := by omega
    have J := join_data s r
    have Z := join_size s r
    have C := fun w => cut_any (s ++ ⟨#[58]⟩ ++ r) (by omega) w
    rw [J] at C
    refine keys_short s r ⟨(lineCut (s.data.toList ++ 58 :: r.data.toList)).1.toArray⟩ ⟨(lineCut (s.data.toList ++ 58 :: r.data.toList)).2.1.toArray⟩ (goodKey s.data.toList) (lineCut (s.data.toList ++ 58 :: r.data.toList)).2.2 w h1 h2 C (fun w => key_any s w) (fun w => refKey s (by omega) w) ?_ ?_ ?_
    · intro h10
      rw [pair_end _ _ h10]
    · intro h10 hg
      rw [pair_good _ _ hg h10]
      exact ⟨rfl, by simp only [Lib.toList_data], by simp only [Lib.toList_data]⟩
    · intro hg
      rcases pair_bad s.data.toList r.data.toList hg with h | h
      · exact .inl h
      · right
        simp only [Lib.toList_data]
        exact h
end Go.Proofs.YteaeekhepgjliaaDoor
