/- The document's reader of numerals (Number), and its numeral of a header (Line, Good): whatever the world. -/
import Derived.Test.YthleddhbghlmaaaDoorRef
namespace Go.Proofs.YthleddhbghlmaaaDoor
open Go.RowKit

theorem size_len (s : ByteArray) : s.data.toList.length = s.size := by rw [Array.length_toList]; rfl
theorem get_data (s : ByteArray) (k : Nat) (h : k < s.size) : s.data.toList[k]? = some s[k] := by
  rw [Array.getElem?_toList, Array.getElem?_eq_getElem h]; rfl
theorem take_snoc (s : ByteArray) (k : Nat) (h : k < s.size) : s.data.toList.take (k + 1) = s.data.toList.take k ++ [s[k]] := by
  rw [List.take_succ_eq_append_getElem (by simpa using h)]; rfl
/-- What the loop knows at place k: where the numeral has no sign, the number so far. -/
def NumAt (l : List UInt8) (j k : Nat) (a : Int) : Prop := j = 0 → accOf 0 (l.take k) = a
/-- What a reader of numerals answers. -/
def NumPost (l : List UInt8) (w : World) (e : Ending) (w' : World) : Prop := ∃ (n : Int) (ok : Bool), e = .returned (.tuple #[.int .i64 n, .bool ok]) ∧ -9223372036854775808 ≤ n ∧ n ≤ 9223372036854775807 ∧ NumRes l n ok ∧ w = w'
theorem num_bad {l : List UInt8} {k : Nat} {c : UInt8} (h : l[k]? = some c) (hc : ¬ (48 ≤ c.toNat ∧ c.toNat ≤ 57)) : NumRes l 0 false :=
  ⟨(fun e => by cases e), fun _ m _ e => hc (decDigits_digit m c (by rw [← e]; exact List.mem_of_getElem? h))⟩
theorem num_len {l : List UInt8} (h : l.length < 1 ∨ 20 < l.length) : NumRes l 0 false := by
  refine ⟨(fun e => by cases e), fun _ m hm e => ?_⟩
  have h1 := decDigits_short m hm
  have h2 : Lib.decDigits m ≠ [] := decDigits_ne m
  rw [← e] at h1 h2
  rcases h with h | h
  · exact h2 (List.length_eq_zero_iff.1 (by omega))
  · omega
theorem num_same {l : List UInt8} {a : Int} (hl : Lib.itoa a = l) : NumRes l a true := ⟨fun _ => hl.symm, fun e => by cases e⟩
theorem num_other {l : List UInt8} {a n : Int} (h : accOf 0 l = a) (hn : n = wrap64 (-a)) (hl : Lib.itoa n ≠ l) : NumRes l 0 false := by
  refine ⟨(fun e => by cases e), fun _ m hm e => ?_⟩
  have h1 := decFrom_decDigits m
  rw [← e] at h1
  have h2 := (accOf_dec l 0 m h1 hm).1
  have h3 : a = -(m : Int) := by rw [← h, ← h2]; rfl
  apply hl
  have h4 : n = m := by rw [hn, h3]; unfold wrap64; omega
  rw [h4, Lib.itoa_nonneg, e]
theorem NumPost.mk {l : List UInt8} {w : World} {n : Int} {ok : Bool} (h0 : -9223372036854775808 ≤ n) (h1 : n ≤ 9223372036854775807) (h : NumRes l n ok) : NumPost l w (.returned (.tuple #[.int .i64 n, .bool ok])) w := ⟨n, ok, rfl, h0, h1, h, rfl⟩
theorem wrap64_lo (x : Int) : -9223372036854775808 ≤ wrap64 x := by unfold wrap64; omega
theorem wrap64_hi (x : Int) : wrap64 x ≤ 9223372036854775807 := by unfold wrap64; omega
theorem minus_not {c : UInt8} (h : ((c.toNat : Int) == 45) = true) : ¬ (48 ≤ c.toNat ∧ c.toNat ≤ 57) := by
  have : (c.toNat : Int) = 45 := by simpa using h
  omega
theorem digit_ways (c : UInt8) : (c.toNat : Int) < 48 ∨ 57 < (c.toNat : Int) ∨ (48 ≤ (c.toNat : Int) ∧ (c.toNat : Int) ≤ 57) := by omega
theorem not_digit {c : UInt8} (h : (c.toNat : Int) < 48 ∨ 57 < (c.toNat : Int)) : ¬ (48 ≤ c.toNat ∧ c.toNat ≤ 57) := by omega
/-- The loop's relation: j: where the digits begin. -/
def NumRel (s : ByteArray) (j : Nat) (r b n i : Value) : Prop := ∃ (k : Nat) (a : Int), r = .int .i64 0 ∧ b = .bool false ∧ k ≤ s.size ∧ n = .int .i64 a ∧ i = .int .i64 k ∧ -9223372036854775808 ≤ a ∧ a ≤ 9223372036854775807 ∧ Hid (NumAt s.data.toList j k a)
theorem NumRel.next {s : ByteArray} {j k : Nat} {a : Int} (hlt : k < s.size) (h : Hid (NumAt s.data.toList j k a)) :
    NumRel s j (.int .i64 0) (.bool false) (.int .i64 (wrap64 (wrap64 (10 * a) - ((s[k].toNat : Int) - 48)))) (.int .i64 ((k : Int) + 1)) := by
  refine ⟨k + 1, _, rfl, rfl, by omega, rfl, by go_num, wrap64_lo _, wrap64_hi _, Lib.hid fun hj => ?_⟩
  have := h.out hj
  unfold accOf at *
  rw [take_snoc s k hlt, List.foldl_append, this]
  rfl
set_option maxHeartbeats 1600000 in
theorem number_any (s : ByteArray) (hs : s.size ≤ 9223372036854775807) (w : World) :
    Calls Tryd.prog 18 #[.string s] w (NumPost s.data.toList w) := by
  have SL := Lib.hid (size_len s)
  go_enter Tryd.func18, Tryd.ntmps18
  go_wp2_with fail
  · have h : (s.size : Int) < 1 ∨ 20 < (s.size : Int) := by assumption
    go_ret2
    exact .mk (by decide) (by decide) (num_len (by rw [SL.out]; omega))
  · have h0 : 0 < s.size := by assumption
    have e : ((s[0].toNat : Int) == 45) = true := by assumption
    have B0 : Hid (¬ (48 ≤ s[0].toNat ∧ s[0].toNat ≤ 57)) := Lib.hid (minus_not e)
    clear e
    go_loop [2, 3, 5, 6] (NumRel s 1) (fun _ _ _ i => s.size - (intOf i).toNat)
    case atStart => exact ⟨1, 0, rfl, rfl, by omega, rfl, rfl, by omega, by omega, Lib.hid (fun h => by cases h)⟩
    case round =>
      obtain ⟨k, a, rfl, rfl, hk, rfl, rfl, ha0, ha1, HA⟩ := hrel
      by_cases hlt : k < s.size
      · rcases digit_ways s[k] with h | h | ⟨h1, h2⟩
        · go_wp2_with fail
          go_ret2
          exact .mk (by decide) (by decide) (num_bad (get_data s 0 h0) B0.out)
        · go_wp2_with fail
          go_ret2
          exact .mk (by decide) (by decide) (num_bad (get_data s 0 h0) B0.out)
        · go_wp2_with fail
          go_round
          case rel => exact ⟨_, _, _, _, NumRel.next hlt HA, rfl, rfl, rfl, rfl⟩
          case measure => simp [intOf]; omega
      · go_wp2_with fail
        refine (figures_any a _ (by omega) (by omega)).mono ?_
        rintro e w' ⟨rfl, rfl⟩
        go_wp2_with fail
        · go_ret2
          exact .mk (by decide) (by decide) (num_bad (get_data s 0 h0) B0.out)
        · have h : (!Lib.itoa a == s.toList) = false := by assumption
          have h : Lib.itoa a = s.toList := by simpa using h
          go_ret2
          exact .mk ha0 ha1 (num_same (by rw [h, Lib.toList_data]))
  · have h0 : 0 < s.size := by assumption
    go_loop [2, 3, 5, 6] (NumRel s 0) (fun _ _ _ i => s.size - (intOf i).toNat)
    case atStart => exact ⟨0, 0, rfl, rfl, by omega, rfl, rfl, by omega, by omega, Lib.hid (fun _ => rfl)⟩
    case round =>
      obtain ⟨k, a, rfl, rfl, hk, rfl, rfl, ha0, ha1, HA⟩ := hrel
      by_cases hlt : k < s.size
      · rcases digit_ways s[k] with h | h | ⟨h1, h2⟩
        · go_wp2_with fail
          go_ret2
          exact .mk (by decide) (by decide) (num_bad (get_data s k hlt) (not_digit (.inl h)))
        · go_wp2_with fail
          go_ret2
          exact .mk (by decide) (by decide) (num_bad (get_data s k hlt) (not_digit (.inr h)))
        · go_wp2_with fail
          go_round
          case rel => exact ⟨_, _, _, _, NumRel.next hlt HA, rfl, rfl, rfl, rfl⟩
          case measure => simp [intOf]; omega
      · go_wp2_with fail
        refine (figures_any (wrap64 (-a)) _ (wrap64_lo _) (wrap64_hi _)).mono ?_
        rintro e w' ⟨rfl, rfl⟩
        go_wp2_with fail
        · have h : (!Lib.itoa (wrap64 (-a)) == s.toList) = true := by assumption
          have h' : Lib.itoa (wrap64 (-a)) ≠ s.data.toList := by rw [← Lib.toList_data]; simpa using h
          have HA' := HA.out rfl
          rw [List.take_of_length_le (by rw [SL.out]; omega)] at HA'
          go_ret2
          exact .mk (by decide) (by decide) (num_other HA' rfl h')
        · have h : (!Lib.itoa (wrap64 (-a)) == s.toList) = false := by assumption
          have h : Lib.itoa (wrap64 (-a)) = s.toList := by simpa using h
          go_ret2
          exact .mk (wrap64_lo _) (wrap64_hi _) (num_same (by rw [h, Lib.toList_data]))
  · have h : (s.size : Int) < 1 := by assumption
    go_ret2
    exact .mk (by decide) (by decide) (num_len (by rw [SL.out]; omega))
end Go.Proofs.YthleddhbghlmaaaDoor
