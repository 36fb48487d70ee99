/- The document's answers for the layer of lines (blank, Key, Kind, Cut): each returns the plain function of XPlain; whatever the world. -/
import Derived.Test.YteaeekhepgjliaaDoorPlain
import Derived.Test.YteaeekhepgjliaaDoorProg
import Derived.Handy
import Derived.PlainAid
import Derived.Lib.Hide
import Derived.Deep.QuietTactic
import Derived.BigQuiet
import Derived.Outline
namespace Go.Proofs.YteaeekhepgjliaaDoor
open Go.RowKit

theorem isBlank_int (c : UInt8) : isBlank c = ((c.toNat : Int) == 32 || (c.toNat : Int) == 9) := by
  unfold isBlank
  rw [Bool.eq_iff_iff]
  simp only [Bool.or_eq_true, beq_iff_eq, ← UInt8.toNat_inj]
  simp
  omega
theorem refBlank (c : UInt8) (w : World) :
    Calls Tryd.prog 25 #[.int .u8 (c.toNat : Int)] w fun e w' => e = .returned (.bool (isBlank c)) ∧ w = w' := by
  have H := Lib.hid (isBlank_int c)
  go_enter Tryd.func25, Tryd.ntmps25
  go_wp2
  all_goals
    go_ret
    refine ⟨?_, rfl⟩
    rw [H.out]
    simp [*]

theorem retb {a b : Bool} (h : b = a) : Ending.returned (.bool a) = .returned (.bool b) := by rw [h]
set_option maxHeartbeats 400000 in
theorem refKey (s : ByteArray) (hs : s.size ≤ 9223372036854775807) (w : World) :
    Calls Tryd.prog 14 #[.string s] w fun e w' => e = .returned (.bool (goodKey s.data.toList)) ∧ w = w' := by
  go_enter Tryd.func14, Tryd.ntmps14
  go_wp2_with (go_at_call 25; refine (refBlank _ _).mono ?_; rintro e w' ⟨rfl, rfl⟩)
  · go_ret
    exact ⟨retb (key_blank s (by assumption) (by assumption)), rfl⟩
  · have h0 : 0 < s.size := by assumption
    have h : ((s.size : Int) < 1 ∨ 32 < (s.size : Int)) ∨ ((s[0].toNat : Int) == 35) = true := by assumption
    have h3 : (s[0].toNat : Int) = 35 := by
      rcases h with h | h
      · omega
      · simpa using h
    go_ret
    exact ⟨retb (key_hash s h0 (byte_is 35 h3)), rfl⟩
  · have h0 : 0 < s.size := by assumption
    have h1 : (s.size : Int) ≤ 32 := by assumption
    have h2 : ¬ isBlank s[0] = true := by assumption
    have h : (1 ≤ (s.size : Int) ∧ (s.size : Int) ≤ 32) ∧ ((s[0].toNat : Int) == 35) = false := by assumption
    have h3 : s[0] ≠ 35 := byte_not 35 (by simpa using h.2)
    go_loop [3] (fun i => ∃ k : Nat, k ≤ s.size ∧ i = .int .i64 k ∧ Clean s.data.toList k) (fun i => s.size - (intOf i).toNat)
    case atStart => exact ⟨0, Nat.zero_le _, rfl, Clean.zero _⟩
    case round =>
      obtain ⟨k, hk, rfl, hc⟩ := hrel
      go_wp2
      · have hlt : k < s.size := by assumption
        have e : (s[k].toNat : Int) = 58 := by assumption
        go_ret
        exact ⟨retb (key_has _ k (.inl (get_is s k hlt 58 e))), rfl⟩
      · have hlt : k < s.size := by assumption
        have e0 : ¬ (s[k].toNat : Int) = 58 := by assumption
        have e : ((s[k].toNat : Int) == 58) = true ∨ ((s[k].toNat : Int) == 10) = true := by assumption
        have e1 : (s[k].toNat : Int) = 10 := by simpa [e0] using e
        go_ret
        exact ⟨retb (key_has _ k (.inr (get_is s k hlt 10 e1))), rfl⟩
      · have hlt : k < s.size := by assumption
        have e : ((s[k].toNat : Int) == 58) = false ∧ ((s[k].toNat : Int) == 10) = false := by assumption
        go_round
        case rel => exact ⟨k + 1, by omega, by go_num, hc.succ (get_not s k hlt 58 (by simpa using e.1)) (get_not s k hlt 10 (by simpa using e.2))⟩
        case measure => simp [intOf]; omega
      · have hge : s.size ≤ k := by omega
        go_ret
        obtain rfl : k = s.size := by omega
        exact ⟨retb (key_good s h0 h1 h2 h3 hc), rfl⟩
  · go_ret
    exact ⟨retb (key_long s (by assumption)), rfl⟩
  · go_ret
    exact ⟨retb (key_none s (by assumption)), rfl⟩
theorem ret3 {a b : ByteArray} {c : Bool} {t : List UInt8 × List UInt8 × Bool} (ht : t = (a.data.toList, b.data.toList, c)) :
    Ending.returned (.tuple #[.string a, .string b, .bool c]) = .returned (.tuple #[.string ⟨t.1.toArray⟩, .string ⟨t.2.1.toArray⟩, .bool t.2.2]) := by
  subst ht; simp only [Array.toArray_toList]
set_option maxHeartbeats 400000 in
theorem refCut (s : ByteArray) (hs : s.size ≤ 9223372036854775807) (w : World) :
    Calls Tryd.prog 10 #[.string s] w fun e w' => e = .returned (.tuple #[.string ⟨(cutOf s.data.toList).1.toArray⟩, .string ⟨(cutOf s.data.toList).2.1.toArray⟩, .bool (cutOf s.data.toList).2.2]) ∧ ∃ n, w' = w.drewN n := by
  have L := Lib.hid (size_len s)
  go_enter Tryd.func10, Tryd.ntmps10
  go_wp2
  go_loop [5] (fun i => ∃ k : Nat, k ≤ s.size ∧ i = .int .i64 k ∧ Free 10 s.data.toList k) (fun i => s.size - (intOf i).toNat)
  case atStart => exact ⟨0, Nat.zero_le _, rfl, Free.zero _ _⟩
  case round =>
    obtain ⟨k, hk, rfl, hc⟩ := hrel
    go_wp2
    · have hlt : k < s.size := by assumption
      have e := get_isb s k hlt 10 (by assumption)
      go_ret3
      exact ⟨ret3 (cut_end e), 0, rfl⟩
    · have hlt : k < s.size := by assumption
      have e := get_notb s k hlt 10 (by assumption)
      go_round
      case rel => exact ⟨k + 1, by omega, by go_num, hc.succ e⟩
      case measure => simp [intOf]; omega
    · have hge : s.size ≤ k := by omega
      have h10 : Hid (s.data.toList.contains 10 = false) := hc.none (by rw [L.out]; omega)
      clear hc hk hge
      go_loop [6] (fun i => ∃ k : Nat, k ≤ s.size ∧ i = .int .i64 k ∧ Free 58 s.data.toList k) (fun i => s.size - (intOf i).toNat)
      case atStart => exact ⟨0, Nat.zero_le _, rfl, Free.zero _ _⟩
      case round =>
        obtain ⟨k, hk, rfl, hc⟩ := hrel
        go_wp2_with fail
        · have hlt : k < s.size := by assumption
          have e := Lib.hid (get_isb s k hlt 58 (by assumption))
          have B1 := take_size_le s k
          have E1 := Lib.hid (extract_take_data s k)
          have R := refKey (s.extract 0 k) (by omega) w
          rw [E1.out] at R
          obtain ⟨g, G⟩ : ∃ g, Hid (goodKey (s.data.toList.take k) = g) := ⟨_, rfl⟩
          rw [G.out] at R
          have hl1 : k + 1 ≤ s.size := by omega
          have W1 : IntKind.i64.wrap ((k : Int) + 1) = (k : Int) + 1 := IntWalk.i64_in _ (by omega)
          have W2 : ((k : Int) + 1).toNat = k + 1 := by omega
          have W3 : 0 ≤ (k : Int) + 1 := by omega
          refine R.mono ?_
          clear R
          rintro e1 w1 ⟨rfl, rfl⟩
          cases g
          · go_wp2
            go_ret3
            exact ⟨ret3 (cut_bad h10.out hc e.out G.out), 0, rfl⟩
          · go_wp2
            go_quiet (fail)
            go_wp2
            go_ret3
            exact ⟨ret3 (by rw [cut_good h10.out hc e.out G.out, extract_take, extract_drop]), _, rfl⟩
        · have hlt : k < s.size := by assumption
          have e := get_notb s k hlt 58 (by assumption)
          go_round
          case rel => exact ⟨k + 1, by omega, by go_num, hc.succ e⟩
          case measure => simp [intOf]; omega
        · go_ret3
          exact ⟨ret3 (cut_none h10.out hc (by rw [L.out]; omega)), 0, rfl⟩
theorem reti0 {a b : Int} (h : b = a) : Ending.returned (.int .i64 a) = .returned (.int .i64 b) := by rw [h]
set_option maxHeartbeats 400000 in
theorem refKind (s : ByteArray) (hs : s.size ≤ 9223372036854775807) (w : World) :
    Calls Tryd.prog 11 #[.string s] w fun e w' => e = .returned (.int .i64 (kindOf s.data.toList)) ∧ ∃ n, w' = w.drewN n := by
  have L := Lib.hid (size_len s)
  go_enter Tryd.func11, Tryd.ntmps11
  go_wp2
  go_loop [3, 4] (fun b i => ∃ k : Nat, k ≤ s.size ∧ i = .int .i64 k ∧ b = .bool ((s.data.toList.take k).all isBlank) ∧ Free 10 s.data.toList k) (fun _ i => s.size - (intOf i).toNat)
  case atStart => exact ⟨0, Nat.zero_le _, rfl, rfl, Free.zero _ _⟩
  case round =>
    obtain ⟨k, hk, rfl, rfl, hc⟩ := hrel
    have h0 : (s.data.toList.take k).all isBlank = false → 0 < s.size := by
      intro h
      rcases Nat.eq_zero_or_pos k with rfl | hk0
      · simp at h
      · omega
    obtain ⟨b, B⟩ : ∃ b, Hid ((s.data.toList.take k).all isBlank = b) := ⟨_, rfl⟩
    rw [B.out] at h0 ⊢
    cases b
    · have hpos : 0 < s.size := h0 rfl
      clear h0
      go_wp2_with (first | (go_at_call 25; refine (refBlank _ _).mono ?_; rintro e w' ⟨rfl, rfl⟩) | (go_at_call 10; refine (refCut s hs _).mono ?_; rintro e w' ⟨rfl, n, rfl⟩))
      · have hlt : k < s.size := by assumption
        have e : has 10 s.data.toList = true := contains_of_get _ _ _ (get_isb s k hlt 10 (by assumption))
        go_ret
        exact ⟨reti0 (by rw [kindOf_eq, e]; rfl), 0, rfl⟩
      · have hlt : k < s.size := by assumption
        have e := get_notb s k hlt 10 (by assumption)
        go_round
        case rel => exact ⟨k + 1, by omega, by go_num, by rw [all_take_succ _ _ _ (get_data s k hlt), B.out]; rfl, hc.succ e⟩
        case measure => simp [intOf]; omega
      all_goals
        have hge : s.size ≤ k := by omega
        have h1 : has 10 s.data.toList = false := hc.none (by rw [L.out]; omega)
        have h2 : s.data.toList.all isBlank = false := by have := B.out; rwa [List.take_of_length_le (by rw [L.out]; omega)] at this
      · have h3 := begins_yes s hpos (by assumption)
        go_ret
        exact ⟨reti0 (by rw [kindOf_eq, h1, h2, h3]; rfl), 0, rfl⟩
      all_goals
        have h3 := begins_no s hpos (by assumption)
        have h4 := blankHead_of s hpos
      · have h5 : isBlank s[0] = true := by assumption
        go_ret
        exact ⟨reti0 (by rw [kindOf_eq, h1, h2, h3, h4, h5]; rfl), 0, rfl⟩
      all_goals
        have h5 : isBlank s[0] = false := by assumption
        have h6 := cutOf_ok _ h1
      · have h7 : (cutOf s.data.toList).2.2 = true := by assumption
        rw [h6] at h7
        go_ret
        exact ⟨reti0 (by rw [kindOf_eq, h1, h2, h3, h4, h5, h7]; rfl), n, rfl⟩
      · have h7 : (cutOf s.data.toList).2.2 = false := by assumption
        rw [h6] at h7
        go_ret
        exact ⟨reti0 (by rw [kindOf_eq, h1, h2, h3, h4, h5, h7]; rfl), n, rfl⟩
    · clear h0
      go_wp2_with (go_at_call 25; refine (refBlank _ _).mono ?_; rintro e w' ⟨rfl, rfl⟩)
      · have hlt : k < s.size := by assumption
        have e : has 10 s.data.toList = true := contains_of_get _ _ _ (get_isb s k hlt 10 (by assumption))
        go_ret
        exact ⟨reti0 (by rw [kindOf_eq, e]; rfl), 0, rfl⟩
      · have hlt : k < s.size := by assumption
        have e := get_notb s k hlt 10 (by assumption)
        go_round
        case rel => exact ⟨k + 1, by omega, by go_num, by rw [all_take_succ _ _ _ (get_data s k hlt), B.out]; rfl, hc.succ e⟩
        case measure => simp [intOf]; omega
      · have hge : s.size ≤ k := by omega
        have h1 : has 10 s.data.toList = false := hc.none (by rw [L.out]; omega)
        have h2 : s.data.toList.all isBlank = true := by have := B.out; rwa [List.take_of_length_le (by rw [L.out]; omega)] at this
        go_ret
        exact ⟨reti0 (by rw [kindOf_eq, h1, h2]; rfl), 0, rfl⟩
end Go.Proofs.YteaeekhepgjliaaDoor
