/- How many of the first bytes of a text stand in whole lines (lines.Whole, the reference's Whole), and the walk of the statement LinesWhole. -/
import Derived.Test.YteaeekhepgjliaaDoorAlive
namespace Go.Proofs.YteaeekhepgjliaaDoor
open Go.RowKit

/-- Behind the last line end among the first k bytes. -/
def lastEnd (l : List UInt8) : Nat → Nat
  | 0 => 0
  | k + 1 => if l[k]? = some 10 then k + 1 else lastEnd l k
theorem lastEnd_le (l : List UInt8) : ∀ k, lastEnd l k ≤ k
  | 0 => Nat.le_refl _
  | k + 1 => by
    have := lastEnd_le l k
    unfold lastEnd; split <;> omega
theorem lastEnd_byte (l : List UInt8) : ∀ k, lastEnd l k = 0 ∨ (1 ≤ lastEnd l k ∧ l[lastEnd l k - 1]? = some 10)
  | 0 => .inl rfl
  | k + 1 => by
    unfold lastEnd
    split
    · rename_i h; right; exact ⟨by omega, by simpa using h⟩
    · exact lastEnd_byte l k
theorem lastEnd_hit {l : List UInt8} {k : Nat} (h : l[k]? = some 10) : lastEnd l (k + 1) = k + 1 := by unfold lastEnd; rw [if_pos h]
theorem lastEnd_miss {l : List UInt8} {k : Nat} (h : l[k]? ≠ some 10) : lastEnd l (k + 1) = lastEnd l k := by rw [lastEnd]; rw [if_neg h]
theorem lastEnd_take (l : List UInt8) (m : Nat) : ∀ k, k ≤ m → lastEnd (l.take m) k = lastEnd l k
  | 0, _ => rfl
  | k + 1, h => by
    have e : (l.take m)[k]? = l[k]? := by rw [List.getElem?_take, if_pos (by omega)]
    have ih := lastEnd_take l m k (by omega)
    by_cases hk : l[k]? = some 10
    · rw [lastEnd_hit hk, lastEnd_hit (e.trans hk)]
    · rw [lastEnd_miss hk, lastEnd_miss (by rw [e]; exact hk), ih]
theorem lastIdx_end (s : ByteArray) : ∀ k, k ≤ s.size → Lib.lastIdx s 10 k + 1 = (lastEnd s.data.toList k : Int)
  | 0, _ => rfl
  | k + 1, h => by
    have hk : k < s.size := by omega
    have e : s.data[k]! = s[k] := by
      rw [getElem!_pos s.data k hk]; rfl
    have ih := lastIdx_end s k (by omega)
    by_cases h10 : ((s[k].toNat : Int) = 10)
    · have g : s.data.toList[k]? = some 10 := get_is s k hk 10 h10
      rw [lastEnd_hit g, Lib.lastIdx_hit s 10 k (by rw [e]; exact h10)]; simp
    · have g : s.data.toList[k]? ≠ some 10 := get_not s k hk 10 h10
      rw [lastEnd_miss g, Lib.lastIdx_miss s 10 k (by rw [e]; exact h10), ih]
/-- How many bytes are looked at. -/
def upTo (n : Int) (len : Nat) : Nat := (max 0 (min n len)).toNat
theorem upTo_le (n : Int) (len : Nat) : upTo n len ≤ len := by unfold upTo; omega
set_option maxHeartbeats 400000 in
theorem whole_any (s : ByteArray) (hs : s.size ≤ 1000000) (n : Int) (w : World) :
    Calls Tryd.prog 18 #[.string s, .int .i64 n] w fun e w' => e = .returned (.int .i64 (lastEnd s.data.toList (upTo n s.size))) ∧ w = w' := by
  have I : ∀ m, m ≤ s.size → Calls Tryd.prog 33 #[.string (s.extract 0 m), .string ⟨#[10]⟩] w fun e w' => e = .returned (.int .i64 ((lastEnd s.data.toList m : Int) - 1)) ∧ w' = w := by
    intro m hm
    have z : (s.extract 0 m).size = m := by rw [← size_len, extract_take_data, List.length_take, size_len]; omega
    have e1 : Lib.lastIndexByte (s.extract 0 m) (((⟨#[10]⟩ : ByteArray)[0]'(by decide)).toNat : Int) = (lastEnd s.data.toList m : Int) - 1 := by
      have := lastIdx_end (s.extract 0 m) (s.extract 0 m).size (Nat.le_refl _)
      rw [extract_take_data, z, lastEnd_take _ _ _ (Nat.le_refl _)] at this
      show Lib.lastIdx (s.extract 0 m) 10 (s.extract 0 m).size = _
      rw [z]; omega
    have := (Tryd.strings_LastIndex_one (s.extract 0 m) ⟨#[10]⟩ rfl (by omega) w)
    rwa [e1] at this
  have I' := Lib.hid (I _ (upTo_le n s.size))
  have hl := lastEnd_le s.data.toList (upTo n s.size)
  have hu := upTo_le n s.size
  have ht : (lastEnd s.data.toList (upTo n s.size) : Int) ≤ 1000000 := by omega
  clear I
  go_enter Tryd.func18, Tryd.ntmps18
  go_wp2_with fail
  refine I'.out.mono ?_
  rintro e w' ⟨rfl, rfl⟩
  go_wp2
  go_ret
  exact ⟨reti (by omega), rfl⟩
set_option maxHeartbeats 400000 in
theorem refWhole (s : ByteArray) (hs : s.size ≤ 1000000) (n : Int) (w : World) :
    Calls Tryd.prog 19 #[.string s, .int .i64 n] w fun e w' => e = .returned (.int .i64 (lastEnd s.data.toList (upTo n s.size))) ∧ w = w' := by
  go_enter Tryd.func19, Tryd.ntmps19
  go_wp2
  go_loop [5, 6] (fun o i => ∃ k : Nat, k ≤ upTo n s.size ∧ i = .int .i64 k ∧ o = .int .i64 (lastEnd s.data.toList k)) (fun _ i => s.size - (intOf i).toNat)
  case atStart => exact ⟨0, Nat.zero_le _, rfl, rfl⟩
  case round =>
    obtain ⟨k, hk, rfl, rfl⟩ := hrel
    have hu := upTo_le n s.size
    go_wp2
    · have hlt : k < s.size := by assumption
      have hn : (k : Int) < n := by assumption
      have e : s.data.toList[k]? = some 10 := get_isb s k hlt 10 (by assumption)
      go_round
      case rel => exact ⟨k + 1, by unfold upTo at *; omega, by go_num, by rw [lastEnd_hit e]; go_num⟩
      case measure => simp [intOf]; omega
    · have hlt : k < s.size := by assumption
      have hn : (k : Int) < n := by assumption
      have e : s.data.toList[k]? ≠ some 10 := get_notb s k hlt 10 (by assumption)
      go_round
      case rel => exact ⟨k + 1, by unfold upTo at *; omega, by go_num, by rw [lastEnd_miss e]⟩
      case measure => simp [intOf]; omega
    · have hn : n ≤ (k : Int) := by assumption
      have e : upTo n s.size = k := by unfold upTo at *; omega
      go_ret
      exact ⟨reti (by rw [e]), rfl⟩
    · have e : upTo n s.size = k := by unfold upTo at *; omega
      go_ret
      exact ⟨reti (by rw [e]), rfl⟩
set_option maxHeartbeats 1000000 in
theorem whole_walk (s : ByteArray) (n : Int) (w : World) :
    Calls Tryd.prog 6 #[.string s, .int .i64 n] w fun e w' => e = .returned (.bool true) ∧ Below w.heap.size w w' := by
  by_cases h5 : (5000 : Int) < s.size
  · go_enter Tryd.func6, Tryd.ntmps6
    go_wp2_with (go_at_call 8; refine (alive_any _).mono ?_; rintro e w1 ⟨rfl, b1⟩)
    go_ret
    exact ⟨rfl, b1⟩
  · have h5' : (s.size : Int) ≤ 5000 := by omega
    clear h5
    have A := fun w => whole_any s (by omega) n w
    have B := fun w => refWhole s (by omega) n w
    have hb := lastEnd_byte s.data.toList (upTo n s.size)
    have hl := lastEnd_le s.data.toList (upTo n s.size)
    have hu : upTo n s.size ≤ s.size := upTo_le n s.size
    have hn : (upTo n s.size : Int) ≤ max 0 n := by unfold upTo; omega
    obtain ⟨k, hk⟩ : ∃ k : Nat, lastEnd s.data.toList (upTo n s.size) = k := ⟨_, rfl⟩
    rw [hk] at A B hb hl
    have A' := Lib.hid A
    have B' := Lib.hid B
    clear A B hk
    rcases hb with rfl | ⟨h1, h2⟩
    · clear hl hu hn
      go_enter Tryd.func6, Tryd.ntmps6
      go_wp2_with (first | (go_at_call 8; refine (alive_any _).mono ?_; rintro e w1 ⟨rfl, b1⟩) | (go_at_call 18; refine (A'.out _).mono ?_; rintro e w2 ⟨rfl, rfl⟩) | (go_at_call 19; refine (B'.out _).mono ?_; rintro e w2 ⟨rfl, rfl⟩))
      go_ret
      exact ⟨rfl, b1⟩
    · have hks : k ≤ s.size := by omega
      have hkn : (k : Int) ≤ n := by omega
      have hlt : k - 1 < s.size := by omega
      have hby : s[k - 1] = 10 := by have := get_data s (k - 1) hlt; rw [h2] at this; simpa using this.symm
      have hx : ((s[k - 1].toNat : Int) == 10) = true := by rw [hby]; rfl
      have W1 : ((k : Int) - 1).toNat = k - 1 := by omega
      clear hl hu hn h2 hby
      go_enter Tryd.func6, Tryd.ntmps6
      go_wp2_with (first | (go_at_call 8; refine (alive_any _).mono ?_; rintro e w1 ⟨rfl, b1⟩) | (go_at_call 18; refine (A'.out _).mono ?_; rintro e w2 ⟨rfl, rfl⟩) | (go_at_call 19; refine (B'.out _).mono ?_; rintro e w2 ⟨rfl, rfl⟩))
      go_ret
      exact ⟨rfl, b1⟩
end Go.Proofs.YteaeekhepgjliaaDoor
