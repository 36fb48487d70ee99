/- The walk of the statement LinesKinds: it returns true at every line, and nothing that was there before the call has changed. -/
import Derived.Test.YteaeekhepgjliaaDoorAlive
namespace Go.Proofs.YteaeekhepgjliaaDoor
open Go.RowKit

theorem cutOf4 {l : List UInt8} (h : kindOf l = 4) : cutOf l = (ahead 58 l, behind 58 l, true) := by
  obtain ⟨h1, h2, h3⟩ := kind4 h
  unfold has at h1 h2
  unfold cutOf; rw [h2, h1, h3]; rfl
set_option maxHeartbeats 1000000 in
theorem kinds_walk (s : ByteArray) (hs : s.size ≤ 9223372036854775807) (w : World) :
    Calls Tryd.prog 3 #[.string s] w fun e w' => e = .returned (.bool true) ∧ Below w.heap.size w w' := by
  by_cases h5 : 5000 < s.size
  · have h5' : (5000 : Int) < (s.size : Int) := by omega
    clear h5
    go_enter Tryd.func3, Tryd.ntmps3
    go_wp2_with (go_at_call 8; refine (alive_any _).mono ?_; rintro e w1 ⟨rfl, b1⟩)
    go_ret
    exact ⟨rfl, b1⟩
  · have h5' : (s.size : Int) ≤ 5000 := by omega
    clear h5
    have C := fun w => cut_any s hs w
    have R := fun w => refCut s hs w
    have K := fun w => kind_any s hs w
    have Q := fun w => refKind s hs w
    by_cases h4 : kindOf s.data.toList = 4
    · have e1 : lineCut s.data.toList = (ahead 58 s.data.toList, behind 58 s.data.toList, true) := by unfold lineCut; rw [if_pos h4]
      have e2 := cutOf4 h4
      have hg := (kind4 h4).2.2
      rw [h4] at K Q
      rw [e1] at C
      rw [e2] at R
      have hE := ahead_append 58 s.data.toList (kind4 h4).1
      obtain ⟨a, hA⟩ : ∃ a : ByteArray, (⟨(ahead 58 s.data.toList).toArray⟩ : ByteArray) = a := ⟨_, rfl⟩
      obtain ⟨b, hB⟩ : ∃ b : ByteArray, (⟨(behind 58 s.data.toList).toArray⟩ : ByteArray) = b := ⟨_, rfl⟩
      have hK : goodKey a.data.toList = true := by rw [← hA]; exact hg
      have hS : Hid ((a ++ (⟨#[58]⟩ : ByteArray) ++ b).toList = s.toList) := by
        show _ = _
        rw [← hA, ← hB, Lib.toList_data, Lib.toList_data]
        simpa using hE
      have hl : a.size + 1 + b.size = s.size := by
        have := congrArg List.length hS.out
        rw [Lib.toList_data, Lib.toList_data, size_len, size_len] at this
        have e1 : (⟨#[58]⟩ : ByteArray).size = 1 := rfl
        rw [← this, ByteArray.size_append, ByteArray.size_append, e1]
      have G := fun w => key_any a w
      rw [hK] at G
      simp only [hA, hB] at C R
      have C' := Lib.hid C
      have R' := Lib.hid R
      have K' := Lib.hid K
      have Q' := Lib.hid Q
      have G' := Lib.hid G
      have hl1 : a.size + 1 + b.size ≤ 5000 := by omega
      clear C R K Q G e1 e2 hE hA hB hK hg h4 hl
      go_enter Tryd.func3, Tryd.ntmps3
      go_wp2_with (first | (go_at_call 8; refine (alive_any _).mono ?_; rintro e w1 ⟨rfl, b1⟩) | (go_at_call 9; refine (C'.out _).mono ?_; rintro e w2 ⟨rfl, b2⟩) | (go_at_call 10; refine (R'.out _).mono ?_; rintro e w3 ⟨rfl, n3, rfl⟩) | (go_at_call 11; refine (Q'.out _).mono ?_; rintro e w4 ⟨rfl, n4, rfl⟩) | (go_at_call 12; refine (K'.out _).mono ?_; rintro e w5 ⟨rfl, b5⟩) | (go_at_call 13; refine (G'.out _).mono ?_; rintro e w6 ⟨rfl, rfl⟩))
      go_ret
      exact ⟨rfl, below_cat b1 (below_cat b2 (below_cat (below_dn (Below.refl _ w2) _) (below_dn b5 _)))⟩
    · have e1 : lineCut s.data.toList = ([], [], false) := by unfold lineCut; rw [if_neg h4]
      rw [e1] at C
      obtain ⟨k, hk⟩ : ∃ k : Nat, kindOf s.data.toList = k := ⟨_, rfl⟩
      obtain ⟨c, hc⟩ : ∃ c, cutOf s.data.toList = c := ⟨_, rfl⟩
      rw [hk] at K Q h4
      rw [hc] at R
      have h4' : ¬ (k : Int) = 4 := by omega
      have C' := Lib.hid C
      have R' := Lib.hid R
      have K' := Lib.hid K
      have Q' := Lib.hid Q
      clear C R K Q e1 hk hc h4
      go_enter Tryd.func3, Tryd.ntmps3
      go_wp2_with (first | (go_at_call 8; refine (alive_any _).mono ?_; rintro e w1 ⟨rfl, b1⟩) | (go_at_call 9; refine (C'.out _).mono ?_; rintro e w2 ⟨rfl, b2⟩) | (go_at_call 10; refine (R'.out _).mono ?_; rintro e w3 ⟨rfl, n3, rfl⟩) | (go_at_call 11; refine (Q'.out _).mono ?_; rintro e w4 ⟨rfl, n4, rfl⟩) | (go_at_call 12; refine (K'.out _).mono ?_; rintro e w5 ⟨rfl, b5⟩))
      go_ret
      exact ⟨rfl, below_cat b1 (below_cat b2 (below_cat (below_dn (Below.refl _ w2) _) (below_dn b5 _)))⟩
end Go.Proofs.YteaeekhepgjliaaDoor
