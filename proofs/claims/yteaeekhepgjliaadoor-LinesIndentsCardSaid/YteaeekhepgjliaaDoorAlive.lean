/- How many lines a text has (lines.Count), and the fixed fact 'alive' of the layer's statements. -/
import Derived.Test.YteaeekhepgjliaaDoorLines
import Derived.Test.YteaeekhepgjliaaDoorRef
import Derived.Deep.DeepFit
namespace Go.Proofs.YteaeekhepgjliaaDoor
open Go.RowKit

/-- How many lines a text has. -/
def countOf (l : List UInt8) : Nat := Lib.countByte l 10 + if l.isEmpty || Lib.hasSuffix l [10] then 0 else 1
set_option maxHeartbeats 400000 in
theorem count_any (s : ByteArray) (hs : s.size ≤ 1000000) (w : World) :
    Calls Tryd.prog 17 #[.string s] w fun e w' => e = .returned (.int .i64 (countOf s.data.toList)) ∧ w = w' := by
  have L := Lib.hid (toList_nil s)
  have hc : (Lib.countByte s.data.toList 10 : Int) ≤ 1000000 := by
    have := List.count_le_length (a := (10 : UInt8)) (l := s.data.toList)
    rw [size_len] at this
    unfold Lib.countByte
    omega
  have hS := Lib.hid (Tryd.strings_HasSuffix s ⟨#[10]⟩ w (by omega))
  have hC := Lib.hid (Tryd.strings_Count_one s 10 w)
  go_enter Tryd.func17, Tryd.ntmps17
  go_wp2_with fail
  refine hC.out.mono ?_
  rintro e w' ⟨rfl, rfl⟩
  go_wp2_with (go_at_call 32; refine hS.out.mono ?_; rintro e w' ⟨rfl, rfl⟩)
  · have h : s.toList = [] := by assumption
    go_ret
    exact ⟨reti (by unfold countOf; rw [← L.out, h]; rfl), rfl⟩
  · have h : (!s.toList.isEmpty) = true ∧ (!Lib.hasSuffix s.data.toList [10]) = true := by assumption
    have h1 : s.data.toList.isEmpty = false := by rw [← L.out]; simpa using h.1
    have h2 : Lib.hasSuffix s.data.toList [10] = false := by simpa using h.2
    go_ret
    exact ⟨reti (by unfold countOf; rw [h1, h2]; rfl), rfl⟩
  · have h : (!s.toList.isEmpty) = false ∨ (!Lib.hasSuffix s.data.toList [10]) = false := by assumption
    have h1 : s.data.toList.isEmpty = true ∨ Lib.hasSuffix s.data.toList [10] = true := by
      rcases h with h | h
      · left; rw [← L.out]; simpa using h
      · right; simpa using h
    go_ret
    exact ⟨reti (by unfold countOf; rcases h1 with h1 | h1 <;> rw [h1] <;> simp), rfl⟩
theorem below_cat {a b c : World} (h : Below a.heap.size a b) (k : Below b.heap.size b c) : Below a.heap.size a c := h.trans (k.mono h.size)
set_option maxHeartbeats 800000 in
theorem alive_any (w : World) : Calls Tryd.prog 8 #[] w fun e w' => e = .returned (.bool true) ∧ Below w.heap.size w w' := by
  have K1 := Lib.hid (fun w => kind_any ⟨#[97, 58, 32, 98]⟩ (by decide) w)
  have K2 := Lib.hid (fun w => kind_any ⟨#[9, 98]⟩ (by decide) w)
  have K3 := Lib.hid (fun w => kind_any ⟨#[9]⟩ (by decide) w)
  have K4 := Lib.hid (fun w => kind_any ⟨#[97, 98]⟩ (by decide) w)
  have K5 := Lib.hid (fun w => count_any ⟨#[97, 10, 98]⟩ (by decide) w)
  have e1 : kindOf [97, 58, 32, 98] = 4 := by decide
  have e2 : kindOf [9, 98] = 3 := by decide
  have e3 : kindOf [9] = 1 := by decide
  have e4 : kindOf [97, 98] = 5 := by decide
  have e5 : countOf [97, 10, 98] = 2 := by decide
  rw [e1] at K1
  rw [e2] at K2
  rw [e3] at K3
  rw [e4] at K4
  rw [e5] at K5
  clear e1 e2 e3 e4 e5
  go_enter Tryd.func8, Tryd.ntmps8
  go_wp2_with fail
  refine (K1.out _).mono ?_
  rintro e w1 ⟨rfl, b1⟩
  go_wp2_with fail
  refine (K2.out _).mono ?_
  rintro e w2 ⟨rfl, b2⟩
  go_wp2_with fail
  refine (K3.out _).mono ?_
  rintro e w3 ⟨rfl, b3⟩
  go_wp2_with fail
  refine (K4.out _).mono ?_
  rintro e w4 ⟨rfl, b4⟩
  go_wp2_with fail
  refine (K5.out _).mono ?_
  rintro e w5 ⟨rfl, rfl⟩
  go_wp2
  go_ret
  exact ⟨rfl, below_cat b1 (below_cat b2 (below_cat b3 b4))⟩
end Go.Proofs.YteaeekhepgjliaaDoor
