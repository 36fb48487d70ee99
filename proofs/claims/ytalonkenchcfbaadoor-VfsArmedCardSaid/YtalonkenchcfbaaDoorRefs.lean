/- The reference's methods at a disk on which there is nothing: each comes back. -/
import Derived.Test.YtalonkenchcfbaaDoorCut
import Derived.Test.YtalonkenchcfbaaDoorSwaps
namespace Go.Proofs.YtalonkenchcfbaaDoor
open Go.RowKit Go.Maps

def BoolPost (w : World) (e : Ending) (w' : World) : Prop := (∃ r : Bool, e = .returned (.bool r)) ∧ w = w'
theorem refGood (s : ByteArray) (hs : s.size ≤ 1000000) (w : World) : Calls Tryd.prog 60 #[.string s] w (BoolPost w) := by
  by_cases h1 : s.size < 1
  · have h1' : (s.size : Int) < 1 := by omega
    go_enter Tryd.func60, Tryd.ntmps60
    go_wp2
    go_ret
    exact ⟨⟨_, rfl⟩, rfl⟩
  · by_cases h2 : 20 < s.size
    · have h1' : ¬ (s.size : Int) < 1 := by omega
      have h2' : (20 : Int) < s.size := by omega
      go_enter Tryd.func60, Tryd.ntmps60
      go_wp2
      go_ret
      exact ⟨⟨_, rfl⟩, rfl⟩
    · have h1' : ¬ (s.size : Int) < 1 := by omega
      have h2' : ¬ (20 : Int) < s.size := by omega
      go_enter Tryd.func60, Tryd.ntmps60
      go_wp2
      go_loop [3] (fun i => ∃ k : Nat, i = .int .i64 k ∧ k ≤ s.size) (fun i => s.size - (intOf i).toNat)
      case atStart => exact ⟨0, rfl, Nat.zero_le _⟩
      case round =>
        obtain ⟨k, rfl, hk⟩ := hrel
        by_cases hlt : k < s.size
        · go_wp2
          all_goals first | (go_ret; exact ⟨⟨_, rfl⟩, rfl⟩) | exact ⟨⟨k + 1, by go_num, by omega⟩, by simp [intOf]; omega⟩
        · go_wp2
          go_ret
          exact ⟨⟨_, rfl⟩, rfl⟩
/-- The disk on which there is nothing. -/
abbrev zDisk : Value := .agg #[.int .i64 0, .slice none 0 0, .slice none 0 0, .slice none 0 0, .int .i64 0, .int .i64 0, .bool false, .bool false, .slice none 0 0]
def DirPost (w : World) (e : Ending) (w' : World) : Prop := e = .returned (.slice none 0 0) ∧ Below w.heap.size w w'
theorem refDir (w : World) : Calls Tryd.prog 61 #[zDisk] w (DirPost w) := by
  go_enter Tryd.func61, Tryd.ntmps61
  go_wp2
  go_loopw [3, 4] (fun l i wr => l = .slice none 0 0 ∧ i = .int .i64 0 ∧ wr.cell? ⟨w.heap.size, 2, none⟩ = some (.slice none 0 0) ∧ wr.cell? ⟨w.heap.size, 3, none⟩ = some (.slice none 0 0) ∧ Hid (Below w.heap.size w wr)) (fun _ _ _ => 0)
  case atStart => exact ⟨rfl, rfl, World.cell?_alloc_new _ _ _ _, World.cell?_alloc_new _ _ _ _, (Below.refl _ _).alloc (Nat.le_refl _) _⟩
  case round =>
    obtain ⟨rfl, rfl, c2, c3, hw⟩ := hrel
    go_wp2
    go_ret
    exact ⟨rfl, hw.out⟩
theorem refFind (s : ByteArray) (w : World) : Calls Tryd.prog 67 #[.slice none 0 0, .string s] w fun e w' => e = .returned (.int .i64 (-1)) ∧ w = w' := by
  go_enter Tryd.func67, Tryd.ntmps67
  go_wp2
  go_loop [5] (fun i => i = .int .i64 0) (fun _ => 0)
  case atStart => rfl
  case round =>
    obtain rfl := hrel
    go_wp2
    go_ret
    exact ⟨rfl, rfl⟩
/-- What a question about a name ends in, where there is nothing. -/
def AskedPost (w : World) (e : Ending) (w' : World) : Prop := ∃ k : Nat, (k = 1 ∨ k = 7) ∧ e = .returned (.tuple #[.int .i64 (-1), .int .i64 k]) ∧ Below w.heap.size w w'
theorem refAsked (s : ByteArray) (hs : s.size ≤ 1000000) (w : World) : Calls Tryd.prog 52 #[zDisk, .string s] w (AskedPost w) := by
  have G := Lib.hid (fun w => refGood s hs w)
  have Dr := Lib.hid refDir
  have Fi := Lib.hid (refFind s)
  have hb : Hid (Below w.heap.size w (w.alloc (.cells #[.int .i64 0, .slice none 0 0, .slice none 0 0, .slice none 0 0, .int .i64 0, .int .i64 0, .bool false, .bool false, .slice none 0 0] 51))) := Lib.hid ((Below.refl _ _).alloc (Nat.le_refl _) _)
  go_enter Tryd.func52, Tryd.ntmps52
  go_wp2_with fail
  refine (G.out _).mono ?_
  rintro e w1 ⟨⟨r, rfl⟩, rfl⟩
  cases r
  · go_wp2_with fail
    go_ret2
    exact ⟨1, .inl rfl, rfl, hb.out⟩
  · go_wp2_with fail
    refine (Dr.out _).mono ?_
    rintro e w2 ⟨rfl, b2⟩
    go_wp2_with fail
    refine (Fi.out _).mono ?_
    rintro e w3 ⟨rfl, rfl⟩
    go_wp2_with fail
    go_ret2
    exact ⟨7, .inr rfl, rfl, hb.out.trans (b2.mono (by simp))⟩
end Go.Proofs.YtalonkenchcfbaaDoor
