/- Every method of a disk at a nil receiver. -/
import Derived.Test.YthfcmgbkhjnfjaaGreatDoorVD
namespace Go.Proofs.YthfcmgbkhjnfjaaGreatDoor
open Go.RowKit Go.Maps

/-- The power is gone. -/
abbrev downV : Value := .iface 31 (.int .i64 3)
theorem asked_nil (lo : Option Addr) (ln lc : Nat) (w : World) :
    Calls Tryz.prog 53 #[.pointer none, .slice lo ln lc] w fun e w' => e = .returned downV ∧ w = w' := by
  go_enter Tryz.func53, Tryz.ntmps53
  go_wp2_with fail
  go_ret
  exact ⟨rfl, rfl⟩
theorem file_nil (s : ByteArray) (w : World) :
    Calls Tryz.prog 48 #[.pointer none, .string s] w fun e w' => e = .returned (.tuple #[.pointer none, downV]) ∧ Below w.heap.size w w' := by
  have hb : Hid (Below w.heap.size w (w.alloc (.cells #[.string s] 9))) := Lib.hid ((Below.refl _ _).alloc (Nat.le_refl _) _)
  go_enter Tryz.func48, Tryz.ntmps48
  go_wp2_with fail
  refine (asked_nil _ _ _ _).mono ?_
  rintro e w1 ⟨rfl, rfl⟩
  go_wp2_with fail
  go_ret2
  exact ⟨rfl, hb.out⟩
set_option maxRecDepth 20000 in
theorem create_nil (s : ByteArray) (w : World) :
    Calls Tryz.prog 15 #[.pointer none, .string s] w fun e w' => e = .returned downV ∧ Below w.heap.size w w' := by
  have q := fun w => ne37 w
  go_enter Tryz.func15, Tryz.ntmps15
  go_wp2_with fail
  refine (file_nil _ w).mono ?_
  rintro e w1 ⟨rfl, hb⟩
  have HB := Lib.hid hb
  clear hb
  go_wp2_with fail
  go_ret
  exact ⟨rfl, HB.out⟩
set_option maxRecDepth 20000 in
theorem write_nil (s t : ByteArray) (w : World) :
    Calls Tryz.prog 16 #[.pointer none, .string s, .string t] w fun e w' => e = .returned downV ∧ Below w.heap.size w w' := by
  go_enter Tryz.func16, Tryz.ntmps16
  go_wp2_with fail
  refine (file_nil _ w).mono ?_
  rintro e w1 ⟨rfl, hb⟩
  have HB := Lib.hid hb
  clear hb
  go_wp2_with fail
  go_ret
  exact ⟨rfl, HB.out⟩
set_option maxRecDepth 20000 in
theorem cut_nil (s : ByteArray) (n : Int) (w : World) :
    Calls Tryz.prog 17 #[.pointer none, .string s, .int .i64 n] w fun e w' => e = .returned downV ∧ Below w.heap.size w w' := by
  go_enter Tryz.func17, Tryz.ntmps17
  go_wp2_with fail
  refine (file_nil _ w).mono ?_
  rintro e w1 ⟨rfl, hb⟩
  have HB := Lib.hid hb
  clear hb
  go_wp2_with fail
  go_ret
  exact ⟨rfl, HB.out⟩
set_option maxRecDepth 20000 in
theorem sync_nil (s : ByteArray) (w : World) :
    Calls Tryz.prog 18 #[.pointer none, .string s] w fun e w' => e = .returned downV ∧ Below w.heap.size w w' := by
  go_enter Tryz.func18, Tryz.ntmps18
  go_wp2_with fail
  refine (file_nil _ w).mono ?_
  rintro e w1 ⟨rfl, hb⟩
  have HB := Lib.hid hb
  clear hb
  go_wp2_with fail
  go_ret
  exact ⟨rfl, HB.out⟩
set_option maxRecDepth 20000 in
theorem remove_nil (s : ByteArray) (w : World) :
    Calls Tryz.prog 20 #[.pointer none, .string s] w fun e w' => e = .returned downV ∧ Below w.heap.size w w' := by
  go_enter Tryz.func20, Tryz.ntmps20
  go_wp2_with fail
  refine (file_nil _ w).mono ?_
  rintro e w1 ⟨rfl, hb⟩
  have HB := Lib.hid hb
  clear hb
  go_wp2_with fail
  go_ret
  exact ⟨rfl, HB.out⟩
theorem rename_nil (s t : ByteArray) (w : World) :
    Calls Tryz.prog 19 #[.pointer none, .string s, .string t] w fun e w' => e = .returned downV ∧ Below w.heap.size w w' := by
  have hb : Hid (Below w.heap.size w (w.alloc (.cells #[.string s, .string t] 9))) := Lib.hid ((Below.refl _ _).alloc (Nat.le_refl _) _)
  go_enter Tryz.func19, Tryz.ntmps19
  go_wp2_with fail
  refine (asked_nil _ _ _ _).mono ?_
  rintro e w1 ⟨rfl, rfl⟩
  go_wp2_with fail
  go_ret
  exact ⟨rfl, hb.out⟩
theorem syncDir_nil (w : World) :
    Calls Tryz.prog 21 #[.pointer none] w fun e w' => e = .returned downV ∧ Below w.heap.size w w' := by
  go_enter Tryz.func21, Tryz.ntmps21
  go_wp2_with fail
  refine (asked_nil _ _ _ _).mono ?_
  rintro e w1 ⟨rfl, rfl⟩
  go_wp2_with fail
  go_ret
  exact ⟨rfl, Below.refl _ _⟩
theorem down_nil (w : World) :
    Calls Tryz.prog 26 #[.pointer none] w fun e w' => e = .returned (.bool true) ∧ w = w' := by
  go_enter Tryz.func26, Tryz.ntmps26
  go_wp2_with fail
  go_ret
  exact ⟨rfl, rfl⟩
theorem read_nil (s : ByteArray) (w : World) :
    Calls Tryz.prog 13 #[.pointer none, .string s] w fun e w' => e = .returned (.tuple #[.string ⟨#[]⟩, downV]) ∧ w = w' := by
  go_enter Tryz.func13, Tryz.ntmps13
  go_wp2_with fail
  refine (down_nil w).mono ?_
  rintro e w1 ⟨rfl, rfl⟩
  go_wp2_with fail
  go_ret2
  exact ⟨rfl, rfl⟩
theorem sure_nil (s : ByteArray) (w : World) :
    Calls Tryz.prog 14 #[.pointer none, .string s] w fun e w' => e = .returned (.tuple #[.string ⟨#[]⟩, .bool false]) ∧ w = w' := by
  go_enter Tryz.func14, Tryz.ntmps14
  go_wp2_with fail
  go_ret2
  exact ⟨rfl, rfl⟩
theorem crash_nil (n : Int) (ko : Option Addr) (kn kc : Nat) (w : World) :
    Calls Tryz.prog 12 #[.pointer none, .int .i64 n, .slice ko kn kc] w fun e w' => e = .returned (.tuple #[]) ∧ w = w' := by
  go_enter Tryz.func12, Tryz.ntmps12
  go_wp2_with fail
  exact bodyPost_ret (v := .tuple #[]) (by simp [results, Tryz.results12, go_sem]) rfl ⟨rfl, rfl⟩
theorem names_nil (w : World) :
    Calls Tryz.prog 23 #[.pointer none] w fun e w' => e = .returned (.slice none 0 0) ∧ w = w' := by
  go_enter Tryz.func23, Tryz.ntmps23
  go_wp2_with fail
  go_ret
  exact ⟨rfl, rfl⟩
theorem free_nil (w : World) :
    Calls Tryz.prog 24 #[.pointer none] w fun e w' => e = .returned (.int .i64 0) ∧ w = w' := by
  go_enter Tryz.func24, Tryz.ntmps24
  go_wp2_with fail
  go_ret
  exact ⟨rfl, rfl⟩
theorem units_nil (w : World) :
    Calls Tryz.prog 25 #[.pointer none] w fun e w' => e = .returned (.int .i64 0) ∧ w = w' := by
  go_enter Tryz.func25, Tryz.ntmps25
  go_wp2_with fail
  go_ret
  exact ⟨rfl, rfl⟩
theorem acts_nil (w : World) :
    Calls Tryz.prog 27 #[.pointer none] w fun e w' => e = .returned (.slice none 0 0) ∧ w = w' := by
  go_enter Tryz.func27, Tryz.ntmps27
  go_wp2_with fail
  go_ret
  exact ⟨rfl, rfl⟩
theorem copy_nil (w : World) :
    Calls Tryz.prog 11 #[.pointer none] w fun e w' => e = .returned (.pointer none) ∧ w = w' := by
  go_enter Tryz.func11, Tryz.ntmps11
  go_wp2_with fail
  go_ret
  exact ⟨rfl, rfl⟩
theorem arm_nil (n : Int) (w : World) :
    Calls Tryz.prog 22 #[.pointer none, .int .i64 n] w fun e w' => e = .returned (downV) ∧ w = w' := by
  go_enter Tryz.func22, Tryz.ntmps22
  go_wp2_with fail
  go_ret
  exact ⟨rfl, rfl⟩
end Go.Proofs.YthfcmgbkhjnfjaaGreatDoor
