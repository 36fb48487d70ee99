/- The layer of headers: Take and Gen: the generation and the rest, where the text begins with a header, else 0 and the whole text. -/
import Derived.Test.YticafcaoalmdiaaDoorHHead
namespace Go.Proofs.YticafcaoalmdiaaDoor.H
open Go.RowKit

theorem mk_data' (s : ByteArray) : (⟨s.data.toList.toArray⟩ : ByteArray) = s := Lib.mk_data s
theorem retis {n : Int} {a b : ByteArray} (h : a = b) : Ending.returned (.tuple #[.int .i64 n, .string a]) = .returned (.tuple #[.int .i64 n, .string b]) := by rw [h]
set_option maxHeartbeats 800000 in
theorem take_heads (s : ByteArray) (hs : s.size ≤ 1000000) (n : Nat) (r : List UInt8) (h : Heads s.data.toList n r) (w : World) (hr : Ready w) :
    Calls Tryd.prog 14 #[.string s] w fun e w' => e = .returned (.tuple #[.int .i64 n, .string ⟨r.toArray⟩]) ∧ Below w.heap.size w w' := by
  have h0 := h.1
  have h1 := h.2.1
  have C := cut_any s (by omega) w hr
  rw [cut_heads h] at C
  simp only at C
  have e1 : hdrB n = (⟨(mark ++ Lib.decDigits n).toArray⟩ : ByteArray) ++ ⟨#[10, 10]⟩ := by
    rw [show (⟨#[10, 10]⟩ : ByteArray) = ⟨([10, 10] : List UInt8).toArray⟩ from rfl, mk_append]; rfl
  have T := fun w => trim_any ⟨(mark ++ Lib.decDigits n).toArray⟩ w
  simp only [trim_mark] at T
  have As : (⟨(mark ++ Lib.decDigits n).toArray⟩ : ByteArray).size ≤ 24 := by
    have := hdrB_size n h1
    rw [e1, ByteArray.size_append] at this
    have e2 : (⟨#[10, 10]⟩ : ByteArray).size = 2 := rfl
    omega
  have D := fun w => atoi_ok ⟨(Lib.decDigits n).toArray⟩ (by have := dec_size n (by omega); omega) n (atoi_dec n h1) w
  have L := fun w => line_good n h0 h1 w
  rw [e1] at L
  generalize (⟨(mark ++ Lib.decDigits n).toArray⟩ : ByteArray) = A at *
  generalize (⟨(Lib.decDigits n).toArray⟩ : ByteArray) = X at *
  generalize (⟨r.toArray⟩ : ByteArray) = R at *
  have C' := Lib.hid C
  have T' := Lib.hid T
  have D' := Lib.hid D
  have L' := Lib.hid L
  have HR := Lib.hid hr
  have h0' : (1 : Int) ≤ (n : Int) := by omega
  have h1' : (n : Int) ≤ 2147483648 := by omega
  clear C T D L h hr e1 h0 h1
  go_enter Tryd.func14, Tryd.ntmps14
  go_wp2_with fail
  refine C'.out.mono ?_
  rintro e w1 ⟨rfl, k, rfl⟩
  go_wp2_with fail
  refine (T'.out _).mono ?_
  rintro e w2 ⟨rfl, rfl⟩
  go_wp2_with fail
  refine (D'.out _).mono ?_
  rintro e w3 ⟨rfl, b3⟩
  go_wp2_with fail
  refine (L'.out _ ((HR.out.drew k).stays b3)).mono ?_
  rintro e w4 ⟨rfl, b4⟩
  go_wp2_with fail
  go_ret2
  exact ⟨rfl, below_cat (below_dn (Below.refl _ _) k) (below_cat b3 b4)⟩
theorem bytes_eq {a b : ByteArray} (h : a.toList = b.toList) : a = b := by
  rw [Lib.toList_data, Lib.toList_data] at h
  rw [← Lib.mk_data a, h, Lib.mk_data]
/-- What Line answers at any number. -/
def AnyLine (w : World) (e : Ending) (w' : World) : Prop := ∃ (a : ByteArray) (v : Value), e = .returned (.tuple #[.string a, v]) ∧ (v = .nilIface ∨ v = .iface 36 (.int .i64 1)) ∧ Below w.heap.size w w'
theorem line_any (n : Int) (w : World) (hr : Ready w) : Calls Tryd.prog 5 #[.int .i64 n] w (AnyLine w) := by
  by_cases h : 1 ≤ n ∧ n ≤ 2147483648
  · obtain ⟨k, rfl⟩ : ∃ k : Nat, n = k := ⟨n.toNat, by omega⟩
    exact (line_good k (by omega) (by omega) w hr).mono fun e w' ⟨he, hb⟩ => ⟨_, _, he, .inl rfl, hb⟩
  · exact (line_bad n (by omega) w).mono fun e w' ⟨he, hw⟩ => ⟨_, _, he, .inr rfl, hw ▸ Below.refl _ _⟩
theorem mk_inj {a b : List UInt8} (h : (⟨a.toArray⟩ : ByteArray) = ⟨b.toArray⟩) : a = b := by
  have := congrArg (fun s : ByteArray => s.data.toList) h
  simpa using this
set_option maxHeartbeats 1600000 in
theorem gen_heads (s : ByteArray) (hs : s.size ≤ 1000000) (n : Nat) (r : List UInt8) (h : Heads s.data.toList n r) (w : World) (hr : Ready w) :
    Calls Tryd.prog 8 #[.string s] w fun e w' => e = .returned (.int .i64 n) ∧ Below w.heap.size w w' := by
  have T := Lib.hid (take_heads s hs n r h w hr)
  clear h hr
  go_enter Tryd.func8, Tryd.ntmps8
  go_wp2_with fail
  refine T.out.mono ?_
  rintro e w1 ⟨rfl, hb⟩
  go_wp2_with fail
  go_ret
  exact ⟨rfl, hb⟩
theorem hdr12 : hdrB 12 = ⟨#[35, 37, 103, 101, 110, 32, 49, 50, 10, 10]⟩ := by
  unfold hdrB hdr
  rw [Lib.decDigits_two (by decide) (by decide)]
  rfl
set_option maxHeartbeats 800000 in
theorem alive_any (w : World) (hr : Ready w) :
    Calls Tryd.prog 4 #[] w fun e w' => e = .returned (.bool true) ∧ Below w.heap.size w w' := by
  have L := line_good 12 (by decide) (by decide) w hr
  rw [hdr12] at L
  have G := fun w hr => gen_heads ⟨#[35, 37, 103, 101, 110, 32, 49, 50, 10, 10, 65, 58, 32, 49, 10]⟩ (by decide) 12 [65, 58, 32, 49, 10] ⟨by decide, by decide, by unfold hdr; rw [Lib.decDigits_two (by decide) (by decide)]; rfl⟩ w hr
  have L' := Lib.hid L
  have G' := Lib.hid G
  have HR := Lib.hid hr
  clear L G hr
  go_enter Tryd.func4, Tryd.ntmps4
  go_wp2_with fail
  refine L'.out.mono ?_
  rintro e w1 ⟨rfl, b1⟩
  go_wp2_with fail
  refine (G'.out _ (HR.out.stays b1)).mono ?_
  rintro e w2 ⟨rfl, b2⟩
  go_wp2_with fail
  go_ret
  exact ⟨rfl, below_cat b1 b2⟩
end Go.Proofs.YticafcaoalmdiaaDoor.H
