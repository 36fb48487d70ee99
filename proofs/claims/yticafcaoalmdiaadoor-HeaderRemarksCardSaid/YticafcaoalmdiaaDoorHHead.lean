/- The layer of headers: Line, Put, Take, Gen, Length; each returns what the plain law says; nothing that was there before the call has changed. -/
import Derived.Test.YticafcaoalmdiaaDoorHPlain
import Derived.Test.YticafcaoalmdiaaDoorProg
import Derived.Handy
import Derived.PlainAid
import Derived.Lib.Hide
import Derived.Deep.QuietTactic
import Derived.BigQuiet
import Derived.Outline
import Derived.Test.YticafcaoalmdiaaDoorShelf
import Derived.Lib.SmallJoins
import Derived.Lib.AppendIntMem
namespace Go.Proofs.YticafcaoalmdiaaDoor.H
open Go.RowKit
theorem dec_size (u : Nat) (h : u ≤ 18446744073709551615) : (⟨(Lib.decDigits u).toArray⟩ : ByteArray).size ≤ 20 := by
  rw [Lib.size_eq]
  simp only
  rw [Lib.decDigits_length]
  exact Lib.nDigits_le20 u (by omega)
theorem mk_append (a b : List UInt8) : (⟨a.toArray⟩ : ByteArray) ++ ⟨b.toArray⟩ = ⟨(a ++ b).toArray⟩ := by
  apply ByteArray.ext
  simp

theorem below_cat {a b c : World} (h : Below a.heap.size a b) (k : Below b.heap.size b c) : Below a.heap.size a c := h.trans (k.mono h.size)
theorem below_dn {B : Nat} {a b : World} (h : Below B a b) (n : Nat) : Below B a (b.drewN n) := h.trans ⟨rfl, rfl, rfl, Nat.le_refl _, fun _ _ => rfl⟩
/-- What the layer reads of the library's own variables. -/
structure Ready (w : World) : Prop where
  max : ∃ m, w.cell? ⟨1, 0, none⟩ = some (.int .i64 m)
  tab : Lib.TabIs Tryd.prog w "internal/strconv.uint64pow10" .u64 Lib.pow10Tab
  syn : ∃ t p, w.cell? ⟨2, 0, none⟩ = some (.iface t p)
  rng : ∃ t p, w.cell? ⟨3, 0, none⟩ = some (.iface t p)
theorem gPow : Tryd.prog.globalNamed "internal/strconv.uint64pow10" = some 0 := by kernel_rfl
theorem cell_stays {w w' : World} {g o : Nat} {v : Value} (h : w.cell? ⟨g, o, none⟩ = some v) (hb : Below w.heap.size w w') : w'.cell? ⟨g, o, none⟩ = some v :=
  (hb.cell (p := ⟨g, o, none⟩) (Lib.lt_of_cell h)).trans h
theorem Ready.stays {w w' : World} (h : Ready w) (hb : Below w.heap.size w w') : Ready w' where
  max := let ⟨m, hm⟩ := h.max; ⟨m, cell_stays hm hb⟩
  tab := Go.Joins.tab_stays gPow h.tab hb (Nat.le_refl _)
  syn := let ⟨t, p, hm⟩ := h.syn; ⟨t, p, cell_stays hm hb⟩
  rng := let ⟨t, p, hm⟩ := h.rng; ⟨t, p, cell_stays hm hb⟩
theorem Ready.drew {w : World} (h : Ready w) (n : Nat) : Ready (w.drewN n) := h.stays (below_dn (Below.refl _ _) n)

/-! ### The library -/
theorem itoa_any (n : Int) (h0 : -9223372036854775808 ≤ n) (h1 : n ≤ 9223372036854775807) (w : World) (hr : Ready w) :
    Calls Tryd.prog 9 #[.int .i64 n] w fun e w' => e = .returned (.string ⟨(Lib.itoa n).toArray⟩) ∧ Below w.heap.size w w' :=
  (Tryd.strconv_Itoa n h0 h1 w hr.tab).mono fun _ _ ⟨he, k, os, hw⟩ => ⟨he, hw ▸ Lib.below_grow _ _ (Nat.le_refl _) k os⟩
theorem atoi_ok (s : ByteArray) (hs : s.size ≤ 281474976710656) (v : Int) (h : Lib.atoiAll s.data.toList = .ok v) (w : World) :
    Calls Tryd.prog 24 #[.string s] w fun e w' => e = .returned (.tuple #[.int .i64 v, .nilIface]) ∧ Below w.heap.size w w' :=
  (Tryd.strconv_Atoi_ok s (by omega) v h w).mono fun e w' ⟨he, hw⟩ => ⟨he, by
    rcases hw with rfl | ⟨t, rfl⟩
    · exact Below.refl _ _
    · exact Lib.bytesWorld_below _ _ _⟩
/-- No number: some number and some error. -/
def BadAtoi (w : World) (e : Ending) (w' : World) : Prop := ∃ (n : Int) (t : TypeId) (p : Value), e = .returned (.tuple #[.int .i64 n, .iface t p]) ∧ -9223372036854775808 ≤ n ∧ n ≤ 9223372036854775807 ∧ Below w.heap.size w w'
theorem atoi_no (s : ByteArray) (hs : s.size ≤ 281474976710656) (h : ∀ v, Lib.atoiAll s.data.toList ≠ .ok v) (w : World) (hr : Ready w) :
    Calls Tryd.prog 24 #[.string s] w (BadAtoi w) := by
  obtain ⟨t1, p1, c1⟩ := hr.syn
  obtain ⟨t2, p2, c2⟩ := hr.rng
  rcases ha : Lib.atoiAll s.data.toList with v | _ | _
  · exact absurd ha (h v)
  · exact (Any.strconv_Atoi_syntax Tryd.laysC172 s hs ha _ w c1 (.inr ⟨_, _, rfl⟩)).mono fun e w' ⟨N, he, _, _, hb⟩ => ⟨_, _, _, he, by decide, by decide, hb⟩
  · exact (Tryd.strconv_Atoi_range s hs ha _ w c2 (.inr ⟨_, _, rfl⟩)).mono fun e w' ⟨N, he, _, _, hb⟩ => ⟨_, _, _, he, by unfold Lib.atoiSat; split <;> decide, by unfold Lib.atoiSat; split <;> decide, hb⟩
theorem cut_any (s : ByteArray) (hs : s.size < 4294967281) (w : World) (hr : Ready w) :
    Calls Tryd.prog 17 #[.string s, .string ⟨#[10, 10]⟩] w fun e w' => e = .returned (.tuple #[.string ⟨(Lib.cut s.data.toList [10, 10]).1.toArray⟩, .string ⟨(Lib.cut s.data.toList [10, 10]).2.1.toArray⟩, .bool (Lib.cut s.data.toList [10, 10]).2.2]) ∧ ∃ n, w' = w.drewN n :=
  let ⟨m, hm⟩ := hr.max
  Tryd.strings_Cut s ⟨#[10, 10]⟩ m w hs hm
theorem trim_any (s : ByteArray) (w : World) :
    Calls Tryd.prog 25 #[.string s, .string ⟨#[35, 37, 103, 101, 110, 32]⟩] w fun e w' => e = .returned (.string ⟨(Lib.trimPrefix s.data.toList mark).toArray⟩) ∧ w = w' :=
  (Tryd.strings_TrimPrefix s ⟨#[35, 37, 103, 101, 110, 32]⟩ w).mono fun _ _ ⟨he, hw⟩ => ⟨he, hw.symm⟩

theorem ret2s {a b : ByteArray} {v : Value} (h : a = b) : Ending.returned (.tuple #[.string a, v]) = .returned (.tuple #[.string b, v]) := by rw [h]
/-! ### Line -/
/-- A header, as a string. -/
def hdrB (n : Nat) : ByteArray := ⟨(hdr n).toArray⟩
theorem hdrB_data (n : Nat) : (hdrB n).data.toList = hdr n := rfl
theorem hdrB_size (n : Nat) (h : n ≤ 2147483648) : (hdrB n).size ≤ 26 := by
  rw [Lib.size_eq, hdrB_data]
  have := decDigits_short n h
  unfold hdr mark
  simp
  omega
set_option maxHeartbeats 400000 in
theorem line_good (n : Nat) (h0 : 1 ≤ n) (h1 : n ≤ 2147483648) (w : World) (hr : Ready w) :
    Calls Tryd.prog 5 #[.int .i64 n] w fun e w' => e = .returned (.tuple #[.string (hdrB n), .nilIface]) ∧ Below w.heap.size w w' := by
  have I := itoa_any n (by omega) (by omega) w hr
  rw [Lib.itoa_nonneg] at I
  have s1 := dec_size n (by omega)
  have e : (⟨#[35, 37, 103, 101, 110, 32]⟩ : ByteArray) ++ ⟨(Lib.decDigits n).toArray⟩ ++ ⟨#[10, 10]⟩ = hdrB n := by
    have a := mk_append mark (Lib.decDigits n)
    have b := mk_append (mark ++ Lib.decDigits n) [10, 10]
    rw [← a] at b
    exact b
  generalize (⟨(Lib.decDigits n).toArray⟩ : ByteArray) = A at *
  have I' := Lib.hid I
  have H := Lib.hid e
  clear I e hr
  have h0' : (1 : Int) ≤ (n : Int) := by omega
  have h1' : (n : Int) ≤ 2147483648 := by omega
  go_enter Tryd.func5, Tryd.ntmps5
  go_wp2_with fail
  refine I'.out.mono ?_
  rintro e w' ⟨rfl, hb⟩
  go_wp2_with fail
  go_ret2
  exact ⟨ret2s H.out, hb⟩
theorem line_bad (n : Int) (h : n < 1 ∨ 2147483648 < n) (w : World) :
    Calls Tryd.prog 5 #[.int .i64 n] w fun e w' => e = .returned (.tuple #[.string ⟨#[]⟩, .iface 36 (.int .i64 1)]) ∧ w = w' := by
  rcases h with h | h
  · go_enter Tryd.func5, Tryd.ntmps5
    go_wp2_with fail
    go_ret2
    exact ⟨rfl, rfl⟩
  · have h' : 1 ≤ n := by omega
    go_enter Tryd.func5, Tryd.ntmps5
    go_wp2_with fail
    go_ret2
    exact ⟨rfl, rfl⟩
end Go.Proofs.YticafcaoalmdiaaDoor.H
