/- The document's answers for the layer of headers: numerals. Each returns the plain function; whatever the world. -/
import Derived.Test.YthleddhbghlmaaaDoorPlain
import Derived.Test.YthleddhbghlmaaaDoorProg
import Derived.Handy
import Derived.PlainAid
import Derived.Lib.Hide
import Derived.Deep.QuietTactic
import Derived.BigQuiet
import Derived.Outline
namespace Go.Proofs.YthleddhbghlmaaaDoor
open Go.RowKit

theorem rets {a b : ByteArray} (h : a = b) : Ending.returned (.string a) = .returned (.string b) := by rw [h]
theorem mk_append (a b : List UInt8) : (⟨a.toArray⟩ : ByteArray) ++ ⟨b.toArray⟩ = ⟨(a ++ b).toArray⟩ := by
  apply ByteArray.ext
  simp
/-- The byte of a digit. -/
def dgt (k : Nat) : UInt8 := UInt8.ofNat (48 + k)
theorem digit_cut (k : Nat) (h : k < 10) (w : World) :
    (Instr.slice 9 (.string ⟨#[48, 49, 50, 51, 52, 53, 54, 55, 56, 57]⟩) (some (.int .u64 (k : Int))) (some (.int .u64 ((k : Int) + 1))) none).run Tryd.prog w = .ok (.string ⟨#[dgt k]⟩) w := by
  have hk : k = 0 ∨ k = 1 ∨ k = 2 ∨ k = 3 ∨ k = 4 ∨ k = 5 ∨ k = 6 ∨ k = 7 ∨ k = 8 ∨ k = 9 := by omega
  rcases hk with rfl | rfl | rfl | rfl | rfl | rfl | rfl | rfl | rfl | rfl <;> rfl
theorem unsigned_small (x : Int) (h0 : 0 ≤ x) (h : x < 10) (w : World) :
    Calls Tryd.prog 27 #[.int .u64 x] w fun e w' => e = .returned (.string ⟨(Lib.decDigits x.toNat).toArray⟩) ∧ w = w' := by
  have h1 : x ≤ 9 := by omega
  obtain ⟨k, rfl⟩ : ∃ k : Nat, x = k := ⟨x.toNat, by omega⟩
  have D := digit_cut k (by omega)
  have H : Hid (Lib.decDigits k = [dgt k]) := Lib.hid (Lib.decDigits_one (i := k) (by omega))
  go_enter Tryd.func27, Tryd.ntmps27
  go_wp2_with fail
  go_ret
  exact ⟨rets (by rw [Int.toNat_natCast, H.out]), rfl⟩
theorem dec_size (u : Nat) (h : u ≤ 18446744073709551615) : (⟨(Lib.decDigits u).toArray⟩ : ByteArray).size ≤ 20 := by
  rw [Lib.size_eq]
  simp only
  rw [Lib.decDigits_length]
  exact Lib.nDigits_le20 u (by omega)
theorem unsigned_any (m : Nat) : ∀ (x : Int) (w : World), 0 ≤ x → x ≤ m → x ≤ 18446744073709551615 →
    Calls Tryd.prog 27 #[.int .u64 x] w fun e w' => e = .returned (.string ⟨(Lib.decDigits x.toNat).toArray⟩) ∧ w = w' := by
  induction m with
  | zero => intro x w h0 h1 _; exact unsigned_small x h0 (by omega) w
  | succ m ih =>
    intro x w h0 h1 h2
    by_cases h : x < 10
    · exact unsigned_small x h0 h w
    · have H : Hid ((⟨(Lib.decDigits (x / 10).toNat).toArray⟩ : ByteArray) ++ ⟨(Lib.decDigits (x % 10).toNat).toArray⟩ = ⟨(Lib.decDigits x.toNat).toArray⟩) := by
        refine Lib.hid ?_
        have e : Lib.decDigits x.toNat = Lib.decDigits (x / 10).toNat ++ Lib.decDigits (x % 10).toNat := by
          rw [show (x / 10).toNat = x.toNat / 10 by omega, show (x % 10).toNat = x.toNat % 10 by omega, Lib.decDigits_one (i := x.toNat % 10) (by omega)]
          conv => lhs; rw [Lib.decDigits]
          rw [dif_neg (by omega)]
        rw [mk_append, e]
      have a1 : 0 ≤ x / 10 := by omega
      have a2 : x / 10 ≤ m := by omega
      have a3 : x / 10 ≤ 18446744073709551615 := by omega
      have b1 : 0 ≤ x % 10 := by omega
      have b2 : x % 10 < 10 := by omega
      have I1 := ih (x / 10) w a1 a2 a3
      have I2 := unsigned_small (x % 10) b1 b2 w
      have s1 := dec_size (x / 10).toNat (by omega)
      have s2 := dec_size (x % 10).toNat (by omega)
      generalize (⟨(Lib.decDigits (x / 10).toNat).toArray⟩ : ByteArray) = A at *
      generalize (⟨(Lib.decDigits (x % 10).toNat).toArray⟩ : ByteArray) = B at *
      have I1' := Lib.hid I1
      have I2' := Lib.hid I2
      clear I1 I2
      clear ih a1 a2 a3 b1 b2 h1
      go_enter Tryd.func27, Tryd.ntmps27
      go_wp2_with fail
      refine I1'.out.mono ?_
      rintro e w' ⟨rfl, rfl⟩
      go_wp2_with fail
      refine I2'.out.mono ?_
      rintro e w' ⟨rfl, rfl⟩
      go_wp2_with fail
      go_ret
      exact ⟨rets H.out, rfl⟩
theorem figures_any (n : Int) (w : World) (h0 : -9223372036854775808 ≤ n) (h1 : n ≤ 9223372036854775807) :
    Calls Tryd.prog 21 #[.int .i64 n] w fun e w' => e = .returned (.string ⟨(Lib.itoa n).toArray⟩) ∧ w = w' := by
  by_cases hn : n < 0
  · have H : Hid ((⟨#[45]⟩ : ByteArray) ++ ⟨(Lib.decDigits (-n).toNat).toArray⟩ = ⟨(Lib.itoa n).toArray⟩) := by
      refine Lib.hid ?_
      have e : Lib.itoa n = [45] ++ Lib.decDigits (-n).toNat := by
        unfold Lib.itoa
        rw [if_pos hn, show n.natAbs = (-n).toNat by omega]; rfl
      rw [e, ← mk_append]
    have U0 := unsigned_any (-n).toNat (-n) w (by omega) (by omega) (by omega)
    have s1 := dec_size (-n).toNat (by omega)
    generalize (⟨(Lib.decDigits (-n).toNat).toArray⟩ : ByteArray) = A at *
    have U := Lib.hid U0
    clear U0
    go_enter Tryd.func21, Tryd.ntmps21
    go_wp2_with fail
    rw [show -(n + 1) + 1 = -n by omega]
    refine U.out.mono ?_
    rintro e w' ⟨rfl, rfl⟩
    go_wp2_with fail
    go_ret
    exact ⟨rets H.out, rfl⟩
  · have H : Hid (Lib.decDigits n.toNat = Lib.itoa n) := by
      refine Lib.hid ?_
      unfold Lib.itoa
      rw [if_neg hn]
    have U := Lib.hid (unsigned_any n.toNat n w (by omega) (by omega) (by omega))
    go_enter Tryd.func21, Tryd.ntmps21
    go_wp2_with fail
    refine U.out.mono ?_
    rintro e w' ⟨rfl, rfl⟩
    go_wp2_with fail
    go_ret
    exact ⟨rets (by rw [H.out]), rfl⟩
end Go.Proofs.YthleddhbghlmaaaDoor
