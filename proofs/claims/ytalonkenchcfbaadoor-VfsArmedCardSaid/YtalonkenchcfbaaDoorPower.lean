/- The disk's power: spend and step. -/
import Derived.Test.YtalonkenchcfbaaDoorDisk
namespace Go.Proofs.YtalonkenchcfbaaDoor
open Go.RowKit

/-- How many of n units there is power for. -/
def Dk.spent (D : Dk) (n : Int) : Int := if D.armed = true ∧ D.left < n then D.left else n
/-- The disk behind the spending of n units. -/
def Dk.spend (D : Dk) (n : Int) : Dk := { D with units := D.units + D.spent n, left := if D.armed then D.left - D.spent n else D.left, gone := D.gone || (D.armed && decide (D.left < n)) }
/-- An error by its number; 0: none. -/
def errV (k : Nat) : Value := if k = 0 then .nilIface else .iface 57 (.int .i64 k)
theorem reti {a b : Int} (h : a = b) : Ending.returned (.int .i64 a) = .returned (.int .i64 b) := by rw [h]
theorem set_eq {w : World} {b : Nat} {cs cs' : Array Value} {T : TypeId} (h : w.heap[b]? = some (.cells cs T (0, 0))) (e : cs = cs') : w.heap[b]? = some (.cells cs' T (0, 0)) := e ▸ h
set_option maxHeartbeats 400000 in
theorem spend_any (n : Int) (w : World) (ρ : Col) (b : Nat) (D : Dk) (L : Lay) (h : DiskAt w ρ b D L) (hn0 : 0 ≤ n) (hn1 : n ≤ 1000000000) (hu0 : 0 ≤ D.units) (hu1 : D.units ≤ 1000000000) (hl0 : 0 ≤ D.left) (hl1 : D.left ≤ 9223372036854775807) :
    Calls Tryd.prog 27 #[.pointer (some ⟨b, 0, none⟩), .int .i64 n] w fun e w' => e = .returned (.int .i64 (D.spent n)) ∧ DiskAt w' ρ b (D.spend n) L ∧ Kept (Only 0 ρ) w w' := by
  obtain ⟨c0, c1, c2, c3, -, -, -, -, -, f0, f1, f2, f3, -, -, -, -⟩ := h.cells
  have HD := Lib.hid h
  have B := h.blk
  clear h
  obtain ⟨un, le, ar, go, ro, fi, di, wa, ac⟩ := D
  simp only at *
  cases ar with
  | false =>
    have HB := Lib.hid B
    clear B
    go_enter Tryd.func27, Tryd.ntmps27
    go_wp2
    go_ret
    have S1 := HB.out.store (i := 0) (v := .int .i64 (un + n))
    refine ⟨reti (by simp [Dk.spent]), HD.out.change S1.2 (set_eq S1.1.1 ?_) rfl rfl rfl rfl, S1.2⟩
    simp [Dk.cells, Dk.spend, Dk.spent]
  | true =>
    by_cases hn : le < n
    · have HB := Lib.hid B
      clear B
      go_enter Tryd.func27, Tryd.ntmps27
      go_wp2
      go_ret
      have S1 := HB.out.store (i := 3) (v := .bool true)
      have S2 := S1.1.store (i := 1) (v := .int .i64 0)
      have S3 := S2.1.store (i := 0) (v := .int .i64 (un + le))
      have K := (S1.2.then S2.2).then S3.2
      refine ⟨reti (by simp [Dk.spent, hn]), HD.out.change K (set_eq S3.1.1 ?_) rfl rfl rfl rfl, K⟩
      simp [Dk.cells, Dk.spend, Dk.spent, hn]
    · have HB := Lib.hid B
      clear B
      go_enter Tryd.func27, Tryd.ntmps27
      go_wp2
      go_ret
      have S2 := HB.out.store (i := 1) (v := .int .i64 (le - n))
      have S3 := S2.1.store (i := 0) (v := .int .i64 (un + n))
      have K := S2.2.then S3.2
      have hn' : ¬ le < n := by omega
      refine ⟨reti (by simp [Dk.spent]; intro h; omega), HD.out.change K (set_eq S3.1.1 ?_) rfl rfl rfl rfl, K⟩
      simp [Dk.cells, Dk.spend, Dk.spent, hn']
theorem step_any (w : World) (ρ : Col) (b : Nat) (D : Dk) (L : Lay) (h : DiskAt w ρ b D L) (hu0 : 0 ≤ D.units) (hu1 : D.units ≤ 1000000000) (hl0 : 0 ≤ D.left) (hl1 : D.left ≤ 9223372036854775807) :
    Calls Tryd.prog 23 #[.pointer (some ⟨b, 0, none⟩)] w fun e w' => e = .returned (errV (if D.spent 1 < 1 then 3 else 0)) ∧ DiskAt w' ρ b (D.spend 1) L ∧ Kept (Only 0 ρ) w w' := by
  have S := Lib.hid (spend_any 1 w ρ b D L h (by decide) (by decide) hu0 hu1 hl0 hl1)
  clear h
  by_cases hs : D.spent 1 < 1
  · go_enter Tryd.func23, Tryd.ntmps23
    go_wp2_with fail
    refine S.out.mono ?_
    rintro e w' ⟨rfl, h1, h2⟩
    have H1 := Lib.hid h1
    have H2 := Lib.hid h2
    clear h1 h2
    go_wp2_with fail
    go_ret
    exact ⟨rfl, H1.out, H2.out⟩
  · have hs' : 1 ≤ D.spent 1 := by omega
    go_enter Tryd.func23, Tryd.ntmps23
    go_wp2_with fail
    refine S.out.mono ?_
    rintro e w' ⟨rfl, h1, h2⟩
    have H1 := Lib.hid h1
    have H2 := Lib.hid h2
    clear h1 h2
    go_wp2_with fail
    go_ret
    exact ⟨rfl, H1.out, H2.out⟩
end Go.Proofs.YtalonkenchcfbaaDoor
