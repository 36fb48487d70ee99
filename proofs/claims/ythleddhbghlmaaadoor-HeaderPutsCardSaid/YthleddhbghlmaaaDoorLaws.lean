/- The walks of the statements HeaderTakes and HeaderPuts: each returns true, and nothing that was there before the call has changed. -/
import Derived.Test.YthleddhbghlmaaaDoorRefTake
namespace Go.Proofs.YthleddhbghlmaaaDoor
open Go.RowKit

theorem assert_errno (v : Value) (w : World) : (Instr.typeAssert (.iface 34 v) 28 34 true).run Tryd.prog w = .ok (.tuple #[v, .bool true]) w := by kernel_rfl
/-- The number of an error that is ErrRange. -/
theorem num_range (w : World) :
    Calls Tryd.prog 20 #[.iface 34 (.int .i64 1)] w fun e w' => e = .returned (.int .i64 1) ∧ w = w' := by
  have E := assert_errno (.int .i64 1)
  go_enter Tryd.func20, Tryd.ntmps20
  go_wp2_with fail
  refine wp_loop_rounds 1 ?_
  rw [rounds_succ]
  go_wp2_with fail
  go_ret
  exact ⟨rfl, rfl⟩
theorem is_range (w : World) :
    Calls Tryd.prog 12 #[.iface 34 (.int .i64 1), .int .i64 1] w fun e w' => e = .returned (.bool true) ∧ w = w' := by
  have N := Lib.hid (num_range w)
  go_enter Tryd.func12, Tryd.ntmps12
  go_wp2_with fail
  refine N.out.mono ?_
  rintro e w' ⟨rfl, rfl⟩
  go_wp2_with fail
  go_ret
  exact ⟨rfl, rfl⟩
theorem hdr12 : hdrB 12 = ⟨#[35, 37, 103, 101, 110, 32, 49, 50, 10, 10]⟩ := by
  unfold hdrB hdr
  rw [Lib.decDigits_two (by decide) (by decide)]
  rfl
set_option maxHeartbeats 800000 in
theorem alive_any (w : World) (hr : Ready w) :
    Calls Tryd.prog 5 #[] w fun e w' => e = .returned (.bool true) ∧ Below w.heap.size w w' := by
  have L := line_good 12 (by decide) (by decide) w hr
  rw [hdr12] at L
  have G := fun w hr => gen_heads ⟨#[35, 37, 103, 101, 110, 32, 49, 50, 10, 10, 65, 58, 32, 49, 10]⟩ (by decide) 12 [65, 58, 32, 49, 10] ⟨by decide, by decide, by unfold hdr; rw [Lib.decDigits_two (by decide) (by decide)]; rfl⟩ w hr
  have L' := Lib.hid L
  have G' := Lib.hid G
  have HR := Lib.hid hr
  clear L G hr
  go_enter Tryd.func5, Tryd.ntmps5
  go_wp2_with fail
  refine L'.out.mono ?_
  rintro e w1 ⟨rfl, b1⟩
  go_wp2_with fail
  refine (G'.out _ (HR.out.stays b1)).mono ?_
  rintro e w2 ⟨rfl, b2⟩
  go_wp2_with fail
  go_ret
  exact ⟨rfl, below_cat b1 b2⟩
set_option maxHeartbeats 1600000 in
theorem takes_walk (s : ByteArray) (hs : s.size ≤ 9223372036854775807) (w : World) (hr : Ready w) :
    Calls Tryd.prog 3 #[.string s] w fun e w' => e = .returned (.bool true) ∧ Below w.heap.size w w' := by
  have A' := Lib.hid (alive_any w hr)
  have HR := Lib.hid hr
  clear hr
  by_cases h5 : 3000 < s.size
  · have h5' : (3000 : Int) < (s.size : Int) := by omega
    clear h5
    go_enter Tryd.func3, Tryd.ntmps3
    go_wp2_with fail
    refine A'.out.mono ?_
    rintro e w1 ⟨rfl, b1⟩
    go_wp2_with fail
    go_ret
    exact ⟨rfl, b1⟩
  · have h5' : (s.size : Int) ≤ 3000 := by omega
    have h6 : s.size ≤ 1000000 := by omega
    clear h5
    have U := Lib.hid (fun n r m t => TakeRes.inj (l := s.data.toList) (n := n) (r := r) (m := m) (s := t))
    have F := Lib.hid (refTake s h6)
    by_cases hh : ∃ n r, Heads s.data.toList n r
    · obtain ⟨n, r, hh⟩ := hh
      have T := Lib.hid (take_heads s h6 n r hh)
      have G := Lib.hid (gen_heads s h6 n r hh)
      have HT : Hid (TakeRes s.data.toList n r) := Lib.hid (.inl hh)
      clear hh
      go_enter Tryd.func3, Tryd.ntmps3
      go_wp2_with fail
      refine A'.out.mono ?_
      rintro e w1 ⟨rfl, b1⟩
      go_wp2_with fail
      refine (T.out _ (HR.out.stays b1)).mono ?_
      rintro e w2 ⟨rfl, b2⟩
      go_wp2_with fail
      refine (F.out _).mono ?_
      rintro e w3 ⟨m, t, rfl, hm, k, rfl⟩
      obtain ⟨rfl, rfl⟩ := HT.out.inj hm
      clear hm
      go_wp2_with fail
      refine (G.out _ (((HR.out.stays b1).stays b2).drew k)).mono ?_
      rintro e w4 ⟨rfl, b4⟩
      go_wp2_with fail
      go_ret
      exact ⟨rfl, below_cat b1 (below_cat b2 (below_cat (below_dn (Below.refl _ _) k) b4))⟩
    · have hn : ∀ n r, ¬ Heads s.data.toList n r := fun n r h => hh ⟨n, r, h⟩
      have T := Lib.hid (take_not s h6 hn)
      have G := Lib.hid (gen_not s h6 hn)
      have HT : Hid (TakeRes s.data.toList 0 s.data.toList) := Lib.hid (take_none hn)
      clear hh hn
      go_enter Tryd.func3, Tryd.ntmps3
      go_wp2_with fail
      refine A'.out.mono ?_
      rintro e w1 ⟨rfl, b1⟩
      go_wp2_with fail
      refine (T.out _ (HR.out.stays b1)).mono ?_
      rintro e w2 ⟨rfl, b2⟩
      go_wp2_with fail
      refine (F.out _).mono ?_
      rintro e w3 ⟨m, t, rfl, hm, k, rfl⟩
      obtain ⟨rfl, rfl⟩ := HT.out.inj hm
      clear hm
      rw [Lib.mk_data]
      go_wp2_with fail
      refine (G.out _ (((HR.out.stays b1).stays b2).drew k)).mono ?_
      rintro e w4 ⟨rfl, b4⟩
      go_wp2_with fail
      go_ret
      exact ⟨rfl, below_cat b1 (below_cat b2 (below_cat (below_dn (Below.refl _ _) k) b4))⟩
theorem heads_put (n : Nat) (h0 : 1 ≤ n) (h1 : n ≤ 2147483648) (s : ByteArray) : Heads (hdrB n ++ s).data.toList n s.data.toList := by
  refine ⟨h0, h1, ?_⟩
  rw [ByteArray.data_append, Array.toList_append]
  rfl
set_option maxHeartbeats 1600000 in
theorem puts_walk (n : Int) (s : ByteArray) (hs : s.size ≤ 9223372036854775807) (hn0 : -9223372036854775808 ≤ n) (hn1 : n ≤ 9223372036854775807) (w : World) (hr : Ready w) :
    Calls Tryd.prog 4 #[.int .i64 n, .string s] w fun e w' => e = .returned (.bool true) ∧ Below w.heap.size w w' := by
  have A' := Lib.hid (alive_any w hr)
  have HR := Lib.hid hr
  clear hr
  by_cases h5 : 3000 < s.size
  · have h5' : (3000 : Int) < (s.size : Int) := by omega
    clear h5
    go_enter Tryd.func4, Tryd.ntmps4
    go_wp2_with fail
    refine A'.out.mono ?_
    rintro e w1 ⟨rfl, b1⟩
    go_wp2_with fail
    go_ret
    exact ⟨rfl, b1⟩
  · have h5' : (s.size : Int) ≤ 3000 := by omega
    clear h5
    by_cases hg : 1 ≤ n ∧ n ≤ 2147483648
    · obtain ⟨u, rfl⟩ : ∃ u : Nat, n = u := ⟨n.toNat, by omega⟩
      have g0 : 1 ≤ u := by omega
      have g1 : u ≤ 2147483648 := by omega
      have L := fun w hr => line_good u g0 g1 w hr
      have P := fun w hr => put_good u g0 g1 s (by omega) w hr
      have hz := hdrB_size u g1
      have hsz : (hdrB u ++ s).size ≤ 1000000 := by rw [ByteArray.size_append]; omega
      have T := fun w hr => take_heads (hdrB u ++ s) hsz u s.data.toList (heads_put u g0 g1 s) w hr
      have G := fun w hr => gen_heads (hdrB u ++ s) hsz u s.data.toList (heads_put u g0 g1 s) w hr
      have Z := fun w hr => length_good u g0 g1 w hr
      have R := fun w => refLine u g1 w
      have Q := fun w => refGood u w
      have hq : goodGen u = true := by unfold goodGen; simpa using hg
      rw [hq] at Q
      simp only [Lib.mk_data] at T
      generalize hdrB u = B at *
      have L' := Lib.hid L
      have P' := Lib.hid P
      have T' := Lib.hid T
      have G' := Lib.hid G
      have Z' := Lib.hid Z
      have R' := Lib.hid R
      have Q' := Lib.hid Q
      clear L P T G Z R Q hq hsz hg hn0 hn1
      go_enter Tryd.func4, Tryd.ntmps4
      go_wp2_with fail
      refine A'.out.mono ?_
      rintro e w1 ⟨rfl, b1⟩
      have R1 := HR.out.stays b1
      go_wp2_with fail
      refine (L'.out _ R1).mono ?_
      rintro e w2 ⟨rfl, b2⟩
      have R2 := R1.stays b2
      go_wp2_with fail
      refine (P'.out _ R2).mono ?_
      rintro e w3 ⟨rfl, b3⟩
      have R3 := R2.stays b3
      go_wp2_with fail
      refine (Q'.out _).mono ?_
      rintro e w4 ⟨rfl, rfl⟩
      go_wp2_with fail
      refine (T'.out _ R3).mono ?_
      rintro e w5 ⟨rfl, b5⟩
      have R5 := R3.stays b5
      go_wp2_with fail
      refine (R'.out _).mono ?_
      rintro e w6 ⟨rfl, rfl⟩
      go_wp2_with fail
      refine (G'.out _ R5).mono ?_
      rintro e w7 ⟨rfl, b7⟩
      have R7 := R5.stays b7
      go_wp2_with fail
      refine (Z'.out _ R7).mono ?_
      rintro e w8 ⟨rfl, b8⟩
      go_wp2_with fail
      go_ret
      exact ⟨rfl, below_cat b1 (below_cat b2 (below_cat b3 (below_cat b5 (below_cat b7 b8))))⟩
    · have hb : n < 1 ∨ 2147483648 < n := by omega
      have L := Lib.hid (fun w => line_bad n hb w)
      have Z := Lib.hid (fun w => length_bad n hb w)
      have Q := fun w => refGood n w
      have hq : goodGen n = false := by unfold goodGen; rw [decide_eq_false_iff_not]; exact hg
      rw [hq] at Q
      have Q' := Lib.hid Q
      clear Q hq
      by_cases h0 : n = 0
      · subst h0
        have P := Lib.hid (fun w => put_zero s w)
        clear hg hb hn0 hn1
        go_enter Tryd.func4, Tryd.ntmps4
        go_wp2_with fail
        refine A'.out.mono ?_
        rintro e w1 ⟨rfl, b1⟩
        go_wp2_with fail
        refine (L.out _).mono ?_
        rintro e w2 ⟨rfl, rfl⟩
        go_wp2_with fail
        refine (P.out _).mono ?_
        rintro e w3 ⟨rfl, rfl⟩
        go_wp2_with fail
        refine (Q'.out _).mono ?_
        rintro e w4 ⟨rfl, rfl⟩
        go_wp2_with fail
        refine (is_range _).mono ?_
        rintro e w5 ⟨rfl, rfl⟩
        go_wp2_with fail
        refine (Z.out _).mono ?_
        rintro e w6 ⟨rfl, rfl⟩
        go_wp2_with fail
        go_ret
        exact ⟨rfl, b1⟩
      · have P := Lib.hid (fun w => put_bad n hb h0 s w)
        clear hg hb hn0 hn1
        go_enter Tryd.func4, Tryd.ntmps4
        go_wp2_with fail
        refine A'.out.mono ?_
        rintro e w1 ⟨rfl, b1⟩
        go_wp2_with fail
        refine (L.out _).mono ?_
        rintro e w2 ⟨rfl, rfl⟩
        go_wp2_with fail
        refine (P.out _).mono ?_
        rintro e w3 ⟨rfl, rfl⟩
        go_wp2_with fail
        refine (Q'.out _).mono ?_
        rintro e w4 ⟨rfl, rfl⟩
        go_wp2_with fail
        refine (is_range _).mono ?_
        rintro e w5 ⟨rfl, rfl⟩
        go_wp2_with fail
        refine (Z.out _).mono ?_
        rintro e w6 ⟨rfl, rfl⟩
        go_wp2_with fail
        refine (is_range _).mono ?_
        rintro e w5 ⟨rfl, rfl⟩
        go_wp2_with fail
        go_ret
        exact ⟨rfl, b1⟩
end Go.Proofs.YthleddhbghlmaaaDoor
