/- The law HeaderRemarks, walked. -/
import Derived.Test.YticafcaoalmdiaaDoorSame
import Derived.Test.YticafcaoalmdiaaDoorRemLaw
import Derived.Test.YticafcaoalmdiaaDoorHTake
namespace Go.Proofs.YticafcaoalmdiaaDoor.R
open Go.RowKit

theorem hdr_inj {a b : Nat} (h : H.hdrB a = H.hdrB b) (ha : 1 ≤ a ∧ a ≤ 2147483648) (hb : 1 ≤ b ∧ b ≤ 2147483648) : a = b := by
  have h1 := congrArg (fun s : ByteArray => s.data.toList) h
  have h2 : H.hdr a ++ [] = H.hdr b ++ [] := by rw [List.append_nil, List.append_nil]; exact h1
  exact (H.Heads.inj ⟨ha.1, ha.2, rfl⟩ ⟨hb.1, hb.2, h2⟩).1
theorem app_data (a b : ByteArray) : (a ++ b).data.toList = a.data.toList ++ b.data.toList := by simp
def Ends (w : World) (e : Ending) (w' : World) : Prop := e = .returned (.bool true) ∧ Below w.heap.size w w'
set_option maxRecDepth 20000 in
set_option maxHeartbeats 3200000 in
theorem remarks_walk (a b : Int) (s : ByteArray) (hs : s.size ≤ 9223372036854775807) (ha0 : -9223372036854775808 ≤ a) (ha1 : a ≤ 9223372036854775807) (hb0 : -9223372036854775808 ≤ b) (hb1 : b ≤ 9223372036854775807) (w : World) (hr : H.Ready w) :
    Calls Tryd.prog 3 #[.int .i64 a, .int .i64 b, .string s] w (Ends w) := by
  have AL := Lib.hid (H.alive_any w hr)
  have HR := Lib.hid hr
  clear hr
  go_enter Tryd.func3, Tryd.ntmps3
  go_wp2_with fail
  refine AL.out.mono ?_
  rintro e w1 ⟨rfl, b1⟩
  have B1 := Lib.hid b1
  clear b1 AL
  by_cases hlong : 3000 < s.size
  · have hl' : (3000 : Int) < s.size := by omega
    go_wp2
    go_ret
    exact ⟨rfl, B1.out⟩
  have hl' : ¬ (3000 : Int) < s.size := by omega
  by_cases hga : a < 1 ∨ 2147483648 < a
  · go_wp2_with fail
    refine (H.line_bad a hga w1).mono ?_
    rintro e w2 ⟨rfl, rfl⟩
    go_wp2_with fail
    refine (H.line_any b _ (HR.out.stays B1.out)).mono ?_
    rintro e w3 ⟨t, v, rfl, hv, b3⟩
    have B3 := Lib.hid (H.below_cat B1.out b3)
    clear b3
    rcases hv with rfl | rfl
    · go_wp2
      go_ret
      exact ⟨rfl, B3.out⟩
    · go_wp2
      go_ret
      exact ⟨rfl, B3.out⟩
  obtain ⟨n, rfl⟩ : ∃ n : Nat, a = n := ⟨a.toNat, by omega⟩
  have hna : 1 ≤ n ∧ n ≤ 2147483648 := by omega
  go_wp2_with fail
  refine (H.line_good n hna.1 hna.2 w1 (HR.out.stays B1.out)).mono ?_
  rintro e w2 ⟨rfl, b2⟩
  have B2 := Lib.hid (H.below_cat B1.out b2)
  clear b2
  by_cases hgb : b < 1 ∨ 2147483648 < b
  · go_wp2_with fail
    refine (H.line_bad b hgb w2).mono ?_
    rintro e w3 ⟨rfl, rfl⟩
    go_wp2
    go_ret
    exact ⟨rfl, B2.out⟩
  obtain ⟨m, rfl⟩ : ∃ m : Nat, b = m := ⟨b.toNat, by omega⟩
  have hmb : 1 ≤ m ∧ m ≤ 2147483648 := by omega
  go_wp2_with fail
  refine (H.line_good m hmb.1 hmb.2 w2 (HR.out.stays B2.out)).mono ?_
  rintro e w3 ⟨rfl, b3⟩
  have B3 := Lib.hid (H.below_cat B2.out b3)
  clear b3 B1 B2 HR hs ha0 ha1 hb0 hb1 hga hgb
  go_wp2_with fail
  have P1 := Lib.hid (B.parse_any s (by omega) w3)
  by_cases he : (B.parse s.data.toList).err = 0
  · have P1' : Hid (Calls Tryd.prog 6 #[.string s] w3 fun e w' => ∃ v ρ vs, e = .returned (.tuple #[v, .nilIface]) ∧ B.ItemsAt w' ρ v (B.parse s.data.toList).st.items vs ∧ Below w3.heap.size w3 w') := Lib.hid (P1.out.mono fun e w' h => by
      unfold B.ParsePost at h
      rw [if_pos he] at h
      obtain ⟨v, ρ, vs, h1, h2, -, h4⟩ := h
      exact ⟨v, ρ, vs, h1, h2, h4⟩)
    obtain ⟨g1, g2⟩ := parse_hdr n s.data.toList
    have hsz : (H.hdrB n ++ s).size ≤ 60000 := by
      have := H.hdrB_size n hna.2
      rw [ByteArray.size_append]; omega
    have P2 := Lib.hid (B.parse_any (H.hdrB n ++ s) hsz)
    have P2' : Hid (∀ w4, Calls Tryd.prog 6 #[.string (H.hdrB n ++ s)] w4 fun e w' => ∃ v ρ vs, e = .returned (.tuple #[v, .nilIface]) ∧ B.ItemsAt w' ρ v (headItems (H.mark ++ Lib.decDigits n) ++ (B.parse s.data.toList).st.items) vs ∧ Below w4.heap.size w4 w') := Lib.hid (fun w4 => (P2.out w4).mono fun e w' h => by
      unfold B.ParsePost at h
      rw [app_data, H.hdrB_data, if_pos (g1.trans he), g2 he] at h
      obtain ⟨v, ρ, vs, h1, h2, -, h4⟩ := h
      exact ⟨v, ρ, vs, h1, h2, h4⟩)
    have hadd : ¬ 9223372036854775807 < (H.hdrB n).size + s.size := by
      have := H.hdrB_size n hna.2
      omega
    clear P1 P2 g1 g2 he
    generalize (B.parse s.data.toList).st.items = xs at *
    refine P1'.out.mono ?_
    rintro e w4 ⟨v, ρ, vs, rfl, hI, b4⟩
    have HI := Lib.hid hI
    have B4 := Lib.hid (H.below_cat B3.out b4)
    clear hI b4
    go_wp2_with fail
    refine (P2'.out _).mono ?_
    rintro e w5 ⟨v', ρ', vs', rfl, hI', b5⟩
    have HI5 := HI.out.below b5
    obtain ⟨ao, ca, hv⟩ := HI5.row.shape
    have hlen : (headItems (H.mark ++ Lib.decDigits n) ++ xs).length = xs.length + 2 := by rw [List.length_append]; show 2 + xs.length = _; omega
    obtain ⟨bo, cp, hv'⟩ := hI'.row.shape
    rw [hlen] at hv'
    obtain ⟨g, u0, h0g, h0, -, -, -⟩ := hI'.get (k := 0) (x := ⟨2, (H.mark ++ Lib.decDigits n) ++ [10], []⟩) rfl
    obtain ⟨g1, u1, h1g, h1, -, -, -⟩ := hI'.get (k := 1) (x := ⟨1, [10], []⟩) rfl
    rw [h0g] at h1g
    cases h1g
    have hbo : bo = some ⟨g, 0, none⟩ := by
      rcases hI'.row.1.2 with ⟨hz, hz0⟩ | ⟨g', cp', cur, hz, -⟩
      · rw [hlen] at hz0; omega
      · rw [hv'] at hz
        rw [hv'] at h0g
        injection hz with z1 z2 z3
        rw [z1] at h0g ⊢
        have : g' = g := by simpa [Value.ownBlock] using h0g
        rw [this]
    subst hbo
    have hmax := B.row_max hI'.row
    rw [hlen] at hmax
    have hcp : xs.length + 2 ≤ cp := by
      rcases hI'.row.1.2 with ⟨hz, hz0⟩ | ⟨g', cp', cur, hz, -, -, hn, -⟩
      · rw [hlen] at hz0; omega
      · rw [hv', hlen] at hz
        injection hz with z1 z2 z3
        rw [hlen] at hn
        omega
    have k0 : w5.cell? ⟨g, 0, none⟩ = some (.int .i64 2) := h0
    have k1 : w5.cell? ⟨g, 3, none⟩ = some (.int .i64 1) := h1
    have hIn : B.ItemsIn w5 v xs := by
      rw [hv]
      refine ⟨_, _, rfl, by omega, fun k x hk => ?_⟩
      obtain ⟨g', u, e1, e2, e3, e4, e5⟩ := HI5.get hk
      rcases HI5.row.1.2 with ⟨hz, hz0⟩ | ⟨g'', cp', cur, hz, -⟩
      · have := (List.getElem?_eq_some_iff.1 hk).1; omega
      · rw [hv] at hz e1
        injection hz with z1 z2 z3
        rw [z1] at e1 ⊢
        have hg : g'' = g' := by simpa [Value.ownBlock] using e1
        exact ⟨g'', 0, u, rfl, by rw [hg, Nat.zero_add]; exact e2, by rw [hg, Nat.zero_add]; exact e3, by rw [hg, Nat.zero_add]; exact e4, e5⟩
    have hSl : ∀ c, B.ItemsIn w5 (.slice (some ⟨g, 6, none⟩) xs.length c) xs := fun c => hI'.slice (cp := c) h0g
    have B5 := Lib.hid (H.below_cat B4.out b5)
    have H1 := Lib.hid hIn
    have H2 := Lib.hid hSl
    subst hv
    subst hv'
    clear hI' b5 HI HI5 hIn hSl h0 h1 h0g hlen P1' P2'
    have hend : ∀ k, Below w.heap.size w (w5.drewN k) := fun k => H.below_dn B5.out k
    have HE := Lib.hid hend
    clear hend
    by_cases hc2 : cp = 2
    · have hx0 : xs = [] := List.length_eq_zero_iff.1 (by omega)
      subst hc2
      subst hx0
      have IT := Lib.hid (B.items_same (.slice (some ⟨g, 0, none⟩) 0 0) (.slice ao 0 ca) [] w5 (B.itemsIn_nil _ _ _) (B.itemsIn_nil _ _ _))
      by_cases hab : n = m
      · subst hab
        go_wp2_with fail
        refine IT.out.mono ?_
        rintro e w6 ⟨rfl, k, rfl⟩
        go_wp2
        go_ret
        exact ⟨rfl, HE.out k⟩
      · have q1 : ((H.hdrB n).toList == (H.hdrB m).toList) = false := by simpa using fun h => hab (hdr_inj (H.bytes_eq h) hna hmb)
        have q2 : ((n : Int) == (m : Int)) = false := by simpa using fun h : (n : Int) = m => hab (by omega)
        go_wp2_with fail
        refine IT.out.mono ?_
        rintro e w6 ⟨rfl, k, rfl⟩
        go_wp2
        go_ret
        exact ⟨rfl, HE.out k⟩
    · have IT := Lib.hid (B.items_same (.slice (some ⟨g, 6, none⟩) xs.length (cp - 2)) (.slice ao xs.length ca) xs w5 (H2.out _) H1.out)
      by_cases hab : n = m
      · subst hab
        go_wp2_with fail
        refine IT.out.mono ?_
        rintro e w6 ⟨rfl, k, rfl⟩
        go_wp2
        go_ret
        exact ⟨rfl, HE.out k⟩
      · have q1 : ((H.hdrB n).toList == (H.hdrB m).toList) = false := by simpa using fun h => hab (hdr_inj (H.bytes_eq h) hna hmb)
        have q2 : ((n : Int) == (m : Int)) = false := by simpa using fun h : (n : Int) = m => hab (by omega)
        go_wp2_with fail
        refine IT.out.mono ?_
        rintro e w6 ⟨rfl, k, rfl⟩
        go_wp2
        go_ret
        exact ⟨rfl, HE.out k⟩
  · have P1' : Hid (Calls Tryd.prog 6 #[.string s] w3 fun e w' => ∃ g, e = .returned (.tuple #[.slice none 0 0, .iface 69 (.pointer (some ⟨g, 0, none⟩))]) ∧ Below w3.heap.size w3 w') := Lib.hid (P1.out.mono fun e w' h => by
      unfold B.ParsePost at h
      rw [if_neg he] at h
      obtain ⟨g, h1, -, -, h4⟩ := h
      exact ⟨g, h1, h4⟩)
    clear P1 he
    refine P1'.out.mono ?_
    rintro e w4 ⟨g, rfl, b4⟩
    have B4 := Lib.hid (H.below_cat B3.out b4)
    clear b4
    by_cases hab : n = m
    · subst hab
      go_wp2
      go_ret
      exact ⟨rfl, B4.out⟩
    · have q1 : ((H.hdrB n).toList == (H.hdrB m).toList) = false := by simpa using fun h => hab (hdr_inj (H.bytes_eq h) hna hmb)
      have q2 : ((n : Int) == (m : Int)) = false := by simpa using fun h : (n : Int) = m => hab (by omega)
      go_wp2
      go_ret
      exact ⟨rfl, B4.out⟩
end Go.Proofs.YticafcaoalmdiaaDoor.R
