/- The law TablePlaces, walked: all cases. -/
import Derived.Test.YtboiaoaephimhaaDoorTPlaces
namespace Go.Proofs.YtboiaoaephimhaaDoor.T
open Go.RowKit Go.Shelf
open Go.Proofs.YtboiaoaephimhaaDoor.B

set_option maxRecDepth 100000 in
set_option maxHeartbeats 3200000 in
theorem places_large (s : ByteArray) (vk : Value) (ks : List ByteArray) (w : World) (hk : StrArg w vk ks) (hr : Ready w) (hs : s.size ≤ 9223372036854775807) (hL : isLarge s ks = true ∨ ks.length = 0) :
    Calls Tryd.prog 4 #[.string s, vk] w fun e w' => e = .returned (.bool true) ∧ Below w.heap.size w w' := by
  have AL := Lib.hid (alive_any w hr)
  have LG := Lib.hid (fun (w' : World) (hb : Below w.heap.size w w') => large_any s vk ks w' ((hk.at_.below hb (Nat.le_refl _)).up hb.size) hs hk.1 hk.2.1)
  obtain ⟨ao, cp, hvk, -⟩ := hk.at_
  subst hvk
  have hkl := hk.1
  clear hr hk
  obtain ⟨c, hc⟩ : ∃ c, isLarge s ks = c := ⟨_, rfl⟩
  rw [hc] at LG hL
  clear hc
  go_enter Tryd.func4, Tryd.ntmps4
  go_wp2_with fail
  refine AL.out.mono ?_
  rintro e w1 ⟨rfl, hb1⟩
  have HB1 := Lib.hid hb1
  clear hb1 AL
  go_wp2_with fail
  refine (LG.out w1 HB1.out).mono ?_
  rintro e w' ⟨rfl, rfl⟩
  cases c with
  | true =>
    clear hL LG
    go_wp2
    go_ret
    exact ⟨rfl, HB1.out⟩
  | false =>
    have h0 : ks.length = 0 := by
      rcases hL with h | h
      · cases h
      · exact h
    have hz0 : ((ks.length : Int) == 0) = true := by rw [beq_iff_eq]; omega
    clear hL LG h0
    go_wp2
    go_ret
    exact ⟨rfl, HB1.out⟩
set_option maxRecDepth 100000 in
set_option maxHeartbeats 3200000 in
theorem places_bad (s : ByteArray) (vk : Value) (ks : List ByteArray) (w : World) (hk : StrArg w vk ks) (hr : Ready w) (hs : s.size ≤ 9223372036854775807) (hL : isLarge s ks = false) (hpos : 0 < ks.length) (he : (parse s.data.toList).err ≠ 0) :
    Calls Tryd.prog 4 #[.string s, vk] w fun e w' => e = .returned (.bool true) ∧ Below w.heap.size w w' := by
  have hL' := hL
  unfold isLarge at hL'
  simp only [Bool.or_eq_false_iff, decide_eq_false_iff_not] at hL'
  obtain ⟨⟨hs2, hk2⟩, -⟩ := hL'
  have AL := Lib.hid (alive_any w hr)
  have LG := Lib.hid (fun (w' : World) (hb : Below w.heap.size w w') => large_any s vk ks w' ((hk.at_.below hb (Nat.le_refl _)).up hb.size) hs hk.1 hk.2.1)
  rw [hL] at LG
  have LO := Lib.hid (fun w' => list_no s (by omega) w' he)
  unfold faultV at LO
  obtain ⟨ao, cp, hvk, -⟩ := hk.at_
  subst hvk
  have hz0 : ((ks.length : Int) == 0) = false := by rw [beq_eq_false_iff_ne]; omega
  clear hL hr hk he
  go_enter Tryd.func4, Tryd.ntmps4
  go_wp2_with fail
  refine AL.out.mono ?_
  rintro e w1 ⟨rfl, hb1⟩
  have HB1 := Lib.hid hb1
  clear hb1 AL
  go_wp2_with fail
  refine (LG.out w1 HB1.out).mono ?_
  rintro e w' ⟨rfl, rfl⟩
  go_wp2_with fail
  refine (LO.out w1).mono ?_
  rintro e w2 ⟨g, rfl, hb2⟩
  have HB2 := Lib.hid (HB1.out.trans (hb2.mono HB1.out.size))
  clear hb2
  go_wp2
  go_ret
  exact ⟨rfl, HB2.out⟩
set_option maxRecDepth 100000 in
set_option maxHeartbeats 3200000 in
theorem places_keys (s : ByteArray) (vk : Value) (ks : List ByteArray) (w : World) (hk : StrArg w vk ks) (hr : Ready w) (hs : s.size ≤ 9223372036854775807) (hL : isLarge s ks = false) (hpos : 0 < ks.length) (he : (parse s.data.toList).err = 0) (hg : (ks.any fun s => !goodB s) = true) :
    Calls Tryd.prog 4 #[.string s, vk] w fun e w' => e = .returned (.bool true) ∧ Below w.heap.size w w' := by
  have hL' := hL
  unfold isLarge at hL'
  simp only [Bool.or_eq_false_iff, decide_eq_false_iff_not] at hL'
  obtain ⟨⟨hs2, hk2⟩, -⟩ := hL'
  have AL := Lib.hid (alive_any w hr)
  have LG := Lib.hid (fun (w' : World) (hb : Below w.heap.size w w') => large_any s vk ks w' ((hk.at_.below hb (Nat.le_refl _)).up hb.size) hs hk.1 hk.2.1)
  rw [hL] at LG
  have LO := Lib.hid (fun w' => list_ok s (by omega) w' he)
  have T := Lib.hid (fun (b : Nat) (w' : World) (hb : Below w.heap.size w w') => table_bad ⟨b, 0, none⟩ vk ks w' ((hk.at_.below hb (Nat.le_refl _)).up hb.size) (by omega) hg)
  unfold errnoV at T
  obtain ⟨ao, cp, hvk, -⟩ := hk.at_
  subst hvk
  have hz0 : ((ks.length : Int) == 0) = false := by rw [beq_eq_false_iff_ne]; omega
  clear hL hr hk he hg
  go_enter Tryd.func4, Tryd.ntmps4
  go_wp2_with fail
  refine AL.out.mono ?_
  rintro e w1 ⟨rfl, hb1⟩
  have HB1 := Lib.hid hb1
  clear hb1 AL
  go_wp2_with fail
  refine (LG.out w1 HB1.out).mono ?_
  rintro e w' ⟨rfl, rfl⟩
  go_wp2_with fail
  refine (LO.out w1).mono ?_
  rintro e w2 ⟨b, rfl, -, -, hb2⟩
  have HB2 := Lib.hid (HB1.out.trans (hb2.mono HB1.out.size))
  clear hb2
  go_wp2_with fail
  refine (T.out b w2 HB2.out).mono ?_
  rintro e w' ⟨rfl, rfl⟩
  go_wp2
  go_ret
  exact ⟨rfl, HB2.out⟩
theorem places_walk (s : ByteArray) (vk : Value) (ks : List ByteArray) (w : World) (hk : StrArg w vk ks) (hr : Ready w) (hs : s.size ≤ 9223372036854775807) :
    Calls Tryd.prog 4 #[.string s, vk] w fun e w' => e = .returned (.bool true) ∧ Below w.heap.size w w' := by
  cases hL : isLarge s ks with
  | true => exact places_large s vk ks w hk hr hs (.inl hL)
  | false =>
    by_cases h0 : ks.length = 0
    · exact places_large s vk ks w hk hr hs (.inr h0)
    · by_cases he : (parse s.data.toList).err = 0
      · cases hg : (ks.any fun s => !goodB s) with
        | true => exact places_keys s vk ks w hk hr hs hL (by omega) he hg
        | false => exact places_main s vk ks w hk hr hs hL (by omega) he hg
      · exact places_bad s vk ks w hk hr hs hL (by omega) he
end Go.Proofs.YtboiaoaephimhaaDoor.T
