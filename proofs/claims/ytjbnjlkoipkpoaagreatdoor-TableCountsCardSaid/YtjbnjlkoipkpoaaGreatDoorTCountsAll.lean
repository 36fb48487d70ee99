/- The law TableCounts, walked: all cases. -/
import Derived.Test.YtjbnjlkoipkpoaaGreatDoorTCountsLaw
namespace Go.Proofs.YtjbnjlkoipkpoaaGreatDoor.T
open Go.RowKit Go.Shelf
open Go.Proofs.YtjbnjlkoipkpoaaGreatDoor.B

theorem large_uno (s key : ByteArray) (w1 : World) (hs : s.size ≤ 9223372036854775807) (hk : key.size ≤ 9223372036854775807) :
    Calls Tryz.prog 22 #[.string s, .slice (some ⟨w1.heap.size, 0, none⟩) 1 1] (w1.alloc (.cells #[.string key] 9)) fun e w' => e = .returned (.bool (isLarge s [key])) ∧ (w1.alloc (.cells #[.string key] 9)) = w' :=
  large_any s (.slice (some ⟨w1.heap.size, 0, none⟩) 1 1) [key] (w1.alloc (.cells #[.string key] 9)) (one_at key w1) hs (by simp) (fun x hx => by rw [List.mem_singleton.1 hx]; exact hk)
set_option maxRecDepth 100000 in
set_option maxHeartbeats 3200000 in
theorem counts_large (s key : ByteArray) (w : World) (hr : Ready w) (hs : s.size ≤ 9223372036854775807) (hk : key.size ≤ 9223372036854775807) (hL : isLarge s [key] = true) :
    Calls Tryz.prog 9 #[.string s, .string key] w fun e w' => e = .returned (.bool true) ∧ Below w.heap.size w w' := by
  have AL := Lib.hid (alive_any w hr)
  have LG := Lib.hid (fun w1 => large_uno s key w1 hs hk)
  rw [hL] at LG
  clear hr hL
  go_enter Tryz.func9, Tryz.ntmps9
  go_wp2_with fail
  refine AL.out.mono ?_
  rintro e w1 ⟨rfl, hb1⟩
  have HB1 := Lib.hid (hb1.alloc hb1.size (.cells #[.string key] 9))
  clear hb1 AL
  go_wp2_with fail
  refine (LG.out w1).mono ?_
  rintro e w' ⟨rfl, rfl⟩
  clear LG
  go_wp2
  go_ret
  exact ⟨rfl, HB1.out⟩
set_option maxRecDepth 100000 in
set_option maxHeartbeats 3200000 in
theorem counts_bad (s key : ByteArray) (w : World) (hr : Ready w) (hs : s.size ≤ 9223372036854775807) (hk : key.size ≤ 9223372036854775807) (hL : isLarge s [key] = false) (he : (parse s.data.toList).err ≠ 0) :
    Calls Tryz.prog 9 #[.string s, .string key] w fun e w' => e = .returned (.bool true) ∧ Below w.heap.size w w' := by
  have hL' := hL
  unfold isLarge at hL'
  simp only [Bool.or_eq_false_iff, decide_eq_false_iff_not] at hL'
  obtain ⟨⟨hs2, -⟩, -⟩ := hL'
  have AL := Lib.hid (alive_any w hr)
  have LG := Lib.hid (fun w1 => large_uno s key w1 hs hk)
  rw [hL] at LG
  have LO := Lib.hid (fun w' => list_no s (by omega) w' he)
  unfold faultV at LO
  have RO := Lib.hid (fun w' => refOf_no s (by omega) w' he)
  clear hr hL he
  go_enter Tryz.func9, Tryz.ntmps9
  go_wp2_with fail
  refine AL.out.mono ?_
  rintro e w1 ⟨rfl, hb1⟩
  have HB1 := Lib.hid (hb1.alloc hb1.size (.cells #[.string key] 9))
  have hz1 := HB1.out.size
  clear hb1 AL
  go_wp2_with fail
  refine (LG.out w1).mono ?_
  rintro e w' ⟨rfl, rfl⟩
  clear LG
  go_wp2_with fail
  refine (LO.out _).mono ?_
  rintro e w2 ⟨g, rfl, hb2⟩
  have HB2 := Lib.hid (HB1.out.trans (hb2.mono hz1))
  clear hb2 LO
  go_wp2_with fail
  refine (RO.out w2).mono ?_
  rintro e w3 ⟨i, n, rfl, hn, hn2, hb3⟩
  have hz2 := HB2.out.size
  have hne : ((n : Int) != 0) = true := by rw [bne_iff_ne]; omega
  have hb4 := (HB2.out.trans (hb3.mono hz2)).trans ((below_grow1 w3 (.cells #[.slice none 0 0, .int .i64 0] 26)).mono (Nat.le_trans hz2 hb3.size))
  have HB4 := Lib.hid hb4
  clear hb3 hb4
  go_wp2
  go_ret
  exact ⟨rfl, HB4.out⟩
theorem counts_walk (s key : ByteArray) (w : World) (hs : s.size ≤ 9223372036854775807) (hk : key.size ≤ 9223372036854775807) (hr : Ready w) :
    Calls Tryz.prog 9 #[.string s, .string key] w fun e w' => e = .returned (.bool true) ∧ Below w.heap.size w w' := by
  cases hL : isLarge s [key] with
  | true => exact counts_large s key w hr hs hk hL
  | false =>
    by_cases he : (parse s.data.toList).err = 0
    · exact counts_main s key w hr hs hk hL he
    · exact counts_bad s key w hr hs hk hL he
end Go.Proofs.YtjbnjlkoipkpoaaGreatDoor.T
