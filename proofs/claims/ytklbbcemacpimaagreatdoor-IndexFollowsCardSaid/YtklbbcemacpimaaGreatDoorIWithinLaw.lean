/- The statement IndexWithin, walked. -/
import Derived.Test.YtklbbcemacpimaaGreatDoorIWithin
import Derived.Test.YtklbbcemacpimaaGreatDoorIOf
namespace Go.Proofs.YtklbbcemacpimaaGreatDoor.I
open Go Go.Maps Go.Proofs Go.RowKit

theorem tellable (t : List UInt8) : Tellable (B.stanzasOf t) := by
  refine ⟨(B.stanzasOf_rise t).imp fun h => by omega, by have := B.stanzasOf_few t; omega, fun x hx => ?_⟩
  obtain ⟨h1, -, -⟩ := B.stanzasOf_fine hx
  have h2 := B.stanzasOf_keys hx
  refine ⟨by have := h1.1; omega, ?_, fun f hf => ⟨by have := h2 f hf; omega, by have := h1.2 f hf; omega⟩⟩
  exact B.stanzasOf_id hx
set_option maxRecDepth 20000 in
set_option maxHeartbeats 1600000 in
theorem within_walk (s key : ByteArray) (hs : s.size ≤ 9223372036854775807) (hk : key.size ≤ 9223372036854775807) (w : World) :
    Calls Tryz.prog 3 #[.string s, .string key] w fun e w' => e = .returned (.bool true) ∧ Below w.heap.size w w' := by
  have hkm : key.size ≤ maxLen := by rw [maxLen_is]; exact hk
  by_cases h3 : 3000 < s.size
  · have h3' : (3000 : Int) < (s.size : Int) := by omega
    clear h3
    go_enter Tryz.func3, Tryz.ntmps3
    go_wp2_with fail
    refine (alive_any w).mono ?_
    rintro e w1 ⟨rfl, hb1⟩
    go_wp2_with fail
    go_ret
    exact ⟨rfl, hb1⟩
  · by_cases he : (B.parse s.data.toList).err = 0
    · have hT := tellable s.data.toList
      refine within_main s key w (mOf (B.stanzasOf s.data.toList)) (by omega) hkm (by rw [mOf_len]; exact hT.few) (fun t ht => ?_) fun w' => ?_
      · obtain ⟨x, hx, rfl⟩ := (mOf_mem _ _).1 ht
        have := (hT.fine x hx).1
        simpa [toFs] using this
      · refine (B.list_ok s (by omega) w' he).mono fun e w2 h => ?_
        obtain ⟨b, h1, h2, -, h4⟩ := h
        exact ⟨b, h1, h4, (of_any b _ w2 hT fun w3 hb3 => B.stanzas_in (h2.below hb3) (by omega)).mono fun e w3 h => h⟩
    · have h3' : (s.size : Int) ≤ 3000 := by omega
      have LO := Lib.hid (fun w' => B.list_no s (by omega) w' he)
      unfold B.faultV at LO
      clear he h3
      go_enter Tryz.func3, Tryz.ntmps3
      go_wp2_with fail
      refine (alive_any w).mono ?_
      rintro e w1 ⟨rfl, hb1⟩
      go_wp2_with fail
      refine (LO.out w1).mono ?_
      rintro e w2 ⟨g, rfl, hb2⟩
      have HB2 := Lib.hid (hb1.trans (hb2.mono hb1.size))
      clear hb2 LO
      go_wp2_with fail
      go_ret
      exact ⟨rfl, HB2.out⟩
end Go.Proofs.YtklbbcemacpimaaGreatDoor.I
