/- What the law TablePlaces calls: large, first, lines.Count. -/
import Derived.Test.YtboiaoaephimhaaDoorTPlacesLaw
import Derived.Test.YtboiaoaephimhaaDoorTArgs
import Derived.Test.YtboiaoaephimhaaDoorBLists
namespace Go.Proofs.YtboiaoaephimhaaDoor.T
open Go.RowKit Go.Shelf
open Go.Proofs.YtboiaoaephimhaaDoor.B

/-- More than is looked at. -/
def isLarge (s : ByteArray) (ks : List ByteArray) : Bool := decide (2500 < s.size) || decide (12 < ks.length) || ks.any fun k => decide (200 < k.size)
set_option maxRecDepth 20000 in
set_option maxHeartbeats 1600000 in
theorem large_any (s : ByteArray) (v : Value) (ks : List ByteArray) (w : World) (hk : StrsAt w.heap.size w v ks) (hs : s.size ≤ 9223372036854775807) (hl : ks.length ≤ 9223372036854775807) (hz : ∀ k ∈ ks, k.size ≤ 9223372036854775807) :
    Calls Tryd.prog 12 #[.string s, v] w fun e w' => e = .returned (.bool (isLarge s ks)) ∧ w = w' := by
  obtain ⟨ao, cp, rfl, hc⟩ := hk
  have HC := Lib.hid hc
  have HZ := Lib.hid hz
  have HL := Lib.hid (show isLarge s ks = _ from rfl)
  unfold isLarge at HL
  obtain ⟨b, hb⟩ : ∃ b, isLarge s ks = b := ⟨_, rfl⟩
  have HB : Hid (b = (decide (2500 < s.size) || decide (12 < ks.length) || ks.any fun k => decide (200 < k.size))) := Lib.hid (by rw [← hb]; rfl)
  rw [hb]
  clear hb HL hc hz
  go_enter Tryd.func12, Tryd.ntmps12
  by_cases h1 : s.size ≤ 2500
  · by_cases h2 : ks.length ≤ 12
    · go_wp2
      go_loop [17] (fun i => ∃ k : Nat, i = .int .i64 k ∧ k ≤ ks.length ∧ Hid ((ks.take k).any (fun k => decide (200 < k.size)) = false)) (fun i => ks.length - (intOf i).toNat)
      case atStart => exact ⟨0, rfl, Nat.zero_le _, Lib.hid rfl⟩
      case round =>
        obtain ⟨k, rfl, hk, ha⟩ := hrel
        by_cases hlt : k < ks.length
        · obtain ⟨x, hx⟩ : ∃ x, ks[k]? = some x := ⟨_, List.getElem?_eq_getElem hlt⟩
          obtain ⟨a, rfl, -, c1⟩ := HC.out k x hx
          have hxs := HZ.out x (List.mem_of_getElem? hx)
          have HX := Lib.hid hx
          clear hx
          by_cases h200 : x.size ≤ 200
          · go_wp2
            go_round
            case rel => exact ⟨k + 1, by go_num, by omega, Lib.hid (any_false_take ha.out HX.out (by simpa using h200))⟩
            case measure => simp [intOf]; omega
          · go_wp2
            go_ret
            refine ⟨?_, rfl⟩
            have e : b = true := by
              rw [HB.out]
              have : (ks.any fun k => decide (200 < k.size)) = true := by rw [List.any_eq_true]; exact ⟨x, List.mem_of_getElem? HX.out, by simpa using h200⟩
              rw [this]; simp
            rw [e]; rfl
        · have ha' := ha.out
          rw [List.take_of_length_le (by omega)] at ha'
          have HA := Lib.hid ha'
          clear ha'
          go_wp2
          go_ret
          refine ⟨?_, rfl⟩
          have e : b = false := by
            rw [HB.out, HA.out]
            simp; omega
          rw [e]; rfl
    · go_wp2
      go_ret
      refine ⟨?_, rfl⟩
      have e : b = true := by rw [HB.out]; simp; omega
      rw [e]; rfl
  · go_wp2
    go_ret
    refine ⟨?_, rfl⟩
    have e : b = true := by rw [HB.out]; simp; omega
    rw [e]; rfl
theorem suffix_nl {l : List UInt8} (h : ∃ a, l = a ++ [10]) : Lib.hasSuffix l [10] = true := by
  obtain ⟨a, rfl⟩ := h
  unfold Lib.hasSuffix
  rw [List.isSuffixOf_iff_suffix]
  exact ⟨a, rfl⟩
set_option maxRecDepth 20000 in
theorem count_nl (s : ByteArray) (w : World) (h : ∃ a, s.data.toList = a ++ [10]) (hs : s.size ≤ 9223372036854775807) :
    Calls Tryd.prog 16 #[.string s] w fun e w' => e = .returned (.int .i64 (s.data.toList.count 10)) ∧ w = w' := by
  have C := Lib.hid (Tryd.strings_Count_one s 10 w)
  have F0 := Tryd.strings_HasSuffix s ⟨#[10]⟩ w hs
  have e1 : Lib.hasSuffix s.data.toList (⟨#[10]⟩ : ByteArray).data.toList = true := suffix_nl h
  rw [e1] at F0
  have F := Lib.hid F0
  have hne : (s.toList == []) = false := by
    obtain ⟨a, ha⟩ := h
    rw [Lib.toList_data, ha, beq_eq_false_iff_ne]; simp
  have hne2 : s.toList.isEmpty = false := by
    obtain ⟨a, ha⟩ := h
    rw [Lib.toList_data, ha]; simp
  clear F0 e1 h
  go_enter Tryd.func16, Tryd.ntmps16
  go_wp2_with fail
  refine C.out.mono ?_
  rintro e w' ⟨rfl, rfl⟩
  go_wp2_with fail
  refine F.out.mono ?_
  rintro e w' ⟨rfl, rfl⟩
  go_wp2
  go_ret
  exact ⟨rfl, rfl⟩
set_option maxRecDepth 20000 in
set_option maxHeartbeats 1600000 in
theorem first_any (q : Option Addr) (ss : List St) (i : Nat) (x : St) (w : World) (hx : ss[i]? = some x)
    (HS : Calls Tryd.prog 30 #[.pointer q] w (StanzasPost ss w)) :
    Calls Tryd.prog 19 #[.pointer q, .int .i64 i] w fun e w' => ∃ v, e = .returned v ∧ FieldsAt w'.heap.size w' v x.2 ∧ Below w.heap.size w w' := by
  have ST := Lib.hid HS
  have HX := Lib.hid hx
  have hil := (List.getElem?_eq_some_iff.1 hx).1
  clear HS hx
  go_enter Tryd.func19, Tryd.ntmps19
  go_wp2_with fail
  refine ST.out.mono ?_
  rintro e w2 ⟨v, ρ, us, rfl, hS, -, hb2⟩
  have hul := hS.len
  obtain ⟨f, hf⟩ : ∃ f, us[i]? = some f := ⟨_, List.getElem?_eq_getElem (by omega)⟩
  obtain ⟨g1, g2⟩ := stCells_get ss us i x f HX.out hf
  have hrow := hS.row.1
  have hfr := (hS.its i f x hf HX.out).1
  have hfa := FieldsAt.row hfr
  obtain ⟨so, sc, hsv⟩ := hS.row.shape
  subst hsv
  obtain ⟨g, hg, hao⟩ : ∃ g, (Value.slice so ss.length sc).ownBlock = some g ∧ so = some ⟨g, 0, none⟩ := by
    rcases hrow.2 with ⟨-, h0⟩ | ⟨g, cp', cur, hz, -⟩
    · omega
    · injection hz with z1 z2 z3
      exact ⟨g, by rw [z1]; rfl, z1⟩
  have e2 := hrow.cells hg _ _ g2
  rw [addrO] at e2
  subst hao
  obtain ⟨fo, fc, hfv, -⟩ := FieldsAt.row hfr
  subst hfv
  have HFA := Lib.hid hfa
  have HB2 := Lib.hid hb2
  clear hS hul hf g1 g2 hrow hfr hfa hg hb2 ST
  go_wp2
  go_ret
  exact ⟨_, rfl, HFA.out, HB2.out⟩
end Go.Proofs.YtboiaoaephimhaaDoor.T
