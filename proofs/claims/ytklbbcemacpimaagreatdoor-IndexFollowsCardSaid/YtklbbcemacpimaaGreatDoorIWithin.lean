/- The statement IndexWithin, walked where the text is a list's. -/
import Derived.Test.YtklbbcemacpimaaGreatDoorIHas
import Derived.Deep.RegionHeld3
namespace Go.Proofs.YtklbbcemacpimaaGreatDoor.I
open Go Go.Maps Go.Proofs Go.RowKit Go.Sort Go.Shelf

/-- index.Of answers with an index of these stanzas. -/
def Ofs (m : Ms) (b : Nat) (w : World) : Prop :=
  Calls Tryz.prog 7 #[.pointer (some ⟨b, 0, none⟩)] w fun e w' => ∃ xb n own, e = .returned (.pointer (some ⟨xb, 0, none⟩)) ∧ XOn w own w' xb n m ∧ n ≤ 800000
def WR (Es : L8 → List Int) (V : List L8) (w6 : World) (nv i : Value) (wr : World) : Prop :=
  ∃ (k c : Nat), i = .int .i64 k ∧ nv = .int .i64 c ∧ c = sumLen Es (V.take k) ∧ k ≤ V.length ∧ Hid (Below w6.heap.size w6 wr)
def WI (el : Nat) (w6 : World) (i : Value) (wr : World) : Prop := ∃ j : Nat, i = .int .i64 j ∧ j ≤ el ∧ Hid (Below w6.heap.size w6 wr)
theorem XOn.val {w0 w : World} {own : Nat → Prop} {xb n : Nat} {m : Ms} (h : XOn w0 own w xb n m) {k v : L8} (hv : ∃ i, cM m k v i ≠ 0) : v.length ≤ maxLen := by
  obtain ⟨i, hi⟩ := hv
  obtain ⟨s, hs, -, f, hf, -, rfl⟩ := (cM_mem h.at_.rise).1 hi
  exact ((h.at_.fine s hs).small f hf).2
set_option maxRecDepth 100000 in
set_option maxHeartbeats 12800000 in
theorem within_main (s key : ByteArray) (w : World) (m : Ms) (hs : s.size ≤ 3000) (hk : key.size ≤ maxLen) (hml : m.length ≤ 2000) (hmf : ∀ t ∈ m, t.2.length ≤ 100)
    (LO : ∀ w', Calls Tryz.prog 6 #[.string s] w' fun e w2 => ∃ b, e = .returned (.tuple #[.pointer (some ⟨b, 0, none⟩), .nilIface]) ∧ Below w'.heap.size w' w2 ∧ Ofs m b w2) :
    Calls Tryz.prog 3 #[.string s, .string key] w fun e w' => e = .returned (.bool true) ∧ Below w.heap.size w w' := by
  have hs' : (s.size : Int) ≤ 3000 := by omega
  have LO := Lib.hid LO
  have HMF := Lib.hid hmf
  clear hs hmf
  go_enter Tryz.func3, Tryz.ntmps3
  go_wp2_with fail
  refine (alive_any w).mono ?_
  rintro e w1 ⟨rfl, hb1⟩
  go_wp2_with fail
  refine (LO.out w1).mono ?_
  rintro e w2 ⟨b, rfl, hb2, OF⟩
  have HB2 := Lib.hid (hb1.trans (hb2.mono hb1.size))
  have OF := Lib.hid OF
  clear hb1 hb2 LO
  go_wp2_with fail
  refine Calls.mono OF.out ?_
  rintro e w3 ⟨xb, n, own, rfl, hx, hn⟩
  have X3 := Lib.hid hx
  clear hx OF
  go_wp2_with fail
  refine (values_at X3.out.at_ (by omega) key hk).mono ?_
  rintro e w4 ⟨v, V, rfl, hVr, hVm, hVrow, hb4⟩
  have X4 := Lib.hid (X3.out.on hb4)
  have HVR := Lib.hid hVr
  have HVM := Lib.hid hVm
  have HVA := Lib.hid hVrow
  have HVS := Lib.hid (StrsAt.of hVrow)
  have hvl : V.length ≤ 200000 := by
    have h1 := vals_eq X3.out.at_.rise key.data.toList hVr hVm
    have h2 := addAllS_len (valsM key.data.toList m)
    have h3 := withM_len (key := key.data.toList) HMF.out
    have h4 : m.length * 100 ≤ 2000 * 100 := Nat.mul_le_mul_right _ hml
    rw [h1]
    omega
  obtain ⟨vo, vc, hvv⟩ := own_sh2 hVrow
  subst hvv
  clear hVr hVm hVrow hb4 X3
  go_wp2_with fail
  refine (with_at X4.out.at_ (by omega) key hk).mono ?_
  rintro e w5 ⟨u, W, rfl, hWr, hWm, hWrow, hb5⟩
  have X5 := Lib.hid (X4.out.on hb5)
  have HWR := Lib.hid hWr
  have HWM := Lib.hid hWm
  have HWS := Lib.hid (IntsAt.of hWrow)
  have HVS5 := Lib.hid (HVS.out.below hb5)
  have HVA5 := Lib.hid (ownB HVA.out hb5)
  obtain ⟨wo, wc, hwv⟩ := own_sh2 hWrow
  subst hwv
  clear hWr hWm hWrow hb5 X4 HVS HVA
  obtain ⟨w6, hw6⟩ : ∃ w6, w5.alloc (.cells #[.slice wo W.length wc] 32) = w6 := ⟨_, rfl⟩
  have hb6 : Below w5.heap.size w5 w6 := by rw [← hw6]; exact below_grow1 w5 _
  have g6 : w6.heap[w5.heap.size]? = some (.cells #[.slice wo W.length wc] 32 (0, 0)) := by rw [← hw6]; exact heap_alloc_new w5 _
  obtain ⟨Bw, hBw⟩ : ∃ Bw, w5.heap.size = Bw := ⟨_, rfl⟩
  rw [hBw] at g6
  have X6 := Lib.hid (X5.out.on hb6)
  have HWS6 := Lib.hid (HWS.out.below hb6)
  have HVS6 := Lib.hid (HVS5.out.below hb6)
  have HVA6 := Lib.hid (ownB HVA5.out hb6)
  have HG6 := Lib.hid g6
  have HW6 := Lib.hid hw6
  have HBW := Lib.hid hBw
  obtain ⟨Es, hEs⟩ : ∃ Es : L8 → List Int, (fun v => rWho (pick key.data.toList v v false) m) = Es := ⟨_, rfl⟩
  have HES : Hid (∀ v, Es v = rWho (pick key.data.toList v v false) m) := Lib.hid fun v => by rw [← hEs]
  have HEL : Hid (∀ v, (Es v).length ≤ 2000) := Lib.hid fun v => by rw [HES.out]; have := who_len (pick key.data.toList v v false) m; omega
  have HEM : Hid (∀ v i, i ∈ Es v ↔ cM m key.data.toList v i ≠ 0) := Lib.hid fun v i => by
    rw [HES.out, pick_mem X6.out.at_.rise]
    simp only [Bool.false_or, inR_self]
    exact ⟨fun ⟨_, e, h⟩ => e ▸ h, fun h => ⟨v, rfl, h⟩⟩
  clear hb6 g6 hw6 hBw hEs X5 HWS HVS5 HVA5
  go_wp2_with fail
  try rw [HW6.out]
  try rw [HBW.out]
  go_loopw [11, 40] (fun nv i W => WR Es V w6 nv i W) (fun _ i _ => V.length - (iOf i).toNat)
  case atStart => exact ⟨0, 0, rfl, rfl, by simp [sumLen], Nat.zero_le _, Lib.hid (Below.refl _ _)⟩
  case round =>
    obtain ⟨k, c, rfl, rfl, hc, hkk, hB⟩ := hrel
    have hcl : c ≤ 400000000 := by
      rw [hc]
      have h1 := sumLen_le (V := V.take k) (Es := Es) (c := 2000) fun v _ => HEL.out v
      have h2 : (V.take k).length ≤ 200000 := by rw [List.length_take]; omega
      have h3 := Nat.mul_le_mul_right 2000 h2
      omega
    by_cases hlt : k < V.length
    · obtain ⟨s0, hs0⟩ : ∃ s0, V[k]? = some s0 := ⟨_, List.getElem?_eq_getElem hlt⟩
      have hsV := List.mem_of_getElem? hs0
      have hex := (HVM.out s0).1 hsV
      have hsz := X6.out.val hex
      obtain ⟨vo', vc', hv', -, hcs⟩ := HVS6.out.below hB.out
      injection hv' with q1 q2 q3
      subst q1
      clear q2 q3
      obtain ⟨a, rfl, a1⟩ := hcs k s0 hs0
      have HSN : Hid (sumLen Es (V.take (k + 1)) = c + (Es s0).length) := Lib.hid (by rw [List.take_add_one, hs0, Option.toList_some, sumLen_snoc, ← hc])
      obtain ⟨ts, hts⟩ : ∃ ts : ByteArray, (⟨s0.toArray⟩ : ByteArray) = ts := ⟨_, rfl⟩
      have hst : s0 = ts.data.toList := by rw [← hts]
      have hzt : ts.size ≤ maxLen := by rw [← hts]; exact hsz
      rw [hts] at a1
      subst hst
      have XR := Lib.hid (X6.out.on hB.out)
      have HEX := Lib.hid hex
      clear hcs hs0 hsV hex hsz hts hc
      go_wp2_with fail
      refine (equal_at XR.out.at_ (by omega) key ts hk hzt).mono ?_
      rintro e w8 ⟨ids, E, rfl, hEr, hEm, hErow, hb8⟩
      have hEE : E = Es ts.data.toList := by rw [HES.out]; exact who_eq X6.out.at_.rise key.data.toList ts.data.toList hEr hEm
      have hEc := eq_count X6.out.at_.rise hEr hEm
      have hE0 : 0 < E.length := by
        obtain ⟨i, hi⟩ := HEX.out
        exact List.length_pos_of_mem ((hEm i).2 hi)
      have hE2 : E.length ≤ 2000 := by rw [hEE]; exact HEL.out _
      have HEA := Lib.hid (IntsAt.of hErow)
      have HBE := Lib.hid (hB.out.trans (hb8.mono hB.out.size))
      have XE := Lib.hid (XR.out.on hb8)
      have HEI : Hid (∀ i ∈ E, i ∈ W) := Lib.hid fun i hi => (HWM.out i).2 ⟨_, (hEm i).1 hi⟩
      obtain ⟨eo, ec, hev⟩ := own_sh2 hErow
      subst hev
      rw [← hEE] at HSN
      obtain ⟨el, hel⟩ : ∃ el, E.length = el := ⟨_, rfl⟩
      have HEL2 := Lib.hid hel
      rw [hel] at hE0 hE2 hEc HSN
      try rw [hel]
      have hz0 : ((el : Int) == 0) = false := by rw [beq_eq_false_iff_ne]; omega
      have hz1 : ¬ ((el : Int) = 0) := by omega
      have hz2 : ¬ (el = 0) := by omega
      clear hel
      clear hEr hEm hErow hb8 hEE XR HEX hB
      go_wp2_with fail
      refine (count_at XE.out.at_ (by omega) key ts hk hzt).mono ?_
      rintro e w9 ⟨rfl, hb9⟩
      obtain ⟨cn, hcn⟩ : ∃ cn, rCount key.data.toList ts.data.toList m = cn := ⟨_, rfl⟩
      rw [hcn] at hEc
      rw [hcn]
      have HEA9 := Lib.hid (HEA.out.below hb9)
      have HB9 := Lib.hid (HBE.out.trans (hb9.mono HBE.out.size))
      clear hb9 hcn HEA HBE XE
      go_wp2_with fail
      go_loopw [62] (fun i W => WI el w9 i W) (fun i _ => el - (iOf i).toNat)
      case atStart => exact ⟨0, rfl, Nat.zero_le _, Lib.hid (Below.refl _ _)⟩
      case round =>
        obtain ⟨j, rfl, hj, hBJ⟩ := hrel
        have HBX := Lib.hid (HB9.out.trans (hBJ.out.mono HB9.out.size))
        by_cases hjl : j < el
        · obtain ⟨id, hid⟩ : ∃ id, E[j]? = some id := ⟨_, List.getElem?_eq_getElem (by have := HEL2.out; omega)⟩
          obtain ⟨eo', ec', hv', -, hcs⟩ := HEA9.out.below hBJ.out
          injection hv' with q1 q2 q3
          subst q1
          clear q2 q3
          obtain ⟨ea, rfl, e1⟩ := hcs j id hid
          have gX := (HBX.out.block Bw (Array.getElem?_eq_some_iff.1 HG6.out).1).trans HG6.out
          have HA := Lib.hid (has_any id Bw (.slice wo W.length wc) W wr (by simp [World.cell?, gX]) (HWS6.out.below HBX.out) (HEI.out id (List.mem_of_getElem? hid)))
          clear hcs hid gX
          go_wp2_with fail
          refine HA.out.mono ?_
          rintro e w' ⟨rfl, hw⟩
          subst hw
          go_wp2_with fail
          exact ⟨⟨j + 1, by go_num, by omega, hBJ⟩, by simp [iOf]; omega⟩
        · go_wp2_with fail
          exact ⟨⟨k + 1, c + el, by go_num, by go_num, HSN.out.symm, by omega, HBX⟩, by simp [iOf]; omega⟩
    · have ht : V.take k = V := List.take_of_length_le (by omega)
      rw [ht] at hc
      have gX := (hB.out.block Bw (Array.getElem?_eq_some_iff.1 HG6.out).1).trans HG6.out
      have x0 : wr.cell? ⟨Bw, 0, none⟩ = some (.slice wo W.length wc) := by simp [World.cell?, gX]
      have FB : Hid (Below w.heap.size w wr) := Lib.hid (HB2.out.trans ((X6.out.on hB.out).below.mono HB2.out.size))
      by_cases hV0 : V = []
      · have hW0 := none_had HVM.out HWM.out hV0
        subst hV0
        subst hW0
        clear hc gX ht
        go_wp2_with fail
        go_ret
        exact ⟨rfl, FB.out⟩
      · have hge : W.length ≤ c := by rw [hc]; exact all_had HVM.out HWR.out HWM.out fun v _ i => HEM.out v i
        have hge2 : (W.length : Int) ≤ (c : Int) := by omega
        have hvn : 0 < V.length := List.length_pos_iff.2 hV0
        obtain ⟨q, hq⟩ : ∃ q, V.length = q + 1 := ⟨V.length - 1, by omega⟩
        obtain ⟨s0, hs0⟩ : ∃ s0, V[0]? = some s0 := ⟨_, List.getElem?_eq_getElem hvn⟩
        obtain ⟨sz, hsz⟩ : ∃ sz, V[q]? = some sz := ⟨_, List.getElem?_eq_getElem (by omega)⟩
        obtain ⟨g, hvo⟩ : ∃ g, vo = some ⟨g, 0, none⟩ := by
          rcases HVA6.out.2 with ⟨-, h0⟩ | ⟨g, cap, cur, hv, -⟩
          · omega
          · injection hv with q1 q2 q3
            exact ⟨g, q1⟩
        subst hvo
        obtain ⟨vo', vc', hv', -, hcs⟩ := HVS6.out.below hB.out
        injection hv' with q1 q2 q3
        subst q1
        clear q2 q3
        obtain ⟨a, ea, c0⟩ := hcs 0 s0 hs0
        cases ea
        obtain ⟨a, ea, c9⟩ := hcs q sz hsz
        cases ea
        rw [addr_add, Nat.zero_add] at c0 c9
        have hex0 := (HVM.out s0).1 (List.mem_of_getElem? hs0)
        have HRA := Lib.hid (range_all HVR.out HVM.out hs0 (z := sz) (by rw [hq]; exact hsz))
        obtain ⟨t0, ht0⟩ : ∃ t0 : ByteArray, (⟨s0.toArray⟩ : ByteArray) = t0 := ⟨_, rfl⟩
        obtain ⟨tz, htz⟩ : ∃ tz : ByteArray, (⟨sz.toArray⟩ : ByteArray) = tz := ⟨_, rfl⟩
        have h0t : s0 = t0.data.toList := by rw [← ht0]
        have hzt : sz = tz.data.toList := by rw [← htz]
        rw [ht0] at c0
        rw [htz] at c9
        subst h0t
        subst hzt
        have XR := Lib.hid (X6.out.on (hB.out.trans ((Below.refl _ _).drew.mono hB.out.size)))
        have BE := Lib.hid ((between_at XR.out.at_ (by omega) key t0 tz hk).mono fun e w2 ha => ha.is (L := W) fun ss h1 h2 => rise_int h1 HWR.out fun i => by rw [h2, HRA.out, HWM.out])
        have HWSR := Lib.hid (HWS6.out.below (hB.out.trans ((Below.refl _ _).drew.mono hB.out.size)))
        have P1 : wr.drew.cell? ⟨Bw, 0, none⟩ = some (.slice wo W.length wc) ∧ wr.drew.cell? ⟨g, 0, none⟩ = some (.string t0) ∧ wr.drew.cell? ⟨g, q, none⟩ = some (.string tz) := ⟨x0, c0, c9⟩
        have hgw := World.block_lt_of_cell? _ _ c0
        have hbw := World.block_lt_of_cell? _ _ x0
        have hlt2 : ¬ k < q + 1 := by omega
        have hq2 : q ≤ 200000 := by omega
        have hw1 : IntKind.i64.wrap ((q : Int) + 1 - 1) = (q : Int) := by rw [IntWalk.i64_in _ (by omega)]; omega
        have hw2 : IntKind.i64.wrap (q : Int) = (q : Int) := IntWalk.i64_in _ (by omega)
        have hq3 : (0 : Int) ≤ (q : Int) := by omega
        have hq4 : (q : Int) < (q : Int) + 1 := by omega
        try rw [hq]
        clear hc ht hcs hs0 hsz ht0 htz hex0 hV0 gX hge hq hvn c0 c9 x0
        go_wp2_with fail
        go_region_held3 (fun W' => W'.cell? ⟨Bw, 0, none⟩ = some (.slice wo W.length wc) ∧ W'.cell? ⟨g, 0, none⟩ = some (.string t0) ∧ W'.cell? ⟨g, q, none⟩ = some (.string tz)) (first | exact P1 | exact P2 | exact P3)
          (first
            | (go_at_call 14; refine BE.out.mono ?_; rintro e w8 ⟨u2, rfl, hu2, hb8⟩; have P2 : w8.cell? ⟨Bw, 0, none⟩ = some (.slice wo W.length wc) ∧ w8.cell? ⟨g, 0, none⟩ = some (.string t0) ∧ w8.cell? ⟨g, q, none⟩ = some (.string tz) := ⟨(hb8.cell (p := ⟨Bw, 0, none⟩) hbw).trans P1.1, (hb8.cell (p := ⟨g, 0, none⟩) hgw).trans P1.2.1, (hb8.cell (p := ⟨g, q, none⟩) hgw).trans P1.2.2⟩; have SA := Lib.hid (ints_same _ _ _ w8 hu2 (HWSR.out.below hb8)); have HB8 := Lib.hid hb8; clear hu2 hb8)
            | (go_at_call 13; refine SA.out.mono ?_; rintro e w9 ⟨rfl, kk, rfl⟩; have P3 := P2))
        all_goals
          have FB2 := Lib.hid (FB.out.trans ((Below.refl _ _).drew.trans HB8.out |>.mono FB.out.size))
          go_wp2_with fail
          go_ret
          exact ⟨rfl, below_dn FB2.out kk⟩
end Go.Proofs.YtklbbcemacpimaaGreatDoor.I
