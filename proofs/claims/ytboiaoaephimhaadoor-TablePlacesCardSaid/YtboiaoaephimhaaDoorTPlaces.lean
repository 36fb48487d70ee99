/- The law TablePlaces, walked. -/
import Derived.Test.YtboiaoaephimhaaDoorTPlacesParts
import Derived.Test.YtboiaoaephimhaaDoorTAlive
import Derived.Test.YtboiaoaephimhaaDoorTRefLines
import Derived.Deep.DrawnRows
import Derived.Deep.RegionHeld3
namespace Go.Proofs.YtboiaoaephimhaaDoor.T
open Go.RowKit Go.Shelf
open Go.Proofs.YtboiaoaephimhaaDoor.B

/-- What the law holds when its loops begin: the list, the rows and their widths lie below N. -/
structure Stands (N : Nat) (w : World) (b : Nat) (s : ByteArray) (vk va vw : Value) (ks : List ByteArray) (rs : List (List ByteArray)) (ws : List Nat) : Prop where
  list : ListIn w b s.data.toList
  keys : StrsAt N w vk ks
  rows : RowsAt N w va rs
  wid : IntsAt N w vw ws
  ready : Ready w
  size : N ≤ w.heap.size
theorem Stands.below {N : Nat} {w w' : World} {b : Nat} {s : ByteArray} {vk va vw : Value} {ks : List ByteArray} {rs : List (List ByteArray)} {ws : List Nat} (h : Stands N w b s vk va vw ks rs ws) (hb : Below w.heap.size w w') : Stands N w' b s vk va vw ks rs ws :=
  ⟨h.list.below hb, h.keys.below hb h.size, h.rows.below hb h.size, h.wid.below hb h.size, h.ready.stays hb, Nat.le_trans h.size hb.size⟩
theorem first_w (q : Option Addr) (ss : List St) (i : Nat) (x : St) (w : World) (hx : ss[i]? = some x) (hm : ss.length ≤ 1000000)
    (HS : Calls Tryd.prog 30 #[.pointer q] w (StanzasPost ss w)) :
    Calls Tryd.prog 19 #[.pointer q, .int .i64 (IntKind.i64.wrap i)] w fun e w' => ∃ v, e = .returned v ∧ FieldsAt w'.heap.size w' v x.2 ∧ Below w.heap.size w w' := by
  have hil := (List.getElem?_eq_some_iff.1 hx).1
  rw [show IntKind.i64.wrap (i : Int) = (i : Int) from IntWalk.i64_in _ (by omega)]
  exact first_any q ss i x w hx HS
theorem cell_eq (fs : List Fld) (k : ByteArray) : (!((cellB fs k).toList == cellL k.data.toList fs)) = false := by
  rw [Lib.toList_data]
  show (!(cellL k.data.toList fs == cellL k.data.toList fs)) = false
  simp
def PRel (N : Nat) (w5 : World) (b : Nat) (s : ByteArray) (vk va vw : Value) (ks : List ByteArray) (rs : List (List ByteArray)) (ws : List Nat) (a i : Value) (wr : World) : Prop :=
  ∃ k : Nat, i = .int .i64 k ∧ k ≤ rs.length ∧ a = .int .i64 (linesTo ws (rs.take k)).length ∧ Hid (Stands N wr b s vk va vw ks rs ws) ∧ Hid (Below w5.heap.size w5 wr)
theorem lines_end {ws : List Nat} {rs : List (List ByteArray)} (h : 0 < rs.length) : linesTo ws rs = (linesTo ws rs).dropLast ++ [10] := by
  obtain ⟨r, hr⟩ : ∃ r, rs[rs.length - 1]? = some r := ⟨_, List.getElem?_eq_getElem (by omega)⟩
  obtain ⟨a, c, h1, h2⟩ := end_there (ws := ws) hr
  have e : rs.take (rs.length - 1 + 1) = rs := List.take_of_length_le (by omega)
  rw [e, h1] at h2
  have hc : c = [] := List.eq_nil_of_length_eq_zero (by rw [List.length_append, List.length_cons] at h2; omega)
  rw [h1, hc]
  simp
set_option maxRecDepth 100000 in
set_option maxHeartbeats 12800000 in
theorem places_main (s : ByteArray) (vk : Value) (ks : List ByteArray) (w : World) (hk : StrArg w vk ks) (hr : Ready w) (hs : s.size ≤ 9223372036854775807) (hL : isLarge s ks = false) (hpos : 0 < ks.length) (he : (parse s.data.toList).err = 0) (hg : (ks.any fun s => !goodB s) = false) :
    Calls Tryd.prog 4 #[.string s, vk] w fun e w' => e = .returned (.bool true) ∧ Below w.heap.size w w' := by
  have hL' := hL
  unfold isLarge at hL'
  simp only [Bool.or_eq_false_iff, decide_eq_false_iff_not] at hL'
  obtain ⟨⟨hs2, hk2⟩, hkz⟩ := hL'
  have hkz2 : ∀ x ∈ ks, x.size ≤ 100000 := fun x hx => by
    have := List.any_eq_false.1 hkz x hx
    simp at this; omega
  have AL := Lib.hid (alive_any w hr)
  have HR := Lib.hid hr
  have HK := Lib.hid hk.at_
  have HKA := Lib.hid hk
  have hfew := stanzasOf_few s.data.toList
  have HFI := Lib.hid (fun (x : St) (hx : x ∈ stanzasOf s.data.toList) => (stanzasOf_fine hx).1)
  have LG := Lib.hid (fun (w' : World) (hb : Below w.heap.size w w') => large_any s vk ks w' ((hk.at_.below hb (Nat.le_refl _)).up hb.size) hs hk.1 hk.2.1)
  rw [hL] at LG
  have LO := Lib.hid (fun w' => list_ok s (by omega) w' he)
  have HFINE := Lib.hid (rowsOf_fine (ks := ks) (ss := stanzasOf s.data.toList) (by omega) hkz2 (by omega) HFI.out)
  have HCLEAN := Lib.hid (rowsOf_clean (ks := ks) (ss := stanzasOf s.data.toList) hg)
  have HCOLS := Lib.hid (rowsOf_cols (ks := ks) (ss := stanzasOf s.data.toList))
  have HMOST := Lib.hid (most_eq (rs := rowsOf ks (stanzasOf s.data.toList)) HCOLS.out (by simp [rowsOf]))
  have HRL := Lib.hid (rowsOf_len ks (stanzasOf s.data.toList))
  have HG := Lib.hid hg
  have HKZ := Lib.hid hkz2
  obtain ⟨ao, cp, hvk, -⟩ := hk.at_
  subst hvk
  have hz0 : ((ks.length : Int) == 0) = false := by rw [beq_eq_false_iff_ne]; omega
  clear hL hkz hkz2 hr hk he hg
  go_enter Tryd.func4, Tryd.ntmps4
  go_wp2_with fail
  refine AL.out.mono ?_
  rintro e w1 ⟨rfl, hb1⟩
  have HB1 := Lib.hid hb1
  clear hb1 AL
  go_wp2_with fail
  refine (LG.out w1 HB1.out).mono ?_
  rintro e w' ⟨rfl, rfl⟩
  go_wp2_with fail
  refine (LO.out w1).mono ?_
  rintro e w2 ⟨b, rfl, hLI, -, hb2⟩
  have hzw1 := HB1.out.size
  have HB2 := Lib.hid (HB1.out.trans (hb2.mono hzw1))
  have HLI := Lib.hid hLI
  have hzw2 := HB2.out.size
  have ST := Lib.hid (fun (w' : World) (hb : Below w2.heap.size w2 w') => stanzas_in (HLI.out.below hb) (by omega))
  have T0 := table_ok ⟨b, 0, none⟩ _ ks (stanzasOf s.data.toList) w2 ((HK.out.below HB2.out (Nat.le_refl _)).up hzw2) (by omega) HKZ.out (by omega) HFI.out (HR.out.stays HB2.out) HG.out ST.out
  have RW0 := Lib.hid (fun (w3 : World) (hb3 : Below w2.heap.size w2 w3) => rows_any (.pointer (some ⟨b, 0, none⟩)) _ ks (stanzasOf s.data.toList) w3 ((HK.out.below (HB2.out.trans (hb3.mono hzw2)) (Nat.le_refl _)).up (Nat.le_trans hzw2 hb3.size)) (by omega) (by omega) HFI.out (HR.out.stays (HB2.out.trans (hb3.mono hzw2))) ⟨_, rfl⟩ (fun w' hb => ST.out w' (hb3.trans (hb.mono hb3.size))))
  have LEN := Lib.hid (fun (w' : World) (hb : Below w2.heap.size w2 w') => len_in (HLI.out.below hb))
  obtain ⟨ss, hss⟩ : ∃ ss, stanzasOf s.data.toList = ss := ⟨_, rfl⟩
  rw [hss] at hfew HFI HFINE HCLEAN HCOLS HMOST HRL RW0 ST T0 LEN
  obtain ⟨rs, hrs⟩ : ∃ rs, rowsOf ks ss = rs := ⟨_, rfl⟩
  rw [hrs] at HFINE HCLEAN HCOLS HMOST HRL RW0 T0
  have HRS := Lib.hid hrs
  have HLL : linesL rs = linesTo (widths rs) rs := rfl
  have hwsl : (widths rs).length = ks.length := by rw [widths_len, HMOST.out]
  have HFIT := Lib.hid (fun (r : List ByteArray) (hr : r ∈ rs) => HFINE.out.fit hr)
  rw [HLL] at T0
  obtain ⟨ws, hws⟩ : ∃ ws, widths rs = ws := ⟨_, rfl⟩
  rw [hws] at T0 hwsl HFIT
  have HWS := Lib.hid hws
  obtain ⟨S, hS⟩ : ∃ S : ByteArray, (⟨(linesTo ws rs).toArray⟩ : ByteArray) = S := ⟨_, rfl⟩
  rw [hS] at T0
  have hSd : S.data.toList = linesTo ws rs := by rw [← hS]
  have hSz : S.size ≤ 20000201000 := by
    rw [Lib.size_eq, hSd]
    have := linesTo_len HFIT.out
    have := HFINE.out.many
    omega
  have HSD := Lib.hid hSd
  have HRL2 := Lib.hid HRL.out
  have hrl : rs.length ≤ 401 := by rw [HRL.out]; omega
  have hrp : 0 < rs.length := by rw [HRL.out]; omega
  have hq1 : ((rs.length : Int) != (ss.length : Int) + 1) = false := by rw [HRL.out]; simp
  have T := Lib.hid T0
  clear hLI hb2 hss hrs hws HLL hS hSd T0
  go_wp2_with fail
  refine T.out.mono ?_
  rintro e w3 ⟨rfl, hb3⟩
  have HB23 := Lib.hid hb3
  have hz23 := hb3.size
  clear hb3 T
  go_wp2_with fail
  refine (RW0.out w3 HB23.out).mono ?_
  rintro e w4 ⟨va, us, rfl, hO, hb4⟩
  obtain ⟨vo, vc, hva⟩ := hO.shape
  subst hva
  have HB24 := Lib.hid (HB23.out.trans (hb4.mono hz23))
  have hz4 := HB24.out.size
  have HO := Lib.hid hO
  have WN := Lib.hid (widths_any _ rs w4 hO.at_ (by omega) (fun r hr => Nat.le_trans (HFINE.out.cols r hr) (by omega)))
  rw [HWS.out] at WN
  clear hO hb4 RW0
  go_wp2_with fail
  refine WN.out.mono ?_
  rintro e w5 ⟨vw, rfl, hN, hb5⟩
  obtain ⟨wo, wc, hvw⟩ := hN.shape
  subst hvw
  have HO5 := HO.out.below hb5
  have HB25 := Lib.hid (HB24.out.trans (hb5.mono hz4))
  have hz5 := HB25.out.size
  have HST : Stands w5.heap.size w5 b s (.slice ao ks.length cp) (.slice vo rs.length vc) (.slice wo ws.length wc) ks rs ws :=
    ⟨HLI.out.below HB25.out, (((HK.out.below HB2.out (Nat.le_refl _)).up hzw2).below HB25.out (Nat.le_refl _)).up hz5, HO5.at_, hN.ints, (HR.out.stays HB2.out).stays HB25.out, Nat.le_refl _⟩
  have HST := Lib.hid HST
  have CN := Lib.hid (count_nl S w5 ⟨_, HSD.out.trans (lines_end (rs := rs) (ws := ws) hrp)⟩ (by omega))
  have hcnt : S.data.toList.count 10 = rs.length := by rw [HSD.out]; exact linesTo_count HCLEAN.out
  rw [hcnt] at CN
  clear hcnt hN hb5 HO5 WN HO
  go_wp2_with fail
  refine CN.out.mono ?_
  rintro e w' ⟨rfl, rfl⟩
  go_wp2_with fail
  refine (LEN.out w5 HB25.out).mono ?_
  rintro e w' ⟨rfl, rfl⟩
  go_wp2_with fail
  refine (LEN.out w5 HB25.out).mono ?_
  rintro e w' ⟨rfl, rfl⟩
  go_wp2
  have HS0 : PRel w5.heap.size w5 b s (.slice ao ks.length cp) (.slice vo rs.length vc) (.slice wo ws.length wc) ks rs ws (.int .i64 0) (.int .i64 (0 : Nat)) w5 :=
    ⟨0, rfl, Nat.zero_le _, rfl, HST, Lib.hid (Below.refl _ _)⟩
  have HS1 := Lib.hid HS0
  have HWW := Lib.hid (HB2.out.trans (HB25.out.mono hzw2))
  have HTL := Lib.hid (fun k => linesTo_take_len HFIT.out (by omega : rs.length ≤ 1000) k)
  obtain ⟨N, hN⟩ : ∃ N, w5.heap.size = N := ⟨_, rfl⟩
  rw [hN] at HS1
  have HNN := Lib.hid hN
  have HST2 := Lib.hid (fun (w' : World) (hb : Below w5.heap.size w5 w') => ST.out w' (HB25.out.trans (hb.mono hz5)))
  clear hN HS0 HST CN LEN LG LO HB1 HB2 HB23 HB24 HB25 HLI ST HR HK
  go_loopw [10, 68] (fun a i wr => PRel N w5 b s (.slice ao ks.length cp) (.slice vo rs.length vc) (.slice wo ws.length wc) ks rs ws a i wr) (fun _ i _ => rs.length - (intOf i).toNat)
  case atStart => exact HS1.out
  case round =>
    clear HS1
    obtain ⟨k, rfl, hk, rfl, hS, hW⟩ := hrel
    have hat := HTL.out k
    by_cases hlt : k < rs.length
    · obtain ⟨r, hr⟩ : ∃ r, rs[k]? = some r := ⟨_, List.getElem?_eq_getElem hlt⟩
      obtain ⟨vo', vc', hv, hc⟩ := hS.out.rows
      injection hv with hv1 hv2 hv3
      subst hv1
      obtain ⟨a, u, rfl, ha, c1, hsr⟩ := hc k r hr
      obtain ⟨ro, rc, hur, hrc⟩ := hsr
      subst hur
      have hrm := List.mem_of_getElem? hr
      have hrl2 := HCOLS.out r hrm
      obtain ⟨x0, hx0⟩ : ∃ x0, r[0]? = some x0 := ⟨_, List.getElem?_eq_getElem (by omega)⟩
      obtain ⟨k0, hk0⟩ : ∃ k0, ks[0]? = some k0 := ⟨_, List.getElem?_eq_getElem (by omega)⟩
      obtain ⟨a1, rfl, ha1, c2'⟩ := hrc 0 x0 hx0
      have c2 : wr.cell? a1 = some (.string x0) := by simpa [Addr.add] using c2'
      clear c2'
      obtain ⟨ko', kc', hkv, hkc⟩ := hS.out.keys
      injection hkv with hkv1 hkv2 hkv3
      subst hkv1
      obtain ⟨a2, rfl, ha2, c3'⟩ := hkc 0 k0 hk0
      have c3 : wr.cell? a2 = some (.string k0) := by simpa [Addr.add] using c3'
      clear c3'
      have HHR := Lib.hid hr
      have HRC := Lib.hid hrc
      have HX0 := Lib.hid hx0
      clear hc hkc hr hrc hrm hx0 hv2 hv3 hkv2 hkv3
      have hX : 0 < k → ∃ x, ss[k - 1]? = some x ∧ x0 = cellB x.2 k0 := fun hkp => by
        have h1 := HHR.out
        rw [← HRS.out] at h1
        obtain ⟨j, rfl⟩ : ∃ j, k = j + 1 := ⟨k - 1, by omega⟩
        have h2 : (ss.map fun x => rowL ks x.2)[j]? = some r := h1
        rw [List.getElem?_map] at h2
        cases h3 : ss[j]? with
        | none => rw [h3] at h2; cases h2
        | some x =>
          rw [h3] at h2
          injection h2 with h4
          refine ⟨x, h3, ?_⟩
          have h5 : r[0]? = some (cellB x.2 k0) := by rw [← h4]; simp [rowL, hk0]
          rw [HX0.out] at h5
          injection h5
      have HXX := Lib.hid hX
      have HK0 := Lib.hid hk0
      clear hX hk0
      go_upto_region 19 with fail
      go_cut [95] (fun c wx => c = .bool false ∧ Hid (Stands N wx b s (.slice (some a2) ks.length cp) (.slice (some a) rs.length vc) (.slice wo ws.length wc) ks rs ws) ∧ Hid (Below w5.heap.size w5 wx) ∧ Hid (Below wr.heap.size wr wx))
      case first =>
        by_cases hz : k = 0
        · have hd : decide (0 < k) = false := by simp; omega
          have HZ := Lib.hid hz
          clear hz
          go_quiet (fail)
          go_wp2
          go_meet
          exact ⟨rfl, Lib.hid (hS.out.below (below_dn (Below.refl _ _) _)), Lib.hid (hW.out.trans (Below.mono (below_dn (Below.refl _ _) _) hW.out.size)), Lib.hid (below_dn (Below.refl _ _) _)⟩
        · obtain ⟨x, hx, hx0'⟩ := HXX.out (by omega)
          subst hx0'
          have hd : decide (0 < k) = true := by simp; omega
          have hki : ((k : Int) - 1) = ((k - 1 : Nat) : Int) := by omega
          have hxm := List.mem_of_getElem? hx
          have FI := Lib.hid (fun (w' : World) (hb : Below w5.heap.size w5 w') => first_w (some ⟨b, 0, none⟩) ss (k - 1) x w' hx (by omega) (HST2.out w' hb))
          have hwd : Below w5.heap.size w5 wr.drew := hW.out.trans ⟨rfl, rfl, rfl, Nat.le_refl _, fun _ _ => rfl⟩
          have HWD := Lib.hid hwd
          have HSD2 := Lib.hid (hS.out.below (w' := wr.drew) ⟨rfl, rfl, rfl, Nat.le_refl _, fun _ _ => rfl⟩)
          have hsz2 := hS.out.size
          clear hwd
          have CE := Lib.hid (fun (v : Value) (w' : World) (h1 : FieldsAt w'.heap.size w' v x.2) (h2 : Ready w') => cell_any k0 v x.2 w' h1 (HFI.out x hxm) h2)
          have HZ := Lib.hid hz
          clear hx hxm hz
          go_region_held3 (fun w' => w'.cell? a1 = some (.string (cellB x.2 k0)) ∧ w'.cell? a2 = some (.string k0)) (go_keep) (first
            | (go_at_call 19; refine (FI.out _ HWD.out).mono ?_; rintro e w6 ⟨v6, rfl, hF6, hb6⟩; have d2 := (hb6.cell (p := a1) (by show a1.block < wr.heap.size; omega)).trans c2; have d3 := (hb6.cell (p := a2) (by show a2.block < wr.heap.size; omega)).trans c3)
            | (go_at_call 18; refine (CE.out _ _ hF6 (HSD2.out.ready.stays hb6)).mono ?_; rintro e w7 ⟨rfl, hb7⟩; have d4 := (hb7.cell (p := a1) (by have := hb6.size; have e7 : wr.drew.heap.size = wr.heap.size := rfl; omega)).trans d2; have d5 := (hb7.cell (p := a2) (by have := hb6.size; have e7 : wr.drew.heap.size = wr.heap.size := rfl; omega)).trans d3))
          go_wp2
          go_meet
          exact ⟨congrArg Value.bool (cell_eq _ _), Lib.hid ((HSD2.out.below hb6).below hb7), Lib.hid (HWD.out.trans ((hb6.mono hW.out.size).trans (hb7.mono (Nat.le_trans hW.out.size hb6.size)))), Lib.hid (Below.trans (b := wr.drew) ⟨rfl, rfl, rfl, Nat.le_refl _, fun _ _ => rfl⟩ (hb6.trans (hb7.mono hb6.size)))⟩
      case rest =>
        obtain ⟨rfl, hS2, hW2, hW3⟩ := hcut
        have hszr := hS.out.size
        have HP0 : Hid ((linesTo ws (rs.take k)).length = placeAt ws rs r k 0) := Lib.hid (by simp [placeAt, lineTo])
        have HFR := Lib.hid (HFIT.out r (List.mem_of_getElem? HHR.out))
        have HNX := Lib.hid (HTL.out (k + 1))
        clear HXX hS hW c1 c2 c3 hat
        go_wp2
        go_loop [10, 98] (fun at_ i => ∃ j : Nat, i = .int .i64 j ∧ j ≤ ks.length ∧ ((j < ks.length ∧ at_ = .int .i64 (placeAt ws rs r k j)) ∨ (j = ks.length ∧ at_ = .int .i64 (linesTo ws (rs.take (k + 1))).length))) (fun _ i => ks.length - (intOf i).toNat)
        case atStart => exact ⟨0, rfl, Nat.zero_le _, .inl ⟨hpos, by rw [HP0.out]⟩⟩
        case round =>
          obtain ⟨j, rfl, hj, hcase⟩ := hrel
          rcases hcase with ⟨hjl, rfl⟩ | ⟨hje, rfl⟩
          · obtain ⟨cb, hcb⟩ : ∃ cb, r[j]? = some cb := ⟨_, List.getElem?_eq_getElem (by omega)⟩
            obtain ⟨q, hq, hq1, hq2⟩ := HRC.out j cb hcb
            cases hq
            have c6 := (hW3.out.cell (p := a1.add j) (by rw [add_block]; omega)).trans hq2
            clear hq2
            obtain ⟨n, hn, hn1, hn2⟩ := HFR.out.at_ j cb hcb
            obtain ⟨wo', wc', hv, hwc⟩ := hS2.out.wid
            injection hv with hv1 hv2 hv3
            obtain ⟨d, hd, hd1, c5⟩ := hwc j n hn
            rw [hd] at hv1
            subst hv1
            obtain ⟨A, C, hAC, hAl, hCl⟩ := cell_there (ws := ws) HHR.out hcb
            have hsl : S.data.toList.length = S.size := size_len S
            have hcl : cb.data.toList.length = cb.size := size_len cb
            have hfit : placeAt ws rs r k j + cb.size < S.size := by
              rw [← hsl, HSD.out, hAC]
              simp only [List.length_append]
              omega
            have hex : S.extract (placeAt ws rs r k j) (placeAt ws rs r k j + cb.size) = cb := by
              apply ByteArray.ext
              apply Array.ext'
              rw [Lib.extract_data, HSD.out, hAC, ← hAl, ← hcl]
              simp
            have hnext : j + 1 < ks.length → placeAt ws rs r k (j + 1) = placeAt ws rs r k j + (n + 2) := fun h => place_next hcb hn hn1 (by omega)
            have hlast : ¬ j + 1 < ks.length → (linesTo ws (rs.take (k + 1))).length = placeAt ws rs r k j + (cb.size + 1) := fun h => place_last HHR.out hcb (by omega)
            have HNEXT := Lib.hid hnext
            have HLAST := Lib.hid hlast
            obtain ⟨P, hP⟩ : ∃ P, placeAt ws rs r k j = P := ⟨_, rfl⟩
            rw [hP] at hfit hex HNEXT HLAST
            rw [hP]
            have hjw := (List.getElem?_eq_some_iff.1 hn).1
            have hge : decide ((S.size : Int) ≤ (P : Int) + (cb.size : Int)) = false := by simp; omega
            have hsli : ∀ W : World, (Instr.slice 9 (.string S) (some (.int .i64 (P : Int))) (some (.int .i64 ((P : Int) + (cb.size : Int)))) none).run Tryd.prog W = .ok (.string cb) W := fun W => by
              rw [run_slice_string W 9 S .i64 .i64 (P : Int) ((P : Int) + (cb.size : Int)) Tryd.underlying9 (by omega) (by omega) (by omega)]
              rw [show ((P : Int)).toNat = P by omega, show ((P : Int) + (cb.size : Int)).toNat = P + cb.size by omega, hex]
            have hPb : P ≤ 20000201000 := by omega
            clear hex
            clear hcb hn hAC hAl hCl hsl hcl hnext hlast hP hwc hd hv2 hv3
            by_cases hjn : j + 1 < ks.length
            · have HNX2 := Lib.hid (HNEXT.out hjn)
              go_wp2
              exact ⟨⟨j + 1, by go_num, by omega, .inl ⟨hjn, by rw [HNX2.out]; go_num⟩⟩, by simp [intOf]; omega⟩
            · have HNX2 := Lib.hid (HLAST.out hjn)
              go_wp2
              exact ⟨⟨j + 1, by go_num, by omega, .inr ⟨by omega, by rw [HNX2.out]; go_num⟩⟩, by simp [intOf]; omega⟩
          · subst hje
            obtain ⟨A, C, hAC, hAl⟩ := end_there (ws := ws) HHR.out
            have hsl : S.data.toList.length = S.size := size_len S
            obtain ⟨E, hE⟩ : ∃ E, (linesTo ws (rs.take (k + 1))).length = E := ⟨_, rfl⟩
            rw [hE] at hAl
            have hE1 : 1 ≤ E := by omega
            have hE2 : E ≤ S.size := by
              rw [← hsl, HSD.out, hAC]
              simp only [List.length_append, List.length_cons]
              omega
            have hbyte : S.data.toList[E - 1]? = some 10 := by
              rw [HSD.out, hAC, show E - 1 = A.length by omega]
              simp
            have hidx : ∀ W : World, (Instr.index 9 (.string S) (.int .i64 ((E : Int) - 1))).run Tryd.prog W = .ok (.int .u8 10) W := fun W => by
              rw [run_index_string W 9 S .i64 ((E : Int) - 1) Tryd.underlying9, dif_pos (by omega)]
              have h1 : E - 1 < S.size := by omega
              have h2 := get_data S (E - 1) h1
              rw [hbyte] at h2
              injection h2 with h2
              have h3 : S[((E : Int) - 1).toNat]'(by omega) = S[E - 1]'h1 := by
                congr 1
                omega
              rw [h3, ← h2]; rfl
            have hgt : decide ((S.size : Int) < (E : Int)) = false := by simp; omega
            have hgt2 : decide (S.size < E) = false := by simp; omega
            have HE := Lib.hid hE
            rw [hE]
            clear hAC hAl hsl hbyte hE
            go_wp2
            refine ⟨⟨k + 1, by go_num, by omega, ?_, hS2, hW2⟩, by simp [intOf]; omega⟩
            rw [HE.out]
    · have hke : rs.take k = rs := List.take_of_length_le (by omega)
      have hsl : S.data.toList.length = S.size := size_len S
      have heq : (linesTo ws (rs.take k)).length = S.size := by rw [hke, ← HSD.out, hsl]
      rw [heq]
      clear heq hsl hke hat
      go_wp2
      go_ret
      exact ⟨rfl, HWW.out.trans (hW.out.mono (by have := HWW.out.size; omega))⟩
end Go.Proofs.YtboiaoaephimhaaDoor.T
