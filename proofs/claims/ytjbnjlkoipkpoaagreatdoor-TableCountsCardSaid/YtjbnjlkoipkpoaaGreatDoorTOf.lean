/- The law TableOf, walked: a list that is right. The law TableOf, walked: all cases. -/
import Derived.Test.YtjbnjlkoipkpoaaGreatDoorTRefRows
import Derived.Test.YtjbnjlkoipkpoaaGreatDoorBLists
import Derived.Test.YtjbnjlkoipkpoaaGreatDoorTTable
import Derived.Test.YtjbnjlkoipkpoaaGreatDoorTRows
namespace Go.Proofs.YtjbnjlkoipkpoaaGreatDoor.T
open Go.RowKit Go.Shelf
open Go.Proofs.YtjbnjlkoipkpoaaGreatDoor.B

theorem rows_first {B : Nat} {w : World} {ao : Option Addr} {n cp cp' : Nat} {r : List ByteArray} {rs : List (List ByteArray)} (h : RowsAt B w (.slice ao n cp) (r :: rs)) : RowsAt B w (.slice ao 1 cp') [r] := by
  obtain ⟨bo, c, hv, hc⟩ := h
  injection hv with h1 _ _
  subst h1
  refine ⟨ao, cp', rfl, fun k x hk => ?_⟩
  cases k with
  | zero => exact hc 0 x (by simpa using hk)
  | succ k => simp at hk
theorem RowsMix.form {B : Nat} {w : World} {v : Value} {rs : List (List ByteArray)} {us : List Value} (h : RowsMix B w v rs us) (hp : 0 < rs.length) : ∃ g cp, v = .slice (some ⟨g, 0, none⟩) rs.length cp ∧ rs.length ≤ cp := by
  rcases h.row.2 with ⟨h0, h1⟩ | ⟨g, cap, cur, hv, hb, hg, hle, -⟩
  · omega
  · exact ⟨g, cap, hv, hle⟩
/-- What the law's loops hold: the list, the keys and the document's rows. -/
structure OfSt (N : Nat) (w : World) (b : Nat) (s : ByteArray) (vk vm : Value) (ks : List ByteArray) (rs : List (List ByteArray)) : Prop where
  list : ListIn w b s.data.toList
  keys : StrsAt N w vk ks
  rows : RowsAt N w vm rs
  ready : Ready w
  size : N ≤ w.heap.size
theorem OfSt.below {N : Nat} {w w' : World} {b : Nat} {s : ByteArray} {vk vm : Value} {ks : List ByteArray} {rs : List (List ByteArray)} (h : OfSt N w b s vk vm ks rs) (hb : Below w.heap.size w w') : OfSt N w' b s vk vm ks rs :=
  ⟨h.list.below hb, h.keys.below hb h.size, h.rows.below hb h.size, h.ready.stays hb, Nat.le_trans h.size hb.size⟩
theorem rows_nilL (ks : List ByteArray) : rowsOf ks [] = [ks] := rfl
theorem rows_w (p : Option Addr) (vk : Value) (ks : List ByteArray) (ss : List St) (w : World) (hk : StrsAt w.heap.size w vk ks) (hn : ks.length ≤ 1000) (hm : ss.length ≤ 1000000) (hfine : ∀ x ∈ ss, FsFine x.2) (hr : Ready w)
    (HS : ∀ w', Below w.heap.size w w' → Calls Tryz.prog 30 #[.pointer p] w' (StanzasPost ss w')) :
    Calls Tryz.prog 28 #[.pointer p, vk] w fun e w' => ∃ u, e = .returned u ∧ RowsAt w'.heap.size w' u (rowsOf ks ss) ∧ Below w.heap.size w w' :=
  (rows_any (.pointer p) vk ks ss w hk hn hm hfine hr ⟨_, rfl⟩ HS).mono fun _ _ ⟨u, _, h1, h2, h3⟩ => ⟨u, h1, h2.at_, h3⟩
/-- Both answers of table.Table. -/
theorem table_both (b : Nat) (s : ByteArray) (vk : Value) (ks : List ByteArray) (hs : s.size ≤ 60000) (hn : ks.length ≤ 100) (hks : ∀ x ∈ ks, x.size ≤ 100000) :
    ∃ (S : ByteArray) (ev : Value), ((ks.any fun s => !goodB s) = false → S = ⟨(linesL (rowsOf ks (stanzasOf s.data.toList))).toArray⟩ ∧ ev = .nilIface) ∧ ((ks.any fun s => !goodB s) = true → S = ⟨#[]⟩ ∧ ev = .iface 56 (.int .i64 5)) ∧
      ∀ w : World, ListIn w b s.data.toList → StrsAt w.heap.size w vk ks → Ready w → Calls Tryz.prog 26 #[.pointer (some ⟨b, 0, none⟩), vk] w fun e w' => e = .returned (.tuple #[.string S, ev]) ∧ Below w.heap.size w w' := by
  cases hg : (ks.any fun s => !goodB s) with
  | true =>
    refine ⟨⟨#[]⟩, .iface 56 (.int .i64 5), (fun h => by cases h), fun _ => ⟨rfl, rfl⟩, fun w _ hk _ => ?_⟩
    exact (table_bad ⟨b, 0, none⟩ vk ks w hk hn hg).mono fun _ _ ⟨h1, h2⟩ => ⟨h1, h2 ▸ Below.refl _ _⟩
  | false =>
    refine ⟨⟨(linesL (rowsOf ks (stanzasOf s.data.toList))).toArray⟩, .nilIface, fun _ => ⟨rfl, rfl⟩, (fun h => by cases h), fun w hL hk hr => ?_⟩
    exact table_ok ⟨b, 0, none⟩ vk ks (stanzasOf s.data.toList) w hk hn hks (Nat.le_trans (stanzasOf_few _) (by omega)) (fun x hx => (stanzasOf_fine hx).1) hr hg (fun w' hb => stanzas_in (hL.below hb) hs)
def OfRel (N : Nat) (w5 : World) (b : Nat) (s : ByteArray) (vk vm : Value) (ks : List ByteArray) (rs : List (List ByteArray)) (i : Value) (wr : World) : Prop :=
  ∃ k : Nat, i = .int .i64 k ∧ k ≤ ks.length ∧ Hid ((ks.take k).any (fun s => !goodB s) = false) ∧ Hid (OfSt N wr b s vk vm ks rs) ∧ Hid (Below w5.heap.size w5 wr)
def OfIn (N : Nat) (w5 : World) (b : Nat) (s : ByteArray) (vk vm : Value) (ks : List ByteArray) (rs : List (List ByteArray)) (wq : World) (n : Nat) (i : Value) (wr : World) : Prop :=
  ∃ k : Nat, i = .int .i64 k ∧ k ≤ n ∧ Hid (OfSt N wr b s vk vm ks rs) ∧ Hid (Below w5.heap.size w5 wr) ∧ Hid (Below wq.heap.size wq wr)
set_option maxRecDepth 100000 in
set_option maxHeartbeats 12800000 in
theorem of_main (s : ByteArray) (vk : Value) (ks : List ByteArray) (w : World) (hk : StrArg w vk ks) (hr : Ready w) (hs : s.size ≤ 9223372036854775807) (hL : isLarge s ks = false) (he : (parse s.data.toList).err = 0) :
    Calls Tryz.prog 4 #[.string s, vk] w fun e w' => e = .returned (.bool true) ∧ Below w.heap.size w w' := by
  have hL' := hL
  unfold isLarge at hL'
  simp only [Bool.or_eq_false_iff, decide_eq_false_iff_not] at hL'
  obtain ⟨⟨hs2, hk2⟩, hkz⟩ := hL'
  have hkz2 : ∀ x ∈ ks, x.size ≤ 100000 := fun x hx => by
    have := List.any_eq_false.1 hkz x hx
    simp at this; omega
  have AL := Lib.hid (alive_any w hr)
  have HR := Lib.hid hr
  have HK := Lib.hid hk.at_
  have HKZ := Lib.hid hkz2
  have hfew := stanzasOf_few s.data.toList
  have hxl := items_bound (s := s.data.toList) (by rw [size_len]; omega)
  have HFI := Lib.hid (fun (x : St) (hx : x ∈ stanzasOf s.data.toList) => (stanzasOf_fine hx).1)
  have LG := Lib.hid (fun (w' : World) (hb : Below w.heap.size w w') => large_any s vk ks w' ((hk.at_.below hb (Nat.le_refl _)).up hb.size) hs hk.1 hk.2.1)
  rw [hL] at LG
  have LO := Lib.hid (fun w' => list_ok s (by omega) w' he)
  have RO := Lib.hid (fun w' => refOf_ok s (by omega) w' he)
  have RR : Hid (∀ (ve : Value) (next : Int) (w' : World), EntsAt w'.heap.size w' ve (numberFrom 1 (parse s.data.toList).st.items) → StrsAt w'.heap.size w' vk ks → Calls Tryz.prog 25 #[.agg #[ve, .int .i64 next], vk] w' fun e w2 => ∃ u us, e = .returned u ∧ RowsMix w'.heap.size w2 u (rowsOf ks (stanzasOf s.data.toList)) us ∧ Below w'.heap.size w' w2) := Lib.hid fun ve next w' h1 h2 => refRows_any ve next _ vk ks w' h1 (by rw [number_len]; omega) h2 (by omega) HFI.out
  have HFINE := Lib.hid (rowsOf_fine (ks := ks) (ss := stanzasOf s.data.toList) (by omega) hkz2 (by omega) HFI.out)
  have HRL := Lib.hid (rowsOf_len ks (stanzasOf s.data.toList))
  have hrc : ∀ r ∈ rowsOf ks (stanzasOf s.data.toList), r.length ≤ 9223372036854775807 := fun r hr => Nat.le_trans (HFINE.out.cols r hr) (by omega)
  have HRC := Lib.hid hrc
  have HTN := Lib.hid (fun (w' : World) (h : StrsAt w'.heap.size w' vk ks) => table_none vk ks w' h)
  unfold errnoV at HTN
  have IS7 := Lib.hid (fun w' => is_errno 7 (by decide) w')
  have IS5 := Lib.hid (fun w' => is_errno 5 (by decide) w')
  have HRN : Hid (∀ w', StrsAt w'.heap.size w' vk ks → Ready w' → Calls Tryz.prog 28 #[.pointer none, vk] w' fun e w2 => ∃ u, e = .returned u ∧ RowsAt w2.heap.size w2 u [ks] ∧ Below w'.heap.size w' w2) := Lib.hid fun w' h1 h2 => rows_w none vk ks [] w' h1 (by omega) (by simp) (fun x hx => by cases hx) h2 (fun w2 _ => stanzas_nil w2)
  obtain ⟨ao, cp, hvk, -⟩ := hk.at_
  subst hvk
  have hk200 : ∀ x ∈ ks, x.size ≤ 9223372036854775807 := hk.2.1
  have HKS := Lib.hid hk200
  clear hL hkz hkz2 hr hk he hrc hk200
  go_enter Tryz.func4, Tryz.ntmps4
  go_wp2_with fail
  refine AL.out.mono ?_
  rintro e w1 ⟨rfl, hb1⟩
  have HB1 := Lib.hid hb1
  clear hb1 AL
  go_wp2_with fail
  refine (LG.out w1 HB1.out).mono ?_
  rintro e w' ⟨rfl, rfl⟩
  go_wp2_with fail
  refine (LO.out w1).mono ?_
  rintro e w2 ⟨b, rfl, hLI, -, hb2⟩
  have hzw1 := HB1.out.size
  have HB2 := Lib.hid (HB1.out.trans (hb2.mono hzw1))
  have HLI := Lib.hid hLI
  clear hLI hb2 LO LG
  go_wp2_with fail
  refine (RO.out w2).mono ?_
  rintro e w3 ⟨v, rfl, hRL, hb3⟩
  obtain ⟨ve, rfl, hEN⟩ := ents_of hRL
  obtain ⟨eo, ec, hve, -⟩ := id hEN
  subst hve
  have hzw2 := HB2.out.size
  have HB3 := Lib.hid (HB2.out.trans (hb3.mono hzw2))
  have HLI3 := Lib.hid (HLI.out.below hb3)
  obtain ⟨nx, hnx⟩ : ∃ nx : Int, ((1 + recsOf (parse s.data.toList).st.items : Nat) : Int) = nx := ⟨_, rfl⟩
  rw [hnx]
  have hb4 := below_grow1 w3 (.cells #[.slice eo (numberFrom 1 (parse s.data.toList).st.items).length ec, .int .i64 nx] 26)
  obtain ⟨w4, hw4⟩ : ∃ w4, w3.alloc (.cells #[.slice eo (numberFrom 1 (parse s.data.toList).st.items).length ec, .int .i64 nx] 26) = w4 := ⟨_, rfl⟩
  rw [hw4] at hb4
  have HW4 := Lib.hid hw4
  have HEN4 := Lib.hid ((hEN.below hb4 (Nat.le_refl _)).up hb4.size)
  have HLI4 := Lib.hid (HLI3.out.below hb4)
  have hzw3 := HB3.out.size
  have HB4 := Lib.hid (HB3.out.trans (hb4.mono hzw3))
  have hzw4 := HB4.out.size
  have HK4 := Lib.hid ((HK.out.below HB4.out (Nat.le_refl _)).up hzw4)
  have HR4 := Lib.hid (HR.out.stays HB4.out)
  clear hRL hb3 hnx hb4 hw4 hEN HLI HLI3 RO HB1 HB2 HB3
  go_wp2_with fail
  rw [HW4.out]
  refine (RR.out _ nx w4 HEN4.out HK4.out).mono ?_
  rintro e w5 ⟨vm, us, rfl, hM, hb5⟩
  obtain ⟨g5, c5, rfl, hc5⟩ := hM.form (by rw [HRL.out]; omega)
  obtain ⟨S, ev, HGd, HBd, HT⟩ := table_both b s (.slice ao ks.length cp) ks (by omega) (by omega) HKZ.out
  have HGd := Lib.hid HGd
  have HBd := Lib.hid HBd
  have HT := Lib.hid HT
  have hM5 := hM.at_ hb5.size
  have hrl1 : 1 ≤ (rowsOf ks (stanzasOf s.data.toList)).length := by rw [HRL.out]; omega
  obtain ⟨rs, hrs⟩ : ∃ rs, rowsOf ks (stanzasOf s.data.toList) = rs := ⟨_, rfl⟩
  have hrs1 : ∃ tl, rs = ks :: tl := ⟨_, hrs.symm⟩
  rw [hrs] at hM5 HFINE HRC HRL HGd hc5 hrl1
  have HRS := Lib.hid hrs
  have HRS1 := Lib.hid hrs1
  have HLI5 := Lib.hid (HLI4.out.below hb5)
  have HB5 := Lib.hid (HB4.out.trans (hb5.mono hzw4))
  have hzw5 := HB5.out.size
  have HK5 := Lib.hid ((HK4.out.below hb5 (Nat.le_refl _)).up hb5.size)
  have HR5 := Lib.hid (HR4.out.stays hb5)
  have HM5 := Lib.hid hM5
  rw [hrs]
  clear hM hb5 hM5 hrs hrs1 RR HEN4 HLI4 HB4 HK4 HR4 HW4
  go_wp2_with fail
  refine (HT.out w5 HLI5.out HK5.out HR5.out).mono ?_
  rintro e w6 ⟨rfl, hb6⟩
  have hz56 := hb6.size
  have HB6 := Lib.hid (HB5.out.trans (hb6.mono hzw5))
  have HS6 : Hid (OfSt w6.heap.size w6 b s (.slice ao ks.length cp) (.slice (some ⟨g5, 0, none⟩) rs.length c5) ks rs) := Lib.hid ⟨HLI5.out.below hb6, (HK5.out.below hb6 (Nat.le_refl _)).up hz56, (HM5.out.below hb6 (Nat.le_refl _)).up hz56, HR5.out.stays hb6, Nat.le_refl _⟩
  clear hb6 HLI5 HB5 HK5 HR5 HM5 HT
  go_wp2_with fail
  refine (HTN.out w6 HS6.out.keys).mono ?_
  rintro e w' ⟨rfl, rfl⟩
  have RW : Hid (∀ W : World, Below w6.heap.size w6 W → Calls Tryz.prog 28 #[.pointer (some ⟨b, 0, none⟩), .slice ao ks.length cp] W fun e w' => ∃ u, e = .returned u ∧ RowsAt w'.heap.size w' u rs ∧ Below W.heap.size W w') := Lib.hid (fun (W : World) (hb : Below w6.heap.size w6 W) => HRS.out ▸ rows_w (some ⟨b, 0, none⟩) (.slice ao ks.length cp) ks (stanzasOf s.data.toList) W ((HS6.out.below hb).keys.up hb.size) (by omega) (by omega) HFI.out (HS6.out.below hb).ready (fun w' hb' => stanzas_in (((HS6.out.below hb).below hb').list) (by omega)))
  have RN := Lib.hid (fun (W : World) (hb : Below w6.heap.size w6 W) => HRN.out W ((HS6.out.below hb).keys.up hb.size) (HS6.out.below hb).ready)
  have hrn : rs.length ≤ 9223372036854775807 := by rw [HRL.out]; omega
  have RS := Lib.hid (fun (W : World) (u : Value) (hu : RowsAt W.heap.size W u rs) (hb : Below w6.heap.size w6 W) => rows_same W.heap.size u (.slice (some ⟨g5, 0, none⟩) rs.length c5) rs W hu ((HS6.out.below hb).rows.up hb.size) hrn HRC.out)
  have RS1 := Lib.hid (fun (W : World) (u : Value) (c : Nat) (hu : RowsAt W.heap.size W u [ks]) (hb : Below w6.heap.size w6 W) => rows_same W.heap.size u (.slice (some ⟨g5, 0, none⟩) 1 c) [ks] W hu (by obtain ⟨tl, rfl⟩ := HRS1.out; exact rows_first ((HS6.out.below hb).rows.up hb.size)) (by simp) (fun r hr => by rw [List.mem_singleton.1 hr]; omega))
  have hc51 : (1 : Int) ≤ (c5 : Int) := by omega
  have hc50 : ¬ c5 = 0 := by omega
  have hsli : ∀ W : World, (Instr.slice 49 (.slice (some ⟨g5, 0, none⟩) rs.length c5) none (some (.int .i64 1)) none).run Tryz.prog W = .ok (.slice (some ⟨g5, 0, none⟩) 1 c5) W := fun W => by
    simp [go_sem, hc51, hc50]
  go_upto_region 12 with fail
  go_region_held3 (fun _ => True) (trivial) (first
    | (go_at_call 28; refine (RN.out _ B8).mono ?_; rintro e w9 ⟨u9, rfl, hO9, hb9⟩; have B9 := B8.trans (hb9.mono B8.size))
    | (go_at_call 28; refine (RW.out _ (Below.refl _ _).drew).mono ?_; rintro e w7 ⟨u7, rfl, hO7, hb7⟩; have B7 := (Below.refl w6.heap.size w6).drew.trans hb7)
    | (go_at_call 27; refine (RS1.out _ _ _ hO9 B9).mono ?_; rintro e w10 ⟨rfl, n10, rfl⟩; have B10 := below_dn B9 n10)
    | (go_at_call 27; refine (RS.out _ _ hO7 B7).mono ?_; rintro e w8 ⟨rfl, n8, rfl⟩; have B8 := below_dn B7 n8)
    | (go_at_call 29; refine (IS7.out _).mono ?_; rintro e w' ⟨rfl, rfl⟩))
  obtain ⟨wz, hwz⟩ : ∃ wz, w9.drewN n10 = wz := ⟨_, rfl⟩
  rw [hwz] at B10 ⊢
  have HSZ := Lib.hid (HS6.out.below B10)
  have HBZ := Lib.hid (HB6.out.trans (B10.mono HB6.out.size))
  have hzz := HBZ.out.size
  obtain ⟨N, hN⟩ : ∃ N, w6.heap.size = N := ⟨_, rfl⟩
  rw [hN] at HSZ
  clear hwz hO7 hb7 B7 B8 hO9 hb9 B9 B10 RW RN RS RS1 HS6 HB6 HRN HTN IS7 hN
  go_wp2
  go_loopw [81] (fun i W => OfRel N wz b s (.slice ao ks.length cp) (.slice (some ⟨g5, 0, none⟩) rs.length c5) ks rs i W) (fun i _ => ks.length - (intOf i).toNat)
  case atStart => exact ⟨0, rfl, Nat.zero_le _, Lib.hid rfl, HSZ, Lib.hid (Below.refl _ _)⟩
  case round =>
    clear HSZ
    obtain ⟨k, rfl, hk, hA, hS, hW⟩ := hrel
    by_cases hlt : k < ks.length
    · obtain ⟨x, hx⟩ : ∃ x, ks[k]? = some x := ⟨_, List.getElem?_eq_getElem hlt⟩
      obtain ⟨ko', kc', hkv, hkc⟩ := hS.out.keys
      injection hkv with hkv1 hkv2 hkv3
      subst hkv1
      obtain ⟨a, rfl, ha, c1⟩ := hkc k x hx
      have hxk := HKS.out x (List.mem_of_getElem? hx)
      have hsz := hS.out.size
      have ST := Lib.hid (stanzas_in hS.out.list (by omega))
      have HX := Lib.hid hx
      obtain ⟨ss, hss⟩ : ∃ ss, stanzasOf s.data.toList = ss := ⟨_, rfl⟩
      rw [hss] at ST HFI hfew
      clear hkv2 hkv3 hkc hx hss
      go_wp2_with fail
      refine ST.out.mono ?_
      rintro e wq ⟨v, ρ, us, rfl, hSA, -, hbq⟩
      obtain ⟨so, sc, hsv⟩ := hSA.row.shape
      subst hsv
      have HSQ := Lib.hid (hS.out.below hbq)
      have HWQ := Lib.hid (hW.out.trans (hbq.mono hW.out.size))
      have HSA := Lib.hid hSA
      obtain ⟨wo, hwo⟩ : ∃ wo, wo = wr := ⟨_, rfl⟩
      subst hwo
      clear hSA hbq ST hS hW
      go_wp2
      go_loopw [88] (fun i W => OfIn N wz b s (.slice (some a) ks.length cp) (.slice (some ⟨g5, 0, none⟩) rs.length c5) ks rs wq ss.length i W) (fun i _ => ss.length - (intOf i).toNat)
      case atStart => exact ⟨0, rfl, Nat.zero_le _, HSQ, HWQ, Lib.hid (Below.refl _ _)⟩
      case round =>
        clear HSQ HWQ
        obtain ⟨j, rfl, hj, hS, hW, hQ⟩ := hrel
        by_cases hjl : j < ss.length
        · obtain ⟨y, hy⟩ : ∃ y, ss[j]? = some y := ⟨_, List.getElem?_eq_getElem hjl⟩
          have hul := HSA.out.len
          obtain ⟨f, hf⟩ : ∃ f, us[j]? = some f := ⟨_, List.getElem?_eq_getElem (by omega)⟩
          obtain ⟨g1, g2⟩ := stCells_get ss us j y f hy hf
          have hrow := ownsRow_of_block HSA.out.row.1 (fun g hg => hQ.out.block g (World.ownsRow.lt HSA.out.row.1 g hg).2)
          have hfa := (FieldsAt.row (HSA.out.its j f y hf hy).1).below hQ.out (Nat.le_refl _)
          obtain ⟨g, hg, hao⟩ : ∃ g, (Value.slice so ss.length sc).ownBlock = some g ∧ so = some ⟨g, 0, none⟩ := by
            rcases hrow.2 with ⟨-, h0⟩ | ⟨g, cp', cur, hz, -⟩
            · omega
            · injection hz with z1 z2 z3
              exact ⟨g, by rw [z1]; rfl, z1⟩
          have e1 := hrow.cells hg _ _ g1
          have e2 := hrow.cells hg _ _ g2
          have hgl := (hrow.lt g hg).2
          rw [addrO] at e1 e2
          subst hao
          obtain ⟨fo, fc, hfv, -⟩ := id hfa
          subst hfv
          have hfy := HFI.out y (List.mem_of_getElem? hy)
          have hqz := hQ.out.size
          obtain ⟨tv, htv⟩ : ∃ tv : ByteArray, (⟨(cellL x.data.toList y.2).toArray⟩ : ByteArray) = tv := ⟨_, rfl⟩
          have hb4 := below_grow1 wr (.cells #[.int .i64 y.1, .slice fo y.2.length fc] 61)
          have hE := heap_alloc_new wr (.cells #[.int .i64 y.1, .slice fo y.2.length fc] 61)
          have p1 : (wr.alloc (.cells #[.int .i64 y.1, .slice fo y.2.length fc] 61)).cell? ⟨wr.heap.size, 1, none⟩ = some (.slice fo y.2.length fc) := B.cell_of_row _ _ 1 _ _ hE
          have hzz4 : wr.heap.size < (wr.alloc (.cells #[.int .i64 y.1, .slice fo y.2.length fc] 61)).heap.size := by simp
          have CE : Hid (∀ W, Below wr.heap.size wr W → Calls Tryz.prog 31 #[.string x, .slice fo y.2.length fc] W fun e w' => e = .returned (.string tv) ∧ Below W.heap.size W w') := Lib.hid fun W hb => htv ▸ cell_any x _ y.2 W ((hfa.below hb hqz).up (Nat.le_trans hqz hb.size)) hfy ((hS.out.below hb).ready)
          have RC : Hid (∀ W, Below wr.heap.size wr W → Calls Tryz.prog 32 #[.string x, .slice fo y.2.length fc] W fun e w' => e = .returned (.string tv) ∧ W = w') := Lib.hid fun W hb => htv ▸ refCell_any x _ y.2 W ((hfa.below hb hqz).up (Nat.le_trans hqz hb.size)) hfy
          have HB4 := Lib.hid hb4.drew
          clear hrow hfa g1 g2 hy hf hg hb4 hE hfy htv c1
          go_upto_region 20 with fail
          go_region_held3 (fun W' => W'.cell? ⟨wr.heap.size, 1, none⟩ = some (.slice fo y.2.length fc)) (first | exact p1 | exact p2) (first
            | (go_at_call 31; refine (CE.out _ HB4.out).mono ?_; rintro e w7 ⟨rfl, hb7⟩; have p2 := (hb7.cell (p := ⟨wr.heap.size, 1, none⟩) hzz4).trans p1; have B7 := HB4.out.trans (hb7.mono (Nat.le_of_lt hzz4)))
            | (go_at_call 32; refine (RC.out _ B7).mono ?_; rintro e w' ⟨rfl, rfl⟩))
          have HS8 := Lib.hid (hS.out.below B7)
          have HW8 := Lib.hid (hW.out.trans (B7.mono hW.out.size))
          have HQ8 := Lib.hid (hQ.out.trans (B7.mono hQ.out.size))
          clear CE RC hb7 B7 HB4 hS hW hQ
          go_wp2
          exact ⟨⟨j + 1, by go_num, by omega, HS8, HW8, HQ8⟩, by simp [intOf]; omega⟩
        · have HAK := hA
          have GK := Lib.hid (refKey x hxk wr)
          cases hgd : goodB x with
          | true =>
            have eg : goodKey x.data.toList = true := hgd
            rw [eg] at GK
            have HN := Lib.hid (any_false_take hA.out HX.out (by rw [hgd]; rfl))
            clear hgd eg
            go_wp2_with fail
            refine GK.out.mono ?_
            rintro e w' ⟨rfl, rfl⟩
            go_wp2
            exact ⟨⟨k + 1, by go_num, by omega, HN, hS, hW⟩, by simp [intOf]; omega⟩
          | false =>
            have eg : goodKey x.data.toList = false := hgd
            rw [eg] at GK
            obtain ⟨hS1, hS2⟩ := HBd.out (by rw [List.any_eq_true]; exact ⟨x, List.mem_of_getElem? HX.out, by rw [hgd]; rfl⟩)
            subst hS1
            subst hS2
            clear hgd eg HGd HBd
            go_wp2_with fail
            refine GK.out.mono ?_
            rintro e w' ⟨rfl, rfl⟩
            go_wp2_with fail
            refine (IS5.out _).mono ?_
            rintro e w' ⟨rfl, rfl⟩
            go_wp2
            go_ret
            exact ⟨rfl, HBZ.out.trans (hW.out.mono hzz)⟩
    · have hAll := hA.out
      rw [List.take_of_length_le (by omega)] at hAll
      obtain ⟨hS1, hS2⟩ := HGd.out hAll
      subst hS2
      have L := refLines_any (.slice (some ⟨g5, 0, none⟩) rs.length c5) rs wr (hS.out.rows.up hS.out.size) HFINE.out
      rw [← hS1] at L
      have LL := Lib.hid L
      clear hS1 L hAll HGd HBd
      go_wp2_with fail
      refine LL.out.mono ?_
      rintro e w' ⟨rfl, hb⟩
      have HBL := Lib.hid (HBZ.out.trans ((hW.out.mono hzz).trans (hb.mono (Nat.le_trans hzz hW.out.size))))
      clear hb
      go_wp2
      go_ret
      exact ⟨rfl, HBL.out⟩
end Go.Proofs.YtjbnjlkoipkpoaaGreatDoor.T

namespace Go.Proofs.YtjbnjlkoipkpoaaGreatDoor.T
open Go.RowKit Go.Shelf
open Go.Proofs.YtjbnjlkoipkpoaaGreatDoor.B

set_option maxRecDepth 100000 in
set_option maxHeartbeats 3200000 in
theorem of_large (s : ByteArray) (vk : Value) (ks : List ByteArray) (w : World) (hk : StrArg w vk ks) (hr : Ready w) (hs : s.size ≤ 9223372036854775807) (hL : isLarge s ks = true) :
    Calls Tryz.prog 4 #[.string s, vk] w fun e w' => e = .returned (.bool true) ∧ Below w.heap.size w w' := by
  have AL := Lib.hid (alive_any w hr)
  have LG := Lib.hid (fun (w' : World) (hb : Below w.heap.size w w') => large_any s vk ks w' ((hk.at_.below hb (Nat.le_refl _)).up hb.size) hs hk.1 hk.2.1)
  rw [hL] at LG
  obtain ⟨ao, cp, hvk, -⟩ := hk.at_
  subst hvk
  clear hr hk hL
  go_enter Tryz.func4, Tryz.ntmps4
  go_wp2_with fail
  refine AL.out.mono ?_
  rintro e w1 ⟨rfl, hb1⟩
  have HB1 := Lib.hid hb1
  clear hb1 AL
  go_wp2_with fail
  refine (LG.out w1 HB1.out).mono ?_
  rintro e w' ⟨rfl, rfl⟩
  clear LG
  go_wp2
  go_ret
  exact ⟨rfl, HB1.out⟩
set_option maxRecDepth 100000 in
set_option maxHeartbeats 3200000 in
theorem of_bad (s : ByteArray) (vk : Value) (ks : List ByteArray) (w : World) (hk : StrArg w vk ks) (hr : Ready w) (hs : s.size ≤ 9223372036854775807) (hL : isLarge s ks = false) (he : (parse s.data.toList).err ≠ 0) :
    Calls Tryz.prog 4 #[.string s, vk] w fun e w' => e = .returned (.bool true) ∧ Below w.heap.size w w' := by
  have hL' := hL
  unfold isLarge at hL'
  simp only [Bool.or_eq_false_iff, decide_eq_false_iff_not] at hL'
  obtain ⟨⟨hs2, hk2⟩, -⟩ := hL'
  have AL := Lib.hid (alive_any w hr)
  have LG := Lib.hid (fun (w' : World) (hb : Below w.heap.size w w') => large_any s vk ks w' ((hk.at_.below hb (Nat.le_refl _)).up hb.size) hs hk.1 hk.2.1)
  rw [hL] at LG
  have LO := Lib.hid (fun w' => list_no s (by omega) w' he)
  unfold faultV at LO
  have RO := Lib.hid (fun w' => refOf_no s (by omega) w' he)
  obtain ⟨ao, cp, hvk, -⟩ := hk.at_
  subst hvk
  clear hL hr hk he
  go_enter Tryz.func4, Tryz.ntmps4
  go_wp2_with fail
  refine AL.out.mono ?_
  rintro e w1 ⟨rfl, hb1⟩
  have HB1 := Lib.hid hb1
  clear hb1 AL
  go_wp2_with fail
  refine (LG.out w1 HB1.out).mono ?_
  rintro e w' ⟨rfl, rfl⟩
  go_wp2_with fail
  refine (LO.out w1).mono ?_
  rintro e w2 ⟨g, rfl, hb2⟩
  have hz1 := HB1.out.size
  have HB2 := Lib.hid (HB1.out.trans (hb2.mono hz1))
  clear hb2
  go_wp2_with fail
  refine (RO.out w2).mono ?_
  rintro e w3 ⟨i, n, rfl, hn, hn2, hb3⟩
  have hz2 := HB2.out.size
  have hne : ((n : Int) != 0) = true := by rw [bne_iff_ne]; omega
  have hb4 := (HB2.out.trans (hb3.mono hz2)).trans ((below_grow1 w3 (.cells #[.slice none 0 0, .int .i64 0] 26)).mono (Nat.le_trans hz2 hb3.size))
  have HB4 := Lib.hid hb4
  clear hb3 hb4
  go_wp2
  go_ret
  exact ⟨rfl, HB4.out⟩
theorem of_walk (s : ByteArray) (vk : Value) (ks : List ByteArray) (w : World) (hk : StrArg w vk ks) (hr : Ready w) (hs : s.size ≤ 9223372036854775807) :
    Calls Tryz.prog 4 #[.string s, vk] w fun e w' => e = .returned (.bool true) ∧ Below w.heap.size w w' := by
  cases hL : isLarge s ks with
  | true => exact of_large s vk ks w hk hr hs hL
  | false =>
    by_cases he : (parse s.data.toList).err = 0
    · exact of_main s vk ks w hk hr hs hL he
    · exact of_bad s vk ks w hk hr hs hL he
end Go.Proofs.YtjbnjlkoipkpoaaGreatDoor.T
