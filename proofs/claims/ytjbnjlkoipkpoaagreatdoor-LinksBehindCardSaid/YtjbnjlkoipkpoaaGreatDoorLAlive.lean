/- The chapter's example, walked: stanzakeeplaw30.alive; stanzakeepnum.Ints at rows of the same numbers. -/
import Derived.Test.YtjbnjlkoipkpoaaGreatDoorLE
import Derived.Test.YtjbnjlkoipkpoaaGreatDoorBLists
namespace Go.Proofs.YtjbnjlkoipkpoaaGreatDoor.T
open Go.RowKit Go.Shelf
open Go.Proofs.YtjbnjlkoipkpoaaGreatDoor.B

set_option maxRecDepth 20000 in
set_option maxHeartbeats 1600000 in
theorem zints_same (B : Nat) (va vb : Value) (ss : List Int) (w : World) (ha : ZsAt B w va ss) (hb : ZsAt B w vb ss) (hn : ss.length ≤ 9223372036854775807) :
    Calls Tryz.prog 35 #[va, vb] w fun e w' => e = .returned (.bool true) ∧ ∃ n, w' = w.drewN n := by
  obtain ⟨ao, ca, rfl, hA⟩ := ha
  obtain ⟨bo, cb, rfl, hB⟩ := hb
  have HA := Lib.hid hA
  have HB := Lib.hid hB
  clear hA hB
  go_enter Tryz.func35, Tryz.ntmps35
  go_wp2
  go_loopw [13] (fun i wr => ∃ k : Nat, i = .int .i64 k ∧ k ≤ ss.length ∧ Hid (∃ n, wr = w.drewN n)) (fun i _ => ss.length - (intOf i).toNat)
  case atStart => exact ⟨0, rfl, Nat.zero_le _, Lib.hid ⟨0, rfl⟩⟩
  case round =>
    obtain ⟨k, rfl, hk, hw⟩ := hrel
    by_cases hlt : k < ss.length
    · obtain ⟨f, hf⟩ : ∃ f, ss[k]? = some f := ⟨_, List.getElem?_eq_getElem hlt⟩
      obtain ⟨a, rfl, -, a1⟩ := HA.out k f hf
      obtain ⟨b, rfl, -, b1⟩ := HB.out k f hf
      obtain ⟨n, hwn⟩ := hw.out
      have x1 : wr.cell? (a.add k) = some (.int .i64 f) := by rw [hwn]; exact a1
      have y1 : wr.cell? (b.add k) = some (.int .i64 f) := by rw [hwn]; exact b1
      have HN := Lib.hid hwn
      clear a1 b1 hwn hf
      go_wp2
      go_quiet (fail)
      go_wp2
      exact ⟨⟨k + 1, by go_num, by omega, Lib.hid ⟨n + nq, by rw [HN.out, World.drewN_drewN]⟩⟩, by simp [intOf]; omega⟩
    · go_wp2
      go_ret
      exact ⟨rfl, hw.out⟩
def lt0 : List UInt8 := [78, 97, 109, 101, 58, 32, 97, 10, 78, 101, 101, 100, 115, 58, 32, 98, 44, 32, 99, 10, 10, 78, 97, 109, 101, 58, 32, 98, 10]
def lnm : ByteArray := ⟨#[78, 97, 109, 101]⟩
def lnd : ByteArray := ⟨#[78, 101, 101, 100, 115]⟩
theorem lt0_err : (parse lt0).err = 0 := by decide +kernel
theorem lt0_links : linksL lnm.data.toList lnd.data.toList (stanzasOf lt0) = [(1, 2, [98]), (1, 0, [99])] := by decide +kernel
theorem lt0_len : (stanzasOf lt0).length = 2 := by decide +kernel
theorem lt0_ord : ordOf lnm.data.toList lnd.data.toList (stanzasOf lt0) = [2, 1] := by decide +kernel
theorem num_ids30 : ∀ (n : Nat) (xs : List It), 0 < n → ((numberFrom n xs).filter fun e => decide (0 < e.2)).map (·.2) = List.range' n (recsOf xs)
  | _, [], _ => rfl
  | n, x :: r, hn => by
    unfold numberFrom
    by_cases hx : x.kind = 3
    · rw [if_pos hx]
      have ih := num_ids30 (n + 1) r (by omega)
      have e : recsOf (x :: r) = recsOf r + 1 := by unfold recsOf; simp [hx]
      rw [e, List.range'_succ]
      simp only [List.filter_cons, hn, decide_true, if_true, List.map_cons, ih]
    · rw [if_neg hx]
      have ih := num_ids30 n r hn
      have e : recsOf (x :: r) = recsOf r := by unfold recsOf; simp [hx]
      rw [e]
      simp [ih]
theorem stan_id30 {t : List UInt8} {p : Nat} {x : St} (h : (stanzasOf t)[p]? = some x) : x.1 = p + 1 := by
  have h1 : ((stanzasOf t).map (·.1))[p]? = some x.1 := by rw [List.getElem?_map, h]; rfl
  have h2 : (stanzasOf t).map (·.1) = List.range' 1 (recsOf (parse t).st.items) := by
    rw [← num_ids30 1 _ (by omega)]
    unfold stanzasOf
    rw [List.map_map]; rfl
  rw [h2] at h1
  obtain ⟨hl, h3⟩ := List.getElem?_eq_some_iff.1 h1
  rw [List.getElem_range'] at h3
  omega
theorem stan_ids {t : List UInt8} {x : St} (hx : x ∈ stanzasOf t) : 1 ≤ x.1 ∧ x.1 ≤ 400 := by
  obtain ⟨p, hp⟩ := List.getElem?_of_mem hx
  have h1 := stan_id30 hp
  have h2 := (List.getElem?_eq_some_iff.1 hp).1
  have h3 := stanzasOf_few t
  omega
set_option maxRecDepth 20000 in
set_option maxHeartbeats 3200000 in
theorem alive30_any (w : World) (hr : Ready w) :
    Calls Tryz.prog 11 #[] w fun e w' => e = .returned (.bool true) ∧ Below w.heap.size w w' := by
  have L := Lib.hid (list_ok ⟨lt0.toArray⟩ (by decide) w lt0_err)
  have HR := Lib.hid hr
  clear hr
  go_enter Tryz.func11, Tryz.ntmps11
  go_wp2_with fail
  refine L.out.mono ?_
  rintro e w1 ⟨b, rfl, hL, -, hb⟩
  have HFI : Hid (∀ x ∈ stanzasOf lt0, FsFine x.2) := Lib.hid fun x hx => (stanzasOf_fine hx).1
  have HID : Hid (∀ x ∈ stanzasOf lt0, x.1 ≤ 1000000) := Lib.hid fun x hx => by have := stan_ids hx; omega
  have hm : (stanzasOf lt0).length ≤ 1000 := by rw [lt0_len]; omega
  have HLI := Lib.hid hL
  have HR1 := Lib.hid (HR.out.stays hb)
  have HB1 := Lib.hid hb
  have OF := Lib.hid (of_any (some ⟨b, 0, none⟩) lnm lnd (stanzasOf lt0) w1 hm HFI.out HID.out HR1.out (stanzas_in (s := ⟨lt0.toArray⟩) HLI.out (by decide)))
  rw [lt0_links] at OF
  clear hL hb L HR
  go_wp2_with fail
  refine OF.out.mono ?_
  rintro e w2 ⟨u, rfl, hU, hb2⟩
  have HB2 := Lib.hid (HB1.out.trans (hb2.mono HB1.out.size))
  have HLI2 := Lib.hid (HLI.out.below hb2)
  have OP := Lib.hid (orderP_any b lnm lnd (stanzasOf lt0) w2 hm HFI.out HID.out (HR1.out.stays hb2) (fun w' hb' => stanzas_in (s := ⟨lt0.toArray⟩) (HLI2.out.below hb') (by decide)))
  rw [lt0_ord, lt0_len] at OP
  obtain ⟨g, c, hv, -, -⟩ := World.ownsRow.form hU (by decide)
  subst hv
  have HU := Lib.hid hU
  clear hU hb2 OF HR1 HLI HB1
  go_wp2_with fail
  refine OP.out.mono ?_
  rintro e w3 ⟨hpost, hb3⟩
  unfold OrdPost at hpost
  rw [if_neg (by decide)] at hpost
  obtain ⟨o, rfl, hZ⟩ := hpost
  have HB3 := Lib.hid (HB2.out.trans (hb3.mono HB2.out.size))
  have hrow := HU.out.below hb3
  obtain ⟨g1, g2, g3⟩ := lkC_get _ 0 _ (rfl : [((1 : Nat), (2 : Nat), ([98] : L8)), (1, 0, [99])][0]? = some (1, 2, [98]))
  obtain ⟨k1, k2, k3⟩ := lkC_get _ 1 _ (rfl : [((1 : Nat), (2 : Nat), ([98] : L8)), (1, 0, [99])][1]? = some (1, 0, [99]))
  have e1 := World.ownsRow.cells hrow (g := g) rfl _ _ g1
  have e2 := World.ownsRow.cells hrow (g := g) rfl _ _ g2
  have e3 := World.ownsRow.cells hrow (g := g) rfl _ _ g3
  have e4 := World.ownsRow.cells hrow (g := g) rfl _ _ k2
  rw [addrO] at e1 e2 e3 e4
  have hz3 := hZ.at_
  obtain ⟨w4, hw4⟩ : ∃ w4, w3.alloc (.cells #[.int .i64 2, .int .i64 1] 3) = w4 := ⟨_, rfl⟩
  have hb4 : Below w3.heap.size w3 w4 := by rw [← hw4]; exact below_grow1 w3 _
  have hE : w4.heap[w3.heap.size]? = some (.cells #[.int .i64 2, .int .i64 1] 3 (0, 0)) := by rw [← hw4]; exact heap_alloc_new w3 _
  have hlt : w3.heap.size < w4.heap.size := (Array.getElem?_eq_some_iff.1 hE).1
  have hK : ZsAt w4.heap.size w4 (.slice (some ⟨w3.heap.size, 0, none⟩) 2 2) [2, 1] := by
    refine ⟨_, 2, rfl, fun k s hs => ⟨_, rfl, hlt, ?_⟩⟩
    rw [addrO]
    match k, hs with
    | 0, hs => simp at hs; subst hs; simp [World.cell?, hE]
    | 1, hs => simp at hs; subst hs; simp [World.cell?, hE]
  have ZS := Lib.hid (zints_same w4.heap.size o _ [2, 1] w4 ((hz3.below hb4 (Nat.le_refl _)).up hb4.size) hK (by decide))
  have HB4 := Lib.hid (HB3.out.trans (hb4.mono HB3.out.size))
  have HW4 := Lib.hid hw4
  clear hb3 HB2 HU HLI2 OP g1 g2 g3 k1 k2 k3 hrow hz3 hZ hb4 hE hlt hK hw4
  go_wp2_with fail
  rw [HW4.out]
  refine ZS.out.mono ?_
  rintro e w5 ⟨rfl, n, rfl⟩
  go_wp2_with fail
  go_ret
  exact ⟨rfl, below_dn HB4.out n⟩
end Go.Proofs.YtjbnjlkoipkpoaaGreatDoor.T
