/- The law LinksOrder, walked. -/
import Derived.Test.YtjbnjlkoipkpoaaGreatDoorLOfLaw
import Derived.Test.YtjbnjlkoipkpoaaGreatDoorLRefRounds
import Derived.Test.YtjbnjlkoipkpoaaGreatDoorLReachLaw
namespace Go.Proofs.YtjbnjlkoipkpoaaGreatDoor.T
open Go.RowKit Go.Shelf Go.Maps
open Go.Proofs.YtjbnjlkoipkpoaaGreatDoor.B

theorem num_nil (w : World) : Calls Tryz.prog 41 #[.nilIface] w fun e w' => e = .returned (.int .i64 0) ∧ w = w' := by
  go_enter Tryz.func41, Tryz.ntmps41
  go_wp2_with fail
  refine wp_loop_rounds 1 ?_
  rw [rounds_succ]
  go_wp2_with fail
  go_ret
  exact ⟨rfl, rfl⟩
/-- What both orders answer, told alike. -/
theorem ord_both (os : List Int) (n : Nat) : ∃ (ev : Value) (bad : Int) (oz : List Int), (∀ N e w', OrdPost N os n e w' → ∃ o, e = .returned (.tuple #[o, ev]) ∧ ZRow N w' o oz) ∧ (∀ N e w', ROrdPost N os n e w' → ∃ o, e = .returned (.tuple #[o, .int .i64 bad]) ∧ ZRow N w' o oz) ∧
    (∀ W, Calls Tryz.prog 41 #[ev] W fun e w' => e = .returned (.int .i64 bad) ∧ W = w') ∧ oz.length ≤ os.length := by
  by_cases h : os.length < n
  · refine ⟨.iface 56 (.int .i64 13), 13, [], fun N e w' hp => ?_, fun N e w' hp => ?_, num_errno 13 (by decide), by simp⟩
    · unfold OrdPost at hp; rw [if_pos h] at hp; exact ⟨_, hp, World.ownsRow_nil _ _ _ _⟩
    · unfold ROrdPost at hp; rw [if_pos h] at hp; exact ⟨_, hp, World.ownsRow_nil _ _ _ _⟩
  · refine ⟨.nilIface, 0, os, fun N e w' hp => ?_, fun N e w' hp => ?_, num_nil, Nat.le_refl _⟩
    · unfold OrdPost at hp; rw [if_neg h] at hp; exact hp
    · unfold ROrdPost at hp; rw [if_neg h] at hp; exact hp
theorem orderL_few {f : Int → List Int} {ss : List St} : ∀ (n : Nat) (out : List Int), (orderL f ss n out).length ≤ out.length + n
  | 0, out => Nat.le_refl _
  | n + 1, out => by
    cases hx : ss.find? (fun x => readyB f out x.1) with
    | none => rw [orderL_none hx]; omega
    | some x =>
      rw [orderL_some hx]
      have := orderL_few (f := f) (ss := ss) n (out ++ [(x.1 : Int)])
      rw [List.length_append, List.length_singleton] at this
      omega
set_option maxRecDepth 100000 in
set_option maxHeartbeats 12800000 in
theorem linksOrder_main (s name key : ByteArray) (w : World) (hr : Ready w) (hg : Good30 s name key) :
    Calls Tryz.prog 7 #[.string s, .string name, .string key] w fun e w' => e = .returned (.bool true) ∧ Below w.heap.size w w' := by
  have AL := Lib.hid (alive30_any w hr)
  have LI := Lib.hid (fun w' => lists_ok s name key w' hg)
  have HR := Lib.hid hr
  obtain ⟨⟨hs, hn, hk⟩, he, h40⟩ := hg
  have hfine : ∀ x ∈ stanzasOf s.data.toList, FsFine x.2 := fun x hx => (stanzasOf_fine hx).1
  have hids : ∀ x ∈ stanzasOf s.data.toList, x.1 ≤ 1000000 := fun x hx => by have := stan_ids hx; omega
  have hid1 : ∀ x ∈ stanzasOf s.data.toList, 1 ≤ x.1 := fun x hx => (stan_ids hx).1
  have hxl := items_bound (s := s.data.toList) (by rw [size_len]; omega)
  obtain ⟨ev, bad, oz, hO1, hO2, hNUM, hozl⟩ := ord_both (ordOf name.data.toList key.data.toList (stanzasOf s.data.toList)) (stanzasOf s.data.toList).length
  have hozl : oz.length ≤ 1000 := by
    have h1 := orderL_few (f := nextF ((linksL name.data.toList key.data.toList (stanzasOf s.data.toList)).map prZ)) (ss := stanzasOf s.data.toList) (stanzasOf s.data.toList).length []
    unfold ordOf at hozl
    simp only [List.length_nil, Nat.zero_add] at h1
    omega
  have OP : Hid (∀ (b : Nat) (w' : World), ListIn w' b s.data.toList → Ready w' → Calls Tryz.prog 39 #[.pointer (some ⟨b, 0, none⟩), .string name, .string key] w' fun e w2 => ∃ o, e = .returned (.tuple #[o, ev]) ∧ ZRow w'.heap.size w2 o oz ∧ Below w'.heap.size w' w2) :=
    Lib.hid fun b w' h hr => (orderP_any b name key _ w' (by omega) hfine hids hr (fun w2 hb => stanzas_in (h.below hb) (by omega))).mono fun e w2 ⟨h1, h2⟩ => by obtain ⟨o, ho, hz⟩ := hO1 _ _ _ h1; exact ⟨o, ho, hz, h2⟩
  have RO : Hid (∀ (ve : Value) (nx : Int) (w' : World), EntsAt w'.heap.size w' ve (numberFrom 1 (parse s.data.toList).st.items) → Calls Tryz.prog 40 #[.agg #[ve, .int .i64 nx], .string name, .string key] w' fun e w2 => ∃ o, e = .returned (.tuple #[o, .int .i64 bad]) ∧ ZRow w'.heap.size w2 o oz ∧ Below w'.heap.size w' w2) :=
    Lib.hid fun ve nx w' h => (refOrder_any ve nx _ name key w' h (by rw [number_len]; omega) (by show (stanzasOf s.data.toList).length ≤ 1000; omega) hfine hids hid1).mono fun e w2 ⟨h1, h2⟩ => by obtain ⟨o, ho, hz⟩ := hO2 _ _ _ h1; exact ⟨o, ho, hz, h2⟩
  obtain ⟨rz, hrz⟩ : ∃ rz, roundsL ((linksL name.data.toList key.data.toList (stanzasOf s.data.toList)).map prZ) (stanzasOf s.data.toList) = rz := ⟨_, rfl⟩
  have hrl : rz.length ≤ 1000 := by rw [← hrz]; have := rounds_le ((linksL name.data.toList key.data.toList (stanzasOf s.data.toList)).map prZ) (stanzasOf s.data.toList); omega
  have RD : Hid (∀ (b : Nat) (w' : World), ListIn w' b s.data.toList → Ready w' → Calls Tryz.prog 42 #[.pointer (some ⟨b, 0, none⟩), .string name, .string key] w' fun e w2 => ∃ u, e = .returned u ∧ ZRow w'.heap.size w2 u rz ∧ Below w'.heap.size w' w2) :=
    Lib.hid fun b w' h hr => hrz ▸ rounds_any (some ⟨b, 0, none⟩) name key _ w' (by omega) hfine hids hr (fun w2 hb => stanzas_in (h.below hb) (by omega))
  have RR : Hid (∀ (ve : Value) (nx : Int) (w' : World), EntsAt w'.heap.size w' ve (numberFrom 1 (parse s.data.toList).st.items) → Calls Tryz.prog 43 #[.agg #[ve, .int .i64 nx], .string name, .string key] w' fun e w2 => ∃ u, e = .returned u ∧ ZRow w'.heap.size w2 u rz ∧ Below w'.heap.size w' w2) :=
    Lib.hid fun ve nx w' h => hrz ▸ refRounds_any ve nx _ name key w' h (by rw [number_len]; omega) (by show (stanzasOf s.data.toList).length ≤ 1000; omega) hfine hids
  have RN : Hid (∀ w', Ready w' → Calls Tryz.prog 42 #[.pointer none, .string name, .string key] w' fun e w2 => (∃ ao c, e = .returned (.slice ao 0 c)) ∧ Below w'.heap.size w' w2) :=
    Lib.hid fun w' hr => (rounds_any none name key [] w' (by simp) (by simp) (by simp) hr (fun w2 _ => stanzas_nil w2)).mono fun e w2 ⟨u, h1, h2, h3⟩ => ⟨by obtain ⟨ao, c, h4⟩ := own_shape h2; exact ⟨ao, c, by rw [h1, h4]; rfl⟩, h3⟩
  have HNUM := Lib.hid hNUM
  have IS7 := Lib.hid (fun w' => is_errno 7 (by decide) w')
  have ZS := Lib.hid (fun (zs : List Int) (hz : zs.length ≤ 1000) (B1 B2 : Nat) (va vb : Value) (W : World) (h1 : ZRow B1 W va zs) (h2 : ZRow B2 W vb zs) => zs_same B1 B2 va vb zs W h1 h2 (by omega))
  have ON := Lib.hid (fun w' => orderP_nil name key w')
  clear hr he h40 hfine hids hid1 hxl hO1 hO2 hNUM hrz
  go_enter Tryz.func7, Tryz.ntmps7
  go_wp2_with fail
  refine AL.out.mono ?_
  rintro e w1 ⟨rfl, hb1⟩
  have HB1 := Lib.hid hb1
  clear hb1 AL
  go_wp2_with fail
  refine (LI.out w1).mono ?_
  rintro e w2 ⟨b, ve, nx, rfl, hLI, hEN, hb2⟩
  obtain ⟨eo, ec, hve, -⟩ := id hEN
  subst hve
  have HB2 := Lib.hid (HB1.out.trans (hb2.mono HB1.out.size))
  obtain ⟨el, hel⟩ : ∃ el, (numberFrom 1 (parse s.data.toList).st.items).length = el := ⟨_, rfl⟩
  rw [hel] at hEN ⊢
  obtain ⟨wa, hwa⟩ : ∃ wa, w2.alloc (.cells #[.slice eo el ec, .int .i64 nx] 26) = wa := ⟨_, rfl⟩
  have hba : Below w2.heap.size w2 wa := by rw [← hwa]; exact below_grow1 w2 _
  have hEa : wa.heap[w2.heap.size]? = some (.cells #[.slice eo el ec, .int .i64 nx] 26 (0, 0)) := by rw [← hwa]; exact heap_alloc_new w2 _
  have hlb : w2.heap.size < wa.heap.size := (Array.getElem?_eq_some_iff.1 hEa).1
  have HLIA := Lib.hid (hLI.below hba)
  have HENA := Lib.hid ((hEN.below hba (Nat.le_refl _)).up hba.size)
  have HBA := Lib.hid (HB2.out.trans (hba.mono HB2.out.size))
  have HRA := Lib.hid (HR.out.stays HBA.out)
  have HWA := Lib.hid hwa
  have HEA := Lib.hid hEa
  obtain ⟨LB, hLB⟩ : ∃ LB, w2.heap.size = LB := ⟨_, rfl⟩
  rw [hLB] at HEA hlb
  clear hLI hEN hb2 hba hwa hEa LI HB1 HR hel HB2
  go_wp2_with fail
  rw [HWA.out]
  refine (OP.out b wa HLIA.out HRA.out).mono ?_
  rintro e w3 ⟨o, rfl, hz3, hb3⟩
  have hE3 := (hb3.block _ hlb).trans HEA.out
  have HB3 := Lib.hid (HBA.out.trans (hb3.mono HBA.out.size))
  have HZ3 := Lib.hid hz3
  have HLI3 := Lib.hid (HLIA.out.below hb3)
  have HEN3 := Lib.hid ((HENA.out.below hb3 (Nat.le_refl _)).up hb3.size)
  have HR3 := Lib.hid (HRA.out.stays hb3)
  have HE3 := Lib.hid hE3
  have hl3 := (Array.getElem?_eq_some_iff.1 hE3).1
  have c0 : w3.cell? ⟨LB, 0, none⟩ = some (.slice eo el ec) := by simp [World.cell?, hE3]
  have c1 : w3.cell? ⟨LB, 1, none⟩ = some (.int .i64 nx) := by simp [World.cell?, hE3]
  clear hz3 hb3 hE3 HLIA HENA HRA HEA HBA OP HWA
  go_wp2_with fail
  refine (RO.out _ nx w3 HEN3.out).mono ?_
  rintro e w4 ⟨o2, rfl, hz4, hb4⟩
  have HB4 := Lib.hid (HB3.out.trans (hb4.mono HB3.out.size))
  have hE4 := (hb4.block _ hl3).trans HE3.out
  have HZ34 := Lib.hid (ZRow.below HZ3.out hb4)
  have HZ4 := Lib.hid hz4
  have HLI4 := Lib.hid (HLI3.out.below hb4)
  have HEN4 := Lib.hid ((HEN3.out.below hb4 (Nat.le_refl _)).up hb4.size)
  have HR4 := Lib.hid (HR3.out.stays hb4)
  have HC : Hid (∀ W, Below w4.heap.size w4 W → W.cell? ⟨LB, 0, none⟩ = some (.slice eo el ec) ∧ W.cell? ⟨LB, 1, none⟩ = some (.int .i64 nx)) := Lib.hid fun W hW => by
    have hl4 := (Array.getElem?_eq_some_iff.1 hE4).1
    have hEW := (hW.block _ hl4).trans hE4
    exact ⟨by simp [World.cell?, hEW], by simp [World.cell?, hEW]⟩
  clear hz4 hb4 hE4 c0 c1 HZ3 HLI3 HEN3 HR3 HE3 HB3 RO
  go_wp2_with fail
  refine (ON.out w4).mono ?_
  rintro e w' ⟨rfl, rfl⟩
  have hz4 := HB4.out.size
  have B0 := (Below.refl w4.heap.size w4).drew
  have P0 := HC.out _ B0
  have I1 := Lib.hid (ZS.out oz hozl _ _ o o2 w4.drew (ZRow.below HZ34.out (Below.refl _ _).drew) (ZRow.below HZ4.out (Below.refl _ _).drew))
  have RP := Lib.hid (fun (W : World) (hb : Below w4.heap.size w4 W) => RD.out b W (HLI4.out.below hb) (HR4.out.stays hb))
  have RQ := Lib.hid (fun (W : World) (hb : Below w4.heap.size w4 W) => RR.out _ nx W ((HEN4.out.below hb (Nat.le_refl _)).up hb.size))
  have RM := Lib.hid (fun (W : World) (hb : Below w4.heap.size w4 W) => RN.out W (HR4.out.stays hb))
  have I2 := Lib.hid (ZS.out rz hrl)
  clear HZ34 HZ4 HLI4 HEN4 HR4 RD RR RN ZS ON
  go_wp2_with fail
  go_region_held3 (fun W' => W'.cell? ⟨LB, 0, none⟩ = some (.slice eo el ec) ∧ W'.cell? ⟨LB, 1, none⟩ = some (.int .i64 nx)) (first | exact P0 | exact P5 | exact P6 | exact P7 | exact P8 | exact P9)
    (first
      | (go_at_call 42; refine (RM.out _ B8).mono ?_; rintro e w9 ⟨⟨ao9, ca9, rfl⟩, hb9⟩; have B9 := B8.trans (hb9.mono B8.size); have P9 := HC.out _ B9; clear hb9)
      | (go_at_call 35; refine (I2.out _ _ _ _ _ hz6 hz7).mono ?_; rintro e w8 ⟨rfl, n8, rfl⟩; have B8 := below_dn B7 n8; have P8 := HC.out _ B8)
      | (go_at_call 43; refine (RQ.out _ B6).mono ?_; rintro e w7 ⟨u7, rfl, hz7, hb7⟩; have B7 := B6.trans (hb7.mono B6.size); have hz6 := ZRow.below hz6 hb7; have P7 := HC.out _ B7; clear hb7)
      | (go_at_call 42; refine (RP.out _ B5).mono ?_; rintro e w6 ⟨u6, rfl, hz6, hb6⟩; have B6 := B5.trans (hb6.mono B5.size); have P6 := HC.out _ B6; clear hb6)
      | (go_at_call 29; refine (IS7.out _).mono ?_; rintro e w' ⟨rfl, rfl⟩)
      | (go_at_call 41; refine (HNUM.out _).mono ?_; rintro e w' ⟨rfl, rfl⟩)
      | (go_at_call 35; refine I1.out.mono ?_; rintro e w5 ⟨rfl, n5, rfl⟩; have B5 := below_dn (Below.refl w4.heap.size w4) (1 + n5); have P5 := HC.out _ B5))
  all_goals
    have HB9 := Lib.hid (HB4.out.trans (B9.mono hz4))
    go_wp2
    go_ret
    exact ⟨rfl, HB9.out⟩
theorem orderLaw_walk (s name key : ByteArray) (w : World) (hs : s.size ≤ 9223372036854775807) (hn : name.size ≤ 9223372036854775807) (hk : key.size ≤ 9223372036854775807) (hr : Ready w) :
    Calls Tryz.prog 7 #[.string s, .string name, .string key] w fun e w' => e = .returned (.bool true) ∧ Below w.heap.size w w' := by
  by_cases hg : Good30 s name key
  · exact linksOrder_main s name key w hr hg
  · have AL := Lib.hid (alive30_any w hr)
    have LI := Lib.hid (fun w' => lists_no s name key w' hg hs hn hk)
    clear hr hg
    go_enter Tryz.func7, Tryz.ntmps7
    go_wp2_with fail
    refine AL.out.mono ?_
    rintro e w1 ⟨rfl, hb1⟩
    have HB1 := Lib.hid hb1
    clear hb1 AL
    go_wp2_with fail
    refine (LI.out w1).mono ?_
    rintro e w2 ⟨p, eo, el, ec, nx, rfl, hb2⟩
    have HB2 := Lib.hid ((HB1.out.trans (hb2.mono HB1.out.size)).alloc (Nat.le_trans HB1.out.size hb2.size) (.cells #[.slice eo el ec, .int .i64 nx] 26))
    clear hb2 LI HB1
    go_wp2_with fail
    go_ret
    exact ⟨rfl, HB2.out⟩
end Go.Proofs.YtjbnjlkoipkpoaaGreatDoor.T
