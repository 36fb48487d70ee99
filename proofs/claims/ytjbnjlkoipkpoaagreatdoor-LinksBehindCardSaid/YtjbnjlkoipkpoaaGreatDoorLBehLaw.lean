/- The law LinksBehind, walked. -/
import Derived.Test.YtjbnjlkoipkpoaaGreatDoorLBehind
namespace Go.Proofs.YtjbnjlkoipkpoaaGreatDoor.T
open Go.RowKit Go.Shelf Go.Maps
open Go.Proofs.YtjbnjlkoipkpoaaGreatDoor.B

theorem Ordd.full {f : Int → List Int} {ss : List St} {out : List Int} (h : Ordd f ss out) (hl : ss.length ≤ out.length) {x : St} (hx : x ∈ ss) : (x.1 : Int) ∈ out := by
  rcases Classical.em ((x.1 : Int) ∈ out) with hm | hm
  · exact hm
  · have := nodup_len (a := (x.1 : Int) :: out) (b := ss.map fun x => (x.1 : Int)) (List.nodup_cons.2 ⟨hm, h.nd⟩) fun y hy => by
      rcases List.mem_cons.1 hy with rfl | hy
      · exact List.mem_map.2 ⟨x, hx, rfl⟩
      · obtain ⟨z, hz, e⟩ := h.sub y hy
        exact List.mem_map.2 ⟨z, hz, e⟩
    simp only [List.length_cons, List.length_map] at this
    omega
theorem PlaceZ.same {zs : List Int} {n i i' : Int} (h : PlaceZ zs n i) (h' : PlaceZ zs n i') : i = i' := by
  rcases h with ⟨h1, h2⟩ | ⟨k, h1, h2, h3⟩
  · rcases h' with ⟨h4, _⟩ | ⟨k', _, h5, _⟩
    · rw [h1, h4]
    · exact absurd (List.mem_of_getElem? h5) h2
  · rcases h' with ⟨_, h5⟩ | ⟨k', h4, h5, h6⟩
    · exact absurd (List.mem_of_getElem? h2) h5
    · have low : ∀ {a b : Nat}, zs[a]? = some n → n ∉ zs.take b → ¬ a < b := fun {a b} ha hb hab => hb (List.mem_of_getElem? (i := a) (by rw [List.getElem?_take, if_pos hab]; exact ha))
      have := low h2 h6
      have := low h5 h3
      rw [h1, h4]
      omega
/-- The place. -/
noncomputable def placeZ (zs : List Int) (n : Int) : Int := Classical.epsilon (PlaceZ zs n)
theorem PlaceZ.eq {zs : List Int} {n i : Int} (h : PlaceZ zs n i) : i = placeZ zs n := h.same (Classical.epsilon_spec (p := PlaceZ zs n) ⟨i, h⟩)
theorem placeZ_at {zs : List Int} (hn : zs.Nodup) {k : Nat} {n : Int} (hk : zs[k]? = some n) : placeZ zs n = k := by
  have h : PlaceZ zs n k := .inr ⟨k, rfl, hk, fun hm => by
    obtain ⟨j, hj⟩ := List.getElem?_of_mem hm
    have hl := (List.getElem?_eq_some_iff.1 hj).1
    rw [List.length_take] at hl
    rw [List.getElem?_take, if_pos (by omega)] at hj
    have := nodup_get hn hj hk
    omega⟩
  exact h.eq.symm
set_option maxRecDepth 100000 in
set_option maxHeartbeats 12800000 in
theorem behind_stuck (s name key : ByteArray) (w : World) (hr : Ready w) (hg : Good30 s name key) (hst : (ordOf name.data.toList key.data.toList (stanzasOf s.data.toList)).length < (stanzasOf s.data.toList).length) :
    Calls Tryz.prog 8 #[.string s, .string name, .string key] w fun e w' => e = .returned (.bool true) ∧ Below w.heap.size w w' := by
  have AL := Lib.hid (alive30_any w hr)
  have LI := Lib.hid (fun w' => lists_ok s name key w' hg)
  have HR := Lib.hid hr
  obtain ⟨⟨hs, hn, hk⟩, he, h40⟩ := hg
  have hfine : ∀ x ∈ stanzasOf s.data.toList, FsFine x.2 := fun x hx => (stanzasOf_fine hx).1
  have hids : ∀ x ∈ stanzasOf s.data.toList, x.1 ≤ 1000000 := fun x hx => by have := stan_ids hx; omega
  have BL := behLaw name.data.toList key.data.toList s.data.toList
  have OP : Hid (∀ (b : Nat) (w' : World), ListIn w' b s.data.toList → Ready w' → Calls Tryz.prog 39 #[.pointer (some ⟨b, 0, none⟩), .string name, .string key] w' fun e w2 => e = .returned (.tuple #[.slice none 0 0, .iface 56 (.int .i64 13)]) ∧ Below w'.heap.size w' w2) :=
    Lib.hid fun b w' h hr => (orderP_any b name key _ w' (by omega) hfine hids hr (fun w2 hb => stanzas_in (h.below hb) (by omega))).mono fun e w2 ⟨h1, h2⟩ => by unfold OrdPost at h1; rw [if_pos hst] at h1; exact ⟨h1, h2⟩
  obtain ⟨rz, hrz⟩ : ∃ rz, roundsL ((linksL name.data.toList key.data.toList (stanzasOf s.data.toList)).map prZ) (stanzasOf s.data.toList) = rz := ⟨_, rfl⟩
  have hr0 : rz ≠ [] := fun e => by have := BL.all.2 (hrz.trans e); omega
  have hrl : rz.length ≤ 1000 := by rw [← hrz]; have := rounds_le ((linksL name.data.toList key.data.toList (stanzasOf s.data.toList)).map prZ) (stanzasOf s.data.toList); omega
  have RD : Hid (∀ (b : Nat) (w' : World), ListIn w' b s.data.toList → Ready w' → Calls Tryz.prog 42 #[.pointer (some ⟨b, 0, none⟩), .string name, .string key] w' fun e w2 => (∃ ao c, e = .returned (.slice ao rz.length c)) ∧ Below w'.heap.size w' w2) :=
    Lib.hid fun b w' h hr => (rounds_any (some ⟨b, 0, none⟩) name key _ w' (by omega) hfine hids hr (fun w2 hb => stanzas_in (h.below hb) (by omega))).mono fun e w2 ⟨u, h1, h2, h3⟩ => ⟨by rw [hrz] at h2; obtain ⟨ao, c, h4⟩ := own_shape h2; exact ⟨ao, c, by rw [h1, h4]⟩, h3⟩
  have hrp : 0 < rz.length := List.length_pos_iff.2 hr0
  have hrp0 : ((rz.length : Int) == 0) = false := by rw [beq_eq_false_iff_ne]; omega
  have IS13 := Lib.hid (fun w' => is_errno 13 (by decide) w')
  clear hr he h40 hfine hids hrz hr0 BL hst
  go_enter Tryz.func8, Tryz.ntmps8
  go_wp2_with fail
  refine AL.out.mono ?_
  rintro e w1 ⟨rfl, hb1⟩
  have HB1 := Lib.hid hb1
  clear hb1 AL
  go_wp2_with fail
  refine (LI.out w1).mono ?_
  rintro e w2 ⟨b, ve, nx, rfl, hLI, hEN, hb2⟩
  obtain ⟨eo, ec, hve, -⟩ := id hEN
  subst hve
  have HB2 := Lib.hid (HB1.out.trans (hb2.mono HB1.out.size))
  obtain ⟨el, hel⟩ : ∃ el, (numberFrom 1 (parse s.data.toList).st.items).length = el := ⟨_, rfl⟩
  rw [hel]
  obtain ⟨wa, hwa⟩ : ∃ wa, w2.alloc (.cells #[.slice eo el ec, .int .i64 nx] 26) = wa := ⟨_, rfl⟩
  have hba : Below w2.heap.size w2 wa := by rw [← hwa]; exact below_grow1 w2 _
  have HLIA := Lib.hid (hLI.below hba)
  have HBA := Lib.hid (HB2.out.trans (hba.mono HB2.out.size))
  have HRA := Lib.hid (HR.out.stays HBA.out)
  have HWA := Lib.hid hwa
  clear hLI hEN hb2 hba hwa LI HB1 HR hel HB2
  go_wp2_with fail
  rw [HWA.out]
  refine (OP.out b wa HLIA.out HRA.out).mono ?_
  rintro e w3 ⟨rfl, hb3⟩
  obtain ⟨w4, hw4⟩ : ∃ w4, w3.alloc (.cells #[.slice none 0 0] 68) = w4 := ⟨_, rfl⟩
  have hb4 : Below w3.heap.size w3 w4 := by rw [← hw4]; exact below_grow1 w3 _
  have hb34 : Below wa.heap.size wa w4 := hb3.trans (hb4.mono hb3.size)
  have HB4 := Lib.hid (HBA.out.trans (hb34.mono HBA.out.size))
  have R1 := Lib.hid (RD.out b w4.drew (HLIA.out.below hb34.drew) (HRA.out.stays hb34.drew))
  have HW4 := Lib.hid hw4
  clear hb3 hb4 hb34 hw4 OP RD HLIA HRA HBA HWA
  go_wp2_with fail
  rw [HW4.out]
  go_region_held3 (fun _ => True) (trivial)
    (first | (go_at_call 42; refine R1.out.mono ?_; rintro e w6 ⟨⟨ao6, c6, rfl⟩, hbd⟩; have hb6 : Below w4.heap.size w4 w6 := ⟨hbd.os, hbd.tape, hbd.output, hbd.size, hbd.block⟩; have HB6 := Lib.hid (HB4.out.trans (hb6.mono HB4.out.size)); clear hbd hb6))
  all_goals
    go_wp2_with fail
    refine (IS13.out _).mono ?_
    rintro e w' ⟨rfl, rfl⟩
    go_wp2_with fail
    go_ret
    exact ⟨rfl, HB6.out⟩
set_option maxRecDepth 100000 in
set_option maxHeartbeats 12800000 in
theorem behind_full (s name key : ByteArray) (w : World) (hr : Ready w) (hg : Good30 s name key) (hst : ¬ (ordOf name.data.toList key.data.toList (stanzasOf s.data.toList)).length < (stanzasOf s.data.toList).length) :
    Calls Tryz.prog 8 #[.string s, .string name, .string key] w fun e w' => e = .returned (.bool true) ∧ Below w.heap.size w w' := by
  have AL := Lib.hid (alive30_any w hr)
  have LI := Lib.hid (fun w' => lists_ok s name key w' hg)
  have HR := Lib.hid hr
  obtain ⟨⟨hs, hn, hk⟩, he, h40⟩ := hg
  have hfine : ∀ x ∈ stanzasOf s.data.toList, FsFine x.2 := fun x hx => (stanzasOf_fine hx).1
  have hids : ∀ x ∈ stanzasOf s.data.toList, x.1 ≤ 1000000 := fun x hx => by have := stan_ids hx; omega
  have hxl := items_bound (s := s.data.toList) (by rw [size_len]; omega)
  have BL := behLaw name.data.toList key.data.toList s.data.toList
  have hfew := orderL_few (f := nextF ((linksL name.data.toList key.data.toList (stanzasOf s.data.toList)).map prZ)) (ss := stanzasOf s.data.toList) (stanzasOf s.data.toList).length []
  simp only [List.length_nil, Nat.zero_add] at hfew
  have hlen : (ordOf name.data.toList key.data.toList (stanzasOf s.data.toList)).length = (stanzasOf s.data.toList).length := by
    unfold ordOf at hst ⊢
    omega
  have hr0 := BL.all.1 hlen
  have hord := BL.ordd
  have OP : Hid (∀ (b : Nat) (w' : World), ListIn w' b s.data.toList → Ready w' → Calls Tryz.prog 39 #[.pointer (some ⟨b, 0, none⟩), .string name, .string key] w' fun e w2 => (∃ u, e = .returned (.tuple #[u, .nilIface]) ∧ ZRow w'.heap.size w2 u (ordOf name.data.toList key.data.toList (stanzasOf s.data.toList))) ∧ Below w'.heap.size w' w2) :=
    Lib.hid fun b w' h hr => (orderP_any b name key _ w' (by omega) hfine hids hr (fun w2 hb => stanzas_in (h.below hb) (by omega))).mono fun e w2 ⟨h1, h2⟩ => by unfold OrdPost at h1; rw [if_neg hst] at h1; exact ⟨h1, h2⟩
  have RD : Hid (∀ (b : Nat) (w' : World), ListIn w' b s.data.toList → Ready w' → Calls Tryz.prog 42 #[.pointer (some ⟨b, 0, none⟩), .string name, .string key] w' fun e w2 => (∃ ao c, e = .returned (.slice ao 0 c)) ∧ Below w'.heap.size w' w2) :=
    Lib.hid fun b w' h hr => (rounds_any (some ⟨b, 0, none⟩) name key _ w' (by omega) hfine hids hr (fun w2 hb => stanzas_in (h.below hb) (by omega))).mono fun e w2 ⟨u, h1, h2, h3⟩ => ⟨by rw [hr0] at h2; obtain ⟨ao, c, h4⟩ := own_shape h2; exact ⟨ao, c, by rw [h1, h4]; rfl⟩, h3⟩
  have OF : Hid (∀ (b : Nat) (w' : World), ListIn w' b s.data.toList → Ready w' → Calls Tryz.prog 13 #[.pointer (some ⟨b, 0, none⟩), .string name, .string key] w' fun e w2 => ∃ u, e = .returned u ∧ LkRow w'.heap.size w2 u (linksL name.data.toList key.data.toList (stanzasOf s.data.toList)) ∧ Below w'.heap.size w' w2) :=
    Lib.hid fun b w' h hr => of_any (some ⟨b, 0, none⟩) name key _ w' (by omega) hfine hids hr (stanzas_in h (by omega))
  have PL : Hid (∀ (b : Nat) (w' : World) (id : Int), ListIn w' b s.data.toList → id ∈ ordOf name.data.toList key.data.toList (stanzasOf s.data.toList) → Calls Tryz.prog 46 #[.pointer (some ⟨b, 0, none⟩), .int .i64 id] w' fun e w2 => (∃ p : Nat, e = .returned (.int .i64 p)) ∧ Below w'.heap.size w' w2) :=
    Lib.hid fun b w' id h hid => by
      obtain ⟨x, hx, e⟩ := hord.sub id hid
      obtain ⟨p, hp⟩ := List.getElem?_of_mem hx
      rw [← e]
      exact (place_in h hp (by omega)).mono fun e w2 ⟨h1, h2⟩ => ⟨⟨p, h1⟩, h2⟩
  have HLM := Lib.hid (fun l (hl : l ∈ linksL name.data.toList key.data.toList (stanzasOf s.data.toList)) => links_mem hfine hl)
  have hll := links_few (name := name.data.toList) (key := key.data.toList) hfine (by omega)
  have LNN : Hid (∀ (b : Nat) (w' : World), ListIn w' b s.data.toList → Calls Tryz.prog 44 #[.pointer (some ⟨b, 0, none⟩)] w' fun e w2 => e = .returned (.int .i64 (ordOf name.data.toList key.data.toList (stanzasOf s.data.toList)).length) ∧ w2 = w') :=
    Lib.hid fun b w' h => (len_in h).mono fun e w2 ⟨h1, h2⟩ => ⟨by rw [h1, hlen], h2.symm⟩
  have HPS : Hid (∀ l ∈ linksL name.data.toList key.data.toList (stanzasOf s.data.toList), l.2.1 ≠ 0 → l.2.1 ≠ l.1 → ∃ i j : Nat, j < i ∧ (ordOf name.data.toList key.data.toList (stanzasOf s.data.toList))[i]? = some (l.1 : Int) ∧ (ordOf name.data.toList key.data.toList (stanzasOf s.data.toList))[j]? = some (l.2.1 : Int)) := Lib.hid fun l hl h0 h1 => by
    obtain ⟨-, -, x, hx, ex⟩ := links_mem hfine hl
    have hm := hord.full (by omega) hx
    rw [← ex] at hm
    obtain ⟨i, hi⟩ := List.getElem?_of_mem hm
    obtain ⟨j, hj, hj2⟩ := hord.step hi (a := (l.1 : Int)) (t := (l.2.1 : Int)) (List.mem_map.2 ⟨l, hl, rfl⟩) (by omega) (by omega)
    exact ⟨i, j, hj, hi, hj2⟩
  have HND := Lib.hid hord.nd
  obtain ⟨os, hos⟩ : ∃ os, ordOf name.data.toList key.data.toList (stanzasOf s.data.toList) = os := ⟨_, rfl⟩
  rw [hos] at OP PL LNN HPS HND hlen
  obtain ⟨L, hL⟩ : ∃ L, linksL name.data.toList key.data.toList (stanzasOf s.data.toList) = L := ⟨_, rfl⟩
  rw [hL] at OF HPS hll
  have hol : os.length ≤ 1000 := by omega
  clear hr he h40 hfine hids hr0 BL hst hxl hfew hlen hord hos hL HLM
  go_enter Tryz.func8, Tryz.ntmps8
  go_wp2_with fail
  refine AL.out.mono ?_
  rintro e w1 ⟨rfl, hb1⟩
  have HB1 := Lib.hid hb1
  clear hb1 AL
  go_wp2_with fail
  refine (LI.out w1).mono ?_
  rintro e w2 ⟨b, ve, nx, rfl, hLI, hEN, hb2⟩
  obtain ⟨eo, ec, hve, -⟩ := id hEN
  subst hve
  have HB2 := Lib.hid (HB1.out.trans (hb2.mono HB1.out.size))
  obtain ⟨el, hel⟩ : ∃ el, (numberFrom 1 (parse s.data.toList).st.items).length = el := ⟨_, rfl⟩
  rw [hel]
  obtain ⟨wa, hwa⟩ : ∃ wa, w2.alloc (.cells #[.slice eo el ec, .int .i64 nx] 26) = wa := ⟨_, rfl⟩
  have hba : Below w2.heap.size w2 wa := by rw [← hwa]; exact below_grow1 w2 _
  have HLIA := Lib.hid (hLI.below hba)
  have HBA := Lib.hid (HB2.out.trans (hba.mono HB2.out.size))
  have HRA := Lib.hid (HR.out.stays HBA.out)
  have HWA := Lib.hid hwa
  clear hLI hEN hb2 hba hwa LI HB1 HR hel HB2
  go_wp2_with fail
  rw [HWA.out]
  refine (OP.out b wa HLIA.out HRA.out).mono ?_
  rintro e w3 ⟨⟨u, rfl, hz3⟩, hb3⟩
  obtain ⟨oo, oc, huv⟩ := own_shape hz3
  subst huv
  obtain ⟨w4, hw4⟩ : ∃ w4, w3.alloc (.cells #[.slice oo os.length oc] 68) = w4 := ⟨_, rfl⟩
  have hb4 : Below w3.heap.size w3 w4 := by rw [← hw4]; exact below_grow1 w3 _
  have hE4 : w4.heap[w3.heap.size]? = some (.cells #[.slice oo os.length oc] 68 (0, 0)) := by rw [← hw4]; exact heap_alloc_new w3 _
  have hb34 : Below wa.heap.size wa w4 := hb3.trans (hb4.mono hb3.size)
  have HB4 := Lib.hid (HBA.out.trans (hb34.mono HBA.out.size))
  have HLI4 := Lib.hid (HLIA.out.below hb34)
  have HR4 := Lib.hid (HRA.out.stays hb34)
  have HZ4 := Lib.hid (ZRow.below hz3 hb4)
  have R1 := Lib.hid (RD.out b w4.drew (HLI4.out.below (Below.refl _ _).drew) (HR4.out.stays (Below.refl _ _).drew))
  have HW4 := Lib.hid hw4
  have hl4 := (Array.getElem?_eq_some_iff.1 hE4).1
  obtain ⟨OB, hOB⟩ : ∃ OB, w3.heap.size = OB := ⟨_, rfl⟩
  rw [hOB] at hE4 hl4
  have HE4 := Lib.hid hE4
  have HO : Hid (∀ W, Below w4.heap.size w4 W → W.cell? ⟨OB, 0, none⟩ = some (.slice oo os.length oc) ∧ ZRow wa.heap.size W (.slice oo os.length oc) os) := Lib.hid fun W hW => by
    have hEW := (hW.block _ hl4).trans HE4.out
    exact ⟨by simp [World.cell?, hEW], ZRow.below HZ4.out hW⟩
  have HPLC : Hid (∀ W, Below w4.heap.size w4 W → ∀ (k : Nat) (id : Int), os[k]? = some id → Calls Tryz.prog 45 #[.int .i64 id, .pointer (some ⟨OB, 0, none⟩)] W fun e w' => e = .returned (.int .i64 k) ∧ w' = W) := Lib.hid fun W hW k id hk => by
    obtain ⟨h1, h2⟩ := HO.out W hW
    exact (behPlace_any _ os id OB W h1 (ZRow.at_ h2) (by omega)).mono fun e w' ⟨⟨i, h3, h4⟩, h5⟩ => ⟨by rw [h3, h4.uniq HND.out hk], h5.symm⟩
  obtain ⟨pz, hpz⟩ : ∃ pz, placeZ os = pz := ⟨_, rfl⟩
  have HPX : Hid (∀ W, Below w4.heap.size w4 W → ∀ z : Int, Calls Tryz.prog 45 #[.int .i64 z, .pointer (some ⟨OB, 0, none⟩)] W fun e w' => e = .returned (.int .i64 (pz z)) ∧ w' = W) := Lib.hid fun W hW z => by
    obtain ⟨h1, h2⟩ := HO.out W hW
    exact (behPlace_any _ os z OB W h1 (ZRow.at_ h2) (by omega)).mono fun e w' ⟨⟨i, h3, h4⟩, h5⟩ => ⟨by rw [h3, h4.eq, ← hpz], h5.symm⟩
  have HPZ : Hid (∀ (k : Nat) (id : Int), os[k]? = some id → pz id = k) := Lib.hid fun k id hk => by rw [← hpz]; exact placeZ_at HND.out hk
  clear hb3 hb4 hb34 hw4 hz3 hE4 OP RD HLIA HRA HBA HWA HZ4 hpz
  go_wp2_with fail
  rw [HW4.out]
  try rw [hOB]
  clear hOB
  go_region_held3 (fun _ => True) (trivial)
    (first | (go_at_call 42; refine R1.out.mono ?_; rintro e w6 ⟨⟨ao6, c6, rfl⟩, hbd⟩; have hb6 : Below w4.heap.size w4 w6 := ⟨hbd.os, hbd.tape, hbd.output, hbd.size, hbd.block⟩; have HB6 := Lib.hid hb6; clear hbd hb6))
  all_goals
    have hc6 := (HO.out w6 HB6.out).1
    have LN6 := Lib.hid (fun m => LNN.out b (w6.drewN m) (HLI4.out.below (below_dn HB6.out m)))
    go_wp2_with fail
    go_quiet ((go_at_call 44; exact Calls.quiet_of_same (LN6.out _)))
    have HB7 := Lib.hid (below_dn HB6.out nq)
    obtain ⟨w7, hw7⟩ : ∃ w7, w6.drewN nq = w7 := ⟨_, rfl⟩
    rw [hw7] at HB7 ⊢
    have hc7 := (HO.out w7 HB7.out).1
    clear hw7 hc6 LN6 HB6
    go_wp2_with fail
    go_loopw [13, 14, 57] (fun _ _ i W => ∃ k : Nat, i = .int .i64 k ∧ k ≤ os.length ∧ Hid (Below w4.heap.size w4 W)) (fun _ _ i _ => os.length - (intOf i).toNat)
    case atStart => exact ⟨0, rfl, Nat.zero_le _, HB7⟩
    case round =>
      clear HB7 hc7
      obtain ⟨k, rfl, hk, hW⟩ := hrel
      by_cases hlt : k < os.length
      · obtain ⟨z, hz⟩ : ∃ z, os[k]? = some z := ⟨_, List.getElem?_eq_getElem hlt⟩
        obtain ⟨hc, hrow⟩ := HO.out wr hW.out
        obtain ⟨g, hg, hvf⟩ : ∃ g, (Value.slice oo os.length oc).ownBlock = some g ∧ oo = some ⟨g, 0, none⟩ := by
          rcases hrow.2 with ⟨-, h0⟩ | ⟨g, cp', cur, hz, -⟩
          · omega
          · injection hz with z1 z2 z3
            exact ⟨g, by rw [z1]; rfl, z1⟩
        have e1 := World.ownsRow.cells hrow hg k (.int .i64 z) (by unfold zVals; rw [List.getElem?_map, hz]; rfl)
        rw [addrO] at e1
        subst hvf
        have PC := Lib.hid (HPLC.out wr hW.out k z hz)
        have PD := Lib.hid (PL.out b wr z (HLI4.out.below hW.out) (List.mem_of_getElem? hz))
        have hkz : (k : Int) < (os.length : Int) := by omega
        clear hz hrow hg
        go_wp2_with fail
        refine PC.out.mono ?_
        rintro e w' ⟨rfl, rfl⟩
        go_wp2_with fail
        refine PD.out.mono ?_
        rintro e w8 ⟨⟨p, rfl⟩, hb8⟩
        have HB8 := Lib.hid (hW.out.trans (hb8.mono hW.out.size))
        have hp0 : ¬ (p : Int) < 0 := by omega
        clear hb8 hW
        go_wp2_with fail
        exact ⟨⟨k + 1, by go_num, by omega, HB8⟩, by simp [intOf]; omega⟩
      · have OF1 := Lib.hid (OF.out b wr (HLI4.out.below hW.out) (HR4.out.stays hW.out))
        have HBW := hW
        have hkz : ¬ (k : Int) < (os.length : Int) := by omega
        clear hW
        go_wp2_with fail
        refine OF1.out.mono ?_
        rintro e w8 ⟨x, rfl, hx, hb8⟩
        have HB8 := Lib.hid (HBW.out.trans (hb8.mono HBW.out.size))
        have HX := Lib.hid hx
        obtain ⟨xo, xc, hxv⟩ := own_shape hx
        subst hxv
        clear hx hb8 OF1
        go_wp2_with fail
        go_loopw [16, 79] (fun _ i W => ∃ k : Nat, i = .int .i64 k ∧ k ≤ L.length ∧ Hid (Below w8.heap.size w8 W)) (fun _ i _ => L.length - (intOf i).toNat)
        case atStart => exact ⟨0, rfl, Nat.zero_le _, Lib.hid (Below.refl _ _)⟩
        case round =>
          obtain ⟨q, rfl, hq, hU⟩ := hrel
          have HBU := Lib.hid (HB8.out.trans (hU.out.mono HB8.out.size))
          by_cases hql : q < L.length
          · obtain ⟨l, hl⟩ : ∃ l, L[q]? = some l := ⟨_, List.getElem?_eq_getElem hql⟩
            have hrow := HX.out.below hU.out
            obtain ⟨g, hg, hvf⟩ : ∃ g, (Value.slice xo L.length xc).ownBlock = some g ∧ xo = some ⟨g, 0, none⟩ := by
              rcases hrow.2 with ⟨-, h0⟩ | ⟨g, cp', cur, hz, -⟩
              · omega
              · injection hz with z1 z2 z3
                exact ⟨g, by rw [z1]; rfl, z1⟩
            obtain ⟨g1, g2, g3⟩ := lkC_get L q l hl
            have d1 := World.ownsRow.cells hrow hg _ _ g1
            have d2 := World.ownsRow.cells hrow hg _ _ g2
            have d3 := World.ownsRow.cells hrow hg _ _ g3
            rw [addrO] at d1 d2 d3
            subst hvf
            have hps := HPS.out l (List.mem_of_getElem? hl)
            obtain ⟨l1, l2, l3⟩ := l
            obtain ⟨tw, htw⟩ : ∃ tw : ByteArray, (⟨l3.toArray⟩ : ByteArray) = tw := ⟨_, rfl⟩
            simp only at d1 d2 d3 hps
            rw [htw] at d3
            obtain ⟨W1, hW1⟩ : ∃ W1, wr.alloc (.cells #[.int .i64 l1, .int .i64 l2, .string tw] 66) = W1 := ⟨_, rfl⟩
            have hb9 : Below wr.heap.size wr W1 := by rw [← hW1]; exact below_grow1 wr _
            have hE : W1.heap[wr.heap.size]? = some (.cells #[.int .i64 l1, .int .i64 l2, .string tw] 66 (0, 0)) := by rw [← hW1]; exact heap_alloc_new wr _
            have q0 : W1.cell? ⟨wr.heap.size, 0, none⟩ = some (.int .i64 l1) := _root_.Go.Proofs.YtjbnjlkoipkpoaaGreatDoor.B.cell_of_row _ _ 0 _ _ hE
            have q1 : W1.cell? ⟨wr.heap.size, 1, none⟩ = some (.int .i64 l2) := _root_.Go.Proofs.YtjbnjlkoipkpoaaGreatDoor.B.cell_of_row _ _ 1 _ _ hE
            have HU9 := Lib.hid (hU.out.trans (hb9.mono hU.out.size))
            have HBU9 := Lib.hid (HBU.out.trans (hb9.mono HBU.out.size))
            have HW1 := Lib.hid hW1
            have hqz : (q : Int) < (L.length : Int) := by omega
            clear hl hrow hg g1 g2 g3 htw hb9 hE hW1 hU
            by_cases c0 : l2 = 0
            · have hq0 : ((l2 : Int) != 0) = false := by rw [c0]; rfl
              clear hps c0
              go_wp2_with fail
              rw [HW1.out]
              go_quiet (fail)
              go_wp2_with fail
              exact ⟨⟨q + 1, by go_num, by omega, Lib.hid (below_dn HU9.out nq)⟩, by simp [intOf]; omega⟩
            · have hq0 : ((l2 : Int) != 0) = true := by rw [bne_iff_ne]; omega
              by_cases c1 : l2 = l1
              · have hq2 : ((l2 : Int) != (l1 : Int)) = false := by rw [c1]; simp
                clear hps c0 c1
                go_wp2_with fail
                rw [HW1.out]
                go_quiet (fail)
                go_wp2_with fail
                exact ⟨⟨q + 1, by go_num, by omega, Lib.hid (below_dn HU9.out nq)⟩, by simp [intOf]; omega⟩
              · have hq2 : ((l2 : Int) != (l1 : Int)) = true := by rw [bne_iff_ne]; omega
                obtain ⟨i, j, hji, hi, hj⟩ := hps c0 c1
                have PX := Lib.hid (HPX.out W1.drew HBU9.out.drew)
                have hij : ¬ pz (l1 : Int) ≤ pz (l2 : Int) := by rw [HPZ.out i l1 hi, HPZ.out j l2 hj]; omega
                have P0 := And.intro q0 q1
                clear c0 c1 hi hj hps
                go_wp2_with fail
                rw [HW1.out]
                go_region_held3 (fun W' => W'.cell? ⟨wr.heap.size, 0, none⟩ = some (.int .i64 l1) ∧ W'.cell? ⟨wr.heap.size, 1, none⟩ = some (.int .i64 l2)) (first | exact P0)
                  (first | (go_at_call 45; refine (PX.out _).mono ?_; rintro e w' ⟨rfl, rfl⟩))
                all_goals
                  go_wp2_with fail
                  exact ⟨⟨q + 1, by go_num, by omega, Lib.hid HU9.out.drew⟩, by simp [intOf]; omega⟩
          · have HBF := Lib.hid (HB4.out.trans (HBU.out.mono HB4.out.size))
            have hqz : ¬ (q : Int) < (L.length : Int) := by omega
            clear hU HBU
            go_wp2_with fail
            go_ret
            exact ⟨rfl, HBF.out⟩
theorem behind_walk (s name key : ByteArray) (w : World) (hs : s.size ≤ 9223372036854775807) (hn : name.size ≤ 9223372036854775807) (hk : key.size ≤ 9223372036854775807) (hr : Ready w) :
    Calls Tryz.prog 8 #[.string s, .string name, .string key] w fun e w' => e = .returned (.bool true) ∧ Below w.heap.size w w' := by
  by_cases hg : Good30 s name key
  · by_cases hst : (ordOf name.data.toList key.data.toList (stanzasOf s.data.toList)).length < (stanzasOf s.data.toList).length
    · exact behind_stuck s name key w hr hg hst
    · exact behind_full s name key w hr hg hst
  · have AL := Lib.hid (alive30_any w hr)
    have LI := Lib.hid (fun w' => lists_no s name key w' hg hs hn hk)
    clear hr hg
    go_enter Tryz.func8, Tryz.ntmps8
    go_wp2_with fail
    refine AL.out.mono ?_
    rintro e w1 ⟨rfl, hb1⟩
    have HB1 := Lib.hid hb1
    clear hb1 AL
    go_wp2_with fail
    refine (LI.out w1).mono ?_
    rintro e w2 ⟨p, eo, el, ec, nx, rfl, hb2⟩
    have HB2 := Lib.hid ((HB1.out.trans (hb2.mono HB1.out.size)).alloc (Nat.le_trans HB1.out.size hb2.size) (.cells #[.slice eo el ec, .int .i64 nx] 26))
    clear hb2 LI HB1
    go_wp2_with fail
    go_ret
    exact ⟨rfl, HB2.out⟩
end Go.Proofs.YtjbnjlkoipkpoaaGreatDoor.T
