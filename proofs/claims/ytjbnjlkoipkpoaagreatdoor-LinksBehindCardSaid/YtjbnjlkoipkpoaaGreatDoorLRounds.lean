/- links.Rounds, walked. -/
import Derived.Test.YtjbnjlkoipkpoaaGreatDoorLG
import Derived.Test.YtjbnjlkoipkpoaaGreatDoorLF
import Derived.Test.YtjbnjlkoipkpoaaGreatDoorLH
namespace Go.Proofs.YtjbnjlkoipkpoaaGreatDoor.T
open Go.RowKit Go.Shelf Go.Maps
open Go.Proofs.YtjbnjlkoipkpoaaGreatDoor.B

/-- Does a stanza reach itself? -/
noncomputable def selfB (ps : List (Int × Int)) (x : Int) : Bool := @decide (Rch ps x x) (Classical.propDecidable _)
theorem selfB_iff {ps : List (Int × Int)} {x : Int} : selfB ps x = true ↔ Rch ps x x := by unfold selfB; simp
theorem Reached.self {ps : List (Int × Int)} {x : Int} {zs : List Int} (h : Reached ps x zs) : zs.contains x = selfB ps x := by
  rw [Bool.eq_iff_iff, selfB_iff, ← h.2]; simp
/-- The stanzas that reach themselves through another one. -/
noncomputable def roundsL (ps : List (Int × Int)) (ss : List St) : List Int := (ss.filter fun x => selfB (othP ps) x.1).map fun x => (x.1 : Int)
theorem rounds_snoc {ps : List (Int × Int)} {ss : List St} {k : Nat} {x : St} (hx : ss[k]? = some x) : roundsL ps (ss.take (k + 1)) = roundsL ps (ss.take k) ++ (if selfB (othP ps) x.1 = true then [(x.1 : Int)] else []) := by
  unfold roundsL
  rw [List.take_add_one, hx, List.filter_append, List.map_append]
  simp only [Option.toList_some, List.filter_cons, List.filter_nil]
  split <;> rfl
theorem oth_pr (L : List Lk) : (L.filter fun l => !((l.1 : Int) == (l.2.1 : Int))).map prZ = othP (L.map prZ) := by
  unfold othP
  rw [List.filter_map]
  rfl
theorem othP_wf {ps : List (Int × Int)} (h : ∀ p ∈ ps, WfP p) : ∀ p ∈ othP ps, WfP p := fun p hp => h p (mem_othP.1 hp).1
theorem Reached.len2 {ps : List (Int × Int)} {id : Int} {zs : List Int} (h : Reached ps id zs) : zs.length ≤ ps.length := by
  have : zs.length ≤ (ps.map (·.2)).length := nodup_len (up_nodup h.1) fun x hx => by
    obtain ⟨p, hp, e⟩ := ((h.2 x).1 hx).mem
    exact List.mem_map.2 ⟨p, hp, e⟩
  simpa using this
theorem contains_self (u : Value) (ps : List (Int × Int)) (zs : List Int) (id : Int) (B : Nat) (w : World) (hz : ZRow B w u zs) (hr : Reached ps id zs) (hn : ps.length ≤ 40040000) :
    Calls Tryz.prog 82 #[u, .int .i64 id] w fun e w' => e = .returned (.bool (selfB ps id)) ∧ w = w' := by
  have h := contains_ints u zs id w (ZRow.at_ hz) (by have := hr.len2; omega)
  rw [hr.self] at h
  exact h
theorem has_self (u : Value) (ps : List (Int × Int)) (zs : List Int) (id : Int) (B : Nat) (w : World) (hz : ZRow B w u zs) (hr : Reached ps id zs) (hn : ps.length ≤ 40040000) :
    Calls Tryz.prog 79 #[u, .int .i64 id] w fun e w' => e = .returned (.bool (selfB ps id)) ∧ w = w' := by
  have h := has_any u zs id w (ZRow.at_ hz) (by have := hr.len2; omega)
  rw [hr.self] at h
  exact h
def RdR (ps : List (Int × Int)) (ss : List St) (N : Nat) (w4 : World) (v i : Value) (wr : World) : Prop :=
  ∃ k : Nat, i = .int .i64 k ∧ k ≤ ss.length ∧ Hid (ZRow N wr v (roundsL ps (ss.take k))) ∧ Hid (Below N w4 wr)
theorem rounds_le (ps : List (Int × Int)) (ss : List St) : (roundsL ps ss).length ≤ ss.length := by
  unfold roundsL; rw [List.length_map]; exact List.length_filter_le _ _
set_option maxRecDepth 100000 in
set_option maxHeartbeats 6400000 in
theorem rounds_any (q : Option Addr) (name key : ByteArray) (ss : List St) (w : World) (hm : ss.length ≤ 1000) (hfine : ∀ x ∈ ss, FsFine x.2) (hids : ∀ x ∈ ss, x.1 ≤ 1000000) (hr : Ready w)
    (HS : ∀ w', Below w.heap.size w w' → Calls Tryz.prog 30 #[.pointer q] w' (StanzasPost ss w')) :
    Calls Tryz.prog 42 #[.pointer q, .string name, .string key] w fun e w' => ∃ u, e = .returned u ∧ ZRow w.heap.size w' u (roundsL ((linksL name.data.toList key.data.toList ss).map prZ) ss) ∧ Below w.heap.size w w' := by
  obtain ⟨i0, hi0, hz0, hz1, hz2⟩ := info_parts infoIn
  have OF := Lib.hid (of_any q name key ss w hm hfine hids hr (HS w (Below.refl _ _)))
  have HSS := Lib.hid HS
  have HIDS := Lib.hid hids
  have HWF := Lib.hid (othP_wf (links_wf (name := name.data.toList) (key := key.data.toList) hids))
  have hll : (linksL name.data.toList key.data.toList ss).length ≤ 40040000 := by
    have h1 := links_take (name := name.data.toList) (key := key.data.toList) (all := ss) hfine
    have h2 : ss.length * 40040 ≤ 1000 * 40040 := Nat.mul_le_mul_right _ hm
    unfold linksL
    omega
  obtain ⟨L, hL⟩ : ∃ L, linksL name.data.toList key.data.toList ss = L := ⟨_, rfl⟩
  rw [hL] at OF HWF hll ⊢
  have OT := Lib.hid (fun u B W h => others_any u L B W h hll)
  obtain ⟨po, hpo⟩ : ∃ po, othP (L.map prZ) = po := ⟨_, rfl⟩
  have hpl : po.length ≤ 40040000 := by rw [← hpo]; unfold othP; exact Nat.le_trans (List.length_filter_le _ _) (by rw [List.length_map]; exact hll)
  have HPO : Hid ((L.filter fun l => !((l.1 : Int) == (l.2.1 : Int))).map prZ = po) := Lib.hid ((oth_pr L).trans hpo)
  have HSN : Hid (∀ (k : Nat) (x : St), ss[k]? = some x → roundsL (L.map prZ) (ss.take (k + 1)) = roundsL (L.map prZ) (ss.take k) ++ (if selfB po x.1 = true then [(x.1 : Int)] else [])) := Lib.hid fun k x hx => hpo ▸ rounds_snoc hx
  rw [hpo] at HWF
  obtain ⟨ps, hps⟩ : ∃ ps, L.map prZ = ps := ⟨_, rfl⟩
  rw [hps] at HSN ⊢
  clear hfine hids hr HS hL hps hpo
  go_enter Tryz.func42, Tryz.ntmps42
  go_wp2_with fail
  refine OF.out.mono ?_
  rintro e w2 ⟨u, rfl, hu, hb2⟩
  have HB2 := Lib.hid hb2
  have O2 := Lib.hid (OT.out u _ w2 hu)
  clear hu hb2 OF OT
  go_wp2_with fail
  refine O2.out.mono ?_
  rintro e w3 ⟨v, rfl, hv, hb3⟩
  have HB3 := Lib.hid (HB2.out.trans (hb3.mono HB2.out.size))
  have HV := Lib.hid hv
  have ST := Lib.hid (HSS.out w3 HB3.out)
  clear hv hb3 O2 HB2
  go_wp2_with fail
  refine ST.out.mono ?_
  rintro e w4 ⟨vs, ρ, us, rfl, hS, hρ, hb4⟩
  obtain ⟨so, sc, hsv⟩ := hS.row.shape
  subst hsv
  have HB4 := Lib.hid (HB3.out.trans (hb4.mono HB3.out.size))
  have HSA := Lib.hid hS
  have HV4 := Lib.hid (HV.out.below hb4)
  have RE : Hid (∀ (W : World) (id : Int), Below w4.heap.size w4 W → (Lit.int .i64 id).wf = true → Calls Tryz.prog 36 #[v, .int .i64 id] W fun e w' => ∃ u zs, e = .returned u ∧ ZRow W.heap.size w' u zs ∧ Reached po id zs ∧ Below W.heap.size W w') :=
    Lib.hid fun W id hW hw => reach_any v po id W (HPO.out ▸ (HV4.out.below hW).lsAt) hpl HWF.out hw
  clear hS hρ hb4 ST HSS HB3 HV
  obtain ⟨vo, vc, hvo⟩ := own_shape HV4.out
  subst hvo
  go_wp2_with fail
  go_loopw [7, 10, 19] (fun v _ i W => RdR ps ss w4.heap.size w4 v i W) (fun _ _ i _ => ss.length - (intOf i).toNat)
  case atStart => exact ⟨0, rfl, Nat.zero_le _, Lib.hid (World.ownsRow_nil _ _ _ _), Lib.hid (Below.refl _ _)⟩
  case round =>
    obtain ⟨k, rfl, hk, hO, hW⟩ := hrel
    by_cases hlt : k < ss.length
    · obtain ⟨x, hx⟩ : ∃ x, ss[k]? = some x := ⟨_, List.getElem?_eq_getElem hlt⟩
      have hsa := HSA.out.below hW.out
      obtain ⟨f, hf⟩ : ∃ f, us[k]? = some f := ⟨_, List.getElem?_eq_getElem (by rw [hsa.len]; exact hlt)⟩
      obtain ⟨g1, g2⟩ := stCells_get ss us k x f hx hf
      obtain ⟨g, hg, hao⟩ : ∃ g, (Value.slice so ss.length sc).ownBlock = some g ∧ so = some ⟨g, 0, none⟩ := by
        rcases hsa.row.1.2 with ⟨-, h0⟩ | ⟨g, cp', cur, hz, -⟩
        · omega
        · injection hz with z1 z2 z3
          exact ⟨g, by rw [z1]; rfl, z1⟩
      have e1 := hsa.row.1.cells hg _ _ g1
      have e2 := hsa.row.1.cells hg _ _ g2
      rw [addrO] at e1 e2
      subst hao
      obtain ⟨fo, fc, hfv⟩ := (hsa.its k f x hf hx).shape
      subst hfv
      have hX := HSN.out k x hx
      have hidw := HIDS.out x (List.mem_of_getElem? hx)
      obtain ⟨id, hid⟩ : ∃ id : Int, (x.1 : Int) = id := ⟨_, rfl⟩
      have hwf : (Lit.int .i64 id).wf = true := WalkArith.wf_i64 (by omega)
      rw [hid] at e1 hX
      obtain ⟨sb, hsb⟩ : ∃ sb, selfB po id = sb := ⟨_, rfl⟩
      rw [hsb] at hX
      have CS : Hid (∀ (u : Value) (zs : List Int) (B : Nat) (W : World), ZRow B W u zs → Reached po id zs → Calls Tryz.prog 82 #[u, .int .i64 id] W fun e w' => e = .returned (.bool sb) ∧ W = w') := Lib.hid fun u zs B W h1 h2 => hsb ▸ contains_self u po zs id B W h1 h2 hpl
      have HX := Lib.hid hX
      have hrl : (roundsL ps (ss.take k)).length ≤ 1000 := by have := rounds_le ps (ss.take k); rw [List.length_take] at this; omega
      have hO3 : ZRow w4.heap.size wr u7 (roundsL ps (ss.take k)) := hO.out
      obtain ⟨base, hbase⟩ : ∃ base, roundsL ps (ss.take k) = base := ⟨_, rfl⟩
      rw [hbase] at hO3 hrl HX
      obtain ⟨bo, bc, hbo⟩ := own_shape hO3
      subst hbo
      obtain ⟨W1, hW1⟩ : ∃ W1, wr.alloc (.cells #[.int .i64 id, .slice fo x.2.length fc] 61) = W1 := ⟨_, rfl⟩
      have hb5 : Below wr.heap.size wr W1 := by rw [← hW1]; exact below_grow1 wr _
      have hE : W1.heap[wr.heap.size]? = some (.cells #[.int .i64 id, .slice fo x.2.length fc] 61 (0, 0)) := by rw [← hW1]; exact heap_alloc_new wr _
      have q0 : W1.cell? ⟨wr.heap.size, 0, none⟩ = some (.int .i64 id) := _root_.Go.Proofs.YtjbnjlkoipkpoaaGreatDoor.B.cell_of_row _ _ 0 _ _ hE
      have hlB := (Array.getElem?_eq_some_iff.1 hE).1
      have hzr := hW.out.size
      have HW5 := Lib.hid (hW.out.trans (hb5.mono hzr))
      have HO5 := Lib.hid (ZRow.below hO3 hb5)
      have RE0 := Lib.hid (RE.out W1.drew id HW5.out.drew hwf)
      have HW1 := Lib.hid hW1
      have hkz : (k : Int) < (ss.length : Int) := by omega
      clear hx hf g1 g2 hg hsa hid hX hsb hO hO3 hbase hW hb5 hE hW1 hidw hwf
      go_wp2_with fail
      rw [HW1.out]
      go_region_held3 (fun W' => W'.cell? ⟨wr.heap.size, 0, none⟩ = some (.int .i64 id)) (first | exact q0 | exact P2)
        (first
          | (go_at_call 36; refine RE0.out.mono ?_; rintro e w5 ⟨x5, zs, rfl, hz5, hr5, hbd⟩; have hb5 : Below W1.heap.size W1 w5 := ⟨hbd.os, hbd.tape, hbd.output, hbd.size, hbd.block⟩; have P2 := (hb5.cell (p := ⟨wr.heap.size, 0, none⟩) hlB).trans q0; have CT := Lib.hid (CS.out x5 zs _ w5 hz5 hr5); have HB6 := Lib.hid (HW5.out.trans (hb5.mono HW5.out.size)); have HO6 := Lib.hid (ZRow.below HO5.out hb5); clear hbd hb5 hz5 hr5)
          | (go_at_call 82; refine CT.out.mono ?_; rintro e w' ⟨rfl, rfl⟩))
      all_goals
        cases sb with
        | true =>
          have HX2 : Hid (roundsL ps (ss.take (k + 1)) = base ++ [id]) := Lib.hid (by rw [HX.out, if_pos rfl])
          have hz6 := HB6.out.size
          have HOA := Lib.hid (World.ownsRow.alloc HO6.out (.cells #[.int .i64 id] 3))
          have HNA : Hid (∀ j y, [Value.int .i64 id][j]? = some y → (w5.alloc (.cells #[.int .i64 id] 3)).cell? ((⟨w5.heap.size, 0, none⟩ : Addr).add j) = some y) := Lib.hid (World.news_of_block (cs := #[.int .i64 id]) (heap_alloc_new w5 _))
          have HBA := Lib.hid (HB6.out.alloc hz6 (.cells #[.int .i64 id] 3))
          have hlow : Hid (∀ q, (Value.slice bo base.length bc).ownBlock = some q → w4.heap.size ≤ q) := Lib.hid fun q hq => (World.ownsRow.lt HO6.out q hq).1
          go_wp2_with (at_builtin; refine wpList_append_lies _ rfl _ _ _ rfl w4.heap.size 3 i0 _ 1 8 Tryz.underlying68 hi0 hz0 hz1 hz2 rfl (by omega) (.slice bo base.length bc) base.length (zVals base) rfl HOA.out ⟨w5.heap.size, 0, none⟩ 1 1 [.int .i64 id] rfl rfl HNA.out (by simp [Value.oneCell']) (by omega) (by unfold maxLen; omega) (by omega) (by simp; omega) _ rfl ?_; refine Hid.out ?_)
          refine Lib.hid ?_
          intro gg cap w8 hown8 hgrow hat hlt8
          have HN8 := Lib.hid (ZRow.snoc hown8)
          have HB8 := Lib.hid (HBA.out.grown hgrow (by simp; omega) hlow.out)
          clear hown8 hgrow hat
          go_wp2
          exact ⟨⟨k + 1, by go_num, by omega, (by rw [HX2.out]; exact HN8), HB8⟩, by simp [intOf]; omega⟩
        | false =>
          have HX2 : Hid (roundsL ps (ss.take (k + 1)) = base) := Lib.hid (by rw [HX.out, if_neg (by simp), List.append_nil])
          go_wp2
          exact ⟨⟨k + 1, by go_num, by omega, (by rw [HX2.out]; exact HO6), HB6⟩, by simp [intOf]; omega⟩
    · have hO4 : ZRow w4.heap.size wr u7 (roundsL ps (ss.take k)) := hO.out
      rw [List.take_of_length_le (by omega)] at hO4
      have HO4 := Lib.hid (ZRow.low hO4 HB4.out.size)
      have HB5 := Lib.hid (HB4.out.trans (hW.out.mono HB4.out.size))
      clear hO hO4 hW
      go_wp2
      go_ret
      exact ⟨_, rfl, HO4.out, HB5.out⟩
end Go.Proofs.YtjbnjlkoipkpoaaGreatDoor.T
