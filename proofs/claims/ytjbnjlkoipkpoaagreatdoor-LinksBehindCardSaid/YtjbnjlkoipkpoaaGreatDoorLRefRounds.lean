/- stanzakeepref30.Rounds, walked. -/
import Derived.Test.YtjbnjlkoipkpoaaGreatDoorLRounds
import Derived.Test.YtjbnjlkoipkpoaaGreatDoorLH
namespace Go.Proofs.YtjbnjlkoipkpoaaGreatDoor.T
open Go.RowKit Go.Shelf Go.Maps
open Go.Proofs.YtjbnjlkoipkpoaaGreatDoor.B

theorem LsOff.below {B C : Nat} {w w' : World} {v : Value} {ps : List (Int × Int)} (h : LsOff B w v ps) (hb : Below C w w') (hB : B ≤ C) : LsOff B w' v ps :=
  let ⟨ao, cp, h1, h2⟩ := h
  ⟨ao, cp, h1, fun k p hk => let ⟨g, s, h3, h4, h5, h6⟩ := h2 k p hk; ⟨g, s, h3, h4, (hb.cell (p := ⟨g, _, none⟩) (by show g < C; omega)).trans h5, (hb.cell (p := ⟨g, _, none⟩) (by show g < C; omega)).trans h6⟩⟩
theorem LsOff.up {B C : Nat} {w : World} {v : Value} {ps : List (Int × Int)} (h : LsOff B w v ps) (hB : B ≤ C) : LsOff C w v ps :=
  let ⟨ao, cp, h1, h2⟩ := h
  ⟨ao, cp, h1, fun k p hk => let ⟨g, s, h3, h4, h5⟩ := h2 k p hk; ⟨g, s, h3, by omega, h5⟩⟩
def othB (l : Lk) : Bool := !((l.1 : Int) == (l.2.1 : Int))
def RtR (L : List Lk) (N : Nat) (w3 : World) (v i : Value) (wr : World) : Prop :=
  ∃ k : Nat, i = .int .i64 k ∧ k ≤ L.length ∧ Hid (RlRow N wr v ((L.take k).filter othB)) ∧ Hid (Below N w3 wr)
set_option maxRecDepth 100000 in
set_option maxHeartbeats 12800000 in
theorem refRounds_any (ve : Value) (next : Int) (es : List (It × Nat)) (name key : ByteArray) (w : World) (h : EntsAt w.heap.size w ve es) (hlen : es.length ≤ 1000000) (hss : (stsOf es).length ≤ 1000) (hfine : ∀ x ∈ stsOf es, FsFine x.2) (hids : ∀ x ∈ stsOf es, x.1 ≤ 1000000) :
    Calls Tryz.prog 43 #[.agg #[ve, .int .i64 next], .string name, .string key] w fun e w' => ∃ u, e = .returned u ∧ ZRow w.heap.size w' u (roundsL ((linksL name.data.toList key.data.toList (stsOf es)).map prZ) (stsOf es)) ∧ Below w.heap.size w w' := by
  obtain ⟨i0, hi0, hz0, hz1, hz2⟩ := info_parts infoIn
  obtain ⟨j0, hj0, jz0, jz1, jz2⟩ := info_parts infoRl
  have HIDS := Lib.hid hids
  have hm := hss
  have HLN := Lib.hid (links_take (name := name.data.toList) (key := key.data.toList) (all := stsOf es) hfine)
  have HSS : Hid (∀ w', Below w.heap.size w w' → Calls Tryz.prog 53 #[.agg #[ve, .int .i64 next]] w' fun e w2 => ∃ u us, e = .returned u ∧ StsOwn w'.heap.size w.heap.size w2 u (stsOf es) us ∧ Below w'.heap.size w' w2) := Lib.hid fun w' hb => refStanzas_any ve next es w' w.heap.size hb.size (h.below hb (Nat.le_refl _)) (by omega)
  have HOF : Hid (∀ w', Below w.heap.size w w' → Calls Tryz.prog 14 #[.agg #[ve, .int .i64 next], .string name, .string key] w' fun e w2 => ∃ u, e = .returned u ∧ RlRow w'.heap.size w2 u (linksL name.data.toList key.data.toList (stsOf es)) ∧ Below w'.heap.size w' w2) :=
    Lib.hid fun w' hb => refOf_any ve next es name key w' ((h.below hb (Nat.le_refl _)).up hb.size) hlen hss hfine hids
  obtain ⟨eo, ec, hve, -⟩ := h
  subst hve
  clear hfine hlen hss hids
  generalize stsOf es = ss at *
  obtain ⟨L, hL⟩ : ∃ L, linksL name.data.toList key.data.toList ss = L := ⟨_, rfl⟩
  rw [hL] at HOF ⊢
  have hll : L.length ≤ 40040000 := by
    have h1 := HLN.out
    have h2 : ss.length * 40040 ≤ 1000 * 40040 := Nat.mul_le_mul_right _ hm
    rw [← hL]
    unfold linksL
    omega
  obtain ⟨po, hpo⟩ : ∃ po, othP (L.map prZ) = po := ⟨_, rfl⟩
  have hpl : po.length ≤ 40040000 := by rw [← hpo]; unfold othP; exact Nat.le_trans (List.length_filter_le _ _) (by rw [List.length_map]; exact hll)
  have HPO : Hid ((L.filter othB).map prZ = po) := Lib.hid ((oth_pr L).trans hpo)
  have HSN : Hid (∀ (k : Nat) (x : St), ss[k]? = some x → roundsL (L.map prZ) (ss.take (k + 1)) = roundsL (L.map prZ) (ss.take k) ++ (if selfB po x.1 = true then [(x.1 : Int)] else [])) := Lib.hid fun k x hx => hpo ▸ rounds_snoc hx
  obtain ⟨ps, hps⟩ : ∃ ps, L.map prZ = ps := ⟨_, rfl⟩
  rw [hps] at HSN ⊢
  clear HLN hL hpo hps
  go_enter Tryz.func43, Tryz.ntmps43
  obtain ⟨wa, hwa⟩ : ∃ wa, w.alloc (.cells #[.slice eo es.length ec, .int .i64 next] 26) = wa := ⟨_, rfl⟩
  have hba : Below w.heap.size w wa := by rw [← hwa]; exact below_grow1 w _
  have hEa : wa.heap[w.heap.size]? = some (.cells #[.slice eo es.length ec, .int .i64 next] 26 (0, 0)) := by rw [← hwa]; exact heap_alloc_new w _
  have HBA := Lib.hid hba
  have HWA := Lib.hid hwa
  have HEA := Lib.hid hEa
  have hlb : w.heap.size < wa.heap.size := (Array.getElem?_eq_some_iff.1 hEa).1
  have OF := Lib.hid (HOF.out wa hba)
  clear hba hwa hEa HOF
  go_wp2_with fail
  rw [HWA.out]
  refine OF.out.mono ?_
  rintro e w3 ⟨ul, rfl, hR, hb3⟩
  have HB3 := Lib.hid (HBA.out.trans (hb3.mono HBA.out.size))
  have hE3 := (hb3.block _ hlb).trans HEA.out
  obtain ⟨LB, hLB⟩ : ∃ LB, w.heap.size = LB := ⟨_, rfl⟩
  rw [hLB] at hE3
  have HE3 := Lib.hid hE3
  have hl3 := (Array.getElem?_eq_some_iff.1 hE3).1
  have HLB := Lib.hid hLB
  have HR3 := Lib.hid hR
  have HCR : Hid (∀ W, Below w3.heap.size w3 W → ∀ (k : Nat) (l : Lk), L[k]? = some l → ∃ g, (∃ uo uc, ul = .slice uo L.length uc ∧ uo = some ⟨g, 0, none⟩) ∧ W.cell? ⟨g, k * 3, none⟩ = some (.int .i64 l.1) ∧ W.cell? ⟨g, k * 3 + 1, none⟩ = some (.int .i64 l.2.1) ∧ W.cell? ⟨g, k * 3 + 2, none⟩ = some (.string ⟨l.2.2.toArray⟩)) := Lib.hid fun W hW k l hl => by
    have hrow := HR3.out.below hW
    obtain ⟨uo, uc, huo⟩ := own_shape hrow
    obtain ⟨g, hg, hvf⟩ : ∃ g, ul.ownBlock = some g ∧ uo = some ⟨g, 0, none⟩ := by
      rcases hrow.2 with ⟨-, h0⟩ | ⟨g, cp', cur, hz, -⟩
      · have := (List.getElem?_eq_some_iff.1 hl).1; omega
      · rw [huo] at hz
        injection hz with z1 z2 z3
        exact ⟨g, by rw [huo, z1]; rfl, z1⟩
    obtain ⟨g1, g2, g3⟩ := lkC_get L k l hl
    have e1 := World.ownsRow.cells hrow hg _ _ g1
    have e2 := World.ownsRow.cells hrow hg _ _ g2
    have e3 := World.ownsRow.cells hrow hg _ _ g3
    rw [addrO] at e1 e2 e3
    exact ⟨g, ⟨uo, uc, huo, hvf⟩, e1, e2, e3⟩
  obtain ⟨uo, uc, huo⟩ := own_shape hR
  subst huo
  clear hR hb3 OF HEA HBA hE3 hlb
  go_wp2_with fail
  go_loopw [8, 9] (fun v i W => RtR L w3.heap.size w3 v i W) (fun _ i _ => L.length - (intOf i).toNat)
  case atStart => exact ⟨0, rfl, Nat.zero_le _, Lib.hid (World.ownsRow_nil _ _ _ _), Lib.hid (Below.refl _ _)⟩
  case round =>
    obtain ⟨k, rfl, hk, hO, hW⟩ := hrel
    by_cases hlt : k < L.length
    · obtain ⟨l, hl⟩ : ∃ l, L[k]? = some l := ⟨_, List.getElem?_eq_getElem hlt⟩
      obtain ⟨g, ⟨uo', uc', hue, hug⟩, e1, e2, e3⟩ := HCR.out wr hW.out k l hl
      injection hue with z1 z2 z3
      subst z1 hug
      clear z2 z3
      have HX : Hid ((L.take (k + 1)).filter othB = (L.take k).filter othB ++ (if othB l then [l] else [])) := Lib.hid (take_filter hl)
      have htl : ((L.take k).filter othB).length ≤ 40040000 := by
        have h1 := List.length_filter_le othB (L.take k)
        rw [List.length_take] at h1; omega
      have hO3 : RlRow w3.heap.size wr u8 ((L.take k).filter othB) := hO.out
      obtain ⟨base, hbase⟩ : ∃ base, (L.take k).filter othB = base := ⟨_, rfl⟩
      rw [hbase] at hO3 HX htl
      obtain ⟨vo, vc, hvo⟩ := own_shape hO3
      subst hvo
      obtain ⟨l1, l2, l3⟩ := l
      obtain ⟨tw, htw⟩ : ∃ tw : ByteArray, (⟨l3.toArray⟩ : ByteArray) = tw := ⟨_, rfl⟩
      have HTD : Hid (tw = ⟨l3.toArray⟩) := Lib.hid htw.symm
      simp only at e1 e2 e3
      rw [htw] at e3
      have hzr := hW.out.size
      have hkz : (k : Int) < (L.length : Int) := by omega
      have HO3 := Lib.hid hO3
      clear hl hO hbase htw hO3
      by_cases h0 : l1 = l2
      · subst h0
        have hq : ((l1 : Int) != (l1 : Int)) = false := by simp
        have HX2 : Hid ((L.take (k + 1)).filter othB = base) := Lib.hid (by rw [HX.out, show othB (l1, l1, l3) = false by unfold othB; simp, if_neg (by simp), List.append_nil])
        go_wp2_with fail
        go_quiet (fail)
        go_wp2
        exact ⟨⟨k + 1, by go_num, by omega, (by rw [HX2.out]; exact Lib.hid (HO3.out.below (below_dn (Below.refl _ _) nq))), Lib.hid (below_dn hW.out nq)⟩, by simp [intOf]; omega⟩
      · have hq : ((l1 : Int) != (l2 : Int)) = true := by rw [bne_iff_ne]; omega
        have HX2 : Hid ((L.take (k + 1)).filter othB = base ++ [(l1, l2, l3)]) := Lib.hid (by rw [HX.out, show othB (l1, l2, l3) = true by unfold othB; simp; omega, if_pos rfl])
        have HOA : Hid (∀ n, ((wr.drewN n).alloc (.cells #[.int .i64 l1, .int .i64 l2, .string tw] 34)).ownsRow w3.heap.size 34 3 (.slice vo base.length vc) base.length (base.flatMap lkC)) := Lib.hid fun n => World.ownsRow.alloc (HO3.out.below (below_dn (Below.refl _ _) n)) _
        have HNA : Hid (∀ n j y, [Value.int .i64 l1, .int .i64 l2, .string tw][j]? = some y → ((wr.drewN n).alloc (.cells #[.int .i64 l1, .int .i64 l2, .string tw] 34)).cell? ((⟨(wr.drewN n).heap.size, 0, none⟩ : Addr).add j) = some y) := Lib.hid fun n => World.news_of_block (cs := #[.int .i64 l1, .int .i64 l2, .string tw]) (heap_alloc_new (wr.drewN n) _)
        have HBA : Hid (∀ n, Below w3.heap.size w3 ((wr.drewN n).alloc (.cells #[.int .i64 l1, .int .i64 l2, .string tw] 34))) := Lib.hid fun n => (below_dn hW.out n).alloc hzr _
        have hlow : Hid (∀ q, (Value.slice vo base.length vc).ownBlock = some q → w3.heap.size ≤ q) := Lib.hid fun q hq => (World.ownsRow.lt HO3.out q hq).1
        go_wp2_with fail
        go_quiet (fail)
        go_wp2_with (at_builtin; refine wpList_append_lies _ rfl _ _ _ rfl w3.heap.size 34 j0 _ 3 32 Tryz.underlying31 hj0 jz0 jz1 jz2 rfl (by omega) (.slice vo base.length vc) base.length (base.flatMap lkC) rfl (HOA.out nq) ⟨(wr.drewN nq).heap.size, 0, none⟩ 1 1 [.int .i64 l1, .int .i64 l2, .string tw] rfl rfl (HNA.out nq) (by simp [Value.oneCell']) (by omega) (by unfold maxLen; omega) (by omega) (by simp; omega) _ rfl ?_; refine Hid.out ?_)
        refine Lib.hid ?_
        intro gg cap w8 hown8 hgrow hat hlt8
        have HN8 : Hid (RlRow w3.heap.size w8 (.slice (some ⟨gg, 0, none⟩) (base.length + 1) cap) (base ++ [(l1, l2, l3)])) := Lib.hid (RlRow.snoc (c := (l1, l2, l3)) (HTD.out ▸ hown8))
        have HB8 := Lib.hid ((HBA.out nq).grown hgrow (by simp; omega) hlow.out)
        clear hown8 hgrow hat
        go_wp2
        exact ⟨⟨k + 1, by go_num, by omega, (by rw [HX2.out]; exact HN8), HB8⟩, by simp [intOf]; omega⟩
    · have hO4 : RlRow w3.heap.size wr u8 ((L.take k).filter othB) := hO.out
      rw [List.take_of_length_le (by omega)] at hO4
      have HO4 := Lib.hid hO4
      have HB5 := Lib.hid (HB3.out.trans (hW.out.mono HB3.out.size))
      have ST := Lib.hid (HSS.out wr HB5.out)
      have hER := (hW.out.block _ hl3).trans HE3.out
      have c0 : wr.cell? ⟨LB, 0, none⟩ = some (.slice eo es.length ec) := by simp [World.cell?, hER]
      have c1 : wr.cell? ⟨LB, 1, none⟩ = some (.int .i64 next) := by simp [World.cell?, hER]
      have HPL := Lib.hid (HPO.out ▸ hO4.lsAt.off)
      obtain ⟨oo, oc, hoo⟩ := own_shape hO4
      subst hoo
      clear hO hO4 hW hER HSS
      go_wp2_with fail
      refine ST.out.mono ?_
      rintro e w5 ⟨vs, us, rfl, hS, hb5⟩
      have HB6 := Lib.hid (HB5.out.trans (hb5.mono HB5.out.size))
      obtain ⟨so, sc, hsv, hcc⟩ := hS.at_ (Nat.le_trans HB5.out.size hb5.size)
      subst hsv
      have HCC : Hid (∀ W, Below w5.heap.size w5 W → ∀ (k : Nat) (x : St), ss[k]? = some x → ∃ g, so = some ⟨g, 0, none⟩ ∧ W.cell? ⟨g, k * 2, none⟩ = some (.int .i64 x.1)) := Lib.hid fun W hW k x hx => by
        obtain ⟨g, u, hg, hgN, e1, -⟩ := hcc k x hx
        exact ⟨g, hg, (hW.cell (p := ⟨g, k * 2, none⟩) hgN).trans e1⟩
      have HP5 := Lib.hid ((HPL.out.below hb5 (Nat.le_refl _)).up hb5.size)
      have RE : Hid (∀ (W : World) (id : Int), Below w5.heap.size w5 W → Calls Tryz.prog 37 #[.slice oo ((L.filter othB).length) oc, .int .i64 id] W fun e w' => ∃ u zs, e = .returned u ∧ ZRow W.heap.size w' u zs ∧ Reached po id zs ∧ Below W.heap.size W w') :=
        Lib.hid fun W id hW => refReach_any _ po id W ((HP5.out.below hW (Nat.le_refl _)).up hW.size) hpl
      have hltz : ¬ (k : Int) < (L.length : Int) := by omega
      clear hS hb5 hcc ST c0 c1
      go_wp2_with fail
      go_loopw [10, 12] (fun v i W => RdR ps ss w5.heap.size w5 v i W) (fun _ i _ => ss.length - (intOf i).toNat)
      case atStart => exact ⟨0, rfl, Nat.zero_le _, Lib.hid (World.ownsRow_nil _ _ _ _), Lib.hid (Below.refl _ _)⟩
      case round =>
        obtain ⟨j, rfl, hj, hO, hW⟩ := hrel
        by_cases hjl : j < ss.length
        · obtain ⟨x, hx⟩ : ∃ x, ss[j]? = some x := ⟨_, List.getElem?_eq_getElem hjl⟩
          obtain ⟨g, rfl, e1⟩ := HCC.out wr hW.out j x hx
          have hX := HSN.out j x hx
          obtain ⟨id, hid⟩ : ∃ id : Int, (x.1 : Int) = id := ⟨_, rfl⟩
          rw [hid] at e1 hX
          obtain ⟨sb, hsb⟩ : ∃ sb, selfB po id = sb := ⟨_, rfl⟩
          rw [hsb] at hX
          have CS : Hid (∀ (u : Value) (zs : List Int) (B : Nat) (W : World), ZRow B W u zs → Reached po id zs → Calls Tryz.prog 79 #[u, .int .i64 id] W fun e w' => e = .returned (.bool sb) ∧ W = w') := Lib.hid fun u zs B W h1 h2 => hsb ▸ has_self u po zs id B W h1 h2 hpl
          have HX := Lib.hid hX
          have hrl : (roundsL ps (ss.take j)).length ≤ 1000 := by have := rounds_le ps (ss.take j); rw [List.length_take] at this; omega
          have hO3 : ZRow w5.heap.size wr u10 (roundsL ps (ss.take j)) := hO.out
          obtain ⟨base, hbase⟩ : ∃ base, roundsL ps (ss.take j) = base := ⟨_, rfl⟩
          rw [hbase] at hO3 hrl HX
          obtain ⟨bo, bc, hbo⟩ := own_shape hO3
          subst hbo
          have hzr := hW.out.size
          have HW5 := hW
          have HO5 := Lib.hid hO3
          have hgl := World.block_lt_of_cell? _ _ e1
          have RE0 := Lib.hid (RE.out wr.drew id hW.out.drew)
          have hjz : (j : Int) < (ss.length : Int) := by omega
          have q0 := e1
          clear hx hid hX hsb hO hO3 hbase hW e1
          go_wp2_with fail
          go_region_held3 (fun W' => W'.cell? ⟨g, j * 2, none⟩ = some (.int .i64 id)) (first | exact q0 | exact P2)
            (first
              | (go_at_call 37; refine RE0.out.mono ?_; rintro e w6 ⟨x5, zs, rfl, hz5, hr5, hbd⟩; have hb5 : Below wr.heap.size wr w6 := ⟨hbd.os, hbd.tape, hbd.output, hbd.size, hbd.block⟩; have P2 := (hb5.cell (p := ⟨g, j * 2, none⟩) hgl).trans q0; have CT := Lib.hid (CS.out x5 zs _ w6 hz5 hr5); have HB7 := Lib.hid (HW5.out.trans (hb5.mono HW5.out.size)); have HO6 := Lib.hid (ZRow.below HO5.out hb5); clear hbd hb5 hz5 hr5)
              | (go_at_call 79; refine CT.out.mono ?_; rintro e w' ⟨rfl, rfl⟩))
          all_goals
            cases sb with
            | true =>
              have HX2 : Hid (roundsL ps (ss.take (j + 1)) = base ++ [id]) := Lib.hid (by rw [HX.out, if_pos rfl])
              have hz6 := HB7.out.size
              have HOA := Lib.hid (World.ownsRow.alloc HO6.out (.cells #[.int .i64 id] 3))
              have HNA : Hid (∀ q y, [Value.int .i64 id][q]? = some y → (w6.alloc (.cells #[.int .i64 id] 3)).cell? ((⟨w6.heap.size, 0, none⟩ : Addr).add q) = some y) := Lib.hid (World.news_of_block (cs := #[.int .i64 id]) (heap_alloc_new w6 _))
              have HBA := Lib.hid (HB7.out.alloc hz6 (.cells #[.int .i64 id] 3))
              have hlow : Hid (∀ q, (Value.slice bo base.length bc).ownBlock = some q → w5.heap.size ≤ q) := Lib.hid fun q hq => (World.ownsRow.lt HO6.out q hq).1
              go_wp2_with (at_builtin; refine wpList_append_lies _ rfl _ _ _ rfl w5.heap.size 3 i0 _ 1 8 Tryz.underlying68 hi0 hz0 hz1 hz2 rfl (by omega) (.slice bo base.length bc) base.length (zVals base) rfl HOA.out ⟨w6.heap.size, 0, none⟩ 1 1 [.int .i64 id] rfl rfl HNA.out (by simp [Value.oneCell']) (by omega) (by unfold maxLen; omega) (by omega) (by simp; omega) _ rfl ?_; refine Hid.out ?_)
              refine Lib.hid ?_
              intro gg cap w8 hown8 hgrow hat hlt8
              have HN8 := Lib.hid (ZRow.snoc hown8)
              have HB8 := Lib.hid (HBA.out.grown hgrow (by simp; omega) hlow.out)
              clear hown8 hgrow hat
              go_wp2
              exact ⟨⟨j + 1, by go_num, by omega, (by rw [HX2.out]; exact HN8), HB8⟩, by simp [intOf]; omega⟩
            | false =>
              have HX2 : Hid (roundsL ps (ss.take (j + 1)) = base) := Lib.hid (by rw [HX.out, if_neg (by simp), List.append_nil])
              go_wp2
              exact ⟨⟨j + 1, by go_num, by omega, (by rw [HX2.out]; exact HO6), HB7⟩, by simp [intOf]; omega⟩
        · have hO4 : ZRow w5.heap.size wr u10 (roundsL ps (ss.take j)) := hO.out
          rw [List.take_of_length_le (by omega)] at hO4
          have HO4 := Lib.hid (ZRow.low hO4 HB6.out.size)
          have HB7 := Lib.hid (HB6.out.trans (hW.out.mono HB6.out.size))
          have hjz : ¬ (j : Int) < (ss.length : Int) := by omega
          clear hO hO4 hW
          go_wp2_with fail
          go_ret
          have hh := HO4.out
          have hbb := HB7.out
          rw [HLB.out] at hh hbb
          exact ⟨_, rfl, hh, hbb⟩
end Go.Proofs.YtjbnjlkoipkpoaaGreatDoor.T
