/- The reference's counts: stanzakeepref25.Counts, walked. -/
import Derived.Test.YtjbnjlkoipkpoaaGreatDoorTSorts
import Derived.Test.YtjbnjlkoipkpoaaGreatDoorTRefSorted
namespace Go.Proofs.YtjbnjlkoipkpoaaGreatDoor.T
open Go.RowKit Go.Shelf
open Go.Proofs.YtjbnjlkoipkpoaaGreatDoor.B

theorem infoRC : (Tryz.prog.info? 89).map (fun i => (i.zero, i.size, i.bytes)) = some (some (.agg #[.string ⟨#[]⟩, .int .i64 0]), 2, 24) := by kernel_rfl
/-- A row of the reference's counts. -/
def RCnt (B : Nat) (w : World) (v : Value) (t : List Cnt) : Prop := w.ownsRow B 89 2 v t.length (t.flatMap cntC)
theorem RCnt.snoc {B gg cap : Nat} {w : World} {t : List Cnt} {c : L8} {n : Nat} (h : w.ownsRow B 89 2 (.slice (some ⟨gg, 0, none⟩) (t.length + 1) cap) (t.length + 1) (t.flatMap cntC ++ [.string ⟨c.toArray⟩, .int .i64 n])) : RCnt B w (.slice (some ⟨gg, 0, none⟩) (t.length + 1) cap) (t ++ [(c, n)]) := by
  unfold RCnt
  rw [List.length_append, flat_snoc]
  exact h
theorem RCnt.low {B B' : Nat} {w : World} {v : Value} {t : List Cnt} (h : RCnt B w v t) (hB : B' ≤ B) : RCnt B' w v t := by
  refine ⟨h.1, ?_⟩
  rcases h.2 with h0 | ⟨g, cap, cur, hv, hB2, hr⟩
  · exact .inl h0
  · exact .inr ⟨g, cap, cur, hv, by omega, hr⟩
theorem RCnt.below {B : Nat} {w w' : World} {v : Value} {t : List Cnt} (h : RCnt B w v t) (hb : Below w.heap.size w w') : RCnt B w' v t := ownsRow_of_block h fun g hg => hb.block g (World.ownsRow.lt h g hg).2
theorem RCnt.nil (B : Nat) (w : World) : RCnt B w (.slice none 0 0) [] := World.ownsRow_nil _ _ _ _
theorem bumpS_lt {v : L8} {mm : List Cnt} {dn : Bool} {c : Cnt} (h : c.1 < v) : bumpS v (mm, dn) c = (mm ++ [c], dn) := by
  have h1 : ¬ v < c.1 := fun k => l8_irr _ (l8_trans h k)
  have h2 : ¬ c.1 = v := fun k => by rw [k] at h; exact l8_irr _ h
  simp [bumpS, h1, h2]
theorem bumpS_eq {v : L8} {mm : List Cnt} {dn : Bool} {c : Cnt} (h : c.1 = v) : bumpS v (mm, dn) c = (mm ++ [(c.1, c.2 + 1)], true) := by
  simp [bumpS, h]
theorem bumpS_gt {v : L8} {mm : List Cnt} {c : Cnt} (h : v < c.1) : bumpS v (mm, false) c = (mm ++ [(v, 1)] ++ [c], true) := by
  have h2 : ¬ c.1 = v := fun k => by rw [k] at h; exact l8_irr _ h
  simp [bumpS, h, h2]
theorem bumpS_gt' {v : L8} {mm : List Cnt} {c : Cnt} (h : v < c.1) : bumpS v (mm, true) c = (mm ++ [c], true) := by
  have h2 : ¬ c.1 = v := fun k => by rw [k] at h; exact l8_irr _ h
  simp [bumpS, h, h2]
theorem bl_of {a b : ByteArray} (h : a.data.toList < b.data.toList) : Op.bytesLess a.toList b.toList = true ∧ (a.toList == b.toList) = false ∧ Op.bytesLess b.toList a.toList = false ∧ (b.toList == a.toList) = false := by
  have ne : ¬ a = b := fun e => by rw [e] at h; exact l8_irr _ h
  have ng : ¬ b.data.toList < a.data.toList := fun k => l8_irr _ (l8_trans h k)
  refine ⟨?_, ?_, ?_, ?_⟩
  · rw [bytesLess_eq, Lib.toList_data, Lib.toList_data]; exact decide_eq_true h
  · rw [beq_eq_false_iff_ne]; exact fun e => ne (toList_inj e)
  · rw [bytesLess_eq, Lib.toList_data, Lib.toList_data]; exact decide_eq_false ng
  · rw [beq_eq_false_iff_ne]; exact fun e => ne (toList_inj e).symm
def RC1 (key : L8) (N : Nat) (w2 : World) (ss : List St) (v5 i : Value) (wr : World) : Prop :=
  ∃ k : Nat, i = .int .i64 k ∧ k ≤ ss.length ∧ Hid (RCnt N wr v5 (tabOf (valsAll key (ss.take k)))) ∧ Hid (Below N w2 wr)
def RC2 (key : L8) (N : Nat) (w2 : World) (base : List L8) (fs : List Fld) (v5 i : Value) (wr : World) : Prop :=
  ∃ k : Nat, i = .int .i64 k ∧ k ≤ fs.length ∧ Hid (RCnt N wr v5 (tabOf (base ++ (valsOf key (fs.take k)).map (·.data.toList)))) ∧ Hid (Below N w2 wr)
def RC3 (v : L8) (N : Nat) (w3 : World) (t : List Cnt) (v10 vd i : Value) (wr : World) : Prop :=
  ∃ (k : Nat) (mm : List Cnt) (dn : Bool), i = .int .i64 k ∧ vd = .bool dn ∧ k ≤ t.length ∧ mm.length ≤ 2 * k ∧ Hid ((t.take k).foldl (bumpS v) ([], false) = (mm, dn)) ∧ Hid (RCnt N wr v10 mm) ∧ Hid (Below N w3 wr)
set_option maxRecDepth 100000 in
set_option maxHeartbeats 12800000 in
theorem refCounts_any (ve : Value) (next : Int) (es : List (It × Nat)) (key : ByteArray) (w : World) (h : EntsAt w.heap.size w ve es) (hlen : es.length ≤ 1000000) (hss : (stsOf es).length ≤ 1000) (hfine : ∀ x ∈ stsOf es, FsFine x.2) :
    Calls Tryz.prog 48 #[.agg #[ve, .int .i64 next], .string key] w fun e w' => ∃ u, e = .returned u ∧ RCnt w.heap.size w' u (tabOf (valsAll key.data.toList (stsOf es))) ∧ Below w.heap.size w w' := by
  obtain ⟨i0, hi0, hz0, hz1, hz2⟩ := info_parts infoRC
  have HFI := Lib.hid hfine
  have hsl := hss
  have HSS : Hid (∀ w', Below w.heap.size w w' → Calls Tryz.prog 53 #[.agg #[ve, .int .i64 next]] w' fun e w2 => ∃ u us, e = .returned u ∧ StsOwn w'.heap.size w.heap.size w2 u (stsOf es) us ∧ Below w'.heap.size w' w2) := Lib.hid fun w' hb => refStanzas_any ve next es w' w.heap.size hb.size (h.below hb (Nat.le_refl _)) (by omega)
  obtain ⟨eo, ec, hve, -⟩ := h
  subst hve
  clear hfine hlen hss
  generalize stsOf es = ss at *
  go_enter Tryz.func48, Tryz.ntmps48
  obtain ⟨wa, hwa⟩ : ∃ wa, w.alloc (.cells #[.slice eo es.length ec, .int .i64 next] 26) = wa := ⟨_, rfl⟩
  have hba : Below w.heap.size w wa := by rw [← hwa]; exact below_grow1 w _
  have HBA := Lib.hid hba
  have HWA := Lib.hid hwa
  have ST := Lib.hid (HSS.out wa hba)
  clear hba hwa HSS
  go_wp2_with fail
  rw [HWA.out]
  refine ST.out.mono ?_
  rintro e w2 ⟨u, us, rfl, hS, hb2⟩
  have hzw := HBA.out.size
  have hzw2 := hb2.size
  have HB2 := Lib.hid (HBA.out.trans (hb2.mono hzw))
  have hS2 := hS.at_ (Nat.le_trans hzw hzw2)
  obtain ⟨N, hN⟩ : ∃ N, w2.heap.size = N := ⟨_, rfl⟩
  rw [hN] at hS2
  have HSA := Lib.hid hS2
  obtain ⟨so, sc, hsv, -⟩ := hS2
  subst hsv
  have hzN : w.heap.size ≤ N := by omega
  have HN := Lib.hid hN
  clear hS hb2 ST HBA HWA hN hzw hzw2
  go_wp2
  go_loopw [5, 7] (fun v5 i W => RC1 key.data.toList N w2 ss v5 i W) (fun _ i _ => ss.length - (intOf i).toNat)
  case atStart => exact ⟨0, rfl, Nat.zero_le _, Lib.hid (RCnt.nil _ _), Lib.hid (Below.refl _ _)⟩
  case round =>
    obtain ⟨k, rfl, hk, hT, hW⟩ := hrel
    have hzr : N ≤ wr.heap.size := by have := hW.out.size; have := HN.out; omega
    by_cases hlt : k < ss.length
    · obtain ⟨x, hx⟩ : ∃ x, ss[k]? = some x := ⟨_, List.getElem?_eq_getElem hlt⟩
      obtain ⟨so', sc', hsv', hcc⟩ := HSA.out
      injection hsv' with q1 q2 q3
      subst q1
      subst q3
      clear q2
      obtain ⟨g, u, rfl, hgN, e1, e2, hfa⟩ := hcc k x hx
      obtain ⟨fo, fc, hfv, hfc⟩ := hfa
      subst hfv
      have hfx := (HFI.out x (List.mem_of_getElem? hx)).1
      have hfx2 := (HFI.out x (List.mem_of_getElem? hx)).2
      have HVS : Hid (valsAll key.data.toList (ss.take (k + 1)) = valsAll key.data.toList (ss.take k) ++ (valsOf key.data.toList x.2).map (·.data.toList)) := Lib.hid (by rw [List.take_add_one, hx]; exact valsAll_snoc _ _ x)
      have hva := valsAll_len (key := key.data.toList) (ss := ss.take k) (fun y hy => HFI.out y (List.mem_of_mem_take hy))
      have hva2 : (ss.take k).length * 40 ≤ 1000 * 40 := Nat.mul_le_mul_right _ (by rw [List.length_take]; omega)
      obtain ⟨fs, hfs⟩ : ∃ fs, x.2 = fs := ⟨_, rfl⟩
      rw [hfs] at e2 hfc hfx HVS
      obtain ⟨base, hbase⟩ : ∃ base, valsAll key.data.toList (ss.take k) = base := ⟨_, rfl⟩
      rw [hbase] at HVS hT hva
      have hbl : base.length ≤ 40000 := by omega
      have HE2 := Lib.hid e2
      have HFC := Lib.hid hfc
      clear hcc hx e1 e2 hfc hva hva2 hbase hfx2 hfs
      obtain ⟨wo, hwo⟩ : ∃ wo, wo = wr := ⟨_, rfl⟩
      subst hwo
      go_wp2
      go_loopw [5, 8] (fun v5 i W => RC2 key.data.toList N w2 base fs v5 i W) (fun _ i _ => fs.length - (intOf i).toNat)
      case atStart => exact ⟨0, rfl, Nat.zero_le _, Lib.hid (by simpa [valsOf] using hT.out), hW⟩
      case round =>
        clear hT hW hzr
        obtain ⟨j, rfl, hj, hT, hW⟩ := hrel
        have hzr : N ≤ wr.heap.size := by have := hW.out.size; have := HN.out; omega
        have e2 := (hW.out.cell (p := ⟨g, k * 2 + 1, none⟩) hgN).trans HE2.out
        have hkz : (k : Int) < (ss.length : Int) := by omega
        by_cases hjl : j < fs.length
        · obtain ⟨y, hy⟩ : ∃ y, fs[j]? = some y := ⟨_, List.getElem?_eq_getElem hjl⟩
          obtain ⟨q, rfl, hq, h1, h2⟩ := HFC.out j y hy
          have c1 := (hW.out.cell (p := ⟨q, j * 2, none⟩) hq).trans h1
          have c2 := (hW.out.cell (p := ⟨q, j * 2 + 1, none⟩) hq).trans h2
          have et : fs.take (j + 1) = fs.take j ++ [y] := by rw [List.take_add_one, hy]; rfl
          have E1 := Lib.hid (show (valsOf key.data.toList (fs.take (j + 1))).map (·.data.toList) = _ by rw [et, valsOf_snoc, List.map_append])
          have hvo := valsOf_len key.data.toList (fs.take j)
          rw [List.length_take] at hvo
          obtain ⟨yk, yv⟩ := y
          simp only at c1 c2 E1
          obtain ⟨tk, htk⟩ : ∃ tk : ByteArray, (⟨yk.toArray⟩ : ByteArray) = tk := ⟨_, rfl⟩
          obtain ⟨tv, htv⟩ : ∃ tv : ByteArray, (⟨yv.toArray⟩ : ByteArray) = tv := ⟨_, rfl⟩
          have hyk : yk = tk.data.toList := by rw [← htk]
          have hyv : yv = tv.data.toList := by rw [← htv]
          rw [htk] at c1
          rw [htv] at c2 E1
          subst hyk
          subst hyv
          clear h1 h2 hy et htk htv
          by_cases hfk : tk = key
          · subst hfk
            have E2 := E1.out
            rw [if_pos rfl] at E2
            have E3 := Lib.hid E2
            obtain ⟨vs, hvs⟩ : ∃ vs, base ++ (valsOf tk.data.toList (fs.take j)).map (·.data.toList) = vs := ⟨_, rfl⟩
            have hvl : vs.length ≤ 40040 := by rw [← hvs, List.length_append, List.length_map]; omega
            have htl := tabOf_len _ vs rfl
            have hTT : RCnt N wr u5 (tabOf vs) := hvs ▸ hT.out
            have E4 : Hid (base ++ (valsOf tk.data.toList (fs.take (j + 1))).map (·.data.toList) = vs ++ [tv.data.toList]) := Lib.hid (by rw [E3.out, ← hvs]; simp)
            have hBT := Lib.hid (bump_tab vs tv.data.toList)
            obtain ⟨t, ht⟩ : ∃ t, tabOf vs = t := ⟨_, rfl⟩
            have HT0 := Lib.hid ht
            rw [ht] at hTT htl hBT
            obtain ⟨to5, tc5, hv5⟩ := own_shape hTT
            subst hv5
            obtain ⟨w3, hw3⟩ : ∃ w3, wr.alloc (.cells #[.string tk, .string tv] 95) = w3 := ⟨_, rfl⟩
            have hb3 : Below wr.heap.size wr w3 := by rw [← hw3]; exact below_grow1 wr _
            have hE3 : w3.heap[wr.heap.size]? = some (.cells #[.string tk, .string tv] 95 (0, 0)) := by rw [← hw3]; exact heap_alloc_new wr _
            have f1 : w3.cell? ⟨wr.heap.size, 1, none⟩ = some (.string tv) := _root_.Go.Proofs.YtjbnjlkoipkpoaaGreatDoor.B.cell_of_row _ _ 1 _ _ hE3
            have HT3 := Lib.hid (hTT.below hb3)
            have HB3 := Lib.hid (hW.out.trans (hb3.mono hzr))
            have HW3 := Lib.hid hw3
            obtain ⟨F, hF⟩ : ∃ F, wr.heap.size = F := ⟨_, rfl⟩
            obtain ⟨N2, hN2⟩ : ∃ N2, w3.heap.size = N2 := ⟨_, rfl⟩
            have hFN : F < N2 := by have := (Array.getElem?_eq_some_iff.1 hE3).1; omega
            have hNF : N ≤ F := by omega
            have HN2 := Lib.hid hN2
            rw [hF] at f1
            have HF1 := Lib.hid f1
            have HFF := Lib.hid hF
            clear hT hTT E1 E2 E3 hvs ht hvo hb3 hE3 hw3 hN2 hW f1
            obtain ⟨wp, hwp⟩ : ∃ wp, wp = wr := ⟨_, rfl⟩
            subst hwp
            have heq0 : (tk.toList != tk.toList) = false := by simp
            go_wp2
            rw [HW3.out]
            try rw [HFF.out]
            go_loopw [10, 11, 12] (fun v10 vd i W => RC3 tv.data.toList N2 w3 t v10 vd i W) (fun _ _ i _ => t.length - (intOf i).toNat)
            case atStart => exact ⟨0, [], false, rfl, rfl, Nat.zero_le _, by simp, Lib.hid rfl, Lib.hid (RCnt.nil _ _), Lib.hid (Below.refl _ _)⟩
            case round =>
              obtain ⟨n, mm, dn, rfl, rfl, hn, hml, hst, hM, hX⟩ := hrel
              have hz3 : N2 ≤ wr.heap.size := by have := hX.out.size; have := HN2.out; omega
              have f1 := (hX.out.cell (p := ⟨F, 1, none⟩) hFN).trans HF1.out
              have hFl : F < wr.heap.size := by omega
              by_cases hnl : n < t.length
              · obtain ⟨c, hc⟩ : ∃ c, t[n]? = some c := ⟨_, List.getElem?_eq_getElem hnl⟩
                obtain ⟨g1, g2⟩ := cntCells_get t n c hc
                have hcr := ownsRow_of_block HT3.out fun g hg => hX.out.block g (by have := (World.ownsRow.lt HT3.out g hg).2; have := HN2.out; omega)
                obtain ⟨g5, hg5, hao⟩ : ∃ g, (Value.slice to5 t.length tc5).ownBlock = some g ∧ to5 = some ⟨g, 0, none⟩ := by
                  rcases hcr.2 with ⟨-, h0⟩ | ⟨g, cp', cur, hz, -⟩
                  · omega
                  · injection hz with z1 z2 z3
                    exact ⟨g, by rw [z1]; rfl, z1⟩
                have d1 := World.ownsRow.cells hcr hg5 _ _ g1
                have d2 := World.ownsRow.cells hcr hg5 _ _ g2
                rw [addrO] at d1 d2
                subst hao
                have hEn := Lib.hid (bump_snoc tv.data.toList t n c hc ([], false))
                rw [hst.out] at hEn
                obtain ⟨cl, cn⟩ := c
                simp only at d1 d2 hEn
                obtain ⟨tc, rfl⟩ : ∃ tc : ByteArray, tc.data.toList = cl := ⟨⟨cl.toArray⟩, rfl⟩
                have d3 : wr.cell? ⟨g5, n * 2, none⟩ = some (.string tc) := d1
                have HM := Lib.hid hM.out
                have hcn : cn ≤ 1000000 := by
                  have h9 := sum_step hc
                  have h8 := tab_sum _ vs rfl
                  rw [← HT0.out] at h9
                  have := h9.2
                  simp only at this
                  omega
                obtain ⟨mo, mc, hmo⟩ := own_shape hM.out
                subst hmo
                have HMA := Lib.hid (World.ownsRow.alloc hM.out (.cells #[.string tc, .int .i64 cn] 89))
                clear hcr g1 g2 hg5 d1 hc hst hM
                rcases l8_tri tc.data.toList tv.data.toList with hcmp | hcmp | hcmp
                · obtain ⟨l1, l2, -, -⟩ := bl_of hcmp
                  have HLT := Lib.hid hcmp
                  clear hcmp
                  cases dn
                  · have l3 : (Op.bytesLess tc.toList tv.toList || tc.toList == tv.toList) = true := by rw [l1]; rfl
                    have HO := Lib.hid (World.ownsRow.alloc HMA.out (.cells #[.string tc, .int .i64 cn] 89))
                    go_wp2_with (at_builtin; refine wpList_append_lies _ rfl _ _ _ rfl N2 89 i0 _ 2 24 Tryz.underlying84 hi0 hz0 hz1 hz2 rfl (by omega) (.slice mo mm.length mc) mm.length (mm.flatMap cntC) rfl HO.out ⟨wr.heap.size + 1, 0, none⟩ 1 1 [.string tc, .int .i64 cn] rfl rfl (World.news_of_block (cs := #[.string tc, .int .i64 cn]) (by have := heap_alloc_new (wr.alloc (.cells #[.string tc, .int .i64 cn] 89)) (.cells #[.string tc, .int .i64 cn] 89); simpa using this)) (by simp [Value.oneCell']) (by omega) (by unfold maxLen; omega) (by omega) (by simp; omega) _ rfl ?_; refine Hid.out ?_)
                    refine Lib.hid ?_
                    intro gg cap w8 hown8 hgrow _ _
                    have hb0 := ((hX.out.alloc hz3 (.cells #[.string tc, .int .i64 cn] 89)).alloc (by simp; omega) (.cells #[.string tc, .int .i64 cn] 89))
                    have HX8 := Lib.hid (hb0.grown hgrow (by simp; omega) (fun q hq => (World.ownsRow.lt HO.out q hq).1))
                    have HM8 : Hid (RCnt N2 w8 (.slice (some ⟨gg, 0, none⟩) (mm.length + 1) cap) (mm ++ [(tc.data.toList, cn)])) := Lib.hid (RCnt.snoc hown8)
                    clear hown8 hgrow hb0
                    go_wp2
                    exact ⟨⟨n + 1, _, false, by go_num, rfl, by omega, by simp; omega, Lib.hid (hEn.out.trans (bumpS_lt HLT.out)), HM8, HX8⟩, by simp [intOf]; omega⟩
                  · have l3 : (Op.bytesLess tc.toList tv.toList || tc.toList == tv.toList) = true := by rw [l1]; rfl
                    have HO := Lib.hid (World.ownsRow.alloc HMA.out (.cells #[.string tc, .int .i64 cn] 89))
                    go_wp2_with (at_builtin; refine wpList_append_lies _ rfl _ _ _ rfl N2 89 i0 _ 2 24 Tryz.underlying84 hi0 hz0 hz1 hz2 rfl (by omega) (.slice mo mm.length mc) mm.length (mm.flatMap cntC) rfl HO.out ⟨wr.heap.size + 1, 0, none⟩ 1 1 [.string tc, .int .i64 cn] rfl rfl (World.news_of_block (cs := #[.string tc, .int .i64 cn]) (by have := heap_alloc_new (wr.alloc (.cells #[.string tc, .int .i64 cn] 89)) (.cells #[.string tc, .int .i64 cn] 89); simpa using this)) (by simp [Value.oneCell']) (by omega) (by unfold maxLen; omega) (by omega) (by simp; omega) _ rfl ?_; refine Hid.out ?_)
                    refine Lib.hid ?_
                    intro gg cap w8 hown8 hgrow _ _
                    have hb0 := ((hX.out.alloc hz3 (.cells #[.string tc, .int .i64 cn] 89)).alloc (by simp; omega) (.cells #[.string tc, .int .i64 cn] 89))
                    have HX8 := Lib.hid (hb0.grown hgrow (by simp; omega) (fun q hq => (World.ownsRow.lt HO.out q hq).1))
                    have HM8 : Hid (RCnt N2 w8 (.slice (some ⟨gg, 0, none⟩) (mm.length + 1) cap) (mm ++ [(tc.data.toList, cn)])) := Lib.hid (RCnt.snoc hown8)
                    clear hown8 hgrow hb0
                    go_wp2
                    exact ⟨⟨n + 1, _, true, by go_num, rfl, by omega, by simp; omega, Lib.hid (hEn.out.trans (bumpS_lt HLT.out)), HM8, HX8⟩, by simp [intOf]; omega⟩
                · have heq : tc = tv := by
                    have : tc.data = tv.data := Array.ext' hcmp
                    exact ByteArray.ext this
                  subst heq
                  have l1 : (tc.toList == tc.toList) = true := by simp
                  have l3 : (Op.bytesLess tc.toList tc.toList || tc.toList == tc.toList) = true := by rw [l1]; simp
                  clear hcmp
                  cases dn
                  · have HMB := Lib.hid (World.ownsRow.alloc HM.out (.cells #[.string tc, .int .i64 ((cn : Int) + 1)] 89))
                    have HO := Lib.hid (World.ownsRow.alloc HMB.out (.cells #[.string tc, .int .i64 ((cn : Int) + 1)] 89))
                    go_wp2_with (at_builtin; refine wpList_append_lies _ rfl _ _ _ rfl N2 89 i0 _ 2 24 Tryz.underlying84 hi0 hz0 hz1 hz2 rfl (by omega) (.slice mo mm.length mc) mm.length (mm.flatMap cntC) rfl HO.out ⟨wr.heap.size + 1, 0, none⟩ 1 1 [.string tc, .int .i64 ((cn : Int) + 1)] rfl rfl (World.news_of_block (cs := #[.string tc, .int .i64 ((cn : Int) + 1)]) (by have := heap_alloc_new (wr.alloc (.cells #[.string tc, .int .i64 ((cn : Int) + 1)] 89)) (.cells #[.string tc, .int .i64 ((cn : Int) + 1)] 89); simpa using this)) (by simp [Value.oneCell']) (by omega) (by unfold maxLen; omega) (by omega) (by simp; omega) _ rfl ?_; refine Hid.out ?_)
                    refine Lib.hid ?_
                    intro gg cap w8 hown8 hgrow _ _
                    have hb0 := ((hX.out.alloc hz3 (.cells #[.string tc, .int .i64 ((cn : Int) + 1)] 89)).alloc (by simp; omega) (.cells #[.string tc, .int .i64 ((cn : Int) + 1)] 89))
                    have HX8 := Lib.hid (hb0.grown hgrow (by simp; omega) (fun q hq => (World.ownsRow.lt HO.out q hq).1))
                    have HM8 : Hid (RCnt N2 w8 (.slice (some ⟨gg, 0, none⟩) (mm.length + 1) cap) (mm ++ [(tc.data.toList, cn + 1)])) := Lib.hid (RCnt.snoc hown8)
                    clear hown8 hgrow hb0
                    go_wp2
                    exact ⟨⟨n + 1, _, true, by go_num, rfl, by omega, by simp; omega, Lib.hid (hEn.out.trans (bumpS_eq rfl)), HM8, HX8⟩, by simp [intOf]; omega⟩
                  · have HMB := Lib.hid (World.ownsRow.alloc HM.out (.cells #[.string tc, .int .i64 ((cn : Int) + 1)] 89))
                    have HO := Lib.hid (World.ownsRow.alloc HMB.out (.cells #[.string tc, .int .i64 ((cn : Int) + 1)] 89))
                    go_wp2_with (at_builtin; refine wpList_append_lies _ rfl _ _ _ rfl N2 89 i0 _ 2 24 Tryz.underlying84 hi0 hz0 hz1 hz2 rfl (by omega) (.slice mo mm.length mc) mm.length (mm.flatMap cntC) rfl HO.out ⟨wr.heap.size + 1, 0, none⟩ 1 1 [.string tc, .int .i64 ((cn : Int) + 1)] rfl rfl (World.news_of_block (cs := #[.string tc, .int .i64 ((cn : Int) + 1)]) (by have := heap_alloc_new (wr.alloc (.cells #[.string tc, .int .i64 ((cn : Int) + 1)] 89)) (.cells #[.string tc, .int .i64 ((cn : Int) + 1)] 89); simpa using this)) (by simp [Value.oneCell']) (by omega) (by unfold maxLen; omega) (by omega) (by simp; omega) _ rfl ?_; refine Hid.out ?_)
                    refine Lib.hid ?_
                    intro gg cap w8 hown8 hgrow _ _
                    have hb0 := ((hX.out.alloc hz3 (.cells #[.string tc, .int .i64 ((cn : Int) + 1)] 89)).alloc (by simp; omega) (.cells #[.string tc, .int .i64 ((cn : Int) + 1)] 89))
                    have HX8 := Lib.hid (hb0.grown hgrow (by simp; omega) (fun q hq => (World.ownsRow.lt HO.out q hq).1))
                    have HM8 : Hid (RCnt N2 w8 (.slice (some ⟨gg, 0, none⟩) (mm.length + 1) cap) (mm ++ [(tc.data.toList, cn + 1)])) := Lib.hid (RCnt.snoc hown8)
                    clear hown8 hgrow hb0
                    go_wp2
                    exact ⟨⟨n + 1, _, true, by go_num, rfl, by omega, by simp; omega, Lib.hid (hEn.out.trans (bumpS_eq rfl)), HM8, HX8⟩, by simp [intOf]; omega⟩
                · obtain ⟨-, -, l1, l2⟩ := bl_of hcmp
                  have HLT := Lib.hid hcmp
                  have l3 : (Op.bytesLess tc.toList tv.toList || tc.toList == tv.toList) = false := by rw [l1, l2]; rfl
                  clear hcmp
                  cases dn
                  · have HO := Lib.hid (World.ownsRow.alloc HMA.out (.cells #[.string tv, .int .i64 1] 89))
                    go_wp2_with (at_builtin; refine wpList_append_lies _ rfl _ _ _ rfl N2 89 i0 _ 2 24 Tryz.underlying84 hi0 hz0 hz1 hz2 rfl (by omega) (.slice mo mm.length mc) mm.length (mm.flatMap cntC) rfl HO.out ⟨wr.heap.size + 1, 0, none⟩ 1 1 [.string tv, .int .i64 1] rfl rfl (World.news_of_block (cs := #[.string tv, .int .i64 1]) (by have := heap_alloc_new (wr.alloc (.cells #[.string tc, .int .i64 cn] 89)) (.cells #[.string tv, .int .i64 1] 89); simpa using this)) (by simp [Value.oneCell']) (by omega) (by unfold maxLen; omega) (by omega) (by simp; omega) _ rfl ?_; refine Hid.out ?_)
                    refine Lib.hid ?_
                    intro gg cap w8 hown8 hgrow _ _
                    have hb0 := ((hX.out.alloc hz3 (.cells #[.string tc, .int .i64 cn] 89)).alloc (by simp; omega) (.cells #[.string tv, .int .i64 1] 89))
                    have hX8 := hb0.grown hgrow (by simp; omega) (fun q hq => (World.ownsRow.lt HO.out q hq).1)
                    have hM8 : RCnt N2 w8 (.slice (some ⟨gg, 0, none⟩) (mm.length + 1) cap) (mm ++ [(tv.data.toList, 1)]) := RCnt.snoc hown8
                    have hblk : w8.heap[wr.heap.size]? = some (.cells #[.string tc, .int .i64 cn] 89 (0, 0)) := (hgrow.block wr.heap.size (by simp; omega) (fun e => by have := (World.ownsRow.lt HM.out _ e.symm).2; omega)).trans ((Below.heap_alloc _ _ _ (by simp)).trans (heap_alloc_new wr _))
                    have b0 : w8.cell? ⟨wr.heap.size, 0, none⟩ = some (.string tc) := _root_.Go.Proofs.YtjbnjlkoipkpoaaGreatDoor.B.cell_of_row _ _ 0 _ _ hblk
                    have b1 : w8.cell? ⟨wr.heap.size, 1, none⟩ = some (.int .i64 cn) := _root_.Go.Proofs.YtjbnjlkoipkpoaaGreatDoor.B.cell_of_row _ _ 1 _ _ hblk
                    have f8 := (hX8.cell (p := ⟨F, 1, none⟩) hFN).trans HF1.out
                    have hz8 : N2 ≤ w8.heap.size := by have := hX8.size; have := HN2.out; omega
                    have hFl8 : F < w8.heap.size := by omega
                    have hwl8 : wr.heap.size < w8.heap.size := (Array.getElem?_eq_some_iff.1 hblk).1
                    have HX8 := Lib.hid hX8
                    have HM8 := Lib.hid hM8
                    obtain ⟨m2, hm2⟩ : ∃ m2, mm ++ [(tv.data.toList, 1)] = m2 := ⟨_, rfl⟩
                    have hml2 : m2.length = mm.length + 1 := by rw [← hm2]; simp
                    rw [hm2] at HM8
                    have HM9 : Hid (RCnt N2 w8 (.slice (some ⟨gg, 0, none⟩) m2.length cap) m2) := Lib.hid (by rw [hml2]; exact HM8.out)
                    have HO2 := Lib.hid (World.ownsRow.alloc HM9.out (.cells #[.string tc, .int .i64 cn] 89))
                    have HM2 := Lib.hid hm2
                    have hlen2 : mm.length + 1 = m2.length := hml2.symm
                    have hmm2 : m2.length ≤ 1000000 := by omega
                    clear hown8 hgrow hb0 hX8 hM8 HM8 hblk hml2 hm2
                    try rw [hlen2]
                    have HL2 := Lib.hid hlen2
                    clear hlen2
                    go_wp2_with (at_builtin; refine wpList_append_lies _ rfl _ _ _ rfl N2 89 i0 _ 2 24 Tryz.underlying84 hi0 hz0 hz1 hz2 rfl (by omega) (.slice (some ⟨gg, 0, none⟩) m2.length cap) m2.length (m2.flatMap cntC) rfl HO2.out ⟨w8.heap.size, 0, none⟩ 1 1 [.string tc, .int .i64 cn] rfl rfl (World.news_of_block (cs := #[.string tc, .int .i64 cn]) (by have := heap_alloc_new (w8) (.cells #[.string tc, .int .i64 cn] 89); simpa using this)) (by simp [Value.oneCell']) (by omega) (by unfold maxLen; omega) (by omega) (by simp; omega) _ rfl ?_; refine Hid.out ?_)
                    refine Lib.hid ?_
                    intro gg2 cap2 w9 hown9 hgrow9 _ _
                    have hb9 := HX8.out.alloc hz8 (.cells #[.string tc, .int .i64 cn] 89)
                    have HX9 := Lib.hid (hb9.grown hgrow9 (by simp; omega) (fun q hq => (World.ownsRow.lt HO2.out q hq).1))
                    have HM10 : Hid (RCnt N2 w9 (.slice (some ⟨gg2, 0, none⟩) (m2.length + 1) cap2) (m2 ++ [(tc.data.toList, cn)])) := Lib.hid (RCnt.snoc hown9)
                    clear hown9 hgrow9 hb9
                    go_wp2
                    exact ⟨⟨n + 1, _, true, by go_num, rfl, by omega, by have := HL2.out; simp; omega, Lib.hid (hEn.out.trans ((bumpS_gt HLT.out).trans (by rw [HM2.out]))), HM10, HX9⟩, by simp [intOf]; omega⟩
                  · have HO := Lib.hid (World.ownsRow.alloc HMA.out (.cells #[.string tc, .int .i64 cn] 89))
                    go_wp2_with (at_builtin; refine wpList_append_lies _ rfl _ _ _ rfl N2 89 i0 _ 2 24 Tryz.underlying84 hi0 hz0 hz1 hz2 rfl (by omega) (.slice mo mm.length mc) mm.length (mm.flatMap cntC) rfl HO.out ⟨wr.heap.size + 1, 0, none⟩ 1 1 [.string tc, .int .i64 cn] rfl rfl (World.news_of_block (cs := #[.string tc, .int .i64 cn]) (by have := heap_alloc_new (wr.alloc (.cells #[.string tc, .int .i64 cn] 89)) (.cells #[.string tc, .int .i64 cn] 89); simpa using this)) (by simp [Value.oneCell']) (by omega) (by unfold maxLen; omega) (by omega) (by simp; omega) _ rfl ?_; refine Hid.out ?_)
                    refine Lib.hid ?_
                    intro gg cap w8 hown8 hgrow _ _
                    have hb0 := ((hX.out.alloc hz3 (.cells #[.string tc, .int .i64 cn] 89)).alloc (by simp; omega) (.cells #[.string tc, .int .i64 cn] 89))
                    have HX8 := Lib.hid (hb0.grown hgrow (by simp; omega) (fun q hq => (World.ownsRow.lt HO.out q hq).1))
                    have HM8 : Hid (RCnt N2 w8 (.slice (some ⟨gg, 0, none⟩) (mm.length + 1) cap) (mm ++ [(tc.data.toList, cn)])) := Lib.hid (RCnt.snoc hown8)
                    clear hown8 hgrow hb0
                    go_wp2
                    exact ⟨⟨n + 1, _, true, by go_num, rfl, by omega, by simp; omega, Lib.hid (hEn.out.trans (bumpS_gt' HLT.out)), HM8, HX8⟩, by simp [intOf]; omega⟩
              · have hst2 := hst.out
                rw [List.take_of_length_le (by omega)] at hst2
                have hBT2 := hBT.out
                rw [hst2] at hBT2
                clear hst hst2
                cases dn
                · have hBT3 : mm ++ [(tv.data.toList, 1)] = tabOf (vs ++ [tv.data.toList]) := by rw [← hBT2]; rfl
                  have HBT := Lib.hid hBT3
                  obtain ⟨mo, mc, hmo⟩ := own_shape hM.out
                  subst hmo
                  have HO := Lib.hid (World.ownsRow.alloc hM.out (.cells #[.string tv, .int .i64 1] 89))
                  clear hBT2 hBT3
                  go_wp2_with (at_builtin; refine wpList_append_lies _ rfl _ _ _ rfl N2 89 i0 _ 2 24 Tryz.underlying84 hi0 hz0 hz1 hz2 rfl (by omega) (.slice mo mm.length mc) mm.length (mm.flatMap cntC) rfl HO.out ⟨wr.heap.size, 0, none⟩ 1 1 [.string tv, .int .i64 1] rfl rfl (World.news_of_block (cs := #[.string tv, .int .i64 1]) (by have := heap_alloc_new (wr) (.cells #[.string tv, .int .i64 1] 89); simpa using this)) (by simp [Value.oneCell']) (by omega) (by unfold maxLen; omega) (by omega) (by simp; omega) _ rfl ?_; refine Hid.out ?_)
                  refine Lib.hid ?_
                  intro gg cap w8 hown8 hgrow _ _
                  have hb0 := hX.out.alloc hz3 (.cells #[.string tv, .int .i64 1] 89)
                  have hX8 := hb0.grown hgrow (by simp; omega) (fun q hq => (World.ownsRow.lt HO.out q hq).1)
                  have hM8 : RCnt N2 w8 (.slice (some ⟨gg, 0, none⟩) (mm.length + 1) cap) (mm ++ [(tv.data.toList, 1)]) := RCnt.snoc hown8
                  rw [HBT.out] at hM8
                  have HM8 : Hid (RCnt N w8 (.slice (some ⟨gg, 0, none⟩) (mm.length + 1) cap) (tabOf (base ++ (valsOf tk.data.toList (fs.take (j + 1))).map (·.data.toList)))) := Lib.hid (by rw [E4.out]; exact RCnt.low hM8 (by omega))
                  have HX8 := Lib.hid (HB3.out.trans (hX8.mono (by omega)))
                  clear hown8 hgrow hb0 hX8 hM8 hM hX
                  go_wp2
                  exact ⟨⟨j + 1, by go_num, by omega, HM8, HX8⟩, by simp [intOf]; omega⟩
                · have hBT3 : mm = tabOf (vs ++ [tv.data.toList]) := by rw [← hBT2]; rfl
                  have hM8 := hM.out
                  rw [hBT3] at hM8
                  have HM8 : Hid (RCnt N wr _ (tabOf (base ++ (valsOf tk.data.toList (fs.take (j + 1))).map (·.data.toList)))) := Lib.hid (by rw [E4.out]; exact RCnt.low hM8 (by omega))
                  have HX8 := Lib.hid (HB3.out.trans (hX.out.mono (by omega)))
                  clear hBT2 hBT3 hM8 hM hX
                  go_wp2
                  exact ⟨⟨j + 1, by go_num, by omega, HM8, HX8⟩, by simp [intOf]; omega⟩
          · have E2 := E1.out
            rw [if_neg (fun e => hfk (by
              have : tk.data = key.data := Array.ext' e
              exact ByteArray.ext this))] at E2
            have hne : (tk.toList == key.toList) = false := by rw [beq_eq_false_iff_ne]; exact fun e => hfk (toList_inj e)
            have hne2 : (tk.toList != key.toList) = true := by rw [bne_iff_ne]; exact fun e => hfk (toList_inj e)
            have HFK := Lib.hid hfk
            have HT2 : Hid (RCnt N (wr.alloc (.cells #[.string tk, .string tv] 95)) u5 (tabOf (base ++ (valsOf key.data.toList (fs.take (j + 1))).map (·.data.toList)))) := Lib.hid (by
              rw [E2]
              simpa using (show RCnt N wr u5 _ from hT.out).below (below_grow1 wr _))
            have HW2 : Hid (Below N w2 (wr.alloc (.cells #[.string tk, .string tv] 95))) := Lib.hid (hW.out.trans ((below_grow1 wr _).mono hzr))
            clear E1 E2 hfk hT hW
            go_wp2
            exact ⟨⟨j + 1, by go_num, by omega, HT2, HW2⟩, by simp [intOf]; omega⟩
        · have hT2 := hT.out
          rw [List.take_of_length_le (by omega), ← HVS.out] at hT2
          have HT2 := Lib.hid hT2
          clear hT hT2
          go_wp2
          exact ⟨⟨k + 1, by go_num, by omega, HT2, hW⟩, by simp [intOf]; omega⟩
    · have hT2 := hT.out
      rw [List.take_of_length_le (by omega)] at hT2
      have HT2 := Lib.hid (RCnt.low hT2 hzN)
      clear hT hT2
      go_wp2
      go_ret
      exact ⟨_, rfl, HT2.out, HB2.out.trans (hW.out.mono hzN)⟩
end Go.Proofs.YtjbnjlkoipkpoaaGreatDoor.T
