/- The law TableCounts, walked. -/
import Derived.Test.YtjbnjlkoipkpoaaGreatDoorTRefCounts
import Derived.Test.YtjbnjlkoipkpoaaGreatDoorTOf
namespace Go.Proofs.YtjbnjlkoipkpoaaGreatDoor.T
open Go.RowKit Go.Shelf
open Go.Proofs.YtjbnjlkoipkpoaaGreatDoor.B

theorem ints_of {B : Nat} {w : World} {v : Value} {ws : List Nat} (h : NumsAt B w v ws) : IntsAt w.heap.size w v ws := by
  rcases h.2 with ⟨h0, h1⟩ | ⟨g, cap, cur, hv, hb, hg, -⟩
  · refine ⟨none, 0, ?_, fun k f hk => ?_⟩
    · rw [h1, h0]
    · have := (List.getElem?_eq_some_iff.1 hk).1; omega
  · refine ⟨_, cap, hv, fun k n hk => ⟨_, rfl, (Array.getElem?_eq_some_iff.1 hg).1, ?_⟩⟩
    exact World.ownsRow.cells h (g := g) (by rw [hv]; rfl) k (.int .i64 n) (by simp [nums, hk])
theorem counts_nil (key : ByteArray) (w : World) : Calls Tryz.prog 47 #[.pointer none, .string key] w fun e w' => ∃ vo vc, e = .returned (.slice vo 0 vc) ∧ Below w.heap.size w w' :=
  (counts_any none key [] w (by simp) (fun x h => by cases h) (fun w' _ => stanzas_nil w')).mono fun e w' ⟨u, h1, h2, h3⟩ => by
    obtain ⟨vo, vc, hv⟩ := own_shape h2
    have e0 : (tabOf (valsAll key.data.toList [])).length = 0 := rfl
    rw [e0] at hv
    exact ⟨vo, vc, by rw [h1, hv], h3⟩
theorem sorted_nil (key : ByteArray) (w : World) (hr : Ready w) : Calls Tryz.prog 49 #[.pointer none, .string key] w fun e w' => ∃ vo vc, e = .returned (.slice vo 0 vc) ∧ Below w.heap.size w w' :=
  (sorted_any none key [] w (by simp) (fun x h => by cases h) hr (fun w' _ => stanzas_nil w')).mono fun e w' ⟨u, zs, h1, h2, h3, h4⟩ => by
    obtain ⟨vo, vc, hv⟩ := h2.shape
    obtain ⟨_, _, _, hl, _⟩ := h3
    have e0 : zs.length = 0 := hl
    rw [e0] at hv
    exact ⟨vo, vc, by rw [h1, hv], h4⟩
set_option maxRecDepth 100000 in
set_option maxHeartbeats 12800000 in
theorem counts_main (s key : ByteArray) (w : World) (hr : Ready w) (hs : s.size ≤ 9223372036854775807) (hk : key.size ≤ 9223372036854775807) (hL : isLarge s [key] = false) (he : (parse s.data.toList).err = 0) :
    Calls Tryz.prog 9 #[.string s, .string key] w fun e w' => e = .returned (.bool true) ∧ Below w.heap.size w w' := by
  have hL' := hL
  unfold isLarge at hL'
  simp only [Bool.or_eq_false_iff, decide_eq_false_iff_not] at hL'
  obtain ⟨⟨hs2, -⟩, -⟩ := hL'
  have AL := Lib.hid (alive_any w hr)
  have HR := Lib.hid hr
  have hfew := stanzasOf_few s.data.toList
  have hxl := items_bound (s := s.data.toList) (by rw [size_len]; omega)
  have hxl2 : (parse s.data.toList).st.items.length ≤ 1000000 := by omega
  have HFI := Lib.hid (fun (x : St) (hx : x ∈ stanzasOf s.data.toList) => (stanzasOf_fine hx).1)
  have LO := Lib.hid (fun w' => list_ok s (by omega) w' he)
  have RO := Lib.hid (fun w' => refOf_ok s (by omega) w' he)
  have LG : Hid (∀ w1 : World, Calls Tryz.prog 22 #[.string s, .slice (some ⟨w1.heap.size, 0, none⟩) 1 1] (w1.alloc (.cells #[.string key] 9)) fun e w' => e = .returned (.bool false) ∧ (w1.alloc (.cells #[.string key] 9)) = w') := Lib.hid fun w1 => by
    have := large_any s (.slice (some ⟨w1.heap.size, 0, none⟩) 1 1) [key] (w1.alloc (.cells #[.string key] 9)) (one_at key w1) hs (by simp) (fun x hx => by rw [List.mem_singleton.1 hx]; exact hk)
    rw [hL] at this
    exact this
  clear hL hr he
  go_enter Tryz.func9, Tryz.ntmps9
  go_wp2_with fail
  refine AL.out.mono ?_
  rintro e w1 ⟨rfl, hb1⟩
  have HB1 := Lib.hid (hb1.alloc hb1.size (.cells #[.string key] 9))
  have LG1 := Lib.hid (LG.out w1)
  clear hb1 AL LG
  obtain ⟨w1', hw1'⟩ : ∃ w1', w1.alloc (.cells #[.string key] 9) = w1' := ⟨_, rfl⟩
  rw [hw1'] at HB1 LG1
  go_wp2_with fail
  refine LG1.out.mono ?_
  rintro e w' ⟨rfl, rfl⟩
  clear LG1 hw1'
  go_wp2_with fail
  refine (LO.out _).mono ?_
  rintro e w2 ⟨b, rfl, hLI, -, hb2⟩
  have hz1 := HB1.out.size
  have HB2 := Lib.hid (HB1.out.trans (hb2.mono hz1))
  have HLI := Lib.hid hLI
  clear hLI hb2 LO HB1 hz1
  go_wp2_with fail
  refine (RO.out w2).mono ?_
  rintro e w3 ⟨v, rfl, hRL, hb3⟩
  obtain ⟨ve, rfl, hEN⟩ := ents_of hRL
  obtain ⟨eo, ec, hve, -⟩ := id hEN
  subst hve
  have hzw2 := HB2.out.size
  have HB3 := Lib.hid (HB2.out.trans (hb3.mono hzw2))
  have HLI3 := Lib.hid (HLI.out.below hb3)
  obtain ⟨nx, hnx⟩ : ∃ nx : Int, ((1 + recsOf (parse s.data.toList).st.items : Nat) : Int) = nx := ⟨_, rfl⟩
  rw [hnx]
  have hb4 := below_grow1 w3 (.cells #[.slice eo (numberFrom 1 (parse s.data.toList).st.items).length ec, .int .i64 nx] 26)
  have hE4 := heap_alloc_new w3 (.cells #[.slice eo (numberFrom 1 (parse s.data.toList).st.items).length ec, .int .i64 nx] 26)
  obtain ⟨w4, hw4⟩ : ∃ w4, w3.alloc (.cells #[.slice eo (numberFrom 1 (parse s.data.toList).st.items).length ec, .int .i64 nx] 26) = w4 := ⟨_, rfl⟩
  rw [hw4] at hb4 hE4
  have HW4 := Lib.hid hw4
  have HLI4 := Lib.hid (HLI3.out.below hb4)
  have hzw3 := HB3.out.size
  have HB4 := Lib.hid (HB3.out.trans (hb4.mono hzw3))
  have hzw4 := HB4.out.size
  have HR4 := Lib.hid (HR.out.stays HB4.out)
  have hEN4 := (hEN.below hb4 (Nat.le_refl _)).up hb4.size
  obtain ⟨X, hX⟩ : ∃ X, w3.heap.size = X := ⟨_, rfl⟩
  have HXX := Lib.hid hX
  rw [hX] at hE4
  have hXl : X < w4.heap.size := (Array.getElem?_eq_some_iff.1 hE4).1
  have p0 : w4.cell? ⟨X, 0, none⟩ = some (.slice eo (numberFrom 1 (parse s.data.toList).st.items).length ec) := B.cell_of_row _ _ 0 _ _ hE4
  have p1 : w4.cell? ⟨X, 1, none⟩ = some (.int .i64 nx) := B.cell_of_row _ _ 1 _ _ hE4
  have hst : stsOf (numberFrom 1 (parse s.data.toList).st.items) = stanzasOf s.data.toList := rfl
  have SI4 : ∀ W, Below w4.heap.size w4 W → ∀ w', Below W.heap.size W w' → Calls Tryz.prog 30 #[.pointer (some ⟨b, 0, none⟩)] w' (StanzasPost (stanzasOf s.data.toList) w') := fun W hb w' hb' => stanzas_in ((HLI4.out.below hb).below hb') (by omega)
  have hnl := number_len 1 (parse s.data.toList).st.items
  have hitl : (parse s.data.toList).st.items.length ≤ 1000000 := by omega
  have CO : Hid (∀ W, Below w4.heap.size w4 W → Calls Tryz.prog 47 #[.pointer (some ⟨b, 0, none⟩), .string key] W fun e w' => ∃ u, e = .returned u ∧ CntRow W.heap.size w' u (tabOf (valsAll key.data.toList (stanzasOf s.data.toList))) ∧ Below W.heap.size W w') := Lib.hid fun W hb => counts_any (some ⟨b, 0, none⟩) key _ W (by omega) HFI.out (SI4 W hb)
  have SO : Hid (∀ W, Below w4.heap.size w4 W → Calls Tryz.prog 49 #[.pointer (some ⟨b, 0, none⟩), .string key] W fun e w' => ∃ u zs, e = .returned u ∧ NumsAt W.heap.size w' u zs ∧ ByCells key.data.toList (stanzasOf s.data.toList) zs ∧ Below W.heap.size W w') := Lib.hid fun W hb => sorted_any (some ⟨b, 0, none⟩) key _ W (by omega) HFI.out (HR4.out.stays hb) (SI4 W hb)
  have RSO : Hid (∀ W, Below w4.heap.size w4 W → Calls Tryz.prog 50 #[.agg #[.slice eo (numberFrom 1 (parse s.data.toList).st.items).length ec, .int .i64 nx], .string key] W fun e w' => ∃ u zs, e = .returned u ∧ NumsAt W.heap.size w' u zs ∧ ByCells key.data.toList (stanzasOf s.data.toList) zs ∧ Below W.heap.size W w') := Lib.hid fun W hb => refSorted_any _ nx _ key W ((hEN4.below hb (Nat.le_refl _)).up hb.size) (by rw [hnl]; exact hitl) HFI.out
  have RCO : Hid (∀ W, Below w4.heap.size w4 W → Calls Tryz.prog 48 #[.agg #[.slice eo (numberFrom 1 (parse s.data.toList).st.items).length ec, .int .i64 nx], .string key] W fun e w' => ∃ u, e = .returned u ∧ RCnt W.heap.size w' u (tabOf (valsAll key.data.toList (stanzasOf s.data.toList))) ∧ Below W.heap.size W w') := Lib.hid fun W hb => refCounts_any _ nx _ key W ((hEN4.below hb (Nat.le_refl _)).up hb.size) (by rw [hnl]; exact hitl) (by rw [hst]; omega) HFI.out
  have HSN : Hid (∀ W, Below w4.heap.size w4 W → Calls Tryz.prog 49 #[.pointer none, .string key] W fun e w' => ∃ vo vc, e = .returned (.slice vo 0 vc) ∧ Below W.heap.size W w') := Lib.hid fun W hb => sorted_nil key W (HR4.out.stays hb)
  obtain ⟨t, ht⟩ : ∃ t, tabOf (valsAll key.data.toList (stanzasOf s.data.toList)) = t := ⟨_, rfl⟩
  rw [ht] at CO RCO
  obtain ⟨el, hel⟩ : ∃ el, (numberFrom 1 (parse s.data.toList).st.items).length = el := ⟨_, rfl⟩
  rw [hel] at p0 RSO RCO HW4
  rw [hel]
  clear hRL hb3 hnx hb4 hw4 hEN hEN4 HLI HLI3 RO HB2 HB3 hE4 hX SI4 hst hel
  go_wp2_with fail
  try rw [HW4.out]
  try rw [HXX.out]
  go_region_held3 (fun W' => W'.cell? ⟨X, 0, none⟩ = some (.slice eo el ec) ∧ W'.cell? ⟨X, 1, none⟩ = some (.int .i64 nx)) (first | exact ⟨p0, p1⟩ | exact ⟨q0, q1⟩ | exact ⟨r0, r1⟩) (first
    | (go_at_call 48; refine (RCO.out _ B7).mono ?_; rintro e w8 ⟨u8, rfl, hC8, hb8⟩; have B8 := B7.trans (hb8.mono B7.size); have r0 := (B8.cell (p := ⟨X, 0, none⟩) hXl).trans p0; have r1 := (B8.cell (p := ⟨X, 1, none⟩) hXl).trans p1)
    | (go_at_call 47; refine (CO.out _ (Below.refl _ _).drew).mono ?_; rintro e w7 ⟨u7, rfl, hC7, hb7⟩; have B7 := (Below.refl w4.heap.size w4).drew.trans hb7; have q0 := (B7.cell (p := ⟨X, 0, none⟩) hXl).trans p0; have q1 := (B7.cell (p := ⟨X, 1, none⟩) hXl).trans p1))
  obtain ⟨co, cc, hcu⟩ := own_shape hC7
  subst hcu
  obtain ⟨ro, rc, hru⟩ := own_shape hC8
  subst hru
  have hC7b := CntRow.low (ownsRow_of_block hC7 fun g hg => hb8.block g (World.ownsRow.lt hC7 g hg).2 : CntRow _ w8 _ t) (Nat.zero_le _)
  have HC7 := Lib.hid hC7b
  have HC8 := Lib.hid (RCnt.low hC8 (Nat.zero_le _))
  have HB8 := Lib.hid B8
  have htl : t.length ≤ 1000000 := by
    have h1 := tabOf_len _ (valsAll key.data.toList (stanzasOf s.data.toList)) rfl
    have h2 := valsAll_len (key := key.data.toList) HFI.out
    rw [ht] at h1
    omega
  have CN := Lib.hid (counts_nil key w8)
  clear hC7 hC8 hb7 hb8 B7 hC7b CO RCO ht q0 q1 r0 r1
  have hnn : ((t.length : Int) != (t.length : Int)) = false := by simp
  go_wp2_with fail
  refine CN.out.mono ?_
  rintro e w9 ⟨vo1, vc1, rfl, hb9⟩
  have hz8 := HB8.out.size
  have HB9 := Lib.hid (HB8.out.trans (hb9.mono hz8))
  have SN := Lib.hid (HSN.out w9 HB9.out)
  have HC7b := Lib.hid (show CntRow 0 w9 _ t from ownsRow_of_block HC7.out fun g hg => hb9.block g (World.ownsRow.lt HC7.out g hg).2)
  have HC8b := Lib.hid (RCnt.below HC8.out hb9)
  clear hb9 CN HSN HC7 HC8 HB8
  go_wp2_with fail
  refine SN.out.mono ?_
  rintro e w10 ⟨vo2, vc2, rfl, hb10⟩
  have hz9 := HB9.out.size
  have HB10 := Lib.hid (HB9.out.trans (hb10.mono hz9))
  have HC7 := Lib.hid (show CntRow 0 w10 _ t from ownsRow_of_block HC7b.out fun g hg => hb10.block g (World.ownsRow.lt HC7b.out g hg).2)
  have HC8 := Lib.hid (RCnt.below HC8b.out hb10)
  have hz10 := HB10.out.size
  clear hb10 SN HC7b HC8b HB9 hz9 hz8
  go_wp2
  go_loopw [68] (fun i W => ∃ k : Nat, i = .int .i64 k ∧ k ≤ t.length ∧ Hid (Below w10.heap.size w10 W)) (fun i _ => t.length - (intOf i).toNat)
  case atStart => exact ⟨0, rfl, Nat.zero_le _, Lib.hid (Below.refl _ _)⟩
  case round =>
    obtain ⟨k, rfl, hk, hW⟩ := hrel
    have hzr := hW.out.size
    by_cases hkl : k < t.length
    · obtain ⟨c, hc⟩ : ∃ c, t[k]? = some c := ⟨_, List.getElem?_eq_getElem hkl⟩
      obtain ⟨g1, g2⟩ := cntCells_get t k c hc
      have hcr := ownsRow_of_block HC7.out fun g hg => hW.out.block g (World.ownsRow.lt HC7.out g hg).2
      have hrr := ownsRow_of_block HC8.out fun g hg => hW.out.block g (World.ownsRow.lt HC8.out g hg).2
      obtain ⟨g, hg, hao⟩ : ∃ g, (Value.slice co t.length cc).ownBlock = some g ∧ co = some ⟨g, 0, none⟩ := by
        rcases hcr.2 with ⟨-, h0⟩ | ⟨g, cp', cur, hz, -⟩
        · omega
        · injection hz with z1 z2 z3
          exact ⟨g, by rw [z1]; rfl, z1⟩
      obtain ⟨q, hq, hro⟩ : ∃ g, (Value.slice ro t.length rc).ownBlock = some g ∧ ro = some ⟨g, 0, none⟩ := by
        rcases hrr.2 with ⟨-, h0⟩ | ⟨g, cp', cur, hz, -⟩
        · omega
        · injection hz with z1 z2 z3
          exact ⟨g, by rw [z1]; rfl, z1⟩
      have e1 := World.ownsRow.cells hcr hg _ _ g1
      have e2 := World.ownsRow.cells hcr hg _ _ g2
      have d1 := World.ownsRow.cells hrr hq _ _ g1
      have d2 := World.ownsRow.cells hrr hq _ _ g2
      have hql := (World.ownsRow.lt hrr q hq).2
      rw [addrO] at e1 e2 d1 d2
      subst hao
      subst hro
      obtain ⟨tc, htc⟩ : ∃ tc : ByteArray, (⟨c.1.toArray⟩ : ByteArray) = tc := ⟨_, rfl⟩
      obtain ⟨cn, hcn⟩ : ∃ cn, c.2 = cn := ⟨_, rfl⟩
      rw [htc] at e1 d1
      rw [hcn] at e2 d2
      have hkz : (k : Int) < (t.length : Int) := by omega
      clear g1 g2 hcr hrr hg hq hc htc hcn
      go_wp2_with fail
      go_quiet (fail)
      go_wp2
      exact ⟨⟨k + 1, by go_num, by omega, Lib.hid (below_dn (hW.out.trans ((below_grow1 wr _).mono hzr)) nq)⟩, by simp [intOf]; omega⟩
    · have hWR := Lib.hid (HB10.out.trans (hW.out.mono hz10))
      have hwl := hWR.out.size
      have q0 := (hWR.out.cell (p := ⟨X, 0, none⟩) hXl).trans p0
      have q1 := (hWR.out.cell (p := ⟨X, 1, none⟩) hXl).trans p1
      have hXr : X < wr.heap.size := by omega
      clear hW p0 p1
      go_wp2_with fail
      go_region_held3 (fun W' => W'.cell? ⟨X, 0, none⟩ = some (.slice eo el ec) ∧ W'.cell? ⟨X, 1, none⟩ = some (.int .i64 nx)) (first | exact ⟨q0, q1⟩ | exact ⟨r0, r1⟩ | exact ⟨s0, s1⟩ | exact ⟨t0, t1⟩) (first
        | (go_at_call 35; refine (ints_same w12.heap.size u11 u12 zs11 w12 (((ints_of hz11).below hb12 (Nat.le_refl _)).up hb12.size) (by rw [byCells_uniq hby11 hby12]; exact ints_of hz12) hzl).mono ?_; rintro e w13 ⟨rfl, n13, rfl⟩; have B13 := below_dn B12 n13; have t0 := s0; have t1 := s1)
        | (go_at_call 50; refine (RSO.out _ B11).mono ?_; rintro e w12 ⟨u12, zs12, rfl, hz12, hby12, hb12⟩; have B12 := B11.trans (hb12.mono B11.size); have s0 := (hb12.cell (p := ⟨X, 0, none⟩) (Nat.lt_of_lt_of_le hXl B11.size)).trans r0; have s1 := (hb12.cell (p := ⟨X, 1, none⟩) (Nat.lt_of_lt_of_le hXl B11.size)).trans r1)
        | (go_at_call 49; refine (SO.out _ hWR.out.drew).mono ?_; rintro e w11 ⟨u11, zs11, rfl, hz11, hby11, hb11⟩; have B11 := hWR.out.drew.trans (hb11.mono hwl); have hzl : zs11.length ≤ 9223372036854775807 := (by obtain ⟨_, _, _, hl, _⟩ := hby11; omega); have r0 := (hb11.cell (p := ⟨X, 0, none⟩) hXr).trans q0; have r1 := (hb11.cell (p := ⟨X, 1, none⟩) hXr).trans q1))
      have HBF := Lib.hid (HB4.out.trans (B13.mono hzw4))
      clear hz11 hby11 hb11 B11 hz12 hby12 hb12 B12 B13
      go_wp2
      go_ret
      exact ⟨rfl, HBF.out⟩
end Go.Proofs.YtjbnjlkoipkpoaaGreatDoor.T
