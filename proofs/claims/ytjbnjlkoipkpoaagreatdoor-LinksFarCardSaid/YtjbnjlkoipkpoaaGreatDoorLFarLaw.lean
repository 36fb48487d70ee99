/- The law LinksFar, walked. -/
import Derived.Test.YtjbnjlkoipkpoaaGreatDoorLReachLaw
namespace Go.Proofs.YtjbnjlkoipkpoaaGreatDoor.T
open Go.RowKit Go.Shelf Go.Maps
open Go.Proofs.YtjbnjlkoipkpoaaGreatDoor.B

set_option maxHeartbeats 1600000 in
theorem farHas_any (v : Value) (zs : List Int) (n : Int) (w : World) (h : ZsAt w.heap.size w v zs) (hn : zs.length ≤ 100000000) :
    Calls Tryz.prog 38 #[v, .int .i64 n] w fun e w' => e = .returned (.bool (zs.contains n)) ∧ w = w' := by
  obtain ⟨ao, c, rfl, hc⟩ := h
  have HC := Lib.hid hc
  obtain ⟨r, hr⟩ : ∃ r, zs.contains n = r := ⟨_, rfl⟩
  rw [hr]
  have HR : Hid (r = zs.any (fun z => z == n)) := Lib.hid (by
    rw [← hr, Bool.eq_iff_iff]; simp)
  clear hc hr
  go_enter Tryz.func38, Tryz.ntmps38
  go_wp2
  go_loop [9] (fun i => ∃ k : Nat, i = .int .i64 k ∧ k ≤ zs.length ∧ Hid ((zs.take k).any (fun z => z == n) = false)) (fun i => zs.length - (intOf i).toNat)
  case atStart => exact ⟨0, rfl, Nat.zero_le _, Lib.hid rfl⟩
  case round =>
    obtain ⟨k, rfl, hk, ha⟩ := hrel
    by_cases hlt : k < zs.length
    · obtain ⟨z, hz⟩ : ∃ z, zs[k]? = some z := ⟨_, List.getElem?_eq_getElem hlt⟩
      obtain ⟨a, rfl, hg, n0⟩ := HC.out k z hz
      have HZ := Lib.hid hz
      clear hz
      by_cases he : z = n
      · have HH : Hid (true = r) := Lib.hid (by rw [HR.out, eq_comm, List.any_eq_true]; exact ⟨z, List.mem_of_getElem? HZ.out, by simpa using he⟩)
        subst he
        clear ha
        go_wp2
        go_ret
        exact ⟨by rw [← HH.out]; rfl, rfl⟩
      · have he2 : (z == n) = false := by rw [beq_eq_false_iff_ne]; exact he
        have HT := Lib.hid (zfind_take ha.out HZ.out (p := fun z => z == n) he2)
        clear ha
        go_wp2
        exact ⟨⟨k + 1, by go_num, by omega, HT⟩, by simp [intOf]; omega⟩
    · have h1 := ha.out
      rw [List.take_of_length_le (by omega)] at h1
      have HH : Hid (false = r) := Lib.hid (by rw [HR.out, h1])
      clear ha h1
      go_wp2
      go_ret
      exact ⟨by rw [← HH.out]; rfl, rfl⟩
set_option maxRecDepth 100000 in
set_option maxHeartbeats 6400000 in
theorem farL_main (v : Value) (t : List ZLk) (id : Int) (w : World) (h : LinkArg w v t) (hid : (Lit.int .i64 id).wf = true) (hr : Ready w) (h60 : t.length ≤ 40) :
    Calls Tryz.prog 6 #[v, .int .i64 id] w fun e w' => e = .returned (.bool true) ∧ Below w.heap.size w w' := by
  obtain ⟨i0, hi0, hz0, hz1, hz2⟩ := info_parts infoLk
  have AL := Lib.hid (alive30_any w hr)
  have hwf : ∀ p ∈ t.map prI, WfP p := fun p hp => by obtain ⟨l, hl, rfl⟩ := List.mem_map.1 hp; exact h.wf l hl
  have RE : Hid (∀ (u : Value) (B : Nat) (W : World) (n : Int), ZlRow B W u t → (Lit.int .i64 n).wf = true → Calls Tryz.prog 36 #[u, .int .i64 n] W fun e w' => ∃ x zs, e = .returned x ∧ ZRow W.heap.size w' x zs ∧ Reached (t.map prI) n zs ∧ Below W.heap.size W w') :=
    Lib.hid fun u B W n hu hn => reach_any u (t.map prI) n W (LwAt.ls hu) (by rw [List.length_map]; omega) hwf hn
  have HWF := Lib.hid hwf
  have HIDW := Lib.hid hid
  obtain ⟨ao, cp, rfl, hc⟩ := h.at_
  have HC := Lib.hid hc
  have hml : (t.map prI).length ≤ 60 := by rw [List.length_map]; omega
  clear h hwf hid hr hc
  obtain ⟨ps, hps⟩ : ∃ ps, t.map prI = ps := ⟨_, rfl⟩
  rw [hps] at RE hml HWF
  have HPS := Lib.hid hps
  clear hps
  go_enter Tryz.func6, Tryz.ntmps6
  go_wp2_with fail
  refine AL.out.mono ?_
  rintro e w1 ⟨rfl, hb1⟩
  have HB1 := Lib.hid hb1
  have hm2 := World.ownsRow_made (base := w1.heap.size) (e := 66) (size := 3) w1 #[] 0 (Nat.le_refl _) (Nat.zero_le _) rfl
  obtain ⟨w2, hw2⟩ : ∃ w2, w1.alloc (.cells #[] 66) = w2 := ⟨_, rfl⟩
  rw [hw2] at hm2
  have hb2 : Below w1.heap.size w1 w2 := by rw [← hw2]; exact below_grow1 w1 _
  have HM2 : Hid (ZlRow w1.heap.size w2 (.slice (some ⟨w1.heap.size, 0, none⟩) 0 0) []) := Lib.hid hm2
  have HB2 := Lib.hid hb2
  have HW2 := Lib.hid hw2
  obtain ⟨N, hN⟩ : ∃ N, w1.heap.size = N := ⟨_, rfl⟩
  rw [hN] at HM2 HB2
  have HN := Lib.hid hN
  clear hb1 hm2 hb2 hw2 AL
  go_wp2_with fail
  rw [HW2.out]
  try simp only [hN]
  clear hN
  go_loopw [5, 7, 24] (fun v _ i W => CpR t N w1 v i W) (fun _ _ i _ => t.length - (intOf i).toNat)
  case atStart => exact ⟨0, rfl, Nat.zero_le _, HM2, HB2⟩
  case round =>
    clear HM2
    obtain ⟨k, rfl, hk, hO, hW⟩ := hrel
    have hbw : Below w.heap.size w wr := HB1.out.trans (hW.out.mono (by have := HB1.out.size; have := HN.out; omega))
    by_cases hlt : k < t.length
    · obtain ⟨l, hl⟩ : ∃ l, t[k]? = some l := ⟨_, List.getElem?_eq_getElem hlt⟩
      obtain ⟨g, off, rfl, hg, e1, e2, e3⟩ := HC.out k l hl
      have e1 := (hbw.cell (p := ⟨g, off + k * 3, none⟩) hg).trans e1
      have e2 := (hbw.cell (p := ⟨g, off + k * 3 + 1, none⟩) hg).trans e2
      have e3 := (hbw.cell (p := ⟨g, off + k * 3 + 2, none⟩) hg).trans e3
      have HX : Hid (t.take (k + 1) = t.take k ++ [l]) := Lib.hid (by rw [List.take_add_one, hl]; rfl)
      have htl : (t.take k).length ≤ 60 := by rw [List.length_take]; omega
      obtain ⟨l1, l2, l3⟩ := l
      simp only at e1 e2 e3
      have hO3 : ZlRow N wr u5 (t.take k) := hO.out
      obtain ⟨base, hbase⟩ : ∃ base, t.take k = base := ⟨_, rfl⟩
      rw [hbase] at hO3 HX htl
      obtain ⟨vo, vc, hvo⟩ := own_shape hO3
      subst hvo
      have hzr := hW.out.size
      have hzN : N ≤ w1.heap.size := by have := HN.out; omega
      have hNr : N ≤ wr.heap.size := Nat.le_trans hzN hzr
      have HOA := Lib.hid (World.ownsRow.alloc (World.ownsRow.alloc hO3 (.cells #[.int .i64 l1, .int .i64 l2, .string l3] 34)) (.cells #[.int .i64 l1, .int .i64 l2, .string l3] 66))
      have HNA : Hid (∀ j y, [Value.int .i64 l1, .int .i64 l2, .string l3][j]? = some y → ((wr.alloc (.cells #[.int .i64 l1, .int .i64 l2, .string l3] 34)).alloc (.cells #[.int .i64 l1, .int .i64 l2, .string l3] 66)).cell? ((⟨wr.heap.size + 1, 0, none⟩ : Addr).add j) = some y) := Lib.hid (World.news_of_block (cs := #[.int .i64 l1, .int .i64 l2, .string l3]) (by have := heap_alloc_new (wr.alloc (.cells #[.int .i64 l1, .int .i64 l2, .string l3] 34)) (.cells #[.int .i64 l1, .int .i64 l2, .string l3] 66); simpa using this))
      have HBA := Lib.hid ((hW.out.alloc hNr (.cells #[.int .i64 l1, .int .i64 l2, .string l3] 34)).alloc (by simp; omega) (.cells #[.int .i64 l1, .int .i64 l2, .string l3] 66))
      have hlow : Hid (∀ q, (Value.slice vo base.length vc).ownBlock = some q → N ≤ q) := Lib.hid fun q hq => (World.ownsRow.lt hO3 q hq).1
      have hkz : (k : Int) < (t.length : Int) := by omega
      clear hl hO hO3 hW hbw hbase
      go_wp2_with (at_builtin; refine wpList_append_lies _ rfl _ _ _ rfl N 66 i0 _ 3 32 Tryz.underlying29 hi0 hz0 hz1 hz2 rfl (by omega) (.slice vo base.length vc) base.length (base.flatMap zlC) rfl HOA.out ⟨wr.heap.size + 1, 0, none⟩ 1 1 [.int .i64 l1, .int .i64 l2, .string l3] rfl rfl HNA.out (by simp [Value.oneCell']) (by omega) (by unfold maxLen; omega) (by omega) (by simp; omega) _ rfl ?_; refine Hid.out ?_)
      refine Lib.hid ?_
      intro gg cap w8 hown8 hgrow hat hlt8
      have HN8 := Lib.hid (ZlRow.snoc (c := (l1, l2, l3)) hown8)
      have HB8 := Lib.hid (HBA.out.grown hgrow (by simp; omega) hlow.out)
      clear hown8 hgrow hat
      go_wp2_with fail
      exact ⟨⟨k + 1, by go_num, by omega, (by rw [HX.out]; exact HN8), HB8⟩, by simp [intOf]; omega⟩
    · have hO4 : ZlRow N wr u5 (t.take k) := hO.out
      rw [List.take_of_length_le (by omega)] at hO4
      have HO4 := Lib.hid hO4
      have HBW := Lib.hid hbw
      obtain ⟨uo, uc, huo⟩ := own_shape hO4
      subst huo
      have R1 := Lib.hid (RE.out _ N wr id hO4 HIDW.out)
      have hltz : ¬ (k : Int) < (t.length : Int) := by omega
      clear hO hO4 hW hbw
      go_wp2_with fail
      refine R1.out.mono ?_
      rintro e w3 ⟨x, zs, rfl, hx, hzs, hb3⟩
      have HB3 := Lib.hid (HBW.out.trans (hb3.mono HBW.out.size))
      have HX3 := Lib.hid hx
      have HZ3 := Lib.hid hzs
      have HO5 := Lib.hid (HO4.out.below hb3)
      have hzl := hzs.len
      obtain ⟨xo, xc, hxo⟩ := own_shape hx
      subst hxo
      have HCX : Hid (∀ W, Below w3.heap.size w3 W → ∀ (k : Nat) (z : Int), zs[k]? = some z → ∃ g, xo = some ⟨g, 0, none⟩ ∧ W.cell? ⟨g, k, none⟩ = some (.int .i64 z)) := Lib.hid fun W hW k z hz => by
        have hrow := HX3.out.below hW
        obtain ⟨g, hg, hvf⟩ : ∃ g, (Value.slice xo zs.length xc).ownBlock = some g ∧ xo = some ⟨g, 0, none⟩ := by
          rcases hrow.2 with ⟨-, h0⟩ | ⟨g, cp', cur, hz, -⟩
          · have := (List.getElem?_eq_some_iff.1 hz).1; omega
          · injection hz with z1 z2 z3
            exact ⟨g, by rw [z1]; rfl, z1⟩
        have := World.ownsRow.cells hrow hg k (.int .i64 z) (by unfold zVals; rw [List.getElem?_map, hz]; rfl)
        rw [addrO] at this
        exact ⟨g, hvf, this⟩
      have HHA : Hid (∀ W, Below w3.heap.size w3 W → ∀ n, Calls Tryz.prog 38 #[.slice xo zs.length xc, .int .i64 n] W fun e w' => e = .returned (.bool (zs.contains n)) ∧ W = w') := Lib.hid fun W hW n => farHas_any _ zs n W (ZRow.at_ (HX3.out.below hW)) (by omega)
      clear hx hzs hb3 R1
      go_wp2_with fail
      go_loopw [10, 11, 13, 38] (fun _ _ _ i W => ∃ k : Nat, i = .int .i64 k ∧ k ≤ zs.length ∧ Hid (Below w3.heap.size w3 W)) (fun _ _ _ i _ => zs.length - (intOf i).toNat)
      case atStart => exact ⟨0, rfl, Nat.zero_le _, Lib.hid (Below.refl _ _)⟩
      case round =>
        obtain ⟨j, rfl, hj, hV⟩ := hrel
        by_cases hjl : j < zs.length
        · obtain ⟨z, hz⟩ : ∃ z, zs[j]? = some z := ⟨_, List.getElem?_eq_getElem hjl⟩
          obtain ⟨g, rfl, e1⟩ := HCX.out wr hV.out j z hz
          have hrz := (HZ3.out.2 z).1 (List.mem_of_getElem? hz)
          have HRZ := Lib.hid hrz
          have hz0 : (z == 0) = false := by rw [beq_eq_false_iff_ne]; exact hrz.ne
          have hzw : (Lit.int .i64 z).wf = true := by
            obtain ⟨p, hp, e⟩ := hrz.mem
            exact e ▸ (HWF.out p hp).2
          have R2 := Lib.hid (RE.out _ N wr z (HO5.out.below hV.out) hzw)
          have hjz : (j : Int) < (zs.length : Int) := by omega
          have HPREV : Hid (∀ m, j = m + 1 → ∃ y, wr.cell? ⟨g, m, none⟩ = some (.int .i64 y) ∧ y < z) := Lib.hid fun m hm => by
            obtain ⟨y, hy⟩ : ∃ y, zs[m]? = some y := ⟨_, List.getElem?_eq_getElem (by omega)⟩
            obtain ⟨g', hg', c1⟩ := HCX.out wr hV.out m y hy
            injection hg' with hg'
            injection hg' with hg' _ _
            subst hg'
            refine ⟨y, c1, ?_⟩
            obtain ⟨l1, q1⟩ := List.getElem?_eq_some_iff.1 hy
            obtain ⟨l2, q2⟩ := List.getElem?_eq_some_iff.1 hz
            have := List.pairwise_iff_getElem.1 HZ3.out.1 m j l1 l2 (by omega)
            rw [q1, q2] at this
            exact this
          have INNER : Hid (∀ zs2 : List Int, Reached ps z zs2 → ∀ y ∈ zs2, zs.contains y = true) := Lib.hid fun zs2 h2 y hy => by
            have := (HZ3.out.2 y).2 (HRZ.out.trans ((h2.2 y).1 hy))
            simpa using this
          obtain ⟨wo, hwo⟩ : ∃ wo, wo = wr := ⟨_, rfl⟩
          subst hwo
          have HV := hV
          clear hz hrz hzw hV
          have key : ∀ (P : Prop), P → P := fun _ h => h
          rcases Nat.eq_zero_or_pos j with hj0 | hj0
          · subst hj0
            clear HPREV
            go_wp2_with fail
            refine R2.out.mono ?_
            rintro e w4 ⟨y, zs2, rfl, hy, hzs2, hb4⟩
            obtain ⟨yo, yc, hyo⟩ := own_shape hy
            subst hyo
            have HY := Lib.hid hy
            have HB4 := Lib.hid (HV.out.trans (hb4.mono HV.out.size))
            have HIN := Lib.hid (INNER.out zs2 hzs2)
            have HCY : Hid (∀ W, Below w4.heap.size w4 W → ∀ (k : Nat) (z : Int), zs2[k]? = some z → ∃ g, yo = some ⟨g, 0, none⟩ ∧ W.cell? ⟨g, k, none⟩ = some (.int .i64 z)) := Lib.hid fun W hW k z hz => by
              have hrow := HY.out.below hW
              obtain ⟨g, hg, hvf⟩ : ∃ g, (Value.slice yo zs2.length yc).ownBlock = some g ∧ yo = some ⟨g, 0, none⟩ := by
                rcases hrow.2 with ⟨-, h0⟩ | ⟨g, cp', cur, hz, -⟩
                · have := (List.getElem?_eq_some_iff.1 hz).1; omega
                · injection hz with z1 z2 z3
                  exact ⟨g, by rw [z1]; rfl, z1⟩
              have := World.ownsRow.cells hrow hg k (.int .i64 z) (by unfold zVals; rw [List.getElem?_map, hz]; rfl)
              rw [addrO] at this
              exact ⟨g, hvf, this⟩
            have hz2l := hzs2.len
            clear hy hb4 hzs2 R2 INNER
            go_wp2_with fail
            go_loopw [13, 62] (fun _ i W => ∃ k : Nat, i = .int .i64 k ∧ k ≤ zs2.length ∧ Hid (Below w4.heap.size w4 W)) (fun _ i _ => zs2.length - (intOf i).toNat)
            case atStart => exact ⟨0, rfl, Nat.zero_le _, Lib.hid (Below.refl _ _)⟩
            case round =>
              obtain ⟨q, rfl, hq, hU⟩ := hrel
              by_cases hql : q < zs2.length
              · obtain ⟨y2, hy2⟩ : ∃ y, zs2[q]? = some y := ⟨_, List.getElem?_eq_getElem hql⟩
                obtain ⟨gy, rfl, c2⟩ := HCY.out wr hU.out q y2 hy2
                have HC2 := HHA.out wr (HB4.out.trans (hU.out.mono HB4.out.size)) y2
                rw [HIN.out y2 (List.mem_of_getElem? hy2)] at HC2
                have HC2 := Lib.hid HC2
                have hqz : (q : Int) < (zs2.length : Int) := by omega
                clear hy2
                go_wp2_with fail
                refine HC2.out.mono ?_
                rintro e w' ⟨rfl, rfl⟩
                go_wp2_with fail
                exact ⟨⟨q + 1, by go_num, by omega, hU⟩, by simp [intOf]; omega⟩
              · have HB5 := Lib.hid (HB4.out.trans (hU.out.mono HB4.out.size))
                have hqz : ¬ (q : Int) < (zs2.length : Int) := by omega
                clear hU
                go_wp2_with fail
                exact ⟨⟨0 + 1, by go_num, by omega, HB5⟩, by simp [intOf]; omega⟩
          · obtain ⟨m, rfl⟩ : ∃ m, j = m + 1 := ⟨j - 1, by omega⟩
            obtain ⟨y, c1, hyz⟩ := HPREV.out m rfl
            have hyz2 : ¬ z ≤ y := by omega
            clear HPREV
            go_wp2_with fail
            refine R2.out.mono ?_
            rintro e w4 ⟨y, zs2, rfl, hy, hzs2, hb4⟩
            obtain ⟨yo, yc, hyo⟩ := own_shape hy
            subst hyo
            have HY := Lib.hid hy
            have HB4 := Lib.hid (HV.out.trans (hb4.mono HV.out.size))
            have HIN := Lib.hid (INNER.out zs2 hzs2)
            have HCY : Hid (∀ W, Below w4.heap.size w4 W → ∀ (k : Nat) (z : Int), zs2[k]? = some z → ∃ g, yo = some ⟨g, 0, none⟩ ∧ W.cell? ⟨g, k, none⟩ = some (.int .i64 z)) := Lib.hid fun W hW k z hz => by
              have hrow := HY.out.below hW
              obtain ⟨g, hg, hvf⟩ : ∃ g, (Value.slice yo zs2.length yc).ownBlock = some g ∧ yo = some ⟨g, 0, none⟩ := by
                rcases hrow.2 with ⟨-, h0⟩ | ⟨g, cp', cur, hz, -⟩
                · have := (List.getElem?_eq_some_iff.1 hz).1; omega
                · injection hz with z1 z2 z3
                  exact ⟨g, by rw [z1]; rfl, z1⟩
              have := World.ownsRow.cells hrow hg k (.int .i64 z) (by unfold zVals; rw [List.getElem?_map, hz]; rfl)
              rw [addrO] at this
              exact ⟨g, hvf, this⟩
            have hz2l := hzs2.len
            clear hy hb4 hzs2 R2 INNER
            go_wp2_with fail
            go_loopw [13, 62] (fun _ i W => ∃ k : Nat, i = .int .i64 k ∧ k ≤ zs2.length ∧ Hid (Below w4.heap.size w4 W)) (fun _ i _ => zs2.length - (intOf i).toNat)
            case atStart => exact ⟨0, rfl, Nat.zero_le _, Lib.hid (Below.refl _ _)⟩
            case round =>
              obtain ⟨q, rfl, hq, hU⟩ := hrel
              by_cases hql : q < zs2.length
              · obtain ⟨y2, hy2⟩ : ∃ y, zs2[q]? = some y := ⟨_, List.getElem?_eq_getElem hql⟩
                obtain ⟨gy, rfl, c2⟩ := HCY.out wr hU.out q y2 hy2
                have HC2 := HHA.out wr (HB4.out.trans (hU.out.mono HB4.out.size)) y2
                rw [HIN.out y2 (List.mem_of_getElem? hy2)] at HC2
                have HC2 := Lib.hid HC2
                have hqz : (q : Int) < (zs2.length : Int) := by omega
                clear hy2
                go_wp2_with fail
                refine HC2.out.mono ?_
                rintro e w' ⟨rfl, rfl⟩
                go_wp2_with fail
                exact ⟨⟨q + 1, by go_num, by omega, hU⟩, by simp [intOf]; omega⟩
              · have HB5 := Lib.hid (HB4.out.trans (hU.out.mono HB4.out.size))
                have hqz : ¬ (q : Int) < (zs2.length : Int) := by omega
                clear hU
                go_wp2_with fail
                exact ⟨⟨m + 1 + 1, by go_num, by omega, HB5⟩, by simp [intOf]; omega⟩
        · have HBV := Lib.hid (HB3.out.trans (hV.out.mono HB3.out.size))
          have HVO := hV
          have HCL : Hid (∀ W, Below wr.heap.size wr W → ∀ (k : Nat) (l : ZLk), t[k]? = some l → ∃ g, uo = some ⟨g, 0, none⟩ ∧ W.cell? ⟨g, k * 3, none⟩ = some (.int .i64 l.1) ∧ W.cell? ⟨g, k * 3 + 1, none⟩ = some (.int .i64 l.2.1) ∧ W.cell? ⟨g, k * 3 + 2, none⟩ = some (.string l.2.2)) := Lib.hid fun W hW k l hl => by
            have hrow := (HO5.out.below hV.out).below hW
            obtain ⟨g, hg, hvf⟩ : ∃ g, (Value.slice uo t.length uc).ownBlock = some g ∧ uo = some ⟨g, 0, none⟩ := by
              rcases hrow.2 with ⟨-, h0⟩ | ⟨g, cp', cur, hz, -⟩
              · have := (List.getElem?_eq_some_iff.1 hl).1; omega
              · injection hz with z1 z2 z3
                exact ⟨g, by rw [z1]; rfl, z1⟩
            obtain ⟨g1, g2, g3⟩ := zlC_get t k l hl
            have e1 := World.ownsRow.cells hrow hg _ _ g1
            have e2 := World.ownsRow.cells hrow hg _ _ g2
            have e3 := World.ownsRow.cells hrow hg _ _ g3
            rw [addrO] at e1 e2 e3
            exact ⟨g, hvf, e1, e2, e3⟩
          have hjz : ¬ (j : Int) < (zs.length : Int) := by omega
          obtain ⟨wo, hwo⟩ : ∃ wo, wo = wr := ⟨_, rfl⟩
          subst hwo
          clear hV
          go_wp2_with fail
          go_loopw [15, 75] (fun _ i W => ∃ k : Nat, i = .int .i64 k ∧ k ≤ t.length ∧ Hid (Below wo.heap.size wo W)) (fun _ i _ => t.length - (intOf i).toNat)
          case atStart => exact ⟨0, rfl, Nat.zero_le _, Lib.hid (Below.refl _ _)⟩
          case round =>
            obtain ⟨q, rfl, hq, hU⟩ := hrel
            by_cases hql : q < t.length
            · obtain ⟨l, hl⟩ : ∃ l, t[q]? = some l := ⟨_, List.getElem?_eq_getElem hql⟩
              obtain ⟨gl, rfl, d1, d2, d3⟩ := HCL.out wr hU.out q l hl
              have hlm : prI l ∈ ps := by rw [← HPS.out]; exact List.mem_map.2 ⟨l, List.mem_of_getElem? hl, rfl⟩
              obtain ⟨l1, l2, l3⟩ := l
              simp only at d1 d2 d3
              have HLM := Lib.hid hlm
              obtain ⟨W1, hW1⟩ : ∃ W1, wr.alloc (.cells #[.int .i64 l1, .int .i64 l2, .string l3] 66) = W1 := ⟨_, rfl⟩
              have hb4 : Below wr.heap.size wr W1 := by rw [← hW1]; exact below_grow1 wr _
              have hE : W1.heap[wr.heap.size]? = some (.cells #[.int .i64 l1, .int .i64 l2, .string l3] 66 (0, 0)) := by rw [← hW1]; exact heap_alloc_new wr _
              have q0 : W1.cell? ⟨wr.heap.size, 0, none⟩ = some (.int .i64 l1) := _root_.Go.Proofs.YtjbnjlkoipkpoaaGreatDoor.B.cell_of_row _ _ 0 _ _ hE
              have q1 : W1.cell? ⟨wr.heap.size, 1, none⟩ = some (.int .i64 l2) := _root_.Go.Proofs.YtjbnjlkoipkpoaaGreatDoor.B.cell_of_row _ _ 1 _ _ hE
              have HU4 := Lib.hid (hU.out.trans (hb4.mono hU.out.size))
              have HC2 := HHA.out W1 (HVO.out.trans (HU4.out.mono HVO.out.size)) l2
              have HC2 := Lib.hid HC2
              have HW1 := Lib.hid hW1
              have hqz : (q : Int) < (t.length : Int) := by omega
              clear hl hlm hb4 hE hW1 hU
              by_cases c0 : l1 = id
              · subst c0
                by_cases c1 : l2 = 0
                · have hq0 : (l2 != 0) = false := by rw [c1]; rfl
                  clear HC2 c1
                  go_wp2_with fail
                  rw [HW1.out]
                  go_wp2_with fail
                  exact ⟨⟨q + 1, by go_num, by omega, HU4⟩, by simp [intOf]; omega⟩
                · have hq0 : (l2 != 0) = true := by rw [bne_iff_ne]; exact c1
                  have hct : zs.contains l2 = true := by
                    have := (HZ3.out.2 l2).2 (.one l2 HLM.out c1)
                    simpa using this
                  have HC3 := HC2.out
                  rw [hct] at HC3
                  have HC3 := Lib.hid HC3
                  clear HC2 c1 hct
                  go_wp2_with fail
                  rw [HW1.out]
                  refine HC3.out.mono ?_
                  rintro e w' ⟨rfl, rfl⟩
                  go_wp2_with fail
                  exact ⟨⟨q + 1, by go_num, by omega, HU4⟩, by simp [intOf]; omega⟩
              · have hqf : (l1 == id) = false := by rw [beq_eq_false_iff_ne]; exact c0
                clear HC2 c0
                go_wp2_with fail
                rw [HW1.out]
                go_wp2_with fail
                exact ⟨⟨q + 1, by go_num, by omega, HU4⟩, by simp [intOf]; omega⟩
            · have HB5 := Lib.hid (HBV.out.trans (hU.out.mono HBV.out.size))
              have hqz : ¬ (q : Int) < (t.length : Int) := by omega
              clear hU
              go_wp2_with fail
              go_ret
              exact ⟨rfl, HB5.out⟩
theorem farL_big (v : Value) (t : List ZLk) (id : Int) (w : World) (h : LinkArg w v t) (hr : Ready w) (h40 : 40 < t.length) :
    Calls Tryz.prog 6 #[v, .int .i64 id] w fun e w' => e = .returned (.bool true) ∧ Below w.heap.size w w' := by
  have AL := Lib.hid (alive30_any w hr)
  have hl := h.len
  obtain ⟨ao, cp, rfl, -⟩ := h.at_
  clear h hr
  have h60z : (40 : Int) < (t.length : Int) := by omega
  go_enter Tryz.func6, Tryz.ntmps6
  go_wp2_with fail
  refine AL.out.mono ?_
  rintro e w1 ⟨rfl, hb1⟩
  have HB1 := Lib.hid hb1
  clear hb1
  go_wp2_with fail
  go_ret
  exact ⟨rfl, HB1.out⟩
theorem farL_walk (v : Value) (t : List ZLk) (id : Int) (w : World) (h : LinkArg w v t) (hid : (Lit.int .i64 id).wf = true) (hr : Ready w) :
    Calls Tryz.prog 6 #[v, .int .i64 id] w fun e w' => e = .returned (.bool true) ∧ Below w.heap.size w w' := by
  by_cases h40 : 40 < t.length
  · exact farL_big v t id w h hr h40
  · exact farL_main v t id w h hid hr (by omega)
end Go.Proofs.YtjbnjlkoipkpoaaGreatDoor.T
