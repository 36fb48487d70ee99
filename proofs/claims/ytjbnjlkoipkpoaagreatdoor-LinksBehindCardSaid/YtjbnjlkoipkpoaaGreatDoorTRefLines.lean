/- The reference's columns: stanzakeepref25.width, .Widths. The reference's lines: stanzakeepref25.Lines. -/
import Derived.Test.YtjbnjlkoipkpoaaGreatDoorTRows
import Derived.Test.YtjbnjlkoipkpoaaGreatDoorTLines
namespace Go.Proofs.YtjbnjlkoipkpoaaGreatDoor.T
open Go.RowKit Go.Shelf
open Go.Proofs.YtjbnjlkoipkpoaaGreatDoor.B

def hasCol (rs : List (List ByteArray)) (i : Nat) : Bool := rs.any fun r => decide (i < r.length)
theorem hasCol_snoc (rs : List (List ByteArray)) (r : List ByteArray) (i : Nat) : hasCol (rs ++ [r]) i = (hasCol rs i || decide (i < r.length)) := by simp [hasCol]
theorem hasCol_eq (rs : List (List ByteArray)) (i : Nat) : hasCol rs i = decide (i < most rs) := by
  induction rs with
  | nil => simp [hasCol, most]
  | cons x t ih =>
    have e : hasCol (x :: t) i = (decide (i < x.length) || hasCol t i) := rfl
    have e2 : most (x :: t) = max x.length (most t) := rfl
    rw [e, ih, e2]
    by_cases h1 : i < x.length <;> by_cases h2 : i < most t <;> simp [h1, h2] <;> omega
set_option maxRecDepth 20000 in
set_option maxHeartbeats 3200000 in
theorem width_any (v : Value) (rs : List (List ByteArray)) (i : Nat) (w : World) (h : RowsAt w.heap.size w v rs) (hn : rs.length ≤ 1000000) :
    Calls Tryz.prog 118 #[v, .int .i64 i] w fun e w' => e = .returned (.tuple #[.int .i64 (colMax rs i), .bool (hasCol rs i)]) ∧ w = w' := by
  obtain ⟨ao, cp, rfl, hc⟩ := h
  have HC := Lib.hid hc
  clear hc
  go_enter Tryz.func118, Tryz.ntmps118
  go_wp2
  go_loop [6, 7, 8] (fun n ok k => ∃ k' : Nat, k = .int .i64 k' ∧ k' ≤ rs.length ∧ n = .int .i64 (colMax (rs.take k') i) ∧ ok = .bool (hasCol (rs.take k') i)) (fun _ _ k => rs.length - (intOf k).toNat)
  case atStart => exact ⟨0, rfl, Nat.zero_le _, rfl, rfl⟩
  case round =>
    obtain ⟨k, rfl, hk, rfl, rfl⟩ := hrel
    by_cases hlt : k < rs.length
    · obtain ⟨r, hr⟩ : ∃ r, rs[k]? = some r := ⟨_, List.getElem?_eq_getElem hlt⟩
      obtain ⟨a, u, rfl, ha, hu, hs⟩ := HC.out k r hr
      obtain ⟨bo, bp, rfl, hb⟩ := hs
      have et : rs.take (k + 1) = rs.take k ++ [r] := by rw [List.take_add_one, hr]; rfl
      have E1 : Hid (colMax (rs.take (k + 1)) i = max (colMax (rs.take k) i) (lenAt r i)) := Lib.hid (by rw [et, colMax_snoc])
      have E2 : Hid (hasCol (rs.take (k + 1)) i = (hasCol (rs.take k) i || decide (i < r.length))) := Lib.hid (by rw [et, hasCol_snoc])
      have HB := Lib.hid hb
      clear hr hb et
      by_cases hir : i < r.length
      · obtain ⟨s, hs⟩ : ∃ s, r[i]? = some s := ⟨_, List.getElem?_eq_getElem hir⟩
        obtain ⟨b, rfl, hb1, hb2⟩ := HB.out i s hs
        have HL : Hid (lenAt r i = s.size) := Lib.hid (by simp [lenAt, hs])
        have HI := Lib.hid hir
        clear hs
        by_cases hgt : colMax (rs.take k) i < s.size
        · go_wp2
          go_round
          case rel => exact ⟨k + 1, by go_num, by omega, by rw [E1.out, HL.out, Nat.max_eq_right (by omega)], by rw [E2.out]; simp [HI.out]⟩
          case measure => simp [intOf]; omega
        · go_wp2
          go_round
          case rel => exact ⟨k + 1, by go_num, by omega, by rw [E1.out, HL.out, Nat.max_eq_left (by omega)], by rw [E2.out]; simp [HI.out]⟩
          case measure => simp [intOf]; omega
      · have HI := Lib.hid hir
        have HL : Hid (lenAt r i = 0) := Lib.hid (lenAt_none (by omega))
        go_wp2
        go_round
        case rel => exact ⟨k + 1, by go_num, by omega, by rw [E1.out, HL.out, Nat.max_eq_left (by omega)], by rw [E2.out]; simp [HI.out]⟩
        case measure => simp [intOf]; omega
    · have et : rs.take k = rs := List.take_of_length_le (by omega)
      rw [et]
      clear et
      go_wp2
      go_ret2
      exact ⟨rfl, rfl⟩
set_option maxRecDepth 20000 in
set_option maxHeartbeats 3200000 in
theorem refWidths_any (v : Value) (rs : List (List ByteArray)) (w : World) (h : RowsAt w.heap.size w v rs) (hn : rs.length ≤ 1000000) (hm : most rs ≤ 100000) :
    Calls Tryz.prog 74 #[v] w fun e w' => ∃ u, e = .returned u ∧ NumsAt w.heap.size w' u (widths rs) ∧ Below w.heap.size w w' := by
  obtain ⟨i0, hi0, hz0, hz1, hz2⟩ := info_parts infoI
  have H0 := Lib.hid h
  clear h
  go_enter Tryz.func74, Tryz.ntmps74
  go_wp2
  go_loopw [3, 4] (fun v i wr => WRel w (fun k => (widths rs).take k) (most rs) v i wr) (fun _ i _ => most rs + 1 - (intOf i).toNat)
  case atStart => exact ⟨0, rfl, Nat.zero_le _, Lib.hid (World.ownsRow_nil _ _ _ _), Lib.hid (Below.refl _ _)⟩
  case round =>
    obtain ⟨k, rfl, hk, hN, hW⟩ := hrel
    have WI := Lib.hid (width_any v rs k wr ((H0.out.below hW.out (Nat.le_refl _)).up hW.out.size) hn)
    have hkl : ((widths rs).take k).length = k := by rw [List.length_take, widths_len]; omega
    obtain ⟨ws, hws⟩ : ∃ ws, (widths rs).take k = ws := ⟨_, rfl⟩
    have hN3 : NumsAt w.heap.size wr u3 ((widths rs).take k) := hN.out
    rw [hws] at hN3 hkl
    obtain ⟨vo, vc, hvs⟩ := hN3.shape
    have HH := hasCol_eq rs k
    by_cases hlt : k < most rs
    · have hcol : hasCol rs k = true := by rw [HH]; simpa using hlt
      have E1 : Hid ((widths rs).take (k + 1) = ws ++ [colMax rs k]) := Lib.hid (by rw [List.take_add_one, hws, widths_get rs k hlt]; rfl)
      have WJ := WI.out
      rw [hcol] at WJ
      have WK := Lib.hid WJ
      obtain ⟨cm, hcm⟩ : ∃ cm, colMax rs k = cm := ⟨_, rfl⟩
      rw [hcm] at WK E1
      subst hvs
      have HN3 := Lib.hid hN3
      have HKL := Lib.hid hkl
      have hwl : ws.length ≤ k := by omega
      have hzr := hW.out.size
      have HO := Lib.hid (World.ownsRow.alloc HN3.out (.cells #[.int .i64 cm] 3))
      clear hws HH WI WJ hN3 hN hcm hcol hkl
      go_wp2_with (first | (go_at_call 118; refine WK.out.mono ?_; rintro e w' ⟨rfl, rfl⟩) | (at_builtin; refine wpList_append_lies _ rfl _ _ _ rfl w.heap.size 3 i0 _ 1 8 Tryz.underlying68 hi0 hz0 hz1 hz2 rfl (by omega) (.slice vo ws.length vc) ws.length (nums ws) rfl HO.out ⟨wr.heap.size, 0, none⟩ 1 1 [.int .i64 cm] rfl rfl (World.news_of_block (cs := #[.int .i64 cm]) (heap_alloc_new wr _)) (by simp [Value.oneCell']) (by omega) (by unfold maxLen; omega) (by omega) (by simp; omega) _ rfl ?_; refine Hid.out ?_))
      refine Lib.hid ?_
      intro gg cap w8 hown8 hgrow hat hlt8
      have hb0 := hW.out.alloc hzr (.cells #[.int .i64 cm] 3)
      have HB8 := Lib.hid (hb0.grown hgrow hb0.size (fun q hq => (World.ownsRow.lt HN3.out q hq).1))
      have hN8 : NumsAt w.heap.size w8 (.slice (some ⟨gg, 0, none⟩) (ws.length + 1) cap) (ws ++ [cm]) := by
        have e1 : nums (ws ++ [cm]) = nums ws ++ [.int .i64 cm] := by simp [nums]
        unfold NumsAt
        rw [e1, List.length_append]
        exact hown8
      have HN8 := Lib.hid hN8
      clear hown8 hgrow hat hb0 hN8
      go_wp2
      refine ⟨⟨k + 1, by go_num, by omega, ?_, HB8⟩, by simp [intOf]; omega⟩
      show Hid (NumsAt _ _ _ ((widths rs).take (k + 1)))
      rw [E1.out]
      exact HN8
    · have hcol : hasCol rs k = false := by rw [HH]; simpa using hlt
      have hall : ws = widths rs := by rw [← hws]; exact List.take_of_length_le (by rw [widths_len]; omega)
      have WJ := WI.out
      rw [hcol] at WJ
      have WK := Lib.hid WJ
      have HN3 := Lib.hid (show NumsAt w.heap.size wr u3 (widths rs) by rw [← hall]; exact hN3)
      clear hws hvs HH WI WJ hN3 hN hcol hall hkl
      go_wp2_with (go_at_call 118; refine WK.out.mono ?_; rintro e w' ⟨rfl, rfl⟩)
      go_ret
      exact ⟨_, rfl, HN3.out, hW.out⟩
end Go.Proofs.YtjbnjlkoipkpoaaGreatDoor.T

namespace Go.Proofs.YtjbnjlkoipkpoaaGreatDoor.T
open Go.RowKit Go.Shelf
open Go.Proofs.YtjbnjlkoipkpoaaGreatDoor.B

/-- What a text holds. -/
def Holds (v : Value) (l : List UInt8) : Prop := ∃ x : ByteArray, v = .string x ∧ x.data.toList = l
theorem Holds.app {x s : ByteArray} {l m : List UInt8} (h : x.data.toList = l) (hs : s.data.toList = m) : (x ++ s).data.toList = l ++ m := by rw [append_dl', h, hs]
theorem ba_le {x : ByteArray} {l : List UInt8} {n : Nat} (h : x.data.toList = l) (hl : l.length ≤ n) : x.size ≤ n := by rw [Lib.size_eq, h]; exact hl
theorem linesTo_take_len {ws : List Nat} {rs : List (List ByteArray)} (h : ∀ r ∈ rs, RowFit ws r) (hn : rs.length ≤ 1000) (k : Nat) : (linesTo ws (rs.take k)).length ≤ 20000201000 := by
  have := linesTo_len (ws := ws) (rs := rs.take k) fun r hr => h r (List.mem_of_mem_take hr)
  rw [List.length_take] at this
  omega
theorem lineTo_len' {ws : List Nat} {r : List ByteArray} (h : RowFit ws r) (j : Nat) (hj : j ≤ 100) : (lineTo ws r j).length ≤ 20000200 := by
  have := lineTo_len h j
  omega
set_option maxRecDepth 20000 in
set_option maxHeartbeats 6400000 in
theorem refLines_any (v : Value) (rs : List (List ByteArray)) (w : World) (h : RowsAt w.heap.size w v rs) (hf : RowsFine rs) :
    Calls Tryz.prog 34 #[v] w fun e w' => e = .returned (.string ⟨(linesL rs).toArray⟩) ∧ Below w.heap.size w w' := by
  have HF := Lib.hid (fun (r : List ByteArray) (hr : r ∈ rs) => hf.fit hr)
  have hmany := hf.many
  have HCO := Lib.hid hf.cols
  have WD := Lib.hid (refWidths_any v rs w h (by omega) (most_le fun r hr => Nat.le_trans (hf.cols r hr) (by omega)))
  obtain ⟨ao, cp, rfl, hc⟩ := h
  have HC := Lib.hid hc
  obtain ⟨ws, hws⟩ : ∃ ws, widths rs = ws := ⟨_, rfl⟩
  have HLL := Lib.hid (show linesL rs = linesTo (widths rs) rs from rfl)
  rw [hws] at HF HLL WD
  have HTL := Lib.hid (linesTo_take_len HF.out hmany)
  clear hc hws hf
  go_enter Tryz.func34, Tryz.ntmps34
  go_wp2_with fail
  refine WD.out.mono ?_
  rintro e w1 ⟨u, rfl, hN, hb⟩
  obtain ⟨uo, uc, hus⟩ := hN.shape
  subst hus
  have hI := hN.ints
  obtain ⟨uo', uc', hu2, hIC⟩ := hI
  injection hu2 with e1 e2 e3
  subst e1
  have HIC := Lib.hid hIC
  have HB := Lib.hid hb
  clear hN hb WD hIC e2 e3
  go_wp2
  go_loop [3, 5] (fun o i => ∃ (k : Nat) (x : ByteArray), i = .int .i64 k ∧ k ≤ rs.length ∧ o = .string x ∧ Hid (x.data.toList = linesTo ws (rs.take k))) (fun _ i => rs.length - (intOf i).toNat)
  case atStart => exact ⟨0, ⟨#[]⟩, rfl, Nat.zero_le _, rfl, Lib.hid rfl⟩
  case round =>
    obtain ⟨k, x, rfl, hk, rfl, hx⟩ := hrel
    have hxs := ba_le hx.out (HTL.out k)
    by_cases hlt : k < rs.length
    · obtain ⟨r, hr⟩ : ∃ r, rs[k]? = some r := ⟨_, List.getElem?_eq_getElem hlt⟩
      obtain ⟨a, vr, rfl, ha, h1, h2⟩ := HC.out k r hr
      have c1 := (HB.out.cell (p := a.add k) (by rw [add_block]; exact ha)).trans h1
      have hrm := List.mem_of_getElem? hr
      have hfit := HF.out r hrm
      obtain ⟨ro, rc, hvr, hrc⟩ := h2
      subst hvr
      have HR := Lib.hid hrc
      have hcols := HCO.out r hrm
      have HFIT := Lib.hid hfit
      have et : rs.take (k + 1) = rs.take k ++ [r] := by rw [List.take_add_one, hr]; rfl
      have E1 := Lib.hid (show linesTo ws (rs.take (k + 1)) = _ by rw [et, linesTo_snoc])
      have HT0 := Lib.hid (HTL.out k)
      obtain ⟨L1, hL1⟩ : ∃ L1, linesTo ws (rs.take k) = L1 := ⟨_, rfl⟩
      rw [hL1] at hx E1 HT0
      have hx0 := Lib.hid (show x.data.toList = L1 ++ lineTo ws r 0 by rw [hx.out]; simp [lineTo])
      clear h1 hr hrm hfit et hL1 hrc
      go_wp2
      go_loop [3, 6] (fun o i => ∃ (j : Nat) (y : ByteArray), i = .int .i64 j ∧ j ≤ r.length ∧ o = .string y ∧ Hid (y.data.toList = L1 ++ lineTo ws r j)) (fun _ i => r.length - (intOf i).toNat)
      case atStart => exact ⟨0, x, rfl, Nat.zero_le _, rfl, hx0⟩
      case round =>
        obtain ⟨j, y, rfl, hj, rfl, hy⟩ := hrel
        have hys : y.size ≤ 20020201200 := ba_le hy.out (by
          have := lineTo_len' HFIT.out j (by omega)
          have := HT0.out
          rw [List.length_append]; omega)
        by_cases hjl : j < r.length
        · obtain ⟨s, hs⟩ : ∃ s, r[j]? = some s := ⟨_, List.getElem?_eq_getElem hjl⟩
          obtain ⟨b, rfl, hb1, hb2⟩ := HR.out j s hs
          have c2 := (HB.out.cell (p := b.add j) (by rw [add_block]; exact hb1)).trans hb2
          obtain ⟨n, hn, hn1, hn2⟩ := HFIT.out.at_ j s hs
          obtain ⟨d, rfl, hd1, c3⟩ := HIC.out j n hn
          have hwl := (List.getElem?_eq_some_iff.1 hn).1
          have hgd : ws.getD j 0 = n := by simp [hn]
          have hPi := Lib.hid (piece_some ws r j s hs)
          rw [hgd] at hPi
          have hSu := Lib.hid (lineTo_succ ws r j)
          have hz0 : (y ++ s).data.toList = L1 ++ lineTo ws r j ++ s.data.toList ++ List.replicate 0 32 := by rw [append_dl', hy.out]; simp
          have HZ0 := Lib.hid hz0
          have hsz0 : (y ++ s).size ≤ 20020301200 := by rw [ba_size_append]; omega
          clear hs hb2 hn hgd hz0
          by_cases hlast : j + 1 < r.length
          · have hne : ((j : Int) == (r.length : Int) - 1) = false := by rw [beq_eq_false_iff_ne]; omega
            go_wp2
            go_loop [3, 7] (fun o i => ∃ (q : Nat) (z : ByteArray), i = .int .i64 q ∧ s.size ≤ q ∧ q ≤ n + 2 ∧ o = .string z ∧ z.size ≤ 20020301200 + q ∧ Hid (z.data.toList = L1 ++ lineTo ws r j ++ s.data.toList ++ List.replicate (q - s.size) 32)) (fun _ i => n + 2 - (intOf i).toNat)
            case atStart => exact ⟨s.size, _, rfl, Nat.le_refl _, by omega, rfl, by omega, by rw [Nat.sub_self]; exact HZ0⟩
            case round =>
              obtain ⟨q, z, rfl, hq1, hq2, rfl, hzs, hz⟩ := hrel
              by_cases hql : q < n + 2
              · go_wp2
                go_round
                case rel =>
                  refine ⟨q + 1, _, by go_num, by omega, by omega, rfl, ?_, ?_⟩
                  · rw [ba_size_append]; have e2 : (⟨#[32]⟩ : ByteArray).size = 1 := rfl; omega
                  · refine Lib.hid ?_
                    rw [append_dl', hz.out, show q + 1 - s.size = (q - s.size) + 1 by omega, List.replicate_succ']
                    simp
                case measure => simp [intOf]; omega
              · have hqe : q = n + 2 := by omega
                subst hqe
                go_wp2
                go_round
                case rel =>
                  refine ⟨j + 1, _, by go_num, by omega, rfl, Lib.hid ?_⟩
                  have e2 := hPi.out
                  rw [if_pos hlast] at e2
                  rw [hz.out, hSu.out, e2, show n + 2 - s.size = n - s.size + 2 by omega]
                  simp [List.append_assoc]
                case measure => simp [intOf]; omega
          · have heq : ((j : Int) == (r.length : Int) - 1) = true := by rw [beq_iff_eq]; omega
            go_wp2
            go_round
            case rel =>
              refine ⟨j + 1, _, by go_num, by omega, rfl, Lib.hid ?_⟩
              have e2 := hPi.out
              rw [if_neg hlast] at e2
              rw [HZ0.out, hSu.out, e2]
              simp [List.append_assoc]
            case measure => simp [intOf]; omega
        · have hje : j = r.length := by omega
          subst hje
          go_wp2
          go_round
          case rel =>
            refine ⟨k + 1, _, by go_num, by omega, rfl, Lib.hid ?_⟩
            rw [append_dl', hy.out, E1.out]
            show L1 ++ lineTo ws r r.length ++ [10] = L1 ++ (lineTo ws r r.length ++ [10])
            rw [List.append_assoc]
          case measure => simp [intOf]; omega
    · have hk' : rs.take k = rs := List.take_of_length_le (by omega)
      rw [hk'] at hx
      clear hk'
      go_wp2
      go_ret
      refine ⟨?_, HB.out⟩
      rw [HLL.out, ← hx.out]
      rfl
end Go.Proofs.YtjbnjlkoipkpoaaGreatDoor.T
