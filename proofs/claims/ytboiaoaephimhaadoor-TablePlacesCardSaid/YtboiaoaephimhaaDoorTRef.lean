/- The reference's columns: stanzakeepref25.width, .Widths. -/
import Derived.Test.YtboiaoaephimhaaDoorTWidths
namespace Go.Proofs.YtboiaoaephimhaaDoor.T
open Go.RowKit Go.Shelf
open Go.Proofs.YtboiaoaephimhaaDoor.B

def hasCol (rs : List (List ByteArray)) (i : Nat) : Bool := rs.any fun r => decide (i < r.length)
theorem hasCol_snoc (rs : List (List ByteArray)) (r : List ByteArray) (i : Nat) : hasCol (rs ++ [r]) i = (hasCol rs i || decide (i < r.length)) := by simp [hasCol]
theorem hasCol_eq (rs : List (List ByteArray)) (i : Nat) : hasCol rs i = decide (i < most rs) := by
  induction rs with
  | nil => simp [hasCol, most]
  | cons x t ih =>
    have e : hasCol (x :: t) i = (decide (i < x.length) || hasCol t i) := rfl
    have e2 : most (x :: t) = max x.length (most t) := rfl
    rw [e, ih, e2]
    by_cases h1 : i < x.length <;> by_cases h2 : i < most t <;> simp [h1, h2] <;> omega
set_option maxRecDepth 20000 in
set_option maxHeartbeats 3200000 in
theorem width_any (v : Value) (rs : List (List ByteArray)) (i : Nat) (w : World) (h : RowsAt w.heap.size w v rs) (hn : rs.length ≤ 1000000) :
    Calls Tryd.prog 23 #[v, .int .i64 i] w fun e w' => e = .returned (.tuple #[.int .i64 (colMax rs i), .bool (hasCol rs i)]) ∧ w = w' := by
  obtain ⟨ao, cp, rfl, hc⟩ := h
  have HC := Lib.hid hc
  clear hc
  go_enter Tryd.func23, Tryd.ntmps23
  go_wp2
  go_loop [6, 7, 8] (fun n ok k => ∃ k' : Nat, k = .int .i64 k' ∧ k' ≤ rs.length ∧ n = .int .i64 (colMax (rs.take k') i) ∧ ok = .bool (hasCol (rs.take k') i)) (fun _ _ k => rs.length - (intOf k).toNat)
  case atStart => exact ⟨0, rfl, Nat.zero_le _, rfl, rfl⟩
  case round =>
    obtain ⟨k, rfl, hk, rfl, rfl⟩ := hrel
    by_cases hlt : k < rs.length
    · obtain ⟨r, hr⟩ : ∃ r, rs[k]? = some r := ⟨_, List.getElem?_eq_getElem hlt⟩
      obtain ⟨a, u, rfl, ha, hu, hs⟩ := HC.out k r hr
      obtain ⟨bo, bp, rfl, hb⟩ := hs
      have et : rs.take (k + 1) = rs.take k ++ [r] := by rw [List.take_add_one, hr]; rfl
      have E1 : Hid (colMax (rs.take (k + 1)) i = max (colMax (rs.take k) i) (lenAt r i)) := Lib.hid (by rw [et, colMax_snoc])
      have E2 : Hid (hasCol (rs.take (k + 1)) i = (hasCol (rs.take k) i || decide (i < r.length))) := Lib.hid (by rw [et, hasCol_snoc])
      have HB := Lib.hid hb
      clear hr hb et
      by_cases hir : i < r.length
      · obtain ⟨s, hs⟩ : ∃ s, r[i]? = some s := ⟨_, List.getElem?_eq_getElem hir⟩
        obtain ⟨b, rfl, hb1, hb2⟩ := HB.out i s hs
        have HL : Hid (lenAt r i = s.size) := Lib.hid (by simp [lenAt, hs])
        have HI := Lib.hid hir
        clear hs
        by_cases hgt : colMax (rs.take k) i < s.size
        · go_wp2
          go_round
          case rel => exact ⟨k + 1, by go_num, by omega, by rw [E1.out, HL.out, Nat.max_eq_right (by omega)], by rw [E2.out]; simp [HI.out]⟩
          case measure => simp [intOf]; omega
        · go_wp2
          go_round
          case rel => exact ⟨k + 1, by go_num, by omega, by rw [E1.out, HL.out, Nat.max_eq_left (by omega)], by rw [E2.out]; simp [HI.out]⟩
          case measure => simp [intOf]; omega
      · have HI := Lib.hid hir
        have HL : Hid (lenAt r i = 0) := Lib.hid (lenAt_none (by omega))
        go_wp2
        go_round
        case rel => exact ⟨k + 1, by go_num, by omega, by rw [E1.out, HL.out, Nat.max_eq_left (by omega)], by rw [E2.out]; simp [HI.out]⟩
        case measure => simp [intOf]; omega
    · have et : rs.take k = rs := List.take_of_length_le (by omega)
      rw [et]
      clear et
      go_wp2
      go_ret2
      exact ⟨rfl, rfl⟩
set_option maxRecDepth 20000 in
set_option maxHeartbeats 3200000 in
theorem refWidths_any (v : Value) (rs : List (List ByteArray)) (w : World) (h : RowsAt w.heap.size w v rs) (hn : rs.length ≤ 1000000) (hm : most rs ≤ 100000) :
    Calls Tryd.prog 10 #[v] w fun e w' => ∃ u, e = .returned u ∧ NumsAt w.heap.size w' u (widths rs) ∧ Below w.heap.size w w' := by
  obtain ⟨i0, hi0, hz0, hz1, hz2⟩ := info_parts infoI
  have H0 := Lib.hid h
  clear h
  go_enter Tryd.func10, Tryd.ntmps10
  go_wp2
  go_loopw [3, 4] (fun v i wr => WRel w (fun k => (widths rs).take k) (most rs) v i wr) (fun _ i _ => most rs + 1 - (intOf i).toNat)
  case atStart => exact ⟨0, rfl, Nat.zero_le _, Lib.hid (World.ownsRow_nil _ _ _ _), Lib.hid (Below.refl _ _)⟩
  case round =>
    obtain ⟨k, rfl, hk, hN, hW⟩ := hrel
    have WI := Lib.hid (width_any v rs k wr ((H0.out.below hW.out (Nat.le_refl _)).up hW.out.size) hn)
    have hkl : ((widths rs).take k).length = k := by rw [List.length_take, widths_len]; omega
    obtain ⟨ws, hws⟩ : ∃ ws, (widths rs).take k = ws := ⟨_, rfl⟩
    have hN3 : NumsAt w.heap.size wr u3 ((widths rs).take k) := hN.out
    rw [hws] at hN3 hkl
    obtain ⟨vo, vc, hvs⟩ := hN3.shape
    have HH := hasCol_eq rs k
    by_cases hlt : k < most rs
    · have hcol : hasCol rs k = true := by rw [HH]; simpa using hlt
      have E1 : Hid ((widths rs).take (k + 1) = ws ++ [colMax rs k]) := Lib.hid (by rw [List.take_add_one, hws, widths_get rs k hlt]; rfl)
      have WJ := WI.out
      rw [hcol] at WJ
      have WK := Lib.hid WJ
      obtain ⟨cm, hcm⟩ : ∃ cm, colMax rs k = cm := ⟨_, rfl⟩
      rw [hcm] at WK E1
      subst hvs
      have HN3 := Lib.hid hN3
      have HKL := Lib.hid hkl
      have hwl : ws.length ≤ k := by omega
      have hzr := hW.out.size
      have HO := Lib.hid (World.ownsRow.alloc HN3.out (.cells #[.int .i64 cm] 3))
      clear hws HH WI WJ hN3 hN hcm hcol hkl
      go_wp2_with (first | (go_at_call 23; refine WK.out.mono ?_; rintro e w' ⟨rfl, rfl⟩) | (at_builtin; refine wpList_append_lies _ rfl _ _ _ rfl w.heap.size 3 i0 _ 1 8 Tryd.underlying27 hi0 hz0 hz1 hz2 rfl (by omega) (.slice vo ws.length vc) ws.length (nums ws) rfl HO.out ⟨wr.heap.size, 0, none⟩ 1 1 [.int .i64 cm] rfl rfl (World.news_of_block (cs := #[.int .i64 cm]) (heap_alloc_new wr _)) (by simp [Value.oneCell']) (by omega) (by unfold maxLen; omega) (by omega) (by simp; omega) _ rfl ?_; refine Hid.out ?_))
      refine Lib.hid ?_
      intro gg cap w8 hown8 hgrow hat hlt8
      have hb0 := hW.out.alloc hzr (.cells #[.int .i64 cm] 3)
      have HB8 := Lib.hid (hb0.grown hgrow hb0.size (fun q hq => (World.ownsRow.lt HN3.out q hq).1))
      have hN8 : NumsAt w.heap.size w8 (.slice (some ⟨gg, 0, none⟩) (ws.length + 1) cap) (ws ++ [cm]) := by
        have e1 : nums (ws ++ [cm]) = nums ws ++ [.int .i64 cm] := by simp [nums]
        unfold NumsAt
        rw [e1, List.length_append]
        exact hown8
      have HN8 := Lib.hid hN8
      clear hown8 hgrow hat hb0 hN8
      go_wp2
      refine ⟨⟨k + 1, by go_num, by omega, ?_, HB8⟩, by simp [intOf]; omega⟩
      show Hid (NumsAt _ _ _ ((widths rs).take (k + 1)))
      rw [E1.out]
      exact HN8
    · have hcol : hasCol rs k = false := by rw [HH]; simpa using hlt
      have hall : ws = widths rs := by rw [← hws]; exact List.take_of_length_le (by rw [widths_len]; omega)
      have WJ := WI.out
      rw [hcol] at WJ
      have WK := Lib.hid WJ
      have HN3 := Lib.hid (show NumsAt w.heap.size wr u3 (widths rs) by rw [← hall]; exact hN3)
      clear hws hvs HH WI WJ hN3 hN hcol hall hkl
      go_wp2_with (go_at_call 23; refine WK.out.mono ?_; rintro e w' ⟨rfl, rfl⟩)
      go_ret
      exact ⟨_, rfl, HN3.out, hW.out⟩
end Go.Proofs.YtboiaoaephimhaaDoor.T
