/- The law TableLines, walked. -/
import Derived.Test.YtboiaoaephimhaaDoorTAlive
import Derived.Test.YtboiaoaephimhaaDoorTArgs
import Derived.Test.YtboiaoaephimhaaDoorTRefLines
import Derived.Test.YtboiaoaephimhaaDoorTSame
import Derived.Maps.AppendAt
import Derived.Laws.AppendOwnNone
import Derived.Deep.DeepCutAuto
namespace Go.Proofs.YtboiaoaephimhaaDoor.T
open Go.RowKit Go.Shelf
open Go.Proofs.YtboiaoaephimhaaDoor.B

/-- How much a row weighs. -/
def weight (r : List ByteArray) : Nat := (r.map fun s => min s.size 9999).sum
def weights (rs : List (List ByteArray)) : Nat := (rs.map weight).sum
theorem weight_snoc (r : List ByteArray) (s : ByteArray) : weight (r ++ [s]) = weight r + min s.size 9999 := by simp [weight]
theorem weights_snoc (rs : List (List ByteArray)) (r : List ByteArray) : weights (rs ++ [r]) = weights rs + weight r := by simp [weights]
theorem weight_le : ∀ r : List ByteArray, weight r ≤ r.length * 9999
  | [] => by simp [weight]
  | x :: t => by
    have := weight_le t
    simp only [weight, List.map_cons, List.sum_cons, List.length_cons] at this ⊢
    omega
theorem weights_le {n : Nat} : ∀ rs : List (List ByteArray), (∀ r ∈ rs, r.length ≤ n) → weights rs ≤ rs.length * (n * 9999)
  | [], _ => by simp [weights]
  | x :: t, h => by
    have h1 := weights_le t fun r hr => h r (by simp [hr])
    have h2 := weight_le x
    have h3 := Nat.mul_le_mul_right 9999 (h x (by simp))
    simp only [weights, List.map_cons, List.sum_cons, List.length_cons] at h1 ⊢
    rw [Nat.succ_mul]
    omega
theorem weight_ge {r : List ByteArray} {s : ByteArray} (h : s ∈ r) : min s.size 9999 ≤ weight r := by
  induction r with
  | nil => simp at h
  | cons x t ih =>
    simp only [weight, List.map_cons, List.sum_cons] at ih ⊢
    rcases List.mem_cons.1 h with rfl | h
    · omega
    · have := ih h; omega
theorem weights_ge {rs : List (List ByteArray)} {r : List ByteArray} (h : r ∈ rs) : weight r ≤ weights rs := by
  induction rs with
  | nil => simp at h
  | cons x t ih =>
    simp only [weights, List.map_cons, List.sum_cons] at ih ⊢
    rcases List.mem_cons.1 h with rfl | h
    · omega
    · have := ih h; omega
/-- The block of a row is a block of its type. -/
theorem own_type {w : World} {B size n g : Nat} {e : TypeId} {v : Value} {xs : List Value} (h : w.ownsRow B e size v n xs) (hg : v.ownBlock = some g) : ∃ c, w.heap[g]? = some (.cells c e (0, 0)) := by
  rcases h.2 with ⟨h0, _⟩ | ⟨g', cap, cur, hv, _, hg', _⟩
  · rw [h0] at hg; simp [Value.ownBlock] at hg
  · rw [hv] at hg
    have e1 : g' = g := by simpa [Value.ownBlock] using hg
    subst e1
    exact ⟨cur, hg'⟩
theorem weigh_fine {rs : List (List ByteArray)} (hm : rs.length ≤ 21) (hc : ∀ r ∈ rs, r.length ≤ 12) (hw : weights rs ≤ 3000) : RowsFine rs := by
  refine ⟨by omega, fun r hr => Nat.le_trans (hc r hr) (by omega), fun r hr s hs => ?_⟩
  have h1 := weights_ge hr
  have h2 := weight_ge hs
  omega
def CopyRel (B : Nat) (w1 : World) (rs : List (List ByteArray)) (v i : Value) (wr : World) : Prop :=
  ∃ (k : Nat) (us : List Value), i = .int .i64 k ∧ k ≤ rs.length ∧ Hid (RowsOwn B wr v (rs.take k) us) ∧ Hid (Below B w1 wr)
set_option maxRecDepth 20000 in
set_option maxHeartbeats 6400000 in
theorem tableLines_walk (v : Value) (rs : List (List ByteArray)) (w : World) (h : RowsArg w v rs) (hr : Ready w) :
    Calls Tryd.prog 3 #[v] w fun e w' => e = .returned (.bool true) ∧ Below w.heap.size w w' := by
  obtain ⟨i0, hi0, hz0, hz1, hz2⟩ := info_parts infoS
  obtain ⟨j0, hj0, hy0, hy1, hy2⟩ := info_parts infoR
  have HAL := Lib.hid (alive_any w hr)
  have HAT := Lib.hid h.at_
  obtain ⟨ao, cp, rfl, hlen, hc⟩ := h
  have HC := Lib.hid hc
  clear hc hr
  go_enter Tryd.func3, Tryd.ntmps3
  go_wp2_with fail
  refine HAL.out.mono ?_
  rintro e w1 ⟨rfl, hb⟩
  have HB := Lib.hid hb
  clear hb HAL
  go_wp2
  go_loop [3, 15] (fun n i => ∃ k : Nat, i = .int .i64 k ∧ k ≤ rs.length ∧ k ≤ 21 ∧ n = .int .i64 (weights (rs.take k)) ∧ Hid (∀ r ∈ rs.take k, r.length ≤ 12)) (fun _ i => rs.length - (intOf i).toNat)
  case atStart => exact ⟨0, rfl, Nat.zero_le _, by omega, rfl, Lib.hid (fun r hr => by simp at hr)⟩
  case round =>
    obtain ⟨k, rfl, hk, hk21, rfl, h12⟩ := hrel
    have hwl : weights (rs.take k) ≤ 3000000 := by
      have := weights_le _ h12.out
      rw [List.length_take] at this
      omega
    by_cases hlt : k < rs.length
    · obtain ⟨r, hr⟩ : ∃ r, rs[k]? = some r := ⟨_, List.getElem?_eq_getElem hlt⟩
      obtain ⟨a, u, rfl, ha, h1, h2⟩ := HC.out k r hr
      have c1 := (HB.out.cell (p := a.add k) (by rw [add_block]; exact ha)).trans h1
      have hA := h2.at_
      obtain ⟨uo, uc, hus, hcs⟩ := hA
      subst hus
      have HCS := Lib.hid hcs
      have hrl := h2.1
      have HSZ := Lib.hid h2.2.1
      have et : rs.take (k + 1) = rs.take k ++ [r] := by rw [List.take_add_one, hr]; rfl
      have E1 := Lib.hid (show weights (rs.take (k + 1)) = weights (rs.take k) + weight r by rw [et, weights_snoc])
      have ET := Lib.hid et
      clear h1 h2 hr hcs et
      by_cases h20 : k ≤ 20
      · by_cases hr12 : r.length ≤ 12
        · have hwr := weight_le r
          obtain ⟨n0, hn0⟩ : ∃ n0, weights (rs.take k) = n0 := ⟨_, rfl⟩
          rw [hn0] at hwl E1
          rw [hn0]
          clear hn0
          have hz : Hid (n0 = n0 + weight (r.take 0)) := Lib.hid (by simp [weight])
          go_wp2
          go_loop [3, 29] (fun n i => ∃ j : Nat, i = .int .i64 j ∧ j ≤ r.length ∧ n = .int .i64 (n0 + weight (r.take j) : Nat)) (fun _ i => r.length - (intOf i).toNat)
          case atStart => exact ⟨0, rfl, Nat.zero_le _, by rw [← hz.out]⟩
          case round =>
            obtain ⟨j, rfl, hj, rfl⟩ := hrel
            by_cases hjl : j < r.length
            · obtain ⟨s, hs⟩ : ∃ s, r[j]? = some s := ⟨_, List.getElem?_eq_getElem hjl⟩
              obtain ⟨b, rfl, hb1, hb2⟩ := HCS.out j s hs
              have c2 := (HB.out.cell (p := b.add j) (by rw [add_block]; exact hb1)).trans hb2
              have hssz := HSZ.out s (List.mem_of_getElem? hs)
              have E2 := Lib.hid (show weight (r.take (j + 1)) = weight (r.take j) + min s.size 9999 by rw [List.take_add_one, hs]; exact weight_snoc _ _)
              have hwj := weight_le (r.take j)
              rw [List.length_take] at hwj
              have hwj2 : weight (r.take j) ≤ 120000 := by omega
              clear hs hb2 hwj
              go_wp2
              go_round
              case rel =>
                refine ⟨j + 1, by go_num, by omega, ?_⟩
                rw [E2.out]
                congr 1
                omega
              case measure => simp [intOf]; omega
            · have hje : r.take j = r := List.take_of_length_le (by omega)
              rw [hje]
              clear hje
              go_wp2
              go_round
              case rel => exact ⟨k + 1, by go_num, by omega, by omega, by rw [E1.out], Lib.hid (fun x hx => by
                rw [ET.out] at hx
                rcases List.mem_append.1 hx with hx | hx
                · exact h12.out x hx
                · rw [List.mem_singleton.1 hx]; exact hr12)⟩
              case measure => simp [intOf]; omega
        · go_wp2
          go_ret
          exact ⟨rfl, HB.out⟩
      · go_wp2
        go_ret
        exact ⟨rfl, HB.out⟩
    · have hke : rs.take k = rs := List.take_of_length_le (by omega)
      rw [hke] at h12 hwl
      rw [hke]
      have hkl : rs.length ≤ 21 := by omega
      clear hke
      by_cases h3000 : weights rs ≤ 3000
      · have HF := Lib.hid (weigh_fine hkl h12.out h3000)
        have H12 := Lib.hid h12.out
        clear h12
        have hzw1 := HB.out.size
        have HBW0 := HB.out
        have CR : CopyRel w1.heap.size w1 rs (.slice (some ⟨w1.heap.size, 0, none⟩) 0 0) (.int .i64 (0 : Nat)) (w1.alloc (.cells #[] 24)) :=
          ⟨0, [], rfl, Nat.zero_le _, Lib.hid ⟨World.ownsRow_made w1 #[] 0 (Nat.le_refl _) (Nat.zero_le _) rfl, fun k u r hu _ => by simp at hu⟩, Lib.hid (below_grow1 w1 _)⟩
        have HCR := Lib.hid CR
        obtain ⟨B, hBB⟩ : ∃ B, w1.heap.size = B := ⟨_, rfl⟩
        rw [hBB] at HCR hzw1
        have HLE := Lib.hid (fun (B' : Nat) (hB' : B' ≤ w.heap.size) => HB.out.mono hB')
        clear CR HBW0
        go_wp2
        try rw [hBB]
        go_loopw [8, 45] (fun v i wr => CopyRel B w1 rs v i wr) (fun _ i _ => rs.length - (intOf i).toNat)
        case atStart => exact HCR.out
        case round =>
          clear HCR
          obtain ⟨k, us, rfl, hk, hO, hW⟩ := hrel
          have hzr : B ≤ wr.heap.size := hBB ▸ hW.out.size
          by_cases hlt : k < rs.length
          · obtain ⟨r, hr⟩ : ∃ r, rs[k]? = some r := ⟨_, List.getElem?_eq_getElem hlt⟩
            obtain ⟨a, u, rfl, ha, h1, h2⟩ := HC.out k r hr
            have hwr1 : Below w.heap.size w wr := HB.out.trans (hW.out.mono (by omega))
            have c1 := (hwr1.cell (p := a.add k) (by rw [add_block]; exact ha)).trans h1
            have hr12 := H12.out r (List.mem_of_getElem? hr)
            have HX : Hid (rs.take (k + 1) = rs.take k ++ [r]) := Lib.hid (by rw [List.take_add_one, hr]; rfl)
            have hyl : (rs.take k).length = k := by rw [List.length_take]; omega
            obtain ⟨ys, hys⟩ : ∃ ys, rs.take k = ys := ⟨_, rfl⟩
            have hO3 := hO.out
            rw [hys] at HX hyl hO3
            have hyl2 : ys.length ≤ k := by omega
            obtain ⟨vo, vc, hvs⟩ := hO3.shape
            subst hvs
            have HW1 := Lib.hid hwr1
            obtain ⟨-, -, h3⟩ := h2
            have hb5 := below_grow1 wr (.cells #[] 9)
            have HO5 := Lib.hid (hO3.below hb5)
            have HFAR := Lib.hid (fun (k : Nat) (x : Value) (y : List ByteArray) (h1 : us[k]? = some x) (h2 : ys[k]? = some y) => show x.ownBlock ≠ some wr.heap.size from fun e => by
              have := (World.ownsRow.lt (hO3.its k x y h1 h2) _ e).2
              omega)
            have HB5 := Lib.hid (hW.out.trans (hb5.mono (by omega)))
            have HM5 : Hid ((wr.alloc (.cells #[] 9)).ownsRow B 9 1 (.slice (some ⟨wr.heap.size, 0, none⟩) 0 0) 0 []) := Lib.hid (World.ownsRow_made wr #[] 0 hzr (Nat.zero_le _) rfl)
            have HW5 := Lib.hid (hwr1.trans (hb5.mono (by have := hwr1.size; omega)))
            have hz5 := hb5.size
            clear h1 hr hyl hys hO3 hO hwr1 hb5 hW
            rcases h3 with ⟨rfl, rfl⟩ | ⟨ra, rcp, rfl, hcells⟩
            · obtain ⟨W, hWW⟩ : ∃ W, wr.alloc (.cells #[] 9) = W := ⟨_, rfl⟩
              rw [hWW] at HO5 HB5 HM5 HW5 hz5
              go_wp2_with (at_builtin; refine wpList_append_own_none rfl _ _ _ rfl B 9 i0 1 Tryd.underlying24 hi0 (.slice (some ⟨wr.heap.size, 0, none⟩) 0 0) 0 [] rfl HM5.out rfl ?_; refine Hid.out ?_)
              refine Lib.hid ?_
              have HU : Hid (StrRow B W (.slice (some ⟨wr.heap.size, 0, none⟩) 0 0) []) := HM5
              have HOK := HO5
              have HBK := HB5
              clear HO5 HB5 HM5 HW5
              have hb6 := below_grow1 W (.cells #[.slice (some ⟨wr.heap.size, 0, none⟩) 0 0] 24)
              have HOW := Lib.hid (HOK.out.below hb6)
              have HUW : Hid (StrRow B (W.alloc (.cells #[.slice (some ⟨wr.heap.size, 0, none⟩) 0 0] 24)) (.slice (some ⟨wr.heap.size, 0, none⟩) 0 0) []) := Lib.hid (HU.out.below hb6 (Nat.le_refl _))
              have HBW := Lib.hid (HBK.out.alloc (by omega) (.cells #[.slice (some ⟨wr.heap.size, 0, none⟩) 0 0] 24))
              clear hb6
              go_wp2_with (at_builtin; refine wpList_append_lies _ rfl _ _ _ rfl B 24 j0 _ 1 24 Tryd.underlying22 hj0 hy0 hy1 hy2 rfl (by omega) (.slice vo ys.length vc) ys.length us rfl HOW.out.row ⟨W.heap.size, 0, none⟩ 1 1 [.slice (some ⟨wr.heap.size, 0, none⟩) 0 0] rfl rfl (World.news_of_block (cs := #[.slice (some ⟨wr.heap.size, 0, none⟩) 0 0]) (heap_alloc_new W _)) (fun y hy => by rw [List.mem_singleton.1 hy]; rfl) (by omega) (by unfold maxLen; omega) (by omega) (by simp; omega) _ rfl ?_; refine Hid.out ?_)
              refine Lib.hid ?_
              intro gg cap w8 hown8 hgrow hat hlt8
              have HN8 := Lib.hid (HOW.out.snoc HUW.out hown8 hgrow)
              have HB8 := Lib.hid (HBW.out.grown hgrow (hBB ▸ HBW.out.size) (fun q hq => (World.ownsRow.lt HOW.out.row q hq).1))
              clear hown8 hgrow hat
              go_wp2
              refine ⟨⟨k + 1, us ++ [.slice (some ⟨wr.heap.size, 0, none⟩) 0 0], by go_num, by omega, ?_, HB8⟩, by simp [intOf]; omega⟩
              rw [HX.out]
              exact HN8
            · have HCL : Hid (∀ (j : Nat) (u : Value), (strVals r)[j]? = some u → (wr.alloc (.cells #[] 9)).cell? (ra.add j) = some u) := Lib.hid (fun j u hu => by
                obtain ⟨s, hs⟩ : ∃ s, r[j]? = some s := by
                  cases h : r[j]? with
                  | none => simp [strVals, h] at hu
                  | some s => exact ⟨s, rfl⟩
                have e1 : u = .string s := by simp [strVals, hs] at hu; exact hu.symm
                obtain ⟨h4, h5⟩ := hcells j s hs
                rw [e1]; exact (HW5.out.cell (p := ra.add j) (by rw [add_block]; exact h4)).trans h5)
              clear hcells
              go_wp2_with (at_builtin; refine wpList_append_own_at _ rfl _ _ _ rfl B 9 i0 _ 1 16 Tryd.underlying24 hi0 hz0 hz1 hz2 rfl (by omega) (.slice (some ⟨wr.heap.size, 0, none⟩) 0 0) 0 [] rfl HM5.out ra r.length rcp (strVals r) rfl (by simp [strVals]) HCL.out (strVals_one r) (by unfold maxLen; omega) (by omega) (by omega) ?_; refine Hid.out ?_)
              refine Lib.hid ?_
              intro v' W hownW hgrow _ _
              have hU : StrRow B W v' r := hownW
              have hzW := hgrow.size
              have HOK : Hid (RowsOwn B W (.slice vo ys.length vc) ys us) := Lib.hid (by
                refine ⟨?_, fun k x y h1 h2 => ?_⟩
                · refine ownsRow_of_block HO5.out.row fun g hg => hgrow.block g (World.ownsRow.lt HO5.out.row g hg).2 fun e => ?_
                  cases e
                  have := own_type HO5.out.row hg
                  obtain ⟨c1, h5⟩ := this
                  have h6 : (wr.alloc (.cells #[] 9)).heap[wr.heap.size]? = some (.cells #[] 9) := heap_alloc_new wr _
                  rw [h6] at h5
                  injection h5 with e3
                  injection e3 with _ e4
                  exact absurd e4 (by decide)
                · have h7 : StrRow B (wr.alloc (.cells #[] 9)) x y := HO5.out.its k x y h1 h2
                  refine ownsRow_of_block h7 fun g hg => hgrow.block g (World.ownsRow.lt h7 g hg).2 fun e => ?_
                  cases e
                  exact absurd hg (HFAR.out k x y h1 h2))
              have HBK := Lib.hid (HB5.out.grown hgrow (by omega) (fun q hq => by cases hq; exact hzr))
              obtain ⟨uo, uc, hus⟩ := hU.shape
              subst hus
              have HU := Lib.hid hU
              clear hownW hgrow hU HO5 HB5 HM5 HW5 HFAR HCL
              have hb6 := below_grow1 W (.cells #[.slice uo r.length uc] 24)
              have HOW := Lib.hid (HOK.out.below hb6)
              have HUW : Hid (StrRow B (W.alloc (.cells #[.slice uo r.length uc] 24)) (.slice uo r.length uc) r) := Lib.hid (HU.out.below hb6 (Nat.le_refl _))
              have HBW := Lib.hid (HBK.out.alloc (by omega) (.cells #[.slice uo r.length uc] 24))
              clear hb6
              go_wp2_with (at_builtin; refine wpList_append_lies _ rfl _ _ _ rfl B 24 j0 _ 1 24 Tryd.underlying22 hj0 hy0 hy1 hy2 rfl (by omega) (.slice vo ys.length vc) ys.length us rfl HOW.out.row ⟨W.heap.size, 0, none⟩ 1 1 [.slice uo r.length uc] rfl rfl (World.news_of_block (cs := #[.slice uo r.length uc]) (heap_alloc_new W _)) (fun y hy => by rw [List.mem_singleton.1 hy]; rfl) (by omega) (by unfold maxLen; omega) (by omega) (by simp; omega) _ rfl ?_; refine Hid.out ?_)
              refine Lib.hid ?_
              intro gg cap w8 hown8 hgrow hat hlt8
              have HN8 := Lib.hid (HOW.out.snoc HUW.out hown8 hgrow)
              have HB8 := Lib.hid (HBW.out.grown hgrow (hBB ▸ HBW.out.size) (fun q hq => (World.ownsRow.lt HOW.out.row q hq).1))
              clear hown8 hgrow hat
              go_wp2
              refine ⟨⟨k + 1, us ++ [.slice uo r.length uc], by go_num, by omega, ?_, HB8⟩, by simp [intOf]; omega⟩
              rw [HX.out]
              exact HN8
          · have hke : rs.take k = rs := List.take_of_length_le (by omega)
            have hO1 := hO.out
            rw [hke] at hO1
            obtain ⟨vo, vc, hvs⟩ := hO1.shape
            subst hvs
            have HO1 := Lib.hid hO1
            have hwr := HB.out.trans (hW.out.mono (by omega))
            have LN := Lib.hid (lines_any _ rs wr hO1.at_ HF.out)
            have HWR := Lib.hid hwr
            have HFA := Lib.hid (HAT.out.below hwr (Nat.le_refl _))
            have hzw := hwr.size
            clear hO hO1 hke hwr
            go_wp2_with fail
            refine LN.out.mono ?_
            rintro e w2 ⟨rfl, hb2⟩
            have hz2 := hb2.size
            have HO2 := Lib.hid (HO1.out.below hb2)
            have HB2 := Lib.hid (HWR.out.trans (hb2.mono hzw))
            have RLN := Lib.hid (refLines_any _ rs w2 ((HAT.out.below HB2.out (Nat.le_refl _)).up (by omega)) HF.out)
            clear hb2 LN
            go_wp2_with fail
            refine RLN.out.mono ?_
            rintro e w3 ⟨rfl, hb3⟩
            have hz3 := hb3.size
            have HO3 := Lib.hid (HO2.out.below hb3)
            have HB3 := Lib.hid (HB2.out.trans (hb3.mono (by omega)))
            have WN := Lib.hid (widths_any _ rs w3 HO3.out.at_ (Nat.le_trans HF.out.many (by omega)) (fun r hr => Nat.le_trans (HF.out.cols r hr) (by omega)))
            clear hb3 RLN
            go_wp2_with fail
            refine WN.out.mono ?_
            rintro e w4 ⟨u1, rfl, hN4, hb4⟩
            have hz4 := hb4.size
            obtain ⟨o1, c1, hu1⟩ := hN4.shape
            subst hu1
            have HO4 := Lib.hid (HO3.out.below hb4)
            have HB4 := Lib.hid (HB3.out.trans (hb4.mono (by omega)))
            have HN4 := Lib.hid hN4
            have RWN := Lib.hid (refWidths_any _ rs w4 ((HAT.out.below HB4.out (Nat.le_refl _)).up (by omega)) (Nat.le_trans HF.out.many (by omega)) (most_le fun r hr => Nat.le_trans (HF.out.cols r hr) (by omega)))
            clear hb4 WN hN4
            go_wp2_with fail
            refine RWN.out.mono ?_
            rintro e w5 ⟨u2, rfl, hN5, hb5⟩
            have hz5 := hb5.size
            obtain ⟨o2, c2, hu2⟩ := hN5.shape
            subst hu2
            have HO5 := Lib.hid (HO4.out.below hb5)
            have HB5 := Lib.hid (HB4.out.trans (hb5.mono (by omega)))
            have hi4 := HN4.out.ints.below hb5 (Nat.le_refl _)
            have IS := Lib.hid (ints_same w5.heap.size _ _ (widths rs) w5 (hi4.up hz5) hN5.ints (by rw [widths_len]; have := most_le (rs := rs) (n := 100) HF.out.cols; omega))
            clear hb5 RWN hN5 hi4
            go_wp2_with fail
            refine IS.out.mono ?_
            rintro e w6 ⟨rfl, n6, rfl⟩
            have RS := Lib.hid (rows_same w5.heap.size _ _ rs (w5.drewN n6) HO5.out.at_ ((HAT.out.below HB5.out (Nat.le_refl _)).up (by omega)) (by omega) (fun r hr => Nat.le_trans (HF.out.cols r hr) (by omega)))
            clear IS
            go_wp2_with fail
            refine RS.out.mono ?_
            rintro e w7 ⟨rfl, n7, rfl⟩
            go_wp2
            go_ret
            exact ⟨rfl, below_dn HB5.out _⟩
      · go_wp2
        go_ret
        exact ⟨rfl, HB.out⟩
end Go.Proofs.YtboiaoaephimhaaDoor.T
