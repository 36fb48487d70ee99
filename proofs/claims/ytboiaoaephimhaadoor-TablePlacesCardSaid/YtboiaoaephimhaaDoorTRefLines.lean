/- The reference's lines: stanzakeepref25.Lines. -/
import Derived.Test.YtboiaoaephimhaaDoorTRef
import Derived.Test.YtboiaoaephimhaaDoorTLines
namespace Go.Proofs.YtboiaoaephimhaaDoor.T
open Go.RowKit Go.Shelf
open Go.Proofs.YtboiaoaephimhaaDoor.B

/-- What a text holds. -/
def Holds (v : Value) (l : List UInt8) : Prop := ∃ x : ByteArray, v = .string x ∧ x.data.toList = l
theorem Holds.app {x s : ByteArray} {l m : List UInt8} (h : x.data.toList = l) (hs : s.data.toList = m) : (x ++ s).data.toList = l ++ m := by rw [append_dl', h, hs]
theorem ba_le {x : ByteArray} {l : List UInt8} {n : Nat} (h : x.data.toList = l) (hl : l.length ≤ n) : x.size ≤ n := by rw [Lib.size_eq, h]; exact hl
theorem linesTo_take_len {ws : List Nat} {rs : List (List ByteArray)} (h : ∀ r ∈ rs, RowFit ws r) (hn : rs.length ≤ 1000) (k : Nat) : (linesTo ws (rs.take k)).length ≤ 20000201000 := by
  have := linesTo_len (ws := ws) (rs := rs.take k) fun r hr => h r (List.mem_of_mem_take hr)
  rw [List.length_take] at this
  omega
theorem lineTo_len' {ws : List Nat} {r : List ByteArray} (h : RowFit ws r) (j : Nat) (hj : j ≤ 100) : (lineTo ws r j).length ≤ 20000200 := by
  have := lineTo_len h j
  omega
set_option maxRecDepth 20000 in
set_option maxHeartbeats 6400000 in
theorem refLines_any (v : Value) (rs : List (List ByteArray)) (w : World) (h : RowsAt w.heap.size w v rs) (hf : RowsFine rs) :
    Calls Tryd.prog 7 #[v] w fun e w' => e = .returned (.string ⟨(linesL rs).toArray⟩) ∧ Below w.heap.size w w' := by
  have HF := Lib.hid (fun (r : List ByteArray) (hr : r ∈ rs) => hf.fit hr)
  have hmany := hf.many
  have HCO := Lib.hid hf.cols
  have WD := Lib.hid (refWidths_any v rs w h (by omega) (most_le fun r hr => Nat.le_trans (hf.cols r hr) (by omega)))
  obtain ⟨ao, cp, rfl, hc⟩ := h
  have HC := Lib.hid hc
  obtain ⟨ws, hws⟩ : ∃ ws, widths rs = ws := ⟨_, rfl⟩
  have HLL := Lib.hid (show linesL rs = linesTo (widths rs) rs from rfl)
  rw [hws] at HF HLL WD
  have HTL := Lib.hid (linesTo_take_len HF.out hmany)
  clear hc hws hf
  go_enter Tryd.func7, Tryd.ntmps7
  go_wp2_with fail
  refine WD.out.mono ?_
  rintro e w1 ⟨u, rfl, hN, hb⟩
  obtain ⟨uo, uc, hus⟩ := hN.shape
  subst hus
  have hI := hN.ints
  obtain ⟨uo', uc', hu2, hIC⟩ := hI
  injection hu2 with e1 e2 e3
  subst e1
  have HIC := Lib.hid hIC
  have HB := Lib.hid hb
  clear hN hb WD hIC e2 e3
  go_wp2
  go_loop [3, 5] (fun o i => ∃ (k : Nat) (x : ByteArray), i = .int .i64 k ∧ k ≤ rs.length ∧ o = .string x ∧ Hid (x.data.toList = linesTo ws (rs.take k))) (fun _ i => rs.length - (intOf i).toNat)
  case atStart => exact ⟨0, ⟨#[]⟩, rfl, Nat.zero_le _, rfl, Lib.hid rfl⟩
  case round =>
    obtain ⟨k, x, rfl, hk, rfl, hx⟩ := hrel
    have hxs := ba_le hx.out (HTL.out k)
    by_cases hlt : k < rs.length
    · obtain ⟨r, hr⟩ : ∃ r, rs[k]? = some r := ⟨_, List.getElem?_eq_getElem hlt⟩
      obtain ⟨a, vr, rfl, ha, h1, h2⟩ := HC.out k r hr
      have c1 := (HB.out.cell (p := a.add k) (by rw [add_block]; exact ha)).trans h1
      have hrm := List.mem_of_getElem? hr
      have hfit := HF.out r hrm
      obtain ⟨ro, rc, hvr, hrc⟩ := h2
      subst hvr
      have HR := Lib.hid hrc
      have hcols := HCO.out r hrm
      have HFIT := Lib.hid hfit
      have et : rs.take (k + 1) = rs.take k ++ [r] := by rw [List.take_add_one, hr]; rfl
      have E1 := Lib.hid (show linesTo ws (rs.take (k + 1)) = _ by rw [et, linesTo_snoc])
      have HT0 := Lib.hid (HTL.out k)
      obtain ⟨L1, hL1⟩ : ∃ L1, linesTo ws (rs.take k) = L1 := ⟨_, rfl⟩
      rw [hL1] at hx E1 HT0
      have hx0 := Lib.hid (show x.data.toList = L1 ++ lineTo ws r 0 by rw [hx.out]; simp [lineTo])
      clear h1 hr hrm hfit et hL1 hrc
      go_wp2
      go_loop [3, 6] (fun o i => ∃ (j : Nat) (y : ByteArray), i = .int .i64 j ∧ j ≤ r.length ∧ o = .string y ∧ Hid (y.data.toList = L1 ++ lineTo ws r j)) (fun _ i => r.length - (intOf i).toNat)
      case atStart => exact ⟨0, x, rfl, Nat.zero_le _, rfl, hx0⟩
      case round =>
        obtain ⟨j, y, rfl, hj, rfl, hy⟩ := hrel
        have hys : y.size ≤ 20020201200 := ba_le hy.out (by
          have := lineTo_len' HFIT.out j (by omega)
          have := HT0.out
          rw [List.length_append]; omega)
        by_cases hjl : j < r.length
        · obtain ⟨s, hs⟩ : ∃ s, r[j]? = some s := ⟨_, List.getElem?_eq_getElem hjl⟩
          obtain ⟨b, rfl, hb1, hb2⟩ := HR.out j s hs
          have c2 := (HB.out.cell (p := b.add j) (by rw [add_block]; exact hb1)).trans hb2
          obtain ⟨n, hn, hn1, hn2⟩ := HFIT.out.at_ j s hs
          obtain ⟨d, rfl, hd1, c3⟩ := HIC.out j n hn
          have hwl := (List.getElem?_eq_some_iff.1 hn).1
          have hgd : ws.getD j 0 = n := by simp [hn]
          have hPi := Lib.hid (piece_some ws r j s hs)
          rw [hgd] at hPi
          have hSu := Lib.hid (lineTo_succ ws r j)
          have hz0 : (y ++ s).data.toList = L1 ++ lineTo ws r j ++ s.data.toList ++ List.replicate 0 32 := by rw [append_dl', hy.out]; simp
          have HZ0 := Lib.hid hz0
          have hsz0 : (y ++ s).size ≤ 20020301200 := by rw [ba_size_append]; omega
          clear hs hb2 hn hgd hz0
          by_cases hlast : j + 1 < r.length
          · have hne : ((j : Int) == (r.length : Int) - 1) = false := by rw [beq_eq_false_iff_ne]; omega
            go_wp2
            go_loop [3, 7] (fun o i => ∃ (q : Nat) (z : ByteArray), i = .int .i64 q ∧ s.size ≤ q ∧ q ≤ n + 2 ∧ o = .string z ∧ z.size ≤ 20020301200 + q ∧ Hid (z.data.toList = L1 ++ lineTo ws r j ++ s.data.toList ++ List.replicate (q - s.size) 32)) (fun _ i => n + 2 - (intOf i).toNat)
            case atStart => exact ⟨s.size, _, rfl, Nat.le_refl _, by omega, rfl, by omega, by rw [Nat.sub_self]; exact HZ0⟩
            case round =>
              obtain ⟨q, z, rfl, hq1, hq2, rfl, hzs, hz⟩ := hrel
              by_cases hql : q < n + 2
              · go_wp2
                go_round
                case rel =>
                  refine ⟨q + 1, _, by go_num, by omega, by omega, rfl, ?_, ?_⟩
                  · rw [ba_size_append]; have e2 : (⟨#[32]⟩ : ByteArray).size = 1 := rfl; omega
                  · refine Lib.hid ?_
                    rw [append_dl', hz.out, show q + 1 - s.size = (q - s.size) + 1 by omega, List.replicate_succ']
                    simp
                case measure => simp [intOf]; omega
              · have hqe : q = n + 2 := by omega
                subst hqe
                go_wp2
                go_round
                case rel =>
                  refine ⟨j + 1, _, by go_num, by omega, rfl, Lib.hid ?_⟩
                  have e2 := hPi.out
                  rw [if_pos hlast] at e2
                  rw [hz.out, hSu.out, e2, show n + 2 - s.size = n - s.size + 2 by omega]
                  simp [List.append_assoc]
                case measure => simp [intOf]; omega
          · have heq : ((j : Int) == (r.length : Int) - 1) = true := by rw [beq_iff_eq]; omega
            go_wp2
            go_round
            case rel =>
              refine ⟨j + 1, _, by go_num, by omega, rfl, Lib.hid ?_⟩
              have e2 := hPi.out
              rw [if_neg hlast] at e2
              rw [HZ0.out, hSu.out, e2]
              simp [List.append_assoc]
            case measure => simp [intOf]; omega
        · have hje : j = r.length := by omega
          subst hje
          go_wp2
          go_round
          case rel =>
            refine ⟨k + 1, _, by go_num, by omega, rfl, Lib.hid ?_⟩
            rw [append_dl', hy.out, E1.out]
            show L1 ++ lineTo ws r r.length ++ [10] = L1 ++ (lineTo ws r r.length ++ [10])
            rw [List.append_assoc]
          case measure => simp [intOf]; omega
    · have hk' : rs.take k = rs := List.take_of_length_le (by omega)
      rw [hk'] at hx
      clear hk'
      go_wp2
      go_ret
      refine ⟨?_, HB.out⟩
      rw [HLL.out, ← hx.out]
      rfl
end Go.Proofs.YtboiaoaephimhaaDoor.T
