/- slices.symMergeCmpFunc, walked. -/
import Derived.Test.YtjbnjlkoipkpoaaGreatDoorTSrtIns
namespace Go.Proofs.YtjbnjlkoipkpoaaGreatDoor.T
open Go.RowKit Go.Shelf
open Go.Proofs.YtjbnjlkoipkpoaaGreatDoor.B

theorem rot_id {d : Nat → Nat} {st m en : Nat} (h1 : st ≤ m) (h2 : m ≤ en) (h : st = m ∨ m = en) : Rot d d st m en := by
  intro p
  by_cases c : st ≤ p ∧ p < st + (en - m)
  · rw [if_pos c]; congr 1; omega
  · rw [if_neg c]
    by_cases c2 : st + (en - m) ≤ p ∧ p < en
    · rw [if_pos c2]; congr 1; omega
    · rw [if_neg c2]
theorem inc_bd {d d1 : Nat → Nat} {a b n : Nat} (h : Inc d d1 a b) (hb : b ≤ n) (hd : ∀ p, p < n → d p < n) : ∀ p, p < n → d1 p < n := fun p hp => by
  by_cases c : a ≤ p ∧ p < b
  · obtain ⟨q, q1, q2, q3⟩ := h.2 p c.1 c.2
    rw [q3]; exact hd q (by omega)
  · rw [h.1 p c]; exact hd p hp
set_option maxRecDepth 100000 in
set_option maxHeartbeats 12800000 in
theorem symA (cf : Nat → Nat → Int) (hL : Less (ltc cf)) (kb n cap : Nat) (rb : Nat) (E : Nat → El) (w0 : World) (HC : CmpAt w0 rb n kb E cf) (hn : n ≤ 1000000) (a m b : Nat) (d : Nat → Nat) (W : World) (ham : a < m) (hmb : m < b) (hbn : b ≤ n) (S : SrtW w0 rb n E d W) (hbd : ∀ p, p < n → d p < n) (hs1 : Srt (ltc cf) d a m) (hs2 : Srt (ltc cf) d m b) (hcr : Crs d a m b) (h1 : m ≤ a + 1) :
    Calls Tryz.prog 163 #[.slice (some ⟨rb, 0, none⟩) n cap, .int .i64 a, .int .i64 m, .int .i64 b, cmpV kb] W fun e w' => e = .returned (.tuple #[]) ∧ ∃ d', SrtW w0 rb n E d' w' ∧ Srt (ltc cf) d' a b ∧ Inc d d' a b := by
  have mixed : Tryz.prog.follows .mixedOrders = true := by kernel_rfl
  have S0 := Lib.hid S
  have HCC := Lib.hid HC
  have HBD := Lib.hid hbd
  have HS1 := Lib.hid hs1
  have HS2 := Lib.hid hs2
  have HCR := Lib.hid hcr
  clear S HC hbd hs1 hs2 hcr
  unfold cmpV
  go_enter Tryz.func163, Tryz.ntmps163
  · have hd1 : ((m : Int) - (a : Int) == 1) = true := by rw [beq_iff_eq]; omega
    go_wp2
    go_loopw [10, 11] (fun si sj W => ∃ (i j : Nat), si = .int .i64 i ∧ sj = .int .i64 j ∧ m ≤ i ∧ i ≤ j ∧ j ≤ b ∧ Hid (SrtW w0 rb n E d W) ∧ Hid (m < i → ltc cf (d (i - 1)) (d a) = true) ∧ Hid (j < b → ltc cf (d j) (d a) = false)) (fun si sj _ => (intOf sj).toNat - (intOf si).toNat)
    case atStart => exact ⟨m, b, rfl, rfl, Nat.le_refl _, by omega, Nat.le_refl _, S0, Lib.hid fun h => absurd h (Nat.lt_irrefl _), Lib.hid fun h => absurd h (Nat.lt_irrefl _)⟩
    case round =>
      clear S0
      obtain ⟨i, j, rfl, rfl, hi, hij, hjb, hS, f1, f2⟩ := hrel
      by_cases hlt : i < j
      · obtain ⟨h, hh⟩ : ∃ h, (i + j) / 2 = h := ⟨_, rfl⟩
        have eh : ((i : Int) + (j : Int)) / 2 = (h : Int) := by omega
        have hz1 : (h : Int) < (n : Int) := by omega
        have hz2 : (a : Int) < (n : Int) := by omega
        have hi1 : h < n := by omega
        have hj1 : a < n := by omega
        have a0 := hS.out.c0 _ hi1
        have a1 := hS.out.c1 _ hi1
        have b0 := hS.out.c0 _ hj1
        have b1 := hS.out.c1 _ hj1
        obtain ⟨ea, hea⟩ : ∃ e, E (d (h)) = e := ⟨_, rfl⟩
        obtain ⟨eb, heb⟩ : ∃ e, E (d (a)) = e := ⟨_, rfl⟩
        rw [hea] at a0 a1
        rw [heb] at b0 b1
        have C := HCC.out wr.drew (hS.out.keep.below (Below.refl _ _).drew) (d (h)) (d (a)) (HBD.out _ hi1) (HBD.out _ hj1)
        rw [hea, heb] at C
        have CC := Lib.hid C
        have hrl : rb < wr.heap.size := Nat.lt_of_lt_of_le hS.out.lt hS.out.keep.size
        clear hea heb C
        obtain ⟨i1, i2, i3, i4⟩ := ea
        obtain ⟨j1, j2, j3, j4⟩ := eb
        simp only at a0 a1 b0 b1
        go_upto_region 5 with fail
        try rw [eh]
        go_region_held3 (fun W' => W'.cell? ⟨rb, (h) * 2, none⟩ = some (.int .i64 i1) ∧ W'.cell? ⟨rb, (h) * 2 + 1, none⟩ = some (.slice i2 i3 i4) ∧ W'.cell? ⟨rb, (a) * 2, none⟩ = some (.int .i64 j1) ∧ W'.cell? ⟨rb, (a) * 2 + 1, none⟩ = some (.slice j2 j3 j4)) (first | exact ⟨a0, a1, b0, b1⟩ | exact ⟨k0, k1, k2, k3⟩) (first
          | (go_at_call 86; refine CC.out.mono ?_; rintro e w7 ⟨rfl, hb7⟩; have k0 := (hb7.cell (p := ⟨rb, (h) * 2, none⟩) hrl).trans a0; have k1 := (hb7.cell (p := ⟨rb, (h) * 2 + 1, none⟩) hrl).trans a1; have k2 := (hb7.cell (p := ⟨rb, (a) * 2, none⟩) hrl).trans b0; have k3 := (hb7.cell (p := ⟨rb, (a) * 2 + 1, none⟩) hrl).trans b1))
        have HS7 := Lib.hid ((hS.out.below (Below.refl _ _).drew).below hb7)
        clear hb7 a0 a1 b0 b1 k0 k1 k2 k3 CC hS
        by_cases hc : cf (d h) (d a) < 0
        · have hcd : decide (cf (d h) (d a) < 0) = true := decide_eq_true hc
          have HCT : Hid (ltc cf (d h) (d a) = true) := Lib.hid hcd
          go_wp2
          exact ⟨⟨h + 1, j, by go_num, rfl, by omega, by omega, hjb, HS7, Lib.hid fun _ => HCT.out, f2⟩, by simp [intOf]; omega⟩
        · have hcd : decide (cf (d h) (d a) < 0) = false := decide_eq_false hc
          have HCT : Hid (ltc cf (d h) (d a) = false) := Lib.hid hcd
          go_wp2
          exact ⟨⟨i, h, rfl, rfl, hi, by omega, by omega, HS7, f1, Lib.hid fun _ => HCT.out⟩, by simp [intOf]; omega⟩
      · have hije : j = i := by omega
        subst hije
        have hi1' : (j : Int) - 1 = ((j - 1 : Nat) : Int) := by omega
        go_wp2
        go_loopw [13] (fun s W => ∃ (k : Nat) (dk : Nat → Nat), s = .int .i64 k ∧ a ≤ k ∧ k + 1 ≤ j ∧ Hid (SrtW w0 rb n E dk W) ∧ Hid (∀ p, dk p = if a ≤ p ∧ p < k then d (p + 1) else if p = k then d a else d p)) (fun s _ => j - (intOf s).toNat)
        case atStart => exact ⟨a, d, rfl, Nat.le_refl _, by omega, hS, Lib.hid fun p => (by rw [if_neg (by omega)]; by_cases c : p = a; rw [if_pos c, c]; rw [if_neg c])⟩
        case round =>
          clear hS
          obtain ⟨k, dk, rfl, hak, hki, hS, hD⟩ := hrel
          by_cases hlt2 : k + 1 < j
          · have kz : (k : Int) + 1 < (n : Int) := by omega
            have kz1 : (k : Int) < (n : Int) := by omega
            have kz2 : (k : Int) < ((j - 1 : Nat) : Int) := by omega
            have kp0 : (0 : Int) ≤ (k : Int) + 1 := by omega
            have ke0 : ((k : Int) + 1).toNat = k + 1 := by omega
            have kw1 : IntKind.i64.wrap ((k : Int) + 1) = (k : Int) + 1 := IntWalk.i64_in _ (by omega)
            have hi1 : k < n := by omega
            have hj1 : k + 1 < n := by omega
            have a0 := hS.out.c0 _ hi1
            have a1 := hS.out.c1 _ hi1
            have b0 := hS.out.c0 _ hj1
            have b1 := hS.out.c1 _ hj1
            have x0 := hS.out.f0 _ hi1
            have x1 := hS.out.f1 _ hi1
            have y0 := hS.out.f0 _ hj1
            have y1 := hS.out.f1 _ hj1
            obtain ⟨ea, hea⟩ : ∃ e, E (dk (k)) = e := ⟨_, rfl⟩
            obtain ⟨eb, heb⟩ : ∃ e, E (dk (k + 1)) = e := ⟨_, rfl⟩
            rw [hea] at a0 a1
            rw [heb] at b0 b1
            have HS8 := Lib.hid (hS.out.swapped hi1 hj1 hea heb)
            clear hea heb hS
            obtain ⟨i1, i2, i3, i4⟩ := ea
            obtain ⟨j1, j2, j3, j4⟩ := eb
            simp only at a0 a1 b0 b1
            go_wp2_with fail
            go_big_region_o
            go_wp2
            refine ⟨⟨k + 1, _, by go_num, by omega, by omega, HS8, Lib.hid fun p => ?_⟩, by simp [intOf]; omega⟩
            have hD := hD.out
            unfold swf
            by_cases c1 : p = k
            · rw [if_pos c1, hD, if_neg (by omega), if_neg (by omega), if_pos (by omega), c1]
            · rw [if_neg c1]
              by_cases c2 : p = k + 1
              · rw [if_pos c2, hD, if_neg (by omega), if_pos rfl, if_neg (by omega), if_pos c2]
              · rw [if_neg c2, hD, if_neg c1]
                by_cases c3 : a ≤ p ∧ p < k
                · rw [if_pos c3, if_pos (by omega)]
                · rw [if_neg c3, if_neg (by omega), if_neg c2]
          · have kz2 : ¬ (k : Int) < ((j - 1 : Nat) : Int) := by omega
            have hke : j = k + 1 := by omega
            obtain ⟨q1, q2⟩ := front hL (d' := dk) (a := a) (b := b) (by rw [show a + 1 = m by omega]; exact HS2.out) (by rw [show a + 1 = m by omega]; exact HCR.out) (i := j) (by omega) hjb (fun h => f1.out (by omega)) f2.out (fun p => by
              rw [hD.out p]
              by_cases c : a ≤ p ∧ p < k
              · rw [if_pos c, if_pos (by omega)]
              · rw [if_neg c, if_neg (by omega : ¬ (a ≤ p ∧ p + 1 < j))]
                by_cases c2 : p = k
                · rw [if_pos c2, if_pos (by omega)]
                · rw [if_neg c2, if_neg (by omega : ¬ p + 1 = j)])
            have Q1 := Lib.hid q1
            have Q2 := Lib.hid q2
            clear q1 q2
            go_wp2
            refine bodyPost_ret (results_none rfl _ _ _) rfl ?_
            exact ⟨rfl, dk, hS.out, Q1.out, Q2.out⟩
set_option maxRecDepth 100000 in
set_option maxHeartbeats 12800000 in
theorem symB (cf : Nat → Nat → Int) (hL : Less (ltc cf)) (kb n cap : Nat) (rb : Nat) (E : Nat → El) (w0 : World) (HC : CmpAt w0 rb n kb E cf) (hn : n ≤ 1000000) (a m b : Nat) (d : Nat → Nat) (W : World) (_ : a < m) (hmb : m < b) (hbn : b ≤ n) (S : SrtW w0 rb n E d W) (hbd : ∀ p, p < n → d p < n) (hs1 : Srt (ltc cf) d a m) (hs2 : Srt (ltc cf) d m b) (hcr : Crs d a m b) (h1 : ¬ m ≤ a + 1) (h2 : b ≤ m + 1) :
    Calls Tryz.prog 163 #[.slice (some ⟨rb, 0, none⟩) n cap, .int .i64 a, .int .i64 m, .int .i64 b, cmpV kb] W fun e w' => e = .returned (.tuple #[]) ∧ ∃ d', SrtW w0 rb n E d' w' ∧ Srt (ltc cf) d' a b ∧ Inc d d' a b := by
  have mixed : Tryz.prog.follows .mixedOrders = true := by kernel_rfl
  have S0 := Lib.hid S
  have HCC := Lib.hid HC
  have HBD := Lib.hid hbd
  have HS1 := Lib.hid hs1
  have HS2 := Lib.hid hs2
  have HCR := Lib.hid hcr
  clear S HC hbd hs1 hs2 hcr
  unfold cmpV
  go_enter Tryz.func163, Tryz.ntmps163
  · have hd1 : ((m : Int) - (a : Int) == 1) = false := by rw [beq_eq_false_iff_ne]; omega
    · have hd2 : ((b : Int) - (m : Int) == 1) = true := by rw [beq_iff_eq]; omega
      go_wp2
      go_loopw [14, 15] (fun si sj W => ∃ (i j : Nat), si = .int .i64 i ∧ sj = .int .i64 j ∧ a ≤ i ∧ i ≤ j ∧ j ≤ m ∧ Hid (SrtW w0 rb n E d W) ∧ Hid (a < i → ltc cf (d m) (d (i - 1)) = false) ∧ Hid (j < m → ltc cf (d m) (d j) = true)) (fun si sj _ => (intOf sj).toNat - (intOf si).toNat)
      case atStart => exact ⟨a, m, rfl, rfl, Nat.le_refl _, by omega, Nat.le_refl _, S0, Lib.hid fun h => absurd h (Nat.lt_irrefl _), Lib.hid fun h => absurd h (Nat.lt_irrefl _)⟩
      case round =>
        clear S0
        obtain ⟨i, j, rfl, rfl, hi, hij, hjb, hS, f1, f2⟩ := hrel
        by_cases hlt : i < j
        · obtain ⟨h, hh⟩ : ∃ h, (i + j) / 2 = h := ⟨_, rfl⟩
          have eh : ((i : Int) + (j : Int)) / 2 = (h : Int) := by omega
          have hz1 : (h : Int) < (n : Int) := by omega
          have hz2 : (m : Int) < (n : Int) := by omega
          have hi1 : m < n := by omega
          have hj1 : h < n := by omega
          have a0 := hS.out.c0 _ hi1
          have a1 := hS.out.c1 _ hi1
          have b0 := hS.out.c0 _ hj1
          have b1 := hS.out.c1 _ hj1
          obtain ⟨ea, hea⟩ : ∃ e, E (d (m)) = e := ⟨_, rfl⟩
          obtain ⟨eb, heb⟩ : ∃ e, E (d (h)) = e := ⟨_, rfl⟩
          rw [hea] at a0 a1
          rw [heb] at b0 b1
          have C := HCC.out wr.drew (hS.out.keep.below (Below.refl _ _).drew) (d (m)) (d (h)) (HBD.out _ hi1) (HBD.out _ hj1)
          rw [hea, heb] at C
          have CC := Lib.hid C
          have hrl : rb < wr.heap.size := Nat.lt_of_lt_of_le hS.out.lt hS.out.keep.size
          clear hea heb C
          obtain ⟨i1, i2, i3, i4⟩ := ea
          obtain ⟨j1, j2, j3, j4⟩ := eb
          simp only at a0 a1 b0 b1
          go_upto_region 17 with fail
          try rw [eh]
          go_region_held3 (fun W' => W'.cell? ⟨rb, (m) * 2, none⟩ = some (.int .i64 i1) ∧ W'.cell? ⟨rb, (m) * 2 + 1, none⟩ = some (.slice i2 i3 i4) ∧ W'.cell? ⟨rb, (h) * 2, none⟩ = some (.int .i64 j1) ∧ W'.cell? ⟨rb, (h) * 2 + 1, none⟩ = some (.slice j2 j3 j4)) (first | exact ⟨a0, a1, b0, b1⟩ | exact ⟨k0, k1, k2, k3⟩) (first
            | (go_at_call 86; refine CC.out.mono ?_; rintro e w7 ⟨rfl, hb7⟩; have k0 := (hb7.cell (p := ⟨rb, (m) * 2, none⟩) hrl).trans a0; have k1 := (hb7.cell (p := ⟨rb, (m) * 2 + 1, none⟩) hrl).trans a1; have k2 := (hb7.cell (p := ⟨rb, (h) * 2, none⟩) hrl).trans b0; have k3 := (hb7.cell (p := ⟨rb, (h) * 2 + 1, none⟩) hrl).trans b1))
          have HS7 := Lib.hid ((hS.out.below (Below.refl _ _).drew).below hb7)
          clear hb7 a0 a1 b0 b1 k0 k1 k2 k3 CC hS
          by_cases hc : cf (d m) (d h) < 0
          · have HCT : Hid (ltc cf (d m) (d h) = true) := Lib.hid (decide_eq_true hc)
            have hcd : (!decide (cf (d m) (d h) < 0)) = false := by rw [decide_eq_true hc]; rfl
            rw [hcd]
            clear hcd
            go_wp2
            exact ⟨⟨i, h, rfl, rfl, hi, by omega, by omega, HS7, f1, Lib.hid fun _ => HCT.out⟩, by simp [intOf]; omega⟩
          · have HCT : Hid (ltc cf (d m) (d h) = false) := Lib.hid (decide_eq_false hc)
            have hcd : (!decide (cf (d m) (d h) < 0)) = true := by rw [decide_eq_false hc]; rfl
            rw [hcd]
            clear hcd
            go_wp2
            exact ⟨⟨h + 1, j, by go_num, rfl, by omega, by omega, hjb, HS7, Lib.hid fun _ => HCT.out, f2⟩, by simp [intOf]; omega⟩
        · have hije : j = i := by omega
          subst hije
          go_wp2
          go_loopw [17] (fun s W => ∃ (k : Nat) (dk : Nat → Nat), s = .int .i64 k ∧ j ≤ k ∧ k ≤ m ∧ Hid (SrtW w0 rb n E dk W) ∧ Hid (∀ p, dk p = if p = k then d m else if k < p ∧ p ≤ m then d (p - 1) else d p)) (fun s _ => (intOf s).toNat)
          case atStart => exact ⟨m, d, rfl, hjb, Nat.le_refl _, hS, Lib.hid fun p => (by by_cases c : p = m; rw [if_pos c, c]; rw [if_neg c, if_neg (by omega)])⟩
          case round =>
            clear hS
            obtain ⟨k, dk, rfl, hjk, hkm, hS, hD⟩ := hrel
            by_cases hlt2 : j < k
            · obtain ⟨kp, rfl⟩ : ∃ kp, k = kp + 1 := ⟨k - 1, by omega⟩
              have kz : (kp : Int) + 1 < (n : Int) := by omega
              have kz1 : (kp : Int) < (n : Int) := by omega
              have kz2 : (j : Int) < (kp : Int) + 1 := by omega
              have kp0 : (0 : Int) ≤ (kp : Int) + 1 := by omega
              have ke0 : ((kp : Int) + 1).toNat = kp + 1 := by omega
              have kw0 : IntKind.i64.wrap (kp : Int) = (kp : Int) := IntWalk.i64_in _ (by omega)
              have kw1 : IntKind.i64.wrap ((kp : Int) + 1) = (kp : Int) + 1 := IntWalk.i64_in _ (by omega)
              have hi1 : kp + 1 < n := by omega
              have hj1 : kp < n := by omega
              have a0 := hS.out.c0 _ hi1
              have a1 := hS.out.c1 _ hi1
              have b0 := hS.out.c0 _ hj1
              have b1 := hS.out.c1 _ hj1
              have x0 := hS.out.f0 _ hi1
              have x1 := hS.out.f1 _ hi1
              have y0 := hS.out.f0 _ hj1
              have y1 := hS.out.f1 _ hj1
              obtain ⟨ea, hea⟩ : ∃ e, E (dk (kp + 1)) = e := ⟨_, rfl⟩
              obtain ⟨eb, heb⟩ : ∃ e, E (dk (kp)) = e := ⟨_, rfl⟩
              rw [hea] at a0 a1
              rw [heb] at b0 b1
              have HS8 := Lib.hid (hS.out.swapped hi1 hj1 hea heb)
              clear hea heb hS
              obtain ⟨i1, i2, i3, i4⟩ := ea
              obtain ⟨j1, j2, j3, j4⟩ := eb
              simp only at a0 a1 b0 b1
              go_wp2_with fail
              go_big_region_o
              go_wp2
              refine ⟨⟨kp, _, by go_num, by omega, by omega, HS8, Lib.hid fun p => ?_⟩, by simp [intOf]⟩
              have hD := hD.out
              unfold swf
              by_cases c1 : p = kp + 1
              · rw [if_pos c1, hD, if_neg (by omega), if_neg (by omega), if_neg (by omega), if_pos (by omega), c1]; rfl
              · rw [if_neg c1]
                by_cases c2 : p = kp
                · rw [if_pos c2, hD, if_pos rfl, if_pos c2]
                · rw [if_neg c2, if_neg c2, hD, if_neg c1]
                  by_cases c3 : kp + 1 < p ∧ p ≤ m
                  · rw [if_pos c3, if_pos (by omega)]
                  · rw [if_neg c3, if_neg (by omega)]
            · have kz2 : ¬ (j : Int) < (k : Int) := by omega
              have hke : k = j := by omega
              subst hke
              obtain ⟨q1, q2⟩ := back hL (d' := dk) HS1.out (by rw [show m + 1 = b by omega]; exact HCR.out) (i := k) hi hjb f1.out f2.out hD.out
              rw [show m + 1 = b by omega] at q1 q2
              have Q1 := Lib.hid q1
              have Q2 := Lib.hid q2
              clear q1 q2
              go_wp2
              refine bodyPost_ret (results_none rfl _ _ _) rfl ?_
              exact ⟨rfl, dk, hS.out, Q1.out, Q2.out⟩
set_option maxRecDepth 100000 in
set_option maxHeartbeats 12800000 in
theorem symMerge_any (cf : Nat → Nat → Int) (hL : Less (ltc cf)) (kb n cap : Nat) (rb : Nat) (E : Nat → El) (w0 : World) (HC : CmpAt w0 rb n kb E cf) (hn : n ≤ 1000000) :
    ∀ (len a m b : Nat) (d : Nat → Nat) (W : World), b - a ≤ len → a < m → m < b → b ≤ n → SrtW w0 rb n E d W → (∀ p, p < n → d p < n) → Srt (ltc cf) d a m → Srt (ltc cf) d m b → Crs d a m b →
    Calls Tryz.prog 163 #[.slice (some ⟨rb, 0, none⟩) n cap, .int .i64 a, .int .i64 m, .int .i64 b, cmpV kb] W fun e w' => e = .returned (.tuple #[]) ∧ ∃ d', SrtW w0 rb n E d' w' ∧ Srt (ltc cf) d' a b ∧ Inc d d' a b := by
  intro len
  induction len with
  | zero => intro a m b d W h1 h2 h3; omega
  | succ len ih =>
  intro a m b d W hlen ham hmb hbn S hbd hs1 hs2 hcr
  have mixed : Tryz.prog.follows .mixedOrders = true := by kernel_rfl
  have S0 := Lib.hid S
  have HCC := Lib.hid HC
  have HBD := Lib.hid hbd
  have HS1 := Lib.hid hs1
  have HS2 := Lib.hid hs2
  have HCR := Lib.hid hcr
  have IH := Lib.hid ih
  clear S HC hbd hs1 hs2 hcr ih
  unfold cmpV at IH ⊢
  by_cases h1 : m ≤ a + 1
  · exact symA cf hL kb n cap rb E w0 HCC.out hn a m b d W ham hmb hbn S0.out HBD.out HS1.out HS2.out HCR.out h1
  by_cases h2 : b ≤ m + 1
  · exact symB cf hL kb n cap rb E w0 HCC.out hn a m b d W ham hmb hbn S0.out HBD.out HS1.out HS2.out HCR.out h1 h2
  go_enter Tryz.func163, Tryz.ntmps163
  · have hd1 : ((m : Int) - (a : Int) == 1) = false := by rw [beq_eq_false_iff_ne]; omega
    · have hd2 : ((b : Int) - (m : Int) == 1) = false := by rw [beq_eq_false_iff_ne]; omega
      obtain ⟨mid, hmid⟩ : ∃ mid, (a + b) / 2 = mid := ⟨_, rfl⟩
      obtain ⟨nn, hnn⟩ : ∃ nn, mid + m = nn := ⟨_, rfl⟩
      obtain ⟨pp, hpp⟩ : ∃ pp, pp + 1 = nn := ⟨nn - 1, by omega⟩
      have emid : ((a : Int) + (b : Int)) / 2 = (mid : Int) := by omega
      have enn : (mid : Int) + (m : Int) = (nn : Int) := by omega
      have epp : (nn : Int) - 1 = (pp : Int) := by omega
      obtain ⟨lo, hi, hlo⟩ : ∃ lo hi, (mid < m ∧ lo + b = nn ∧ hi = mid) ∨ (m ≤ mid ∧ lo = a ∧ hi = m) := by
        by_cases c : mid < m
        · exact ⟨nn - b, mid, .inl ⟨c, by omega, rfl⟩⟩
        · exact ⟨a, m, .inr ⟨by omega, rfl, rfl⟩⟩
      have hlohi : lo ≤ hi := by omega
      have HLO := Lib.hid hlo
      have hlo2 : (mid < m ∧ lo + b ≤ nn ∧ nn ≤ lo + b ∧ hi ≤ mid ∧ mid ≤ hi) ∨ (m ≤ mid ∧ lo ≤ a ∧ a ≤ lo ∧ hi ≤ m ∧ m ≤ hi) := by omega
      clear hlo
      rcases hlo2 with ⟨q1, q2, q3, q4, q5⟩ | ⟨q1, q2, q3, q4, q5⟩
      all_goals
        first
        | have hmd : decide (mid < m) = true := decide_eq_true (by omega)
        | have hmd : decide (mid < m) = false := decide_eq_false (by omega)
        go_wp2
        try simp only [emid, enn, epp]
        go_loopw [20, 21] (fun si sj W => ∃ (i j : Nat), si = .int .i64 i ∧ sj = .int .i64 j ∧ lo ≤ i ∧ i ≤ j ∧ j ≤ hi ∧ Hid (SrtW w0 rb n E d W) ∧ Hid (lo < i → ltc cf (d (nn - i)) (d (i - 1)) = false) ∧ Hid (j < hi → ltc cf (d (nn - j - 1)) (d j) = true)) (fun si sj _ => (intOf sj).toNat - (intOf si).toNat)
        case atStart => exact ⟨lo, hi, by first | rfl | go_num | (congr 1; omega), by first | rfl | go_num | (congr 1; omega), Nat.le_refl _, by omega, Nat.le_refl _, S0, Lib.hid fun h => absurd h (Nat.lt_irrefl _), Lib.hid fun h => absurd h (Nat.lt_irrefl _)⟩
        case round =>
          clear S0
          obtain ⟨i, j, rfl, rfl, hi', hij, hjb, hS, f1, f2⟩ := hrel
          by_cases hlt : i < j
          · obtain ⟨h, hh⟩ : ∃ h, (i + j) / 2 = h := ⟨_, rfl⟩
            obtain ⟨pc, hpc⟩ : ∃ pc, pc + h = pp := ⟨pp - h, by omega⟩
            have eh : ((i : Int) + (j : Int)) / 2 = (h : Int) := by omega
            have ep : (pp : Int) - (h : Int) = (pc : Int) := by omega
            have hz1 : (h : Int) < (n : Int) := by omega
            have hz2 : (pc : Int) < (n : Int) := by omega
            have ew : IntKind.i64.wrap ((pp : Int) - (h : Int)) = (pc : Int) := by rw [IntWalk.i64_in _ (by omega)]; omega
            have ew2 : IntKind.i64.wrap (pc : Int) = (pc : Int) := IntWalk.i64_in _ (by omega)
            have hi1 : pc < n := by omega
            have hj1 : h < n := by omega
            have a0 := hS.out.c0 _ hi1
            have a1 := hS.out.c1 _ hi1
            have b0 := hS.out.c0 _ hj1
            have b1 := hS.out.c1 _ hj1
            obtain ⟨ea, hea⟩ : ∃ e, E (d (pc)) = e := ⟨_, rfl⟩
            obtain ⟨eb, heb⟩ : ∃ e, E (d (h)) = e := ⟨_, rfl⟩
            rw [hea] at a0 a1
            rw [heb] at b0 b1
            have C := HCC.out wr.drew (hS.out.keep.below (Below.refl _ _).drew) (d (pc)) (d (h)) (HBD.out _ hi1) (HBD.out _ hj1)
            rw [hea, heb] at C
            have CC := Lib.hid C
            have hrl : rb < wr.heap.size := Nat.lt_of_lt_of_le hS.out.lt hS.out.keep.size
            clear hea heb C
            obtain ⟨i1, i2, i3, i4⟩ := ea
            obtain ⟨j1, j2, j3, j4⟩ := eb
            simp only at a0 a1 b0 b1
            go_upto_region 35 with fail
            try rw [eh]
            go_region_held3 (fun W' => W'.cell? ⟨rb, (pc) * 2, none⟩ = some (.int .i64 i1) ∧ W'.cell? ⟨rb, (pc) * 2 + 1, none⟩ = some (.slice i2 i3 i4) ∧ W'.cell? ⟨rb, (h) * 2, none⟩ = some (.int .i64 j1) ∧ W'.cell? ⟨rb, (h) * 2 + 1, none⟩ = some (.slice j2 j3 j4)) (first | exact ⟨a0, a1, b0, b1⟩ | exact ⟨k0, k1, k2, k3⟩) (first
              | (go_at_call 86; refine CC.out.mono ?_; rintro e w7 ⟨rfl, hb7⟩; have k0 := (hb7.cell (p := ⟨rb, (pc) * 2, none⟩) hrl).trans a0; have k1 := (hb7.cell (p := ⟨rb, (pc) * 2 + 1, none⟩) hrl).trans a1; have k2 := (hb7.cell (p := ⟨rb, (h) * 2, none⟩) hrl).trans b0; have k3 := (hb7.cell (p := ⟨rb, (h) * 2 + 1, none⟩) hrl).trans b1))
            have HS7 := Lib.hid ((hS.out.below (Below.refl _ _).drew).below hb7)
            clear hb7 a0 a1 b0 b1 k0 k1 k2 k3 CC hS
            by_cases hc : cf (d pc) (d h) < 0
            · have HCT : Hid (ltc cf (d pc) (d h) = true) := Lib.hid (decide_eq_true hc)
              have hcd : (!decide (cf (d pc) (d h) < 0)) = false := by rw [decide_eq_true hc]; rfl
              rw [hcd]
              clear hcd
              go_wp2
              exact ⟨⟨i, h, rfl, rfl, hi', by omega, by omega, HS7, f1, Lib.hid fun _ => by rw [show nn - h - 1 = pc by omega]; exact HCT.out⟩, by simp [intOf]; omega⟩
            · have HCT : Hid (ltc cf (d pc) (d h) = false) := Lib.hid (decide_eq_false hc)
              have hcd : (!decide (cf (d pc) (d h) < 0)) = true := by rw [decide_eq_false hc]; rfl
              rw [hcd]
              clear hcd
              go_wp2
              exact ⟨⟨h + 1, j, by go_num, rfl, by omega, by omega, hjb, HS7, Lib.hid fun _ => by rw [show nn - (h + 1) = pc by omega, show h + 1 - 1 = h by omega]; exact HCT.out, f2⟩, by simp [intOf]; omega⟩
          · have hije : j = i := by omega
            subst hije
            obtain ⟨en, hen⟩ : ∃ en, en + j = nn := ⟨nn - j, by omega⟩
            have een : (nn : Int) - (j : Int) = (en : Int) := by omega
            have hk1 : a ≤ j := by omega
            have hk2 : j ≤ mid := by omega
            have hk3 : mid ≤ en := by omega
            have hk4 : en ≤ b := by omega
            have hk5 : j ≤ m := by omega
            have hk6 : m ≤ en := by omega
            have PO : Hid (∀ d1, Rot d d1 j m en → Part (ltc cf) d d1 a m b mid j en) := Lib.hid fun d1 hR =>
              (part_of hL ham hmb (by omega) HS1.out HS2.out HCR.out (by rw [hnn]; exact HLO.out) hi' hjb (by omega) (fun h => by rw [show en = nn - j by omega]; exact f1.out h) (fun h => by rw [show en - 1 = nn - j - 1 by omega]; exact f2.out h) hR).2.2.2.2.2.2
            have RT : Hid (j < m → m < en → Calls Tryz.prog 197 #[.slice (some ⟨rb, 0, none⟩) n cap, .int .i64 j, .int .i64 m, .int .i64 en, .func (.func 86) #[] #[.pointer (some ⟨kb, 0, none⟩)]] wr fun e w' => e = .returned (.tuple #[]) ∧ ∃ d', SrtW w0 rb n E d' w' ∧ Rot d d' j m en) := Lib.hid fun h1 h2 => rotate_any _ ⟨_, _, _, rfl⟩ j m en n cap rb E d w0 wr hS.out h1 h2 (by omega) hn
            clear f1 f2 HS1 HS2 HCR HLO
            by_cases r1 : j < m
            · have r1z : (j : Int) < (m : Int) := by omega
              have r1d : decide ((j : Int) < (m : Int)) = true := decide_eq_true r1z
              by_cases r2 : m < en
              · have r2z : (m : Int) < (en : Int) := by omega
                have r2d : decide ((m : Int) < (en : Int)) = true := decide_eq_true r2z
                have RT2 := Lib.hid (RT.out r1 r2)
                clear RT hS
                go_wp2_with fail
                refine RT2.out.mono ?_
                rintro e w4 ⟨rfl, d1, hS1, hR⟩
                have HP := Lib.hid (PO.out d1 hR)
                have HSx := Lib.hid hS1
                clear hS1 hR PO RT2
                by_cases u1 : a < j
                · have u1z : (a : Int) < (j : Int) := by omega
                  have u1d : decide ((a : Int) < (j : Int)) = true := decide_eq_true u1z
                  by_cases u2 : j < mid
                  · have u2z : (j : Int) < (mid : Int) := by omega
                    have u2d : decide ((j : Int) < (mid : Int)) = true := decide_eq_true u2z
                    have RB := Lib.hid (IH.out a j mid d1 _ (by omega) u1 u2 (by omega) HSx.out (inc_bd HP.out.inc hbn HBD.out) HP.out.s1 HP.out.s2 HP.out.c1)
                    clear HSx
                    go_wp2_with fail
                    refine RB.out.mono ?_
                    rintro e w5 ⟨rfl, d2, hS2, hT2, hI2⟩
                    have HSy := Lib.hid hS2
                    have HT2 := Lib.hid hT2
                    have HI2 := Lib.hid hI2
                    clear hS2 hT2 hI2 RB
                    by_cases t1 : mid < en
                    · have t1z : (mid : Int) < (en : Int) := by omega
                      have t1d : decide ((mid : Int) < (en : Int)) = true := decide_eq_true t1z
                      by_cases t2 : en < b
                      · have t2z : (en : Int) < (b : Int) := by omega
                        have t2d : decide ((en : Int) < (b : Int)) = true := decide_eq_true t2z
                        have RC := Lib.hid (IH.out mid en b d2 _ (by omega) t1 t2 hbn HSy.out (inc_bd HI2.out (by omega) (inc_bd HP.out.inc hbn HBD.out)) (HP.out.s3.eq fun p h1 h2 => HI2.out.1 p (by omega)) (HP.out.s4.eq fun p h1 h2 => HI2.out.1 p (by omega)) (fun p q h1 h2 h3 h4 => by rw [HI2.out.1 p (by omega), HI2.out.1 q (by omega)]; exact HP.out.c2 p q h1 h2 h3 h4))
                        clear HSy
                        go_wp2_with fail
                        refine RC.out.mono ?_
                        rintro e w6 ⟨rfl, d3, hS3, hT3, hI3⟩
                        have HSy := Lib.hid hS3
                        have HT3 := Lib.hid hT3
                        have HI3 := Lib.hid hI3
                        clear hS3 hT3 hI3 RC
                        obtain ⟨z1, z2⟩ := part_end HP.out (by omega) HT2.out HI2.out (HT3.out) (HI3.out)
                        have Z1 := Lib.hid z1
                        have Z2 := Lib.hid z2
                        clear z1 z2
                        go_wp2
                        go_end0
                        exact ⟨rfl, d3, HSy.out, Z1.out, Z2.out⟩
                      · have t2z : ¬ (en : Int) < (b : Int) := by omega
                        have t2d : decide ((en : Int) < (b : Int)) = false := decide_eq_false t2z
                        obtain ⟨z1, z2⟩ := part_end HP.out (by omega) HT2.out HI2.out ((HP.out.s3.eq fun p h1 h2 => HI2.out.1 p (by omega)).sub (Nat.le_refl _) (by omega)) (Inc.refl _ _ _)
                        have Z1 := Lib.hid z1
                        have Z2 := Lib.hid z2
                        clear z1 z2
                        go_wp2
                        go_end0
                        exact ⟨rfl, d2, HSy.out, Z1.out, Z2.out⟩
                    · have t1z : ¬ (mid : Int) < (en : Int) := by omega
                      have t1d : decide ((mid : Int) < (en : Int)) = false := decide_eq_false t1z
                      obtain ⟨z1, z2⟩ := part_end HP.out (by omega) HT2.out HI2.out ((HP.out.s4.eq fun p h1 h2 => HI2.out.1 p (by omega)).sub (by omega) (Nat.le_refl _)) (Inc.refl _ _ _)
                      have Z1 := Lib.hid z1
                      have Z2 := Lib.hid z2
                      clear z1 z2
                      go_wp2
                      go_end0
                      exact ⟨rfl, d2, HSy.out, Z1.out, Z2.out⟩
                  · have u2z : ¬ (j : Int) < (mid : Int) := by omega
                    have u2d : decide ((j : Int) < (mid : Int)) = false := decide_eq_false u2z
                    have HSy := HSx
                    obtain ⟨d2, hd2⟩ : ∃ d2, d2 = d1 := ⟨_, rfl⟩
                    subst hd2
                    have HT2 : Hid (Srt (ltc cf) d2 a mid) := Lib.hid (HP.out.s1.sub (Nat.le_refl _) (by omega))
                    have HI2 : Hid (Inc d2 d2 a mid) := Lib.hid (Inc.refl _ _ _)
                    clear HSx
                    by_cases t1 : mid < en
                    · have t1z : (mid : Int) < (en : Int) := by omega
                      have t1d : decide ((mid : Int) < (en : Int)) = true := decide_eq_true t1z
                      by_cases t2 : en < b
                      · have t2z : (en : Int) < (b : Int) := by omega
                        have t2d : decide ((en : Int) < (b : Int)) = true := decide_eq_true t2z
                        have RC := Lib.hid (IH.out mid en b d2 _ (by omega) t1 t2 hbn HSy.out (inc_bd HI2.out (by omega) (inc_bd HP.out.inc hbn HBD.out)) (HP.out.s3.eq fun p h1 h2 => HI2.out.1 p (by omega)) (HP.out.s4.eq fun p h1 h2 => HI2.out.1 p (by omega)) (fun p q h1 h2 h3 h4 => by rw [HI2.out.1 p (by omega), HI2.out.1 q (by omega)]; exact HP.out.c2 p q h1 h2 h3 h4))
                        clear HSy
                        go_wp2_with fail
                        refine RC.out.mono ?_
                        rintro e w6 ⟨rfl, d3, hS3, hT3, hI3⟩
                        have HSy := Lib.hid hS3
                        have HT3 := Lib.hid hT3
                        have HI3 := Lib.hid hI3
                        clear hS3 hT3 hI3 RC
                        obtain ⟨z1, z2⟩ := part_end HP.out (by omega) HT2.out HI2.out (HT3.out) (HI3.out)
                        have Z1 := Lib.hid z1
                        have Z2 := Lib.hid z2
                        clear z1 z2
                        go_wp2
                        go_end0
                        exact ⟨rfl, d3, HSy.out, Z1.out, Z2.out⟩
                      · have t2z : ¬ (en : Int) < (b : Int) := by omega
                        have t2d : decide ((en : Int) < (b : Int)) = false := decide_eq_false t2z
                        obtain ⟨z1, z2⟩ := part_end HP.out (by omega) HT2.out HI2.out ((HP.out.s3.eq fun p h1 h2 => HI2.out.1 p (by omega)).sub (Nat.le_refl _) (by omega)) (Inc.refl _ _ _)
                        have Z1 := Lib.hid z1
                        have Z2 := Lib.hid z2
                        clear z1 z2
                        go_wp2
                        go_end0
                        exact ⟨rfl, d2, HSy.out, Z1.out, Z2.out⟩
                    · have t1z : ¬ (mid : Int) < (en : Int) := by omega
                      have t1d : decide ((mid : Int) < (en : Int)) = false := decide_eq_false t1z
                      obtain ⟨z1, z2⟩ := part_end HP.out (by omega) HT2.out HI2.out ((HP.out.s4.eq fun p h1 h2 => HI2.out.1 p (by omega)).sub (by omega) (Nat.le_refl _)) (Inc.refl _ _ _)
                      have Z1 := Lib.hid z1
                      have Z2 := Lib.hid z2
                      clear z1 z2
                      go_wp2
                      go_end0
                      exact ⟨rfl, d2, HSy.out, Z1.out, Z2.out⟩
                · have u1z : ¬ (a : Int) < (j : Int) := by omega
                  have u1d : decide ((a : Int) < (j : Int)) = false := decide_eq_false u1z
                  have HSy := HSx
                  obtain ⟨d2, hd2⟩ : ∃ d2, d2 = d1 := ⟨_, rfl⟩
                  subst hd2
                  have HT2 : Hid (Srt (ltc cf) d2 a mid) := Lib.hid (HP.out.s2.sub (by omega) (Nat.le_refl _))
                  have HI2 : Hid (Inc d2 d2 a mid) := Lib.hid (Inc.refl _ _ _)
                  clear HSx
                  by_cases t1 : mid < en
                  · have t1z : (mid : Int) < (en : Int) := by omega
                    have t1d : decide ((mid : Int) < (en : Int)) = true := decide_eq_true t1z
                    by_cases t2 : en < b
                    · have t2z : (en : Int) < (b : Int) := by omega
                      have t2d : decide ((en : Int) < (b : Int)) = true := decide_eq_true t2z
                      have RC := Lib.hid (IH.out mid en b d2 _ (by omega) t1 t2 hbn HSy.out (inc_bd HI2.out (by omega) (inc_bd HP.out.inc hbn HBD.out)) (HP.out.s3.eq fun p h1 h2 => HI2.out.1 p (by omega)) (HP.out.s4.eq fun p h1 h2 => HI2.out.1 p (by omega)) (fun p q h1 h2 h3 h4 => by rw [HI2.out.1 p (by omega), HI2.out.1 q (by omega)]; exact HP.out.c2 p q h1 h2 h3 h4))
                      clear HSy
                      go_wp2_with fail
                      refine RC.out.mono ?_
                      rintro e w6 ⟨rfl, d3, hS3, hT3, hI3⟩
                      have HSy := Lib.hid hS3
                      have HT3 := Lib.hid hT3
                      have HI3 := Lib.hid hI3
                      clear hS3 hT3 hI3 RC
                      obtain ⟨z1, z2⟩ := part_end HP.out (by omega) HT2.out HI2.out (HT3.out) (HI3.out)
                      have Z1 := Lib.hid z1
                      have Z2 := Lib.hid z2
                      clear z1 z2
                      go_wp2
                      go_end0
                      exact ⟨rfl, d3, HSy.out, Z1.out, Z2.out⟩
                    · have t2z : ¬ (en : Int) < (b : Int) := by omega
                      have t2d : decide ((en : Int) < (b : Int)) = false := decide_eq_false t2z
                      obtain ⟨z1, z2⟩ := part_end HP.out (by omega) HT2.out HI2.out ((HP.out.s3.eq fun p h1 h2 => HI2.out.1 p (by omega)).sub (Nat.le_refl _) (by omega)) (Inc.refl _ _ _)
                      have Z1 := Lib.hid z1
                      have Z2 := Lib.hid z2
                      clear z1 z2
                      go_wp2
                      go_end0
                      exact ⟨rfl, d2, HSy.out, Z1.out, Z2.out⟩
                  · have t1z : ¬ (mid : Int) < (en : Int) := by omega
                    have t1d : decide ((mid : Int) < (en : Int)) = false := decide_eq_false t1z
                    obtain ⟨z1, z2⟩ := part_end HP.out (by omega) HT2.out HI2.out ((HP.out.s4.eq fun p h1 h2 => HI2.out.1 p (by omega)).sub (by omega) (Nat.le_refl _)) (Inc.refl _ _ _)
                    have Z1 := Lib.hid z1
                    have Z2 := Lib.hid z2
                    clear z1 z2
                    go_wp2
                    go_end0
                    exact ⟨rfl, d2, HSy.out, Z1.out, Z2.out⟩
              · have r2z : ¬ (m : Int) < (en : Int) := by omega
                have r2d : decide ((m : Int) < (en : Int)) = false := decide_eq_false r2z
                obtain ⟨d1, HSx, HP⟩ : ∃ d1, Hid (SrtW w0 rb n E d1 wr) ∧ Hid (Part (ltc cf) d d1 a m b mid j en) := ⟨d, hS, Lib.hid (PO.out d (rot_id hk5 hk6 (.inr (by omega))))⟩
                clear RT hS PO
                by_cases u1 : a < j
                · have u1z : (a : Int) < (j : Int) := by omega
                  have u1d : decide ((a : Int) < (j : Int)) = true := decide_eq_true u1z
                  by_cases u2 : j < mid
                  · have u2z : (j : Int) < (mid : Int) := by omega
                    have u2d : decide ((j : Int) < (mid : Int)) = true := decide_eq_true u2z
                    have RB := Lib.hid (IH.out a j mid d1 _ (by omega) u1 u2 (by omega) HSx.out (inc_bd HP.out.inc hbn HBD.out) HP.out.s1 HP.out.s2 HP.out.c1)
                    clear HSx
                    go_wp2_with fail
                    refine RB.out.mono ?_
                    rintro e w5 ⟨rfl, d2, hS2, hT2, hI2⟩
                    have HSy := Lib.hid hS2
                    have HT2 := Lib.hid hT2
                    have HI2 := Lib.hid hI2
                    clear hS2 hT2 hI2 RB
                    by_cases t1 : mid < en
                    · have t1z : (mid : Int) < (en : Int) := by omega
                      have t1d : decide ((mid : Int) < (en : Int)) = true := decide_eq_true t1z
                      by_cases t2 : en < b
                      · have t2z : (en : Int) < (b : Int) := by omega
                        have t2d : decide ((en : Int) < (b : Int)) = true := decide_eq_true t2z
                        have RC := Lib.hid (IH.out mid en b d2 _ (by omega) t1 t2 hbn HSy.out (inc_bd HI2.out (by omega) (inc_bd HP.out.inc hbn HBD.out)) (HP.out.s3.eq fun p h1 h2 => HI2.out.1 p (by omega)) (HP.out.s4.eq fun p h1 h2 => HI2.out.1 p (by omega)) (fun p q h1 h2 h3 h4 => by rw [HI2.out.1 p (by omega), HI2.out.1 q (by omega)]; exact HP.out.c2 p q h1 h2 h3 h4))
                        clear HSy
                        go_wp2_with fail
                        refine RC.out.mono ?_
                        rintro e w6 ⟨rfl, d3, hS3, hT3, hI3⟩
                        have HSy := Lib.hid hS3
                        have HT3 := Lib.hid hT3
                        have HI3 := Lib.hid hI3
                        clear hS3 hT3 hI3 RC
                        obtain ⟨z1, z2⟩ := part_end HP.out (by omega) HT2.out HI2.out (HT3.out) (HI3.out)
                        have Z1 := Lib.hid z1
                        have Z2 := Lib.hid z2
                        clear z1 z2
                        go_wp2
                        go_end0
                        exact ⟨rfl, d3, HSy.out, Z1.out, Z2.out⟩
                      · have t2z : ¬ (en : Int) < (b : Int) := by omega
                        have t2d : decide ((en : Int) < (b : Int)) = false := decide_eq_false t2z
                        obtain ⟨z1, z2⟩ := part_end HP.out (by omega) HT2.out HI2.out ((HP.out.s3.eq fun p h1 h2 => HI2.out.1 p (by omega)).sub (Nat.le_refl _) (by omega)) (Inc.refl _ _ _)
                        have Z1 := Lib.hid z1
                        have Z2 := Lib.hid z2
                        clear z1 z2
                        go_wp2
                        go_end0
                        exact ⟨rfl, d2, HSy.out, Z1.out, Z2.out⟩
                    · have t1z : ¬ (mid : Int) < (en : Int) := by omega
                      have t1d : decide ((mid : Int) < (en : Int)) = false := decide_eq_false t1z
                      obtain ⟨z1, z2⟩ := part_end HP.out (by omega) HT2.out HI2.out ((HP.out.s4.eq fun p h1 h2 => HI2.out.1 p (by omega)).sub (by omega) (Nat.le_refl _)) (Inc.refl _ _ _)
                      have Z1 := Lib.hid z1
                      have Z2 := Lib.hid z2
                      clear z1 z2
                      go_wp2
                      go_end0
                      exact ⟨rfl, d2, HSy.out, Z1.out, Z2.out⟩
                  · have u2z : ¬ (j : Int) < (mid : Int) := by omega
                    have u2d : decide ((j : Int) < (mid : Int)) = false := decide_eq_false u2z
                    have HSy := HSx
                    obtain ⟨d2, hd2⟩ : ∃ d2, d2 = d1 := ⟨_, rfl⟩
                    subst hd2
                    have HT2 : Hid (Srt (ltc cf) d2 a mid) := Lib.hid (HP.out.s1.sub (Nat.le_refl _) (by omega))
                    have HI2 : Hid (Inc d2 d2 a mid) := Lib.hid (Inc.refl _ _ _)
                    clear HSx
                    by_cases t1 : mid < en
                    · have t1z : (mid : Int) < (en : Int) := by omega
                      have t1d : decide ((mid : Int) < (en : Int)) = true := decide_eq_true t1z
                      by_cases t2 : en < b
                      · have t2z : (en : Int) < (b : Int) := by omega
                        have t2d : decide ((en : Int) < (b : Int)) = true := decide_eq_true t2z
                        have RC := Lib.hid (IH.out mid en b d2 _ (by omega) t1 t2 hbn HSy.out (inc_bd HI2.out (by omega) (inc_bd HP.out.inc hbn HBD.out)) (HP.out.s3.eq fun p h1 h2 => HI2.out.1 p (by omega)) (HP.out.s4.eq fun p h1 h2 => HI2.out.1 p (by omega)) (fun p q h1 h2 h3 h4 => by rw [HI2.out.1 p (by omega), HI2.out.1 q (by omega)]; exact HP.out.c2 p q h1 h2 h3 h4))
                        clear HSy
                        go_wp2_with fail
                        refine RC.out.mono ?_
                        rintro e w6 ⟨rfl, d3, hS3, hT3, hI3⟩
                        have HSy := Lib.hid hS3
                        have HT3 := Lib.hid hT3
                        have HI3 := Lib.hid hI3
                        clear hS3 hT3 hI3 RC
                        obtain ⟨z1, z2⟩ := part_end HP.out (by omega) HT2.out HI2.out (HT3.out) (HI3.out)
                        have Z1 := Lib.hid z1
                        have Z2 := Lib.hid z2
                        clear z1 z2
                        go_wp2
                        go_end0
                        exact ⟨rfl, d3, HSy.out, Z1.out, Z2.out⟩
                      · have t2z : ¬ (en : Int) < (b : Int) := by omega
                        have t2d : decide ((en : Int) < (b : Int)) = false := decide_eq_false t2z
                        obtain ⟨z1, z2⟩ := part_end HP.out (by omega) HT2.out HI2.out ((HP.out.s3.eq fun p h1 h2 => HI2.out.1 p (by omega)).sub (Nat.le_refl _) (by omega)) (Inc.refl _ _ _)
                        have Z1 := Lib.hid z1
                        have Z2 := Lib.hid z2
                        clear z1 z2
                        go_wp2
                        go_end0
                        exact ⟨rfl, d2, HSy.out, Z1.out, Z2.out⟩
                    · have t1z : ¬ (mid : Int) < (en : Int) := by omega
                      have t1d : decide ((mid : Int) < (en : Int)) = false := decide_eq_false t1z
                      obtain ⟨z1, z2⟩ := part_end HP.out (by omega) HT2.out HI2.out ((HP.out.s4.eq fun p h1 h2 => HI2.out.1 p (by omega)).sub (by omega) (Nat.le_refl _)) (Inc.refl _ _ _)
                      have Z1 := Lib.hid z1
                      have Z2 := Lib.hid z2
                      clear z1 z2
                      go_wp2
                      go_end0
                      exact ⟨rfl, d2, HSy.out, Z1.out, Z2.out⟩
                · have u1z : ¬ (a : Int) < (j : Int) := by omega
                  have u1d : decide ((a : Int) < (j : Int)) = false := decide_eq_false u1z
                  have HSy := HSx
                  obtain ⟨d2, hd2⟩ : ∃ d2, d2 = d1 := ⟨_, rfl⟩
                  subst hd2
                  have HT2 : Hid (Srt (ltc cf) d2 a mid) := Lib.hid (HP.out.s2.sub (by omega) (Nat.le_refl _))
                  have HI2 : Hid (Inc d2 d2 a mid) := Lib.hid (Inc.refl _ _ _)
                  clear HSx
                  by_cases t1 : mid < en
                  · have t1z : (mid : Int) < (en : Int) := by omega
                    have t1d : decide ((mid : Int) < (en : Int)) = true := decide_eq_true t1z
                    by_cases t2 : en < b
                    · have t2z : (en : Int) < (b : Int) := by omega
                      have t2d : decide ((en : Int) < (b : Int)) = true := decide_eq_true t2z
                      have RC := Lib.hid (IH.out mid en b d2 _ (by omega) t1 t2 hbn HSy.out (inc_bd HI2.out (by omega) (inc_bd HP.out.inc hbn HBD.out)) (HP.out.s3.eq fun p h1 h2 => HI2.out.1 p (by omega)) (HP.out.s4.eq fun p h1 h2 => HI2.out.1 p (by omega)) (fun p q h1 h2 h3 h4 => by rw [HI2.out.1 p (by omega), HI2.out.1 q (by omega)]; exact HP.out.c2 p q h1 h2 h3 h4))
                      clear HSy
                      go_wp2_with fail
                      refine RC.out.mono ?_
                      rintro e w6 ⟨rfl, d3, hS3, hT3, hI3⟩
                      have HSy := Lib.hid hS3
                      have HT3 := Lib.hid hT3
                      have HI3 := Lib.hid hI3
                      clear hS3 hT3 hI3 RC
                      obtain ⟨z1, z2⟩ := part_end HP.out (by omega) HT2.out HI2.out (HT3.out) (HI3.out)
                      have Z1 := Lib.hid z1
                      have Z2 := Lib.hid z2
                      clear z1 z2
                      go_wp2
                      go_end0
                      exact ⟨rfl, d3, HSy.out, Z1.out, Z2.out⟩
                    · have t2z : ¬ (en : Int) < (b : Int) := by omega
                      have t2d : decide ((en : Int) < (b : Int)) = false := decide_eq_false t2z
                      obtain ⟨z1, z2⟩ := part_end HP.out (by omega) HT2.out HI2.out ((HP.out.s3.eq fun p h1 h2 => HI2.out.1 p (by omega)).sub (Nat.le_refl _) (by omega)) (Inc.refl _ _ _)
                      have Z1 := Lib.hid z1
                      have Z2 := Lib.hid z2
                      clear z1 z2
                      go_wp2
                      go_end0
                      exact ⟨rfl, d2, HSy.out, Z1.out, Z2.out⟩
                  · have t1z : ¬ (mid : Int) < (en : Int) := by omega
                    have t1d : decide ((mid : Int) < (en : Int)) = false := decide_eq_false t1z
                    obtain ⟨z1, z2⟩ := part_end HP.out (by omega) HT2.out HI2.out ((HP.out.s4.eq fun p h1 h2 => HI2.out.1 p (by omega)).sub (by omega) (Nat.le_refl _)) (Inc.refl _ _ _)
                    have Z1 := Lib.hid z1
                    have Z2 := Lib.hid z2
                    clear z1 z2
                    go_wp2
                    go_end0
                    exact ⟨rfl, d2, HSy.out, Z1.out, Z2.out⟩
            · have r1z : ¬ (j : Int) < (m : Int) := by omega
              have r1d : decide ((j : Int) < (m : Int)) = false := decide_eq_false r1z
              obtain ⟨d1, HSx, HP⟩ : ∃ d1, Hid (SrtW w0 rb n E d1 wr) ∧ Hid (Part (ltc cf) d d1 a m b mid j en) := ⟨d, hS, Lib.hid (PO.out d (rot_id hk5 hk6 (.inl (by omega))))⟩
              clear RT hS PO
              by_cases u1 : a < j
              · have u1z : (a : Int) < (j : Int) := by omega
                have u1d : decide ((a : Int) < (j : Int)) = true := decide_eq_true u1z
                by_cases u2 : j < mid
                · have u2z : (j : Int) < (mid : Int) := by omega
                  have u2d : decide ((j : Int) < (mid : Int)) = true := decide_eq_true u2z
                  have RB := Lib.hid (IH.out a j mid d1 _ (by omega) u1 u2 (by omega) HSx.out (inc_bd HP.out.inc hbn HBD.out) HP.out.s1 HP.out.s2 HP.out.c1)
                  clear HSx
                  go_wp2_with fail
                  refine RB.out.mono ?_
                  rintro e w5 ⟨rfl, d2, hS2, hT2, hI2⟩
                  have HSy := Lib.hid hS2
                  have HT2 := Lib.hid hT2
                  have HI2 := Lib.hid hI2
                  clear hS2 hT2 hI2 RB
                  by_cases t1 : mid < en
                  · have t1z : (mid : Int) < (en : Int) := by omega
                    have t1d : decide ((mid : Int) < (en : Int)) = true := decide_eq_true t1z
                    by_cases t2 : en < b
                    · have t2z : (en : Int) < (b : Int) := by omega
                      have t2d : decide ((en : Int) < (b : Int)) = true := decide_eq_true t2z
                      have RC := Lib.hid (IH.out mid en b d2 _ (by omega) t1 t2 hbn HSy.out (inc_bd HI2.out (by omega) (inc_bd HP.out.inc hbn HBD.out)) (HP.out.s3.eq fun p h1 h2 => HI2.out.1 p (by omega)) (HP.out.s4.eq fun p h1 h2 => HI2.out.1 p (by omega)) (fun p q h1 h2 h3 h4 => by rw [HI2.out.1 p (by omega), HI2.out.1 q (by omega)]; exact HP.out.c2 p q h1 h2 h3 h4))
                      clear HSy
                      go_wp2_with fail
                      refine RC.out.mono ?_
                      rintro e w6 ⟨rfl, d3, hS3, hT3, hI3⟩
                      have HSy := Lib.hid hS3
                      have HT3 := Lib.hid hT3
                      have HI3 := Lib.hid hI3
                      clear hS3 hT3 hI3 RC
                      obtain ⟨z1, z2⟩ := part_end HP.out (by omega) HT2.out HI2.out (HT3.out) (HI3.out)
                      have Z1 := Lib.hid z1
                      have Z2 := Lib.hid z2
                      clear z1 z2
                      go_wp2
                      go_end0
                      exact ⟨rfl, d3, HSy.out, Z1.out, Z2.out⟩
                    · have t2z : ¬ (en : Int) < (b : Int) := by omega
                      have t2d : decide ((en : Int) < (b : Int)) = false := decide_eq_false t2z
                      obtain ⟨z1, z2⟩ := part_end HP.out (by omega) HT2.out HI2.out ((HP.out.s3.eq fun p h1 h2 => HI2.out.1 p (by omega)).sub (Nat.le_refl _) (by omega)) (Inc.refl _ _ _)
                      have Z1 := Lib.hid z1
                      have Z2 := Lib.hid z2
                      clear z1 z2
                      go_wp2
                      go_end0
                      exact ⟨rfl, d2, HSy.out, Z1.out, Z2.out⟩
                  · have t1z : ¬ (mid : Int) < (en : Int) := by omega
                    have t1d : decide ((mid : Int) < (en : Int)) = false := decide_eq_false t1z
                    obtain ⟨z1, z2⟩ := part_end HP.out (by omega) HT2.out HI2.out ((HP.out.s4.eq fun p h1 h2 => HI2.out.1 p (by omega)).sub (by omega) (Nat.le_refl _)) (Inc.refl _ _ _)
                    have Z1 := Lib.hid z1
                    have Z2 := Lib.hid z2
                    clear z1 z2
                    go_wp2
                    go_end0
                    exact ⟨rfl, d2, HSy.out, Z1.out, Z2.out⟩
                · have u2z : ¬ (j : Int) < (mid : Int) := by omega
                  have u2d : decide ((j : Int) < (mid : Int)) = false := decide_eq_false u2z
                  have HSy := HSx
                  obtain ⟨d2, hd2⟩ : ∃ d2, d2 = d1 := ⟨_, rfl⟩
                  subst hd2
                  have HT2 : Hid (Srt (ltc cf) d2 a mid) := Lib.hid (HP.out.s1.sub (Nat.le_refl _) (by omega))
                  have HI2 : Hid (Inc d2 d2 a mid) := Lib.hid (Inc.refl _ _ _)
                  clear HSx
                  by_cases t1 : mid < en
                  · have t1z : (mid : Int) < (en : Int) := by omega
                    have t1d : decide ((mid : Int) < (en : Int)) = true := decide_eq_true t1z
                    by_cases t2 : en < b
                    · have t2z : (en : Int) < (b : Int) := by omega
                      have t2d : decide ((en : Int) < (b : Int)) = true := decide_eq_true t2z
                      have RC := Lib.hid (IH.out mid en b d2 _ (by omega) t1 t2 hbn HSy.out (inc_bd HI2.out (by omega) (inc_bd HP.out.inc hbn HBD.out)) (HP.out.s3.eq fun p h1 h2 => HI2.out.1 p (by omega)) (HP.out.s4.eq fun p h1 h2 => HI2.out.1 p (by omega)) (fun p q h1 h2 h3 h4 => by rw [HI2.out.1 p (by omega), HI2.out.1 q (by omega)]; exact HP.out.c2 p q h1 h2 h3 h4))
                      clear HSy
                      go_wp2_with fail
                      refine RC.out.mono ?_
                      rintro e w6 ⟨rfl, d3, hS3, hT3, hI3⟩
                      have HSy := Lib.hid hS3
                      have HT3 := Lib.hid hT3
                      have HI3 := Lib.hid hI3
                      clear hS3 hT3 hI3 RC
                      obtain ⟨z1, z2⟩ := part_end HP.out (by omega) HT2.out HI2.out (HT3.out) (HI3.out)
                      have Z1 := Lib.hid z1
                      have Z2 := Lib.hid z2
                      clear z1 z2
                      go_wp2
                      go_end0
                      exact ⟨rfl, d3, HSy.out, Z1.out, Z2.out⟩
                    · have t2z : ¬ (en : Int) < (b : Int) := by omega
                      have t2d : decide ((en : Int) < (b : Int)) = false := decide_eq_false t2z
                      obtain ⟨z1, z2⟩ := part_end HP.out (by omega) HT2.out HI2.out ((HP.out.s3.eq fun p h1 h2 => HI2.out.1 p (by omega)).sub (Nat.le_refl _) (by omega)) (Inc.refl _ _ _)
                      have Z1 := Lib.hid z1
                      have Z2 := Lib.hid z2
                      clear z1 z2
                      go_wp2
                      go_end0
                      exact ⟨rfl, d2, HSy.out, Z1.out, Z2.out⟩
                  · have t1z : ¬ (mid : Int) < (en : Int) := by omega
                    have t1d : decide ((mid : Int) < (en : Int)) = false := decide_eq_false t1z
                    obtain ⟨z1, z2⟩ := part_end HP.out (by omega) HT2.out HI2.out ((HP.out.s4.eq fun p h1 h2 => HI2.out.1 p (by omega)).sub (by omega) (Nat.le_refl _)) (Inc.refl _ _ _)
                    have Z1 := Lib.hid z1
                    have Z2 := Lib.hid z2
                    clear z1 z2
                    go_wp2
                    go_end0
                    exact ⟨rfl, d2, HSy.out, Z1.out, Z2.out⟩
              · have u1z : ¬ (a : Int) < (j : Int) := by omega
                have u1d : decide ((a : Int) < (j : Int)) = false := decide_eq_false u1z
                have HSy := HSx
                obtain ⟨d2, hd2⟩ : ∃ d2, d2 = d1 := ⟨_, rfl⟩
                subst hd2
                have HT2 : Hid (Srt (ltc cf) d2 a mid) := Lib.hid (HP.out.s2.sub (by omega) (Nat.le_refl _))
                have HI2 : Hid (Inc d2 d2 a mid) := Lib.hid (Inc.refl _ _ _)
                clear HSx
                by_cases t1 : mid < en
                · have t1z : (mid : Int) < (en : Int) := by omega
                  have t1d : decide ((mid : Int) < (en : Int)) = true := decide_eq_true t1z
                  by_cases t2 : en < b
                  · have t2z : (en : Int) < (b : Int) := by omega
                    have t2d : decide ((en : Int) < (b : Int)) = true := decide_eq_true t2z
                    have RC := Lib.hid (IH.out mid en b d2 _ (by omega) t1 t2 hbn HSy.out (inc_bd HI2.out (by omega) (inc_bd HP.out.inc hbn HBD.out)) (HP.out.s3.eq fun p h1 h2 => HI2.out.1 p (by omega)) (HP.out.s4.eq fun p h1 h2 => HI2.out.1 p (by omega)) (fun p q h1 h2 h3 h4 => by rw [HI2.out.1 p (by omega), HI2.out.1 q (by omega)]; exact HP.out.c2 p q h1 h2 h3 h4))
                    clear HSy
                    go_wp2_with fail
                    refine RC.out.mono ?_
                    rintro e w6 ⟨rfl, d3, hS3, hT3, hI3⟩
                    have HSy := Lib.hid hS3
                    have HT3 := Lib.hid hT3
                    have HI3 := Lib.hid hI3
                    clear hS3 hT3 hI3 RC
                    obtain ⟨z1, z2⟩ := part_end HP.out (by omega) HT2.out HI2.out (HT3.out) (HI3.out)
                    have Z1 := Lib.hid z1
                    have Z2 := Lib.hid z2
                    clear z1 z2
                    go_wp2
                    go_end0
                    exact ⟨rfl, d3, HSy.out, Z1.out, Z2.out⟩
                  · have t2z : ¬ (en : Int) < (b : Int) := by omega
                    have t2d : decide ((en : Int) < (b : Int)) = false := decide_eq_false t2z
                    obtain ⟨z1, z2⟩ := part_end HP.out (by omega) HT2.out HI2.out ((HP.out.s3.eq fun p h1 h2 => HI2.out.1 p (by omega)).sub (Nat.le_refl _) (by omega)) (Inc.refl _ _ _)
                    have Z1 := Lib.hid z1
                    have Z2 := Lib.hid z2
                    clear z1 z2
                    go_wp2
                    go_end0
                    exact ⟨rfl, d2, HSy.out, Z1.out, Z2.out⟩
                · have t1z : ¬ (mid : Int) < (en : Int) := by omega
                  have t1d : decide ((mid : Int) < (en : Int)) = false := decide_eq_false t1z
                  obtain ⟨z1, z2⟩ := part_end HP.out (by omega) HT2.out HI2.out ((HP.out.s4.eq fun p h1 h2 => HI2.out.1 p (by omega)).sub (by omega) (Nat.le_refl _)) (Inc.refl _ _ _)
                  have Z1 := Lib.hid z1
                  have Z2 := Lib.hid z2
                  clear z1 z2
                  go_wp2
                  go_end0
                  exact ⟨rfl, d2, HSy.out, Z1.out, Z2.out⟩
end Go.Proofs.YtjbnjlkoipkpoaaGreatDoor.T
