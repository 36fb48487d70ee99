/- slices.swapRangeCmpFunc, walked. -/
import Derived.Test.YtjbnjlkoipkpoaaGreatDoorTSrtW
namespace Go.Proofs.YtjbnjlkoipkpoaaGreatDoor.T
open Go.RowKit Go.Shelf
open Go.Proofs.YtjbnjlkoipkpoaaGreatDoor.B

set_option maxRecDepth 100000 in
set_option maxHeartbeats 6400000 in
theorem swapRange_any (fv : Value) (a b m n cap : Nat) (rb : Nat) (E : Nat → El) (d : Nat → Nat) (w0 W : World) (S : SrtW w0 rb n E d W) (hab : a + m ≤ b) (hb : b + m ≤ n) (hn : n ≤ 1000000) :
    Calls Tryz.prog 219 #[.slice (some ⟨rb, 0, none⟩) n cap, .int .i64 a, .int .i64 b, .int .i64 m, fv] W fun e w' => e = .returned (.tuple #[]) ∧ ∃ d', SrtW w0 rb n E d' w' ∧ ∀ p, d' p = if a ≤ p ∧ p < a + m then d (p - a + b) else if b ≤ p ∧ p < b + m then d (p - b + a) else d p := by
  have mixed : Tryz.prog.follows .mixedOrders = true := by kernel_rfl
  have S0 := Lib.hid S
  clear S
  go_enter Tryz.func219, Tryz.ntmps219
  go_wp2
  go_loopw [10] (fun i W => ∃ (k : Nat) (dk : Nat → Nat), i = .int .i64 k ∧ k ≤ m ∧ Hid (SrtW w0 rb n E dk W) ∧ Hid (∀ p, dk p = if a ≤ p ∧ p < a + k then d (p - a + b) else if b ≤ p ∧ p < b + k then d (p - b + a) else d p)) (fun i _ => m - (intOf i).toNat)
  case atStart => exact ⟨0, d, rfl, Nat.zero_le _, S0, Lib.hid fun p => by rw [if_neg (by omega), if_neg (by omega)]⟩
  case round =>
    clear S0
    obtain ⟨k, dk, rfl, hk, hS, hD⟩ := hrel
    by_cases hlt : k < m
    · have hi : a + k < n := by omega
      have hj : b + k < n := by omega
      have a0 := hS.out.c0 _ hi
      have a1 := hS.out.c1 _ hi
      have b0 := hS.out.c0 _ hj
      have b1 := hS.out.c1 _ hj
      have x0 := hS.out.f0 _ hi
      have x1 := hS.out.f1 _ hi
      have y0 := hS.out.f0 _ hj
      have y1 := hS.out.f1 _ hj
      obtain ⟨ea, hea⟩ : ∃ e, E (dk (a + k)) = e := ⟨_, rfl⟩
      obtain ⟨eb, heb⟩ : ∃ e, E (dk (b + k)) = e := ⟨_, rfl⟩
      rw [hea] at a0 a1
      rw [heb] at b0 b1
      have HS8 := Lib.hid (hS.out.swapped hi hj hea heb)
      clear hea heb hS
      obtain ⟨i1, i2, i3, i4⟩ := ea
      obtain ⟨j1, j2, j3, j4⟩ := eb
      simp only at a0 a1 b0 b1
      go_wp2_with fail
      go_big_region_o
      go_wp2
      refine ⟨⟨k + 1, _, by go_num, by omega, HS8, Lib.hid fun p => ?_⟩, by simp [intOf]; omega⟩
      have hD := hD.out
      unfold swf
      by_cases c1 : p = a + k
      · rw [if_pos c1, if_pos (by omega), hD, if_neg (by omega), if_neg (by omega)]
        congr 1; omega
      · rw [if_neg c1]
        by_cases c2 : p = b + k
        · rw [if_pos c2, if_neg (by omega), if_pos (by omega), hD, if_neg (by omega), if_neg (by omega)]
          congr 1; omega
        · rw [if_neg c2, hD]
          by_cases c3 : a ≤ p ∧ p < a + k
          · rw [if_pos c3, if_pos (by omega)]
          · rw [if_neg c3, if_neg (by omega : ¬ (a ≤ p ∧ p < a + (k + 1)))]
            by_cases c4 : b ≤ p ∧ p < b + k
            · rw [if_pos c4, if_pos (by omega)]
            · rw [if_neg c4, if_neg (by omega)]
    · have hke : k = m := by omega
      subst hke
      go_wp2
      go_end0
      exact ⟨rfl, _, hS.out, hD.out⟩
set_option maxRecDepth 100000 in
set_option maxHeartbeats 6400000 in
theorem rotate_any (fv : Value) (hfv : ∃ f l b, fv = .func f l b) (a m b n cap : Nat) (rb : Nat) (E : Nat → El) (d : Nat → Nat) (w0 W : World) (S : SrtW w0 rb n E d W) (ham : a < m) (hmb : m < b) (hb : b ≤ n) (hn : n ≤ 1000000) :
    Calls Tryz.prog 197 #[.slice (some ⟨rb, 0, none⟩) n cap, .int .i64 a, .int .i64 m, .int .i64 b, fv] W fun e w' => e = .returned (.tuple #[]) ∧ ∃ d', SrtW w0 rb n E d' w' ∧ Rot d d' a m b := by
  obtain ⟨f0, l0, b0, rfl⟩ := hfv
  have S0 := Lib.hid S
  clear S
  obtain ⟨D, hDD⟩ : ∃ D : Nat → Nat, ∀ p, D p = if a ≤ p ∧ p < a + (b - m) then d (p - a + m) else if a + (b - m) ≤ p ∧ p < b then d (p - (b - m)) else d p := ⟨_, fun _ => rfl⟩
  have HDD := Lib.hid hDD
  clear hDD
  go_enter Tryz.func197, Tryz.ntmps197
  go_wp2
  go_loopw [10, 11] (fun s10 s11 W => ∃ (i j : Nat) (dk : Nat → Nat), s10 = .int .i64 i ∧ s11 = .int .i64 j ∧ 0 < i ∧ 0 < j ∧ a + i ≤ m ∧ m + j ≤ b ∧ Hid (SrtW w0 rb n E dk W) ∧ Hid (∀ p, m - i ≤ p → p < m + j → D p = if p < m - i + j then dk (p - (m - i) + m) else dk (p - j)) ∧ Hid (∀ p, ¬ (m - i ≤ p ∧ p < m + j) → D p = dk p)) (fun i j _ => (intOf i).toNat + (intOf j).toNat)
  case atStart =>
    refine ⟨m - a, b - m, d, by go_num, by go_num, by omega, by omega, by omega, by omega, S0, Lib.hid fun p h1 h2 => ?_, Lib.hid fun p hp => ?_⟩
    · rw [HDD.out]
      by_cases c : p < a + (b - m)
      · rw [if_pos (by omega), if_pos (by omega)]
        congr 1; omega
      · rw [if_neg (by omega), if_pos (by omega), if_neg (by omega)]
    · rw [HDD.out, if_neg (by omega), if_neg (by omega)]
  case round =>
    clear S0
    obtain ⟨i, j, dk, rfl, rfl, hi, hj, him, hjb, hS, h1, h2⟩ := hrel
    have em : ((m : Int) - (i : Int)) = ((m - i : Nat) : Int) := by omega
    by_cases hij : i = j
    · subst hij
      have C := Lib.hid (swapRange_any (.func f0 l0 b0) (m - i) m i n cap rb E dk w0 wr hS.out (by omega) (by omega) hn)
      clear hS
      go_wp2_with fail
      refine C.out.mono ?_
      rintro e w' ⟨rfl, d', hS', hd'⟩
      have HS8 := Lib.hid hS'
      have HD8 := Lib.hid (rot_done (by omega) h1.out h2.out hd')
      clear hS' hd'
      go_wp2
      go_end0
      exact ⟨rfl, d', HS8.out, fun p => (HD8.out p).trans (HDD.out p)⟩
    · have hne : ((i : Int) != (j : Int)) = true := by rw [bne_iff_ne]; omega
      by_cases hlt : j < i
      · have C := Lib.hid (swapRange_any (.func f0 l0 b0) (m - i) m j n cap rb E dk w0 wr hS.out (by omega) (by omega) hn)
        clear hS
        go_wp2_with fail
        refine C.out.mono ?_
        rintro e w' ⟨rfl, d', hS', hd'⟩
        obtain ⟨k1, k2⟩ := rot_left hlt (by omega) h1.out h2.out hd'
        have HS8 := Lib.hid hS'
        have K1 := Lib.hid k1
        have K2 := Lib.hid k2
        clear hS' hd' k1 k2
        go_wp2
        refine ⟨⟨i - j, j, d', by go_num, rfl, by omega, hj, by omega, hjb, HS8, K1, K2⟩, by simp [intOf]; omega⟩
      · have ej : ((m : Int) + (j : Int) - (i : Int)) = ((m + j - i : Nat) : Int) := by omega
        have C := Lib.hid (swapRange_any (.func f0 l0 b0) (m - i) (m + j - i) i n cap rb E dk w0 wr hS.out (by omega) (by omega) hn)
        clear hS
        go_wp2_with fail
        refine C.out.mono ?_
        rintro e w' ⟨rfl, d', hS', hd'⟩
        obtain ⟨k1, k2⟩ := rot_right (by omega) (by omega) h1.out h2.out hd'
        have HS8 := Lib.hid hS'
        have K1 := Lib.hid k1
        have K2 := Lib.hid k2
        clear hS' hd' k1 k2
        go_wp2
        refine ⟨⟨i, j - i, d', rfl, by go_num, hi, by omega, him, by omega, HS8, K1, K2⟩, by simp [intOf]; omega⟩
end Go.Proofs.YtjbnjlkoipkpoaaGreatDoor.T
