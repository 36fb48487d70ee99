/- slices.stableCmpFunc, SortStableFunc, walked. -/
import Derived.Test.YtjbnjlkoipkpoaaGreatDoorTSrtSym
import Derived.Test.YtjbnjlkoipkpoaaGreatDoorTSrtBlk
namespace Go.Proofs.YtjbnjlkoipkpoaaGreatDoor.T
open Go.RowKit Go.Shelf
open Go.Proofs.YtjbnjlkoipkpoaaGreatDoor.B

set_option maxRecDepth 100000 in
set_option maxHeartbeats 12800000 in
theorem stable_any (cf : Nat → Nat → Int) (hL : Less (ltc cf)) (kb n cap rb : Nat) (E : Nat → El) (w0 W : World) (S : SrtW w0 rb n E (fun p => p) W) (HC : CmpAt w0 rb n kb E cf) (hn : n ≤ 1000000) :
    Calls Tryz.prog 131 #[.slice (some ⟨rb, 0, none⟩) n cap, .int .i64 n, cmpV kb] W fun e w' => e = .returned (.tuple #[]) ∧ ∃ d', SrtW w0 rb n E d' w' ∧ Srt (ltc cf) d' 0 n ∧ ∀ p, p < n → d' p < n := by
  have S0 := Lib.hid S
  have HCC := Lib.hid HC
  have HI := Lib.hid (fun a b d W S hab hb hbd hidx => insertion_any cf hL kb a b n cap rb E d w0 W S HC hab hb hn hbd hidx)
  have HS := Lib.hid (fun a m b d W => symMerge_any cf hL kb n cap rb E w0 HC hn (b - a) a m b d W (Nat.le_refl _))
  have HP := Lib.hid (P0.start (lt := ltc cf) n)
  clear S HC
  unfold cmpV at HI HS ⊢
  go_enter Tryz.func131, Tryz.ntmps131
  go_wp2
  go_loopw [7, 8] (fun sa sb W => ∃ (a b : Nat) (d : Nat → Nat), sa = .int .i64 a ∧ sb = .int .i64 b ∧ b ≤ a + 20 ∧ a + 20 ≤ b ∧ a ≤ n ∧ Hid (20 ∣ a) ∧ Hid (SrtW w0 rb n E d W) ∧ Hid (P0 (ltc cf) n a d)) (fun sa _ _ => n - (intOf sa).toNat)
  case atStart => exact ⟨0, 20, _, rfl, rfl, by omega, by omega, by omega, Lib.hid (Nat.dvd_zero _), S0, HP⟩
  case round =>
    clear S0 HP
    obtain ⟨a, b, d, rfl, rfl, hb1, hb2, han, hD, hS, hP⟩ := hrel
    by_cases hlt : b ≤ n
    · have C := Lib.hid (HI.out a b d wr hS.out (by omega) hlt hP.out.bnd (hP.out.idx hlt))
      clear hS
      go_wp2_with fail
      refine C.out.mono ?_
      rintro e w' ⟨rfl, d', hS', hs', hi'⟩
      have hbe : b = a + 20 := by omega
      rw [hbe] at hs' hi'
      have HS8 := Lib.hid hS'
      have HP8 := Lib.hid (hP.out.step hD.out (by omega) hs' hi')
      rw [← hbe] at HP8
      have HD8 : Hid (20 ∣ b) := Lib.hid (by rw [hbe]; exact Nat.dvd_add hD.out (Nat.dvd_refl _))
      clear hS' hs' hi' hbe C
      go_wp2
      exact ⟨⟨b, b + 20, d', rfl, by go_num, by omega, by omega, hlt, HD8, HS8, HP8⟩, by simp [intOf]; omega⟩
    · have C := Lib.hid (HI.out a n d wr hS.out han (Nat.le_refl _) hP.out.bnd (hP.out.idx (Nat.le_refl _)))
      clear hS
      go_wp2_with fail
      refine C.out.mono ?_
      rintro e w' ⟨rfl, d1, hS', hs', hi'⟩
      have HS1 := Lib.hid hS'
      have HP1 := Lib.hid (hP.out.last hD.out han (by omega) hs' hi')
      clear hS' hs' hi' C hP hD
      go_wp2
      go_loopw [6] (fun s W => ∃ (bs : Nat) (d : Nat → Nat), s = .int .i64 bs ∧ 20 ≤ bs ∧ bs ≤ 4000000 ∧ Hid (SrtW w0 rb n E d W) ∧ Hid (Ph (ltc cf) n bs 0 d)) (fun s _ => n - (intOf s).toNat)
      case atStart => exact ⟨20, d1, rfl, by omega, by omega, HS1, HP1⟩
      case round =>
        clear HS1 HP1
        obtain ⟨bs, d, rfl, hb20, hbm, hS, hP⟩ := hrel
        by_cases hbn : bs < n
        · obtain ⟨wo, hwo⟩ : ∃ wo, wo = wr := ⟨_, rfl⟩
          subst hwo
          go_wp2
          go_loopw [7, 8] (fun sa sb W => ∃ (a b : Nat) (d : Nat → Nat), sa = .int .i64 a ∧ sb = .int .i64 b ∧ b ≤ a + 2 * bs ∧ a + 2 * bs ≤ b ∧ a ≤ n ∧ Hid (2 * bs ∣ a) ∧ Hid (SrtW w0 rb n E d W) ∧ Hid (Ph (ltc cf) n bs a d)) (fun sa _ _ => n - (intOf sa).toNat)
          case atStart => exact ⟨0, 2 * bs, d, rfl, by go_num, by omega, by omega, by omega, Lib.hid (Nat.dvd_zero _), hS, hP⟩
          case round =>
            clear hS hP
            obtain ⟨a, b, d, rfl, rfl, hb1, hb2, han, hD, hS, hP⟩ := hrel
            obtain ⟨m, hm⟩ : ∃ m, a + bs = m := ⟨_, rfl⟩
            have em : (a : Int) + (bs : Int) = (m : Int) := by omega
            by_cases hlt2 : b ≤ n
            · have hbe : b = a + 2 * bs := by omega
              obtain ⟨k1, k2⟩ := hP.out.in_ hD.out (by omega)
              rw [Nat.min_eq_left (by omega), ← hbe, hm] at k2
              rw [hm] at k1
              have C := Lib.hid (HS.out a m b d wr (by omega) (by omega) hlt2 hS.out hP.out.bnd k1.1 k2.1 (k1.crs k2))
              have HBE := Lib.hid hbe
              have HM := Lib.hid hm
              have hmb : m ≤ n := by omega
              clear hS k1 k2 hbe hm
              go_wp2_with fail
              refine C.out.mono ?_
              rintro e w' ⟨rfl, d', hS', hs', hi'⟩
              have HS8 := Lib.hid hS'
              rw [HBE.out] at hs' hi'
              have HP8 := hP.out.step (by omega) hD.out (by have := HBE.out; omega) hs' hi'
              rw [← HBE.out] at HP8
              have HP8 := Lib.hid HP8
              have HD8 : Hid (2 * bs ∣ b) := Lib.hid (by rw [HBE.out]; exact Nat.dvd_add hD.out (Nat.dvd_refl _))
              clear hS' hs' hi' C
              go_wp2
              exact ⟨⟨b, b + 2 * bs, d', rfl, by go_num, by omega, by omega, hlt2, HD8, HS8, HP8⟩, by simp [intOf]; omega⟩
            · by_cases hmn : m < n
              · obtain ⟨k1, k2⟩ := hP.out.in_ hD.out (by omega)
                rw [Nat.min_eq_right (by omega), hm] at k2
                rw [hm] at k1
                have C := Lib.hid (HS.out a m n d wr (by omega) (by omega) (Nat.le_refl _) hS.out hP.out.bnd k1.1 k2.1 (k1.crs k2))
                have HM := Lib.hid hm
                clear hS k1 k2 hm
                go_wp2_with fail
                refine C.out.mono ?_
                rintro e w' ⟨rfl, d', hS', hs', hi'⟩
                have HS8 := Lib.hid hS'
                have HP8 := Lib.hid (hP.out.last (by omega) hD.out (by omega) (by have := HM.out; omega) hs' hi')
                clear hS' hs' hi' C
                go_wp2
                exact ⟨⟨2 * bs, d', by go_num, by omega, by omega, HS8, HP8⟩, by simp [intOf]; omega⟩
              · have HP8 := Lib.hid (hP.out.skip (by omega) hD.out han (by omega))
                clear hm
                go_wp2
                exact ⟨⟨2 * bs, d, by go_num, by omega, by omega, hS, HP8⟩, by simp [intOf]; omega⟩
        · go_wp2
          go_end0
          exact ⟨rfl, d, hS.out, hP.out.done (by omega), hP.out.bnd⟩
theorem insertion_nil (kb : Nat) (W : World) : Calls Tryz.prog 162 #[.slice none 0 0, .int .i64 0, .int .i64 0, cmpV kb] W fun e w' => e = .returned (.tuple #[]) ∧ W = w' := by
  unfold cmpV
  go_enter Tryz.func162, Tryz.ntmps162
  go_wp2
  go_loop [8] (fun s => s = .int .i64 1) (fun _ => 0)
  case atStart => rfl
  case round =>
    subst hrel
    go_wp2
    go_end0
    exact ⟨rfl, rfl⟩
theorem stable_nil (kb : Nat) (W : World) : Calls Tryz.prog 131 #[.slice none 0 0, .int .i64 0, cmpV kb] W fun e w' => e = .returned (.tuple #[]) ∧ W = w' := by
  have I := Lib.hid (insertion_nil kb)
  unfold cmpV at I ⊢
  go_enter Tryz.func131, Tryz.ntmps131
  go_wp2
  go_loop [7, 8] (fun sa sb => sa = .int .i64 0 ∧ sb = .int .i64 20) (fun _ _ => 0)
  case atStart => exact ⟨rfl, rfl⟩
  case round =>
    obtain ⟨rfl, rfl⟩ := hrel
    go_wp2_with fail
    refine (I.out _).mono ?_
    rintro e w' ⟨rfl, rfl⟩
    go_wp2
    go_loop [6] (fun s => s = .int .i64 20) (fun _ => 0)
    case atStart => rfl
    case round =>
      subst hrel
      go_wp2
      go_end0
      exact ⟨rfl, rfl⟩
theorem sortStable_any (cf : Nat → Nat → Int) (hL : Less (ltc cf)) (kb n cap rb : Nat) (E : Nat → El) (w0 W : World) (S : SrtW w0 rb n E (fun p => p) W) (HC : CmpAt w0 rb n kb E cf) (hn : n ≤ 1000000) :
    Calls Tryz.prog 85 #[.slice (some ⟨rb, 0, none⟩) n cap, cmpV kb] W fun e w' => e = .returned (.tuple #[]) ∧ ∃ d', SrtW w0 rb n E d' w' ∧ Srt (ltc cf) d' 0 n ∧ ∀ p, p < n → d' p < n := by
  have C := Lib.hid (stable_any cf hL kb n cap rb E w0 W S HC hn)
  clear S HC
  unfold cmpV at C ⊢
  go_enter Tryz.func85, Tryz.ntmps85
  go_wp2_with fail
  refine C.out.mono ?_
  rintro e w' ⟨rfl, h⟩
  have H := Lib.hid h
  clear h
  go_wp2
  go_end0
  exact ⟨rfl, H.out⟩
theorem sortStable_nil (kb : Nat) (W : World) : Calls Tryz.prog 85 #[.slice none 0 0, cmpV kb] W fun e w' => e = .returned (.tuple #[]) ∧ W = w' := by
  have C := Lib.hid (stable_nil kb W)
  unfold cmpV at C ⊢
  go_enter Tryz.func85, Tryz.ntmps85
  go_wp2_with fail
  refine C.out.mono ?_
  rintro e w' ⟨rfl, rfl⟩
  go_wp2
  go_end0
  exact ⟨rfl, rfl⟩
end Go.Proofs.YtjbnjlkoipkpoaaGreatDoor.T
