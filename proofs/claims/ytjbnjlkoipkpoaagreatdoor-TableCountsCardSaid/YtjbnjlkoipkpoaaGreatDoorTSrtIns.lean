/- slices.insertionSortCmpFunc, walked. -/
import Derived.Test.YtjbnjlkoipkpoaaGreatDoorTSrtSwap
namespace Go.Proofs.YtjbnjlkoipkpoaaGreatDoor.T
open Go.RowKit Go.Shelf
open Go.Proofs.YtjbnjlkoipkpoaaGreatDoor.B

/-- What the comparison answers, wherever the sort stands. -/
def CmpAt (w0 : World) (rb n kb : Nat) (E : Nat → El) (cf : Nat → Nat → Int) : Prop :=
  ∀ (W : World), KeepBut w0 rb W → ∀ x y, x < n → y < n → Calls Tryz.prog 86 #[.agg #[.int .i64 (E x).id, .slice (E x).o (E x).l (E x).c], .agg #[.int .i64 (E y).id, .slice (E y).o (E y).l (E y).c], .pointer (some ⟨kb, 0, none⟩)] W fun e w' => e = .returned (.int .i64 (cf x y)) ∧ Below W.heap.size W w'
def ltc (cf : Nat → Nat → Int) (x y : Nat) : Bool := decide (cf x y < 0)
abbrev cmpV (kb : Nat) : Value := .func (.func 86) #[] #[.pointer (some ⟨kb, 0, none⟩)]
set_option maxRecDepth 100000 in
set_option maxHeartbeats 6400000 in
theorem insertion_any (cf : Nat → Nat → Int) (hL : Less (ltc cf)) (kb a b n cap : Nat) (rb : Nat) (E : Nat → El) (d : Nat → Nat) (w0 W : World) (S : SrtW w0 rb n E d W) (HC : CmpAt w0 rb n kb E cf) (hab : a ≤ b) (hb : b ≤ n) (hn : n ≤ 1000000) (hbd : ∀ p, p < n → d p < n) (hidx : ∀ p q, a ≤ p → p < q → q < b → d p < d q) :
    Calls Tryz.prog 162 #[.slice (some ⟨rb, 0, none⟩) n cap, .int .i64 a, .int .i64 b, cmpV kb] W fun e w' => e = .returned (.tuple #[]) ∧ ∃ d', SrtW w0 rb n E d' w' ∧ Srt (ltc cf) d' a b ∧ Inc d d' a b := by
  have mixed : Tryz.prog.follows .mixedOrders = true := by kernel_rfl
  have S0 := Lib.hid S
  have HCC := Lib.hid HC
  have HX := Lib.hid hidx
  have HBD := Lib.hid hbd
  clear S HC hidx hbd
  unfold cmpV
  go_enter Tryz.func162, Tryz.ntmps162
  go_wp2
  go_loopw [8] (fun s W => ∃ (i : Nat) (dk : Nat → Nat), s = .int .i64 i ∧ a + 1 ≤ i ∧ (i ≤ b ∨ (i = a + 1 ∧ dk = d)) ∧ Hid (SrtW w0 rb n E dk W) ∧ Hid (Srt (ltc cf) dk a i) ∧ Hid (Inc d dk a i)) (fun s _ => b - (intOf s).toNat)
  case atStart => exact ⟨a + 1, d, by go_num, Nat.le_refl _, .inr ⟨rfl, rfl⟩, S0, Lib.hid (Srt.few _ (by omega)), Lib.hid (Inc.refl _ _ _)⟩
  case round =>
    clear S0
    obtain ⟨i, dk, rfl, hai, hib, hS, hs, hI⟩ := hrel
    by_cases hlt : i < b
    · have hsame : ∀ p, i ≤ p → dk p = d p := fun p hp => hI.out.1 p (by omega)
      have hcr : Crs dk a i (i + 1) := fun p q h1 h2 h3 h4 => by
        obtain ⟨r, r1, r2, r3⟩ := hI.out.2 p h1 h2
        rw [r3, hsame q h3]
        exact HX.out r q r1 (by omega) (by omega)
      have hbk : ∀ p, p < n → dk p < n := fun p hp => by
        by_cases c : a ≤ p ∧ p < i
        · obtain ⟨r, r1, r2, r3⟩ := hI.out.2 p c.1 c.2
          rw [r3]; exact HBD.out r (by omega)
        · rw [hI.out.1 p c]; exact HBD.out p hp
      have HCR := Lib.hid hcr
      have HBK := Lib.hid hbk
      obtain ⟨wo, hwo⟩ : ∃ wo, wo = wr := ⟨_, rfl⟩
      subst hwo
      clear hsame hcr hbk
      go_wp2
      go_loopw [9] (fun s W => ∃ (j : Nat) (dj : Nat → Nat), s = .int .i64 j ∧ a ≤ j ∧ j ≤ i ∧ Hid (SrtW w0 rb n E dj W) ∧ Hid (∀ p, dj p = if p = j then dk i else if j < p ∧ p ≤ i then dk (p - 1) else dk p) ∧ Hid (j < i → ltc cf (dk i) (dk j) = true)) (fun s _ => (intOf s).toNat)
      case atStart => exact ⟨i, dk, rfl, by omega, Nat.le_refl _, hS, Lib.hid fun p => (by by_cases c : p = i; rw [if_pos c, c]; rw [if_neg c, if_neg (by omega)]), Lib.hid fun h => absurd h (Nat.lt_irrefl _)⟩
      case round =>
        clear hS
        obtain ⟨j, dj, rfl, haj, hji, hSj, hdj, hf⟩ := hrel
        by_cases hja : a < j
        · obtain ⟨jp, rfl⟩ : ∃ jp, j = jp + 1 := ⟨j - 1, by omega⟩
          have hi1 : jp + 1 < n := by omega
          have hj1 : jp < n := by omega
          have a0 := hSj.out.c0 _ hi1
          have a1 := hSj.out.c1 _ hi1
          have b0 := hSj.out.c0 _ hj1
          have b1 := hSj.out.c1 _ hj1
          have x0 := hSj.out.f0 _ hi1
          have x1 := hSj.out.f1 _ hi1
          have y0 := hSj.out.f0 _ hj1
          have y1 := hSj.out.f1 _ hj1
          have v1 : dj (jp + 1) = dk i := by rw [hdj.out, if_pos rfl]
          have v2 : dj jp = dk jp := by rw [hdj.out, if_neg (by omega), if_neg (by omega)]
          obtain ⟨ea, hea⟩ : ∃ e, E (dj (jp + 1)) = e := ⟨_, rfl⟩
          obtain ⟨eb, heb⟩ : ∃ e, E (dj jp) = e := ⟨_, rfl⟩
          rw [hea] at a0 a1
          rw [heb] at b0 b1
          have C := HCC.out wr.drew (hSj.out.keep.below (Below.refl _ _).drew) (dk i) (dk jp) (HBK.out i (by omega)) (HBK.out jp (by omega))
          rw [← v1, ← v2, hea, heb] at C
          have CC := Lib.hid C
          have HEA := Lib.hid hea
          have HEB := Lib.hid heb
          have V1 := Lib.hid v1
          have V2 := Lib.hid v2
          have hrl : rb < wr.heap.size := Nat.lt_of_lt_of_le hSj.out.lt hSj.out.keep.size
          clear hea heb C v1 v2
          obtain ⟨i1, i2, i3, i4⟩ := ea
          obtain ⟨j1, j2, j3, j4⟩ := eb
          simp only at a0 a1 b0 b1
          have jz : (jp : Int) + 1 < (n : Int) := by omega
          have jz1 : (jp : Int) < (n : Int) := by omega
          have jp0 : (0 : Int) ≤ (jp : Int) + 1 := by omega
          have je0 : ((jp : Int) + 1).toNat = jp + 1 := by omega
          have jw : IntKind.i64.wrap (jp : Int) = (jp : Int) := IntWalk.i64_in _ (by omega)
          have jw1 : IntKind.i64.wrap ((jp : Int) + 1) = (jp : Int) + 1 := IntWalk.i64_in _ (by omega)
          have hgt : (a : Int) < (jp : Int) + 1 := by omega
          have hgd : decide ((a : Int) < (jp : Int) + 1) = true := decide_eq_true hgt
          go_wp2_with fail
          first
          | go_region_held3 (fun W' => W'.cell? ⟨rb, (jp + 1) * 2, none⟩ = some (.int .i64 i1) ∧ W'.cell? ⟨rb, (jp + 1) * 2 + 1, none⟩ = some (.slice i2 i3 i4) ∧ W'.cell? ⟨rb, jp * 2, none⟩ = some (.int .i64 j1) ∧ W'.cell? ⟨rb, jp * 2 + 1, none⟩ = some (.slice j2 j3 j4)) (first | exact ⟨a0, a1, b0, b1⟩ | exact ⟨k0, k1, k2, k3⟩) (first
            | (go_at_call 86; refine CC.out.mono ?_; rintro e w7 ⟨rfl, hb7⟩; have k0 := (hb7.cell (p := ⟨rb, (jp + 1) * 2, none⟩) hrl).trans a0; have k1 := (hb7.cell (p := ⟨rb, (jp + 1) * 2 + 1, none⟩) hrl).trans a1; have k2 := (hb7.cell (p := ⟨rb, jp * 2, none⟩) hrl).trans b0; have k3 := (hb7.cell (p := ⟨rb, jp * 2 + 1, none⟩) hrl).trans b1))
          | fail
          have HS7 := Lib.hid ((hSj.out.below (Below.refl _ _).drew).below hb7)
          have x0 := HS7.out.f0 _ hi1
          have x1 := HS7.out.f1 _ hi1
          have y0 := HS7.out.f0 _ hj1
          have y1 := HS7.out.f1 _ hj1
          clear hb7 a0 a1 b0 b1 CC hSj
          by_cases hc : cf (dj (jp + 1)) (dj jp) < 0
          · have hcd : decide (cf (dj (jp + 1)) (dj jp) < 0) = true := decide_eq_true hc
            have HCT : Hid (ltc cf (dk i) (dk jp) = true) := Lib.hid (by unfold ltc; rw [← V1.out, ← V2.out]; exact hcd)
            have HS8 := Lib.hid (HS7.out.swapped hi1 hj1 HEA.out HEB.out)
            clear HS7
            go_wp2_with fail
            go_big_region_o
            go_wp2
            refine ⟨⟨jp, _, by go_num, by omega, by omega, HS8, Lib.hid fun p => ?_, Lib.hid fun _ => HCT.out⟩, by simp [intOf]⟩
            have hD := hdj.out
            unfold swf
            by_cases c1 : p = jp + 1
            · rw [if_pos c1, V2.out, if_neg (by omega), if_pos (by omega), c1]; rfl
            · rw [if_neg c1]
              by_cases c2 : p = jp
              · rw [if_pos c2, if_pos c2, V1.out]
              · rw [if_neg c2, if_neg c2, hD, if_neg c1]
                by_cases c3 : jp + 1 < p ∧ p ≤ i
                · rw [if_pos c3, if_pos (by omega)]
                · rw [if_neg c3, if_neg (by omega)]
          · have hcd : decide (cf (dj (jp + 1)) (dj jp) < 0) = false := decide_eq_false hc
            have HCT : ltc cf (dk i) (dk jp) = false := by unfold ltc; rw [← V1.out, ← V2.out]; exact hcd
            obtain ⟨q1, q2⟩ := back hL hs.out HCR.out (i := jp + 1) (by omega) hji (fun _ => HCT) hf.out hdj.out
            have Q1 := Lib.hid q1
            have Q2 := Lib.hid ((hI.out.mono (Nat.le_refl a) (Nat.le_succ i)).trans q2)
            clear q1 q2 HCT
            go_wp2
            exact ⟨⟨i + 1, dj, by go_num, by omega, .inl (by omega), HS7, Q1, Q2⟩, by simp [intOf]; omega⟩
        · have hje : j = a := by omega
          subst hje
          have hcd : decide ((j : Int) < (j : Int)) = false := decide_eq_false (by omega)
          obtain ⟨q1, q2⟩ := back hL hs.out HCR.out (i := j) (Nat.le_refl _) hji (fun h => absurd h (Nat.lt_irrefl _)) hf.out hdj.out
          have Q1 := Lib.hid q1
          have Q2 := Lib.hid ((hI.out.mono (Nat.le_refl j) (Nat.le_succ i)).trans q2)
          clear q1 q2
          go_wp2_with fail
          go_quiet (fail)
          have HS7 : Hid (SrtW w0 rb n E dj (wr.drewN nq)) := Lib.hid (hSj.out.below (below_dn (Below.refl _ _) nq))
          clear hSj
          go_wp2
          exact ⟨⟨i + 1, dj, by go_num, by omega, .inl (by omega), HS7, Q1, Q2⟩, by simp [intOf]; omega⟩
    · go_wp2
      go_end0
      refine ⟨rfl, dk, hS.out, ?_, ?_⟩
      · exact hs.out.sub (Nat.le_refl _) (by omega)
      · rcases hib with h | ⟨h1, h2⟩
        · rw [show b = i by omega]; exact hI.out
        · rw [h2]; exact Inc.refl _ _ _
end Go.Proofs.YtjbnjlkoipkpoaaGreatDoor.T
