/- A name gives its file to another name: Rename. -/
import Derived.Test.YtalonkenchcfbaaDoorWrite
namespace Go.Proofs.YtalonkenchcfbaaDoor
open Go.RowKit Go.Maps
attribute [local go_sem ↓] Go.wp_at_zero Go.wp_at_succ

/-- The disk behind Rename, and its error. -/
def Dk.renamed (D : Dk) (s t : ByteArray) : Dk := ((if s = t then D.spend 1 else (D.spend 1).moved ⟨t, s, D.idx s⟩)).did ⟨5, s, t, ⟨#[]⟩, 0⟩
def Dk.rename (D : Dk) (s t : ByteArray) : Nat × Dk :=
  if D.askedN [s, t] ≠ 0 then (D.askedN [s, t], D) else if Maps.has D.dirOf (nameK s) = false then (7, D) else
  if D.spent 1 < 1 then (3, D.spend 1) else (0, D.renamed s t)
theorem names_two (w : World) (s t : ByteArray) (hs : s.size ≤ 9223372036854775807) (ht : t.size ≤ 9223372036854775807) : NamesAt (w.alloc (.cells #[.string s, .string t] 9)) (.slice (some ⟨w.heap.size, 0, none⟩) 2 2) [s, t] :=
  ⟨_, _, rfl, by simp, by simpa using ⟨hs, ht⟩, fun k x hx => by
    match k, hx with
    | 0, hx => simp at hx; subst hx; exact ⟨_, 0, rfl, by simp, World.cell?_alloc_new _ _ _ _⟩
    | 1, hx => simp at hx; subst hx; exact ⟨_, 0, rfl, by simp, World.cell?_alloc_new _ _ _ _⟩
    | k + 2, hx => simp at hx⟩
set_option maxHeartbeats 1600000 in
set_option maxRecDepth 20000 in
theorem rename_any (s t : ByteArray) (hs : s.size ≤ 1000) (ht : t.size ≤ 1000) (w : World) (ρ : Col) (b : Nat) (D : Dk) (L : Lay) (h : DiskAt w ρ b D L) (ok : D.Ok) :
    Calls Tryd.prog 31 #[.pointer (some ⟨b, 0, none⟩), .string s, .string t] w fun e w' => e = .returned (errV (D.rename s t).1) ∧ Turned w ρ b (D.rename s t).2 w' := by
  have hb := h.blk.lt
  have c3 := h.cells.c3
  have hB1 : Below w.heap.size w (w.alloc (.cells #[.string s, .string t] 9)) := (Below.refl _ _).alloc (Nat.le_refl _) _
  have A0 := asked_any _ [s, t] _ (names_two w s t (by omega) (by omega)) b D (by simp; omega) ((hB1.cell (p := ⟨b, 3, none⟩) hb).trans c3)
  have HD := Lib.hid h
  have OK := Lib.hid ok
  have HB1 := Lib.hid hB1
  unfold Dk.rename
  by_cases hk0 : D.askedN [s, t] = 0
  · rw [if_neg (by omega)]
    rw [hk0, show errV 0 = .nilIface from rfl] at A0
    have A' := Lib.hid A0
    have kt := Lib.hid (WideMaps.keyOf_string_mk (P := Tryd.prog) (k := 9) Tryd.underlying9 (s := s) (by unfold maxLen; omega))
    have hpts := (play_points D.waits D.dir (h.map.1.tidy keyed) ok.points ok.waits).1
    cases hh : Maps.has D.dirOf (nameK s) with
    | false =>
      rw [if_pos rfl]
      have HH := Lib.hid hh
      clear h ok A0 hk0 hB1 hh hpts c3 hb
      go_enter Tryd.func31, Tryd.ntmps31
      go_wp2_with fail
      refine A'.out.mono ?_
      rintro e w2 ⟨rfl, b2⟩
      have hb2 : Hid (Below w.heap.size w w2) := Lib.hid (HB1.out.trans (b2.mono HB1.out.size))
      clear b2
      have D2 := Lib.hid (dir_any w2 ρ b D L (HD.out.below hb2.out) (by have := OK.out.names; omega) (by have := OK.out.many; omega) OK.out.fits)
      go_wp2_with fail
      refine D2.out.mono ?_
      rintro e w3 ⟨rfl, h3, b3⟩
      have H3 := Lib.hid h3
      have hb3 : Hid (Below w.heap.size w w3) := Lib.hid (hb2.out.trans (b3.mono hb2.out.size))
      clear h3 b3
      go_wp2_with (at_lookup; refine wpList_lookup_own_ok_int _ rfl _ _ 59 rfl 9 3 .i64 keyed Tryd.underlying59 Tryd.underlying3 (zeroI _) _ _ _ rfl H3.out _ _ rfl kt.out ?_; intro c hat hwc; rw [show Maps.has D.dirOf (.string s.data.toList) = false from HH.out]; clear hat hwc)
      go_ret
      exact ⟨rfl, Turned.same ⟨L, HD.out⟩ hb3.out⟩
    | true =>
      rw [if_neg (by simp)]
      obtain ⟨i, hi, hz⟩ := hpts _ hh
      have hidx : D.idx s = i := by unfold Dk.idx Dk.dirOf; rw [hz]; simp
      have HH := Lib.hid hh
      have HI := Lib.hid hz
      have hil : i ≤ 1000000 := by have := ok.lots; omega
      unfold Dk.renamed
      rw [hidx]
      clear h ok A0 hk0 hB1 hh hpts c3 hb hz hidx hi
      by_cases hsp : D.spent 1 < 1
      · rw [if_pos hsp]
        go_enter Tryd.func31, Tryd.ntmps31
        go_wp2_with fail
        refine A'.out.mono ?_
        rintro e w2 ⟨rfl, b2⟩
        have hb2 : Hid (Below w.heap.size w w2) := Lib.hid (HB1.out.trans (b2.mono HB1.out.size))
        clear b2
        have D2 := Lib.hid (dir_any w2 ρ b D L (HD.out.below hb2.out) (by have := OK.out.names; omega) (by have := OK.out.many; omega) OK.out.fits)
        go_wp2_with fail
        refine D2.out.mono ?_
        rintro e w3 ⟨rfl, h3, b3⟩
        have H3 := Lib.hid h3
        have hb3 : Hid (Below w.heap.size w w3) := Lib.hid (hb2.out.trans (b3.mono hb2.out.size))
        clear h3 b3
        have S0 := step_any w3 ρ b D L (HD.out.below hb3.out) OK.out.units0 (by have := OK.out.units1; omega) OK.out.left0 OK.out.left1
        rw [if_pos hsp] at S0
        have S : Hid (Calls Tryd.prog 23 #[.pointer (some ⟨b, 0, none⟩)] w3 fun e w' => e = .returned (.iface 57 (.int .i64 3)) ∧ DiskAt w' ρ b (D.spend 1) L ∧ Kept (Only 0 ρ) w3 w') := Lib.hid S0
        clear S0
        go_wp2_with (at_lookup; refine wpList_lookup_own_ok_int _ rfl _ _ 59 rfl 9 3 .i64 keyed Tryd.underlying59 Tryd.underlying3 (zeroI _) _ _ _ rfl H3.out _ _ rfl kt.out ?_; intro c hat hwc; rw [show Maps.has D.dirOf (.string s.data.toList) = true from HH.out]; rw [show D.dirOf.atKey (.string s.data.toList) (.lit (.int .i64 0)) = .lit (.int .i64 i) from HI.out _] at hat; cases hat; clear hwc)
        refine S.out.mono ?_
        rintro e w4 ⟨rfl, d2, k2⟩
        have D4 := Lib.hid d2
        have K4 := Lib.hid k2
        clear d2 k2
        go_wp2_with fail
        go_ret
        exact ⟨rfl, Turned.of0 hb3.out D4.out K4.out⟩
      · rw [if_neg hsp]
        generalize hD1 : (if s = t then D.spend 1 else (D.spend 1).moved ⟨t, s, i⟩) = D1
        have HD1 := Lib.hid hD1
        clear hD1
        obtain ⟨i0, hi0, hz0, hz1, hz2⟩ := info_parts infoE
        have hmany := OK.out.many
        go_enter Tryd.func31, Tryd.ntmps31
        go_wp2_with fail
        refine A'.out.mono ?_
        rintro e w2 ⟨rfl, b2⟩
        have hb2 : Hid (Below w.heap.size w w2) := Lib.hid (HB1.out.trans (b2.mono HB1.out.size))
        clear b2
        have D2 := Lib.hid (dir_any w2 ρ b D L (HD.out.below hb2.out) (by have := OK.out.names; omega) (by have := OK.out.many; omega) OK.out.fits)
        go_wp2_with fail
        refine D2.out.mono ?_
        rintro e w3 ⟨rfl, h3, b3⟩
        have H3 := Lib.hid h3
        have hb3 : Hid (Below w.heap.size w w3) := Lib.hid (hb2.out.trans (b3.mono hb2.out.size))
        clear h3 b3
        have S0 := step_any w3 ρ b D L (HD.out.below hb3.out) OK.out.units0 (by have := OK.out.units1; omega) OK.out.left0 OK.out.left1
        rw [if_neg (by omega)] at S0
        have S : Hid (Calls Tryd.prog 23 #[.pointer (some ⟨b, 0, none⟩)] w3 fun e w' => e = .returned .nilIface ∧ DiskAt w' ρ b (D.spend 1) L ∧ Kept (Only 0 ρ) w3 w') := Lib.hid S0
        clear S0
        go_wp2_with (at_lookup; refine wpList_lookup_own_ok_int _ rfl _ _ 59 rfl 9 3 .i64 keyed Tryd.underlying59 Tryd.underlying3 (zeroI _) _ _ _ rfl H3.out _ _ rfl kt.out ?_; intro c hat hwc; rw [show Maps.has D.dirOf (.string s.data.toList) = true from HH.out]; rw [show D.dirOf.atKey (.string s.data.toList) (.lit (.int .i64 0)) = .lit (.int .i64 i) from HI.out _] at hat; cases hat; clear hwc)
        refine S.out.mono ?_
        rintro e w4 ⟨rfl, d2, k2⟩
        have D4 := Lib.hid d2
        have KW : Hid (Kept ρ w w4) := Lib.hid ((Kept.below hb3.out).then k2.wide)
        by_cases hst : s = t
        · obtain rfl : D.spend 1 = D1 := by rw [← HD1.out, if_pos hst]
          subst hst
          clear d2 k2 hi0 hz0 hz1 hz2 HD1
          go_wp2_with fail
          refine (did_any ⟨5, s, s, ⟨#[]⟩, 0⟩ _ ρ b _ L D4.out (Nat.le_trans OK.out.acts (by omega))).mono ?_
          rintro e w7 ⟨rfl, T7⟩
          have T7' := Lib.hid (Turned.next (Ext.refl _ _) KW.out T7)
          clear T7
          go_wp2_with fail
          go_ret
          exact ⟨rfl, T7'.out⟩
        · obtain rfl : (D.spend 1).moved ⟨t, s, i⟩ = D1 := by rw [← HD1.out, if_neg hst]
          have hst0 : ¬ s.toList = t.toList := fun e => hst (ByteArray.ext (Array.toList_inj.mp (by rw [← Lib.toList_data, ← Lib.toList_data]; exact e)))
          have hst' : (s.toList == t.toList) = false := by simpa using hst0
          obtain ⟨fo, fc, hvf⟩ := d2.rowF.shape
          have hb := d2.blk.lt
          have c7 := d2.cells.c7
          have f7 := d2.cells.f7
          have hown := d2.rowW.1
          have hmany2 : (D.spend 1).waits.length ≤ 1000000 := hmany
          have hne : L.vw.ownBlock ≠ some b := fun e => by have := d2.rowW.2 b e; rw [d2.blk.2] at this; cases this
          clear d2 k2 hvf fo fc HD1
          go_wp2_with (at_builtin; refine wpList_append_lies _ rfl _ _ _ rfl 0 70 i0 _ 3 40 Tryd.underlying63 hi0 hz0 hz1 hz2 rfl (by omega) L.vw (D.spend 1).waits.length ((D.spend 1).waits.flatMap En.cells) rfl (hown.alloc _) ⟨w4.heap.size, 0, none⟩ 1 1 (En.cells ⟨t, s, i⟩) rfl rfl (World.news_of_block (cs := (En.cells ⟨t, s, i⟩).toArray) (t := 70) (fr := (0, 0)) (heap_alloc_new w4 _)) (by simp [En.cells, Value.oneCell']) (by omega) (by unfold maxLen; omega) (by omega) (by simp) (w4.heap.size + 1) (by simp) ?_; intro gg cap w5 hown1 hgrow hat hlt; refine Hid.out ?_)
          refine Lib.hid ?_
          have hbel : Below w4.heap.size w4 (w4.alloc (.cells (En.cells ⟨t, s, i⟩).toArray 70)) := (Below.refl _ _).alloc (Nat.le_refl _) _
          have g7 : w5.frozen? ⟨b, 7, none⟩ = false := (hgrow.frozen_far _ (by simp; omega) (Ne.symm hne)).trans ((hbel.frozen (p := ⟨b, 7, none⟩) hb).trans f7)
          have k7 : w5.cell? ⟨b, 7, none⟩ = some L.vw := (hgrow.cell_far _ (by simp; omega) (Ne.symm hne)).trans ((hbel.cell (p := ⟨b, 7, none⟩) hb).trans c7)
          have T3 := turned_waits (x := ⟨t, s, i⟩) D4.out hbel hown1 hgrow (by rcases hat with hat | hat; exact .inl hat; exact .inr (by rw [hat]; simp)) hlt
          have T3' := Lib.hid T3
          clear T3 hown1 hgrow hat hlt c7 f7 hown hne hmany2 hi0 hz0 hz1 hz2 hbel
          go_wp2_with fail
          obtain ⟨ρ5, ⟨L5, d5⟩, e5, k5⟩ := T3'.out
          refine (did_any ⟨5, s, t, ⟨#[]⟩, 0⟩ _ ρ5 b _ L5 d5 (Nat.le_trans OK.out.acts (by omega))).mono ?_
          rintro e w7 ⟨rfl, T7⟩
          have T7' := Lib.hid (Turned.next (Ext.refl _ _) KW.out (Turned.next e5 k5 T7))
          clear T7 d5 e5 k5 T3'
          go_wp2_with fail
          go_ret
          exact ⟨rfl, T7'.out⟩
  · rw [if_pos hk0]
    rw [errV_pos hk0] at A0
    have A' := Lib.hid A0
    have EV := Lib.hid (errV_pos hk0)
    clear A0 h ok hk0 hB1 c3 hb
    go_enter Tryd.func31, Tryd.ntmps31
    go_wp2_with fail
    refine A'.out.mono ?_
    rintro e w2 ⟨rfl, b2⟩
    have hb2 : Hid (Below w.heap.size w w2) := Lib.hid (HB1.out.trans (b2.mono HB1.out.size))
    clear b2
    go_wp2_with fail
    go_ret
    exact ⟨by rw [EV.out]; rfl, Turned.same ⟨L, HD.out⟩ hb2.out⟩
end Go.Proofs.YtalonkenchcfbaaDoor
