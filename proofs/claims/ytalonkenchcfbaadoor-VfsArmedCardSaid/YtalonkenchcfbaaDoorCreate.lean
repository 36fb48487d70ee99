/- A new disk, and a new file on it. -/
import Derived.Test.YtalonkenchcfbaaDoorGrow
namespace Go.Proofs.YtalonkenchcfbaaDoor
open Go.RowKit Go.Maps
attribute [local go_sem ↓] Go.wp_at_zero Go.wp_at_succ

/-- The new disk. -/
def Dk.fresh (room : Int) : Dk := ⟨0, 0, false, false, room, [], .map [], [], []⟩
/-- A disk made by the call. -/
def NewPost (room : Int) (w : World) (e : Ending) (w' : World) : Prop := ∃ b ρ, e = .returned (.tuple #[.pointer (some ⟨b, 0, none⟩), .nilIface]) ∧ IsDisk w' ρ b (Dk.fresh room) ∧ (∀ k, k < w.heap.size → ρ k = none) ∧ Below w.heap.size w w'
theorem run_makeNames (w : World) : (Instr.makeMap 59 none).run Tryd.prog w = .ok (.map (some w.heap.size)) (w.alloc (.map #[] 0)) := run_makeMap _ _
theorem new_ok (room : Int) (h0 : 0 ≤ room) (w : World) :
    Calls Tryd.prog 8 #[.int .i64 room] w (NewPost room w) := by
  have M := run_makeNames
  go_enter Tryd.func8, Tryd.ntmps8
  go_wp2
  go_ret2
  refine ⟨w.heap.size + 1, paint (paint (fun _ => none) w.heap.size 1) (w.heap.size + 1) 0, rfl, ?_, ?_, ?_⟩
  · refine ⟨⟨.slice none 0 0, w.heap.size, .slice none 0 0, .slice none 0 0, []⟩, ⟨⟨?_, paint_here _ _ _⟩, ⟨?_, ?_⟩, Row.nil _ _ _ _ _, Row.nil _ _ _ _ _, Row.nil _ _ _ _ _, rfl, fun i f F h => by simp at h, ?_⟩⟩
    · exact heap_two w _ _
    · exact (World.ownsMap_made w _ _ _).alloc _
    · show paint _ _ _ w.heap.size = _
      rw [paint_else _ (by omega)]; exact paint_here _ _ _
    · intro k hk
      simp only [paint] at hk
      simp
      split at hk
      · omega
      · split at hk
        · omega
        · exact absurd rfl hk
  · intro k hk
    rw [paint_else _ (by omega), paint_else _ (by omega)]
  · exact ((Below.refl _ _).alloc (Nat.le_refl _) _).alloc (by simp) _
/-- Which file a good name leads to. -/
theorem file_found {w : World} {ρ : Col} {b : Nat} {D : Dk} {L : Lay} (h : DiskAt w ρ b D L) (ok : D.Ok) {s : ByteArray} (hs : D.fileN s = 0) :
    D.askedN [s] = 0 ∧ Maps.has D.dirOf (nameK s) = true ∧ ∃ i f F, L.fs[i]? = some f ∧ D.files[i]? = some F ∧ ∀ z, D.dirOf.atKey (nameK s) z = .lit (.int .i64 (i : Nat)) := by
  unfold Dk.fileN at hs
  by_cases h0 : D.askedN [s] = 0
  · rw [if_pos h0] at hs
    have hh : Maps.has D.dirOf (nameK s) = true := by
      cases hh : Maps.has D.dirOf (nameK s)
      · rw [hh] at hs; simp at hs
      · rfl
    obtain ⟨i, hi, hz⟩ := (play_points D.waits D.dir (h.map.1.tidy keyed) ok.points ok.waits).1 _ hh
    exact ⟨h0, hh, i, _, _, List.getElem?_eq_getElem (by rw [h.len]; exact hi), List.getElem?_eq_getElem hi, hz⟩
  · rw [if_neg h0] at hs; exact absurd hs h0
theorem askedN_cases (D : Dk) (zs : List ByteArray) : D.askedN zs = 0 ∨ D.askedN zs = 1 ∨ D.askedN zs = 3 := by
  unfold Dk.askedN
  split
  · exact .inr (.inl rfl)
  · split
    · exact .inr (.inr rfl)
    · exact .inl rfl
theorem fileN_cases (D : Dk) (s : ByteArray) : D.fileN s = 0 ∨ D.fileN s = 1 ∨ D.fileN s = 3 ∨ D.fileN s = 7 := by
  unfold Dk.fileN
  have := askedN_cases D [s]
  split
  · split
    · exact .inl rfl
    · exact .inr (.inr (.inr rfl))
  · omega
theorem ne77 (w : World) : (binOp .neq 27 (.iface 57 (.int .i64 7)) (.iface 57 (.int .i64 7))).run Tryd.prog w = .ok (.bool false) w := by kernel_rfl
theorem ne17 (w : World) : (binOp .neq 27 (.iface 57 (.int .i64 1)) (.iface 57 (.int .i64 7))).run Tryd.prog w = .ok (.bool true) w := by kernel_rfl
theorem ne37 (w : World) : (binOp .neq 27 (.iface 57 (.int .i64 3)) (.iface 57 (.int .i64 7))).run Tryd.prog w = .ok (.bool true) w := by kernel_rfl
theorem heap_one (w : World) (o1 o2 : Obj) : ((w.alloc o1).alloc o2).heap[w.heap.size]? = some o1 := by
  rw [heap_alloc_old (w.alloc o1) o2 (r := w.heap.size) (by simp)]; exact heap_alloc_new w o1
/-- The change that a new name makes. -/
def En.made (s : ByteArray) (n : Nat) : En := ⟨s, ⟨#[]⟩, n⟩
/-- The disk behind Create, and its error. -/
def Dk.create (D : Dk) (s : ByteArray) : Nat × Dk :=
  if D.fileN s = 0 then (12, D) else if D.fileN s ≠ 7 then (D.fileN s, D) else
  if D.spent 1 < 1 then (3, D.spend 1) else (0, (((D.spend 1).moved (En.made s D.files.length)).grew).did ⟨1, s, ⟨#[]⟩, ⟨#[]⟩, 0⟩)
theorem Turned.of0 {w w' w'' : World} {ρ : Col} {b : Nat} {D : Dk} {L : Lay} (hb : Below w.heap.size w w') (h : DiskAt w'' ρ b D L) (k : Kept (Only 0 ρ) w' w'') : Turned w ρ b D w'' :=
  ⟨ρ, ⟨L, h⟩, Ext.refl _ _, (Kept.below hb).then k.wide⟩
set_option maxHeartbeats 1600000 in
set_option maxRecDepth 20000 in
theorem create_any (s : ByteArray) (hs : s.size ≤ 1000) (w : World) (ρ : Col) (b : Nat) (D : Dk) (L : Lay) (h : DiskAt w ρ b D L) (ok : D.Ok) :
    Calls Tryd.prog 9 #[.pointer (some ⟨b, 0, none⟩), .string s] w fun e w' => e = .returned (errV (D.create s).1) ∧ Turned w ρ b (D.create s).2 w' := by
  have HD := Lib.hid h
  have OK := Lib.hid ok
  by_cases h0 : D.fileN s = 0
  · obtain ⟨h1, h2, i, f, F, h3, h4, h5⟩ := file_found h ok h0
    have C := Lib.hid (file_ok s hs w ρ b D L h ok h1 h2 i h5 f h3)
    have hr : Hid (D.create s = (12, D)) := Lib.hid (by unfold Dk.create; rw [if_pos h0])
    rw [hr.out]
    clear h ok h0 h1 h2 h3 h4 h5
    go_enter Tryd.func9, Tryd.ntmps9
    go_wp2_with fail
    refine C.out.mono ?_
    rintro e w1 ⟨rfl, b1⟩
    have B1 := Lib.hid b1
    clear b1
    go_wp2_with fail
    go_ret
    exact ⟨rfl, Turned.same ⟨L, HD.out⟩ B1.out⟩
  · have C0 := file_err s hs w ρ b D L h ok h0
    have hc := fileN_cases D s
    by_cases h7 : D.fileN s = 7
    · rw [h7] at C0
      have C : Hid (Calls Tryd.prog 22 #[.pointer (some ⟨b, 0, none⟩), .string s] w fun e w' => e = .returned (.tuple #[.pointer none, .iface 57 (.int .i64 7)]) ∧ Below w.heap.size w w') := Lib.hid C0
      by_cases hsp : D.spent 1 < 1
      · have hr : Hid (D.create s = (3, D.spend 1)) := Lib.hid (by unfold Dk.create; rw [if_neg h0, if_neg (by omega), if_pos hsp])
        rw [hr.out]
        have E7 := ne77
        clear h ok h0 h7 C0 hc
        go_enter Tryd.func9, Tryd.ntmps9
        go_wp2_with fail
        refine C.out.mono ?_
        rintro e w1 ⟨rfl, b1⟩
        have B1 := Lib.hid b1
        have S0 := step_any w1 ρ b D L (HD.out.below b1) OK.out.units0 (by have := OK.out.units1; omega) OK.out.left0 OK.out.left1
        rw [if_pos hsp] at S0
        have S : Hid (Calls Tryd.prog 23 #[.pointer (some ⟨b, 0, none⟩)] w1 fun e w' => e = .returned (.iface 57 (.int .i64 3)) ∧ DiskAt w' ρ b (D.spend 1) L ∧ Kept (Only 0 ρ) w1 w') := Lib.hid S0
        clear b1 S0
        go_wp2_with fail
        refine S.out.mono ?_
        rintro e w2 ⟨rfl, d2, k2⟩
        have D2 := Lib.hid d2
        have K2 := Lib.hid k2
        clear d2 k2
        go_wp2_with fail
        go_ret
        exact ⟨rfl, Turned.of0 B1.out D2.out K2.out⟩
      · have hr : Hid (D.create s = (0, (((D.spend 1).moved (En.made s D.files.length)).grew).did ⟨1, s, ⟨#[]⟩, ⟨#[]⟩, 0⟩)) := Lib.hid (by unfold Dk.create; rw [if_neg h0, if_neg (by omega), if_neg hsp])
        rw [hr.out]
        have E7 := ne77
        obtain ⟨i0, hi0, hz0, hz1, hz2⟩ := info_parts infoE
        have hmany := OK.out.many
        clear h ok h0 h7 C0 hc
        go_enter Tryd.func9, Tryd.ntmps9
        go_wp2_with fail
        refine C.out.mono ?_
        rintro e w1 ⟨rfl, b1⟩
        have B1 := Lib.hid b1
        have S0 := step_any w1 ρ b D L (HD.out.below b1) OK.out.units0 (by have := OK.out.units1; omega) OK.out.left0 OK.out.left1
        rw [if_neg (by omega)] at S0
        have S : Hid (Calls Tryd.prog 23 #[.pointer (some ⟨b, 0, none⟩)] w1 fun e w' => e = .returned .nilIface ∧ DiskAt w' ρ b (D.spend 1) L ∧ Kept (Only 0 ρ) w1 w') := Lib.hid S0
        clear b1 S0
        go_wp2_with fail
        refine S.out.mono ?_
        rintro e w2 ⟨rfl, d2, k2⟩
        have D2 := Lib.hid d2
        have KW : Hid (Kept ρ w w2) := Lib.hid ((Kept.below B1.out).then k2.wide)
        obtain ⟨fo, fc, hvf⟩ := d2.rowF.shape
        have hb := d2.blk.lt
        have c5 := d2.cells.c5
        rw [hvf] at c5
        have c7 := d2.cells.c7
        have f7 := d2.cells.f7
        have hown := d2.rowW.1
        have hmany2 : (D.spend 1).waits.length ≤ 1000000 := hmany
        have hne : L.vw.ownBlock ≠ some b := fun e => by have := d2.rowW.2 b e; rw [d2.blk.2] at this; cases this
        clear d2 k2 hvf
        go_wp2_with fail
        go_region_law
          ((refine step_append_lies _ (by rfl) _ _ _ (by rfl) 0 70 i0 _ 3 40 Tryd.underlying63 hi0 hz0 hz1 hz2 rfl (by omega) L.vw (D.spend 1).waits.length ((D.spend 1).waits.flatMap En.cells) (by rfl) ((hown.alloc _).drew)
                ⟨w2.heap.size, 0, none⟩ 1 1 (En.made s (D.spend 1).files.length).cells (by rfl) (by rfl) (World.news_of_block (cs := (En.made s (D.spend 1).files.length).cells.toArray) (t := 70) (fr := (0, 0)) (heap_alloc_new w2 _)) (by simp [En.made, En.cells, Value.oneCell'])
                (by omega) (by unfold maxLen; omega) (by omega) (by simp) (w2.heap.size + 1) (by simp) ?_; intro gg cap w3 hown1 hgrow hat hlt; have g7 : w3.frozen? ⟨b, 7, none⟩ = false := (hgrow.frozen_far _ (by simp; omega) (Ne.symm hne)).trans ((((Below.refl w2.heap.size w2).alloc (Nat.le_refl _) _).frozen (p := ⟨b, 7, none⟩) hb).trans f7); have k7 : w3.cell? ⟨b, 7, none⟩ = some L.vw := (hgrow.cell_far _ (by simp; omega) (Ne.symm hne)).trans ((((Below.refl w2.heap.size w2).alloc (Nat.le_refl _) _).cell (p := ⟨b, 7, none⟩) hb).trans c7)))
        all_goals
          have T3 := turned_waits (x := En.made s (D.spend 1).files.length) D2.out ((Below.refl w2.heap.size w2).alloc (Nat.le_refl _) _).drew hown1 hgrow (by rcases hat with hat | hat; exact .inl hat; exact .inr (by rw [hat]; simp)) hlt
          clear hown1 hgrow hat hlt g7 k7 c5 c7 f7 hown hne hmany2 hi0 hz0 hz1 hz2
          generalize w3.setCell ⟨b, 7, none⟩ (.slice (some ⟨gg, 0, none⟩) ((D.spend 1).waits.length + 1) cap) = w4 at *
          obtain ⟨ρ4, ⟨L4, d4⟩, e4, k4⟩ := T3
          obtain ⟨j0, hj0, hy0, hy1, hy2⟩ := info_parts infoF
          have D4 := Lib.hid d4
          have E4 := Lib.hid e4
          have K4 := Lib.hid k4
          have hb4 := d4.blk.lt
          have c5 := d4.cells.c5
          have f5 := d4.cells.f5
          have hown := d4.rowF.1
          have hne : L4.vf.ownBlock ≠ some b := fun e => by have := d4.rowF.2 b e; rw [d4.blk.2] at this; cases this
          have hlots : ((D.spend 1).moved (En.made s (D.spend 1).files.length)).files.length ≤ 1000000 := OK.out.lots
          clear d4 e4 k4
          go_wp2_with (at_builtin; refine wpList_append_lies _ rfl _ _ _ rfl 0 66 j0 _ 1 8 Tryd.underlying62 hj0 hy0 hy1 hy2 rfl (by omega) L4.vf _ _ rfl ((hown.alloc _).alloc _) ⟨w4.heap.size + 1, 0, none⟩ 1 1 [.pointer (some ⟨w4.heap.size, 0, none⟩)] rfl rfl (World.news_of_block (cs := #[.pointer (some ⟨w4.heap.size, 0, none⟩)]) (t := 66) (fr := (0, 0)) (heap_two w4 _ _)) (by simp [Value.oneCell']) (by omega) (by unfold maxLen; omega) (by omega) (by simp) (w4.heap.size + 2) (by simp) ?_; intro gg2 cap2 w5 hown2 hgrow2 hat2 hlt2; refine Hid.out ?_)
          refine Lib.hid ?_
          have g5 : w5.frozen? ⟨b, 5, none⟩ = false := (hgrow2.frozen_far _ (by simp; omega) (Ne.symm hne)).trans ((((Below.refl w4.heap.size w4).alloc (Nat.le_refl _) _).alloc (by simp) _ |>.frozen (p := ⟨b, 5, none⟩) hb4).trans f5)
          have k5 : w5.cell? ⟨b, 5, none⟩ = some L4.vf := (hgrow2.cell_far _ (by simp; omega) (Ne.symm hne)).trans ((((Below.refl w4.heap.size w4).alloc (Nat.le_refl _) _).alloc (by simp) _ |>.cell (p := ⟨b, 5, none⟩) hb4).trans c5)
          have T5 := turned_files D4.out (((Below.refl w4.heap.size w4).alloc (Nat.le_refl _) (.cells #[.string ⟨#[]⟩, .slice none 0 0] 73)).alloc (by simp) (.cells #[.pointer (some ⟨w4.heap.size, 0, none⟩)] 66)) (fb := w4.heap.size) (Nat.le_refl _) (heap_one w4 _ _) hown2 hgrow2 (by rcases hat2 with hat2 | hat2; exact .inl hat2; exact .inr (by rw [hat2]; simp)) hlt2
          have T5' := Lib.hid T5
          clear T5 hown2 hgrow2 hat2 hlt2 c5 f5 hown hne hlots hj0 hy0 hy1 hy2
          go_wp2_with fail
          obtain ⟨ρ6, ⟨L6, d6⟩, e6, k6⟩ := T5'.out
          refine (did_any ⟨1, s, ⟨#[]⟩, ⟨#[]⟩, 0⟩ _ ρ6 b _ L6 d6 (Nat.le_trans OK.out.acts (by omega))).mono ?_
          rintro e w7 ⟨rfl, T7⟩
          have T7' := Lib.hid (Turned.next E4.out K4.out (Turned.next e6 k6 T7))
          clear T7 d6 e6 k6 T5'
          go_wp2_with fail
          go_ret
          exact ⟨rfl, Turned.next (Ext.refl _ _) KW.out T7'.out⟩
    · have hk : D.fileN s = 1 ∨ D.fileN s = 3 := by omega
      have hr : Hid (D.create s = (D.fileN s, D)) := Lib.hid (by unfold Dk.create; rw [if_neg h0, if_pos h7])
      rw [hr.out]
      rcases hk with hk | hk
      · rw [hk] at C0 ⊢
        have C : Hid (Calls Tryd.prog 22 #[.pointer (some ⟨b, 0, none⟩), .string s] w fun e w' => e = .returned (.tuple #[.pointer none, .iface 57 (.int .i64 1)]) ∧ Below w.heap.size w w') := Lib.hid C0
        have E7 := ne17
        clear h ok h0 h7 C0 hc hk
        go_enter Tryd.func9, Tryd.ntmps9
        go_wp2_with fail
        refine C.out.mono ?_
        rintro e w1 ⟨rfl, b1⟩
        have B1 := Lib.hid b1
        clear b1
        go_wp2_with fail
        go_ret
        exact ⟨rfl, Turned.same ⟨L, HD.out⟩ B1.out⟩
      · rw [hk] at C0 ⊢
        have C : Hid (Calls Tryd.prog 22 #[.pointer (some ⟨b, 0, none⟩), .string s] w fun e w' => e = .returned (.tuple #[.pointer none, .iface 57 (.int .i64 3)]) ∧ Below w.heap.size w w') := Lib.hid C0
        have E7 := ne37
        clear h ok h0 h7 C0 hc hk
        go_enter Tryd.func9, Tryd.ntmps9
        go_wp2_with fail
        refine C.out.mono ?_
        rintro e w1 ⟨rfl, b1⟩
        have B1 := Lib.hid b1
        clear b1
        go_wp2_with fail
        go_ret
        exact ⟨rfl, Turned.same ⟨L, HD.out⟩ B1.out⟩
end Go.Proofs.YtalonkenchcfbaaDoor
