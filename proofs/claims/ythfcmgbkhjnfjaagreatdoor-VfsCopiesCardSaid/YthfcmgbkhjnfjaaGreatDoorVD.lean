/- A new disk, and a new file on it. The names are made sure: SyncDir. How many bytes are free: Free, a range over the names' map in whatever order. -/
import Derived.Test.YthfcmgbkhjnfjaaGreatDoorVC
import Derived.Maps.RangeWalk
namespace Go.Proofs.YthfcmgbkhjnfjaaGreatDoor
open Go.RowKit Go.Maps
attribute [local go_sem ↓] Go.wp_at_zero Go.wp_at_succ

/-- The new disk. -/
def Dk.fresh (room : Int) : Dk := ⟨0, 0, false, false, room, [], .map [], [], []⟩
/-- A disk made by the call. -/
def NewPost (room : Int) (w : World) (e : Ending) (w' : World) : Prop := ∃ b ρ, e = .returned (.tuple #[.pointer (some ⟨b, 0, none⟩), .nilIface]) ∧ IsDisk w' ρ b (Dk.fresh room) ∧ (∀ k, k < w.heap.size → ρ k = none) ∧ Below w.heap.size w w'
theorem run_makeNames (w : World) : (Instr.makeMap 64 none).run Tryz.prog w = .ok (.map (some w.heap.size)) (w.alloc (.map #[] 0)) := run_makeMap _ _
theorem new_ok (room : Int) (h0 : 0 ≤ room) (w : World) :
    Calls Tryz.prog 7 #[.int .i64 room] w (NewPost room w) := by
  have M := run_makeNames
  go_enter Tryz.func7, Tryz.ntmps7
  go_wp2
  go_ret2
  refine ⟨w.heap.size + 1, paint (paint (fun _ => none) w.heap.size 1) (w.heap.size + 1) 0, rfl, ?_, ?_, ?_⟩
  · refine ⟨⟨.slice none 0 0, w.heap.size, .slice none 0 0, .slice none 0 0, []⟩, ⟨⟨?_, paint_here _ _ _⟩, ⟨?_, ?_⟩, Row.nil _ _ _ _ _, Row.nil _ _ _ _ _, Row.nil _ _ _ _ _, rfl, fun i f F h => by simp at h, ?_⟩⟩
    · exact heap_two w _ _
    · exact (World.ownsMap_made w _ _ _).alloc _
    · show paint _ _ _ w.heap.size = _
      rw [paint_else _ (by omega)]; exact paint_here _ _ _
    · intro k hk
      simp only [paint] at hk
      simp
      split at hk
      · omega
      · split at hk
        · omega
        · exact absurd rfl hk
  · intro k hk
    rw [paint_else _ (by omega), paint_else _ (by omega)]
  · exact ((Below.refl _ _).alloc (Nat.le_refl _) _).alloc (by simp) _
/-- Which file a good name leads to. -/
theorem file_found {w : World} {ρ : Col} {b : Nat} {D : Dk} {L : Lay} (h : DiskAt w ρ b D L) (ok : D.Ok) {s : ByteArray} (hs : D.fileN s = 0) :
    D.askedN [s] = 0 ∧ Maps.has D.dirOf (nameK s) = true ∧ ∃ i f F, L.fs[i]? = some f ∧ D.files[i]? = some F ∧ ∀ z, D.dirOf.atKey (nameK s) z = .lit (.int .i64 (i : Nat)) := by
  unfold Dk.fileN at hs
  by_cases h0 : D.askedN [s] = 0
  · rw [if_pos h0] at hs
    have hh : Maps.has D.dirOf (nameK s) = true := by
      cases hh : Maps.has D.dirOf (nameK s)
      · rw [hh] at hs; simp at hs
      · rfl
    obtain ⟨i, hi, hz⟩ := (play_points D.waits D.dir (h.map.1.tidy keyed) ok.points ok.waits).1 _ hh
    exact ⟨h0, hh, i, _, _, List.getElem?_eq_getElem (by rw [h.len]; exact hi), List.getElem?_eq_getElem hi, hz⟩
  · rw [if_neg h0] at hs; exact absurd hs h0
theorem askedN_cases (D : Dk) (zs : List ByteArray) : D.askedN zs = 0 ∨ D.askedN zs = 1 ∨ D.askedN zs = 3 := by
  unfold Dk.askedN
  split
  · exact .inr (.inl rfl)
  · split
    · exact .inr (.inr rfl)
    · exact .inl rfl
theorem fileN_cases (D : Dk) (s : ByteArray) : D.fileN s = 0 ∨ D.fileN s = 1 ∨ D.fileN s = 3 ∨ D.fileN s = 7 := by
  unfold Dk.fileN
  have := askedN_cases D [s]
  split
  · split
    · exact .inl rfl
    · exact .inr (.inr (.inr rfl))
  · omega
theorem ne77 (w : World) : (binOp .neq 27 (.iface 31 (.int .i64 7)) (.iface 31 (.int .i64 7))).run Tryz.prog w = .ok (.bool false) w := by kernel_rfl
theorem ne17 (w : World) : (binOp .neq 27 (.iface 31 (.int .i64 1)) (.iface 31 (.int .i64 7))).run Tryz.prog w = .ok (.bool true) w := by kernel_rfl
theorem ne37 (w : World) : (binOp .neq 27 (.iface 31 (.int .i64 3)) (.iface 31 (.int .i64 7))).run Tryz.prog w = .ok (.bool true) w := by kernel_rfl
theorem heap_one (w : World) (o1 o2 : Obj) : ((w.alloc o1).alloc o2).heap[w.heap.size]? = some o1 := by
  rw [heap_alloc_old (w.alloc o1) o2 (r := w.heap.size) (by simp)]; exact heap_alloc_new w o1
/-- The change that a new name makes. -/
def En.made (s : ByteArray) (n : Nat) : En := ⟨s, ⟨#[]⟩, n⟩
/-- The disk behind Create, and its error. -/
def Dk.create (D : Dk) (s : ByteArray) : Nat × Dk :=
  if D.fileN s = 0 then (12, D) else if D.fileN s ≠ 7 then (D.fileN s, D) else
  if D.spent 1 < 1 then (3, D.spend 1) else (0, (((D.spend 1).moved (En.made s D.files.length)).grew).did ⟨1, s, ⟨#[]⟩, ⟨#[]⟩, 0⟩)
theorem Turned.of0 {w w' w'' : World} {ρ : Col} {b : Nat} {D : Dk} {L : Lay} (hb : Below w.heap.size w w') (h : DiskAt w'' ρ b D L) (k : Kept (Only 0 ρ) w' w'') : Turned w ρ b D w'' :=
  ⟨ρ, ⟨L, h⟩, Ext.refl _ _, (Kept.below hb).then k.wide⟩
set_option maxHeartbeats 1600000 in
set_option maxRecDepth 20000 in
theorem create_any (s : ByteArray) (hs : s.size ≤ 1000) (w : World) (ρ : Col) (b : Nat) (D : Dk) (L : Lay) (h : DiskAt w ρ b D L) (ok : D.Ok) :
    Calls Tryz.prog 15 #[.pointer (some ⟨b, 0, none⟩), .string s] w fun e w' => e = .returned (errV (D.create s).1) ∧ Turned w ρ b (D.create s).2 w' := by
  have HD := Lib.hid h
  have OK := Lib.hid ok
  by_cases h0 : D.fileN s = 0
  · obtain ⟨h1, h2, i, f, F, h3, h4, h5⟩ := file_found h ok h0
    have C := Lib.hid (file_ok s hs w ρ b D L h ok h1 h2 i h5 f h3)
    have hr : Hid (D.create s = (12, D)) := Lib.hid (by unfold Dk.create; rw [if_pos h0])
    rw [hr.out]
    clear h ok h0 h1 h2 h3 h4 h5
    go_enter Tryz.func15, Tryz.ntmps15
    go_wp2_with fail
    refine C.out.mono ?_
    rintro e w1 ⟨rfl, b1⟩
    have B1 := Lib.hid b1
    clear b1
    go_wp2_with fail
    go_ret
    exact ⟨rfl, Turned.same ⟨L, HD.out⟩ B1.out⟩
  · have C0 := file_err s hs w ρ b D L h ok h0
    have hc := fileN_cases D s
    by_cases h7 : D.fileN s = 7
    · rw [h7] at C0
      have C : Hid (Calls Tryz.prog 48 #[.pointer (some ⟨b, 0, none⟩), .string s] w fun e w' => e = .returned (.tuple #[.pointer none, .iface 31 (.int .i64 7)]) ∧ Below w.heap.size w w') := Lib.hid C0
      by_cases hsp : D.spent 1 < 1
      · have hr : Hid (D.create s = (3, D.spend 1)) := Lib.hid (by unfold Dk.create; rw [if_neg h0, if_neg (by omega), if_pos hsp])
        rw [hr.out]
        have E7 := ne77
        clear h ok h0 h7 C0 hc
        go_enter Tryz.func15, Tryz.ntmps15
        go_wp2_with fail
        refine C.out.mono ?_
        rintro e w1 ⟨rfl, b1⟩
        have B1 := Lib.hid b1
        have S0 := step_any w1 ρ b D L (HD.out.below b1) OK.out.units0 (by have := OK.out.units1; omega) OK.out.left0 OK.out.left1
        rw [if_pos hsp] at S0
        have S : Hid (Calls Tryz.prog 50 #[.pointer (some ⟨b, 0, none⟩)] w1 fun e w' => e = .returned (.iface 31 (.int .i64 3)) ∧ DiskAt w' ρ b (D.spend 1) L ∧ Kept (Only 0 ρ) w1 w') := Lib.hid S0
        clear b1 S0
        go_wp2_with fail
        refine S.out.mono ?_
        rintro e w2 ⟨rfl, d2, k2⟩
        have D2 := Lib.hid d2
        have K2 := Lib.hid k2
        clear d2 k2
        go_wp2_with fail
        go_ret
        exact ⟨rfl, Turned.of0 B1.out D2.out K2.out⟩
      · have hr : Hid (D.create s = (0, (((D.spend 1).moved (En.made s D.files.length)).grew).did ⟨1, s, ⟨#[]⟩, ⟨#[]⟩, 0⟩)) := Lib.hid (by unfold Dk.create; rw [if_neg h0, if_neg (by omega), if_neg hsp])
        rw [hr.out]
        have E7 := ne77
        obtain ⟨i0, hi0, hz0, hz1, hz2⟩ := info_parts infoE
        have hmany := OK.out.many
        clear h ok h0 h7 C0 hc
        go_enter Tryz.func15, Tryz.ntmps15
        go_wp2_with fail
        refine C.out.mono ?_
        rintro e w1 ⟨rfl, b1⟩
        have B1 := Lib.hid b1
        have S0 := step_any w1 ρ b D L (HD.out.below b1) OK.out.units0 (by have := OK.out.units1; omega) OK.out.left0 OK.out.left1
        rw [if_neg (by omega)] at S0
        have S : Hid (Calls Tryz.prog 50 #[.pointer (some ⟨b, 0, none⟩)] w1 fun e w' => e = .returned .nilIface ∧ DiskAt w' ρ b (D.spend 1) L ∧ Kept (Only 0 ρ) w1 w') := Lib.hid S0
        clear b1 S0
        go_wp2_with fail
        refine S.out.mono ?_
        rintro e w2 ⟨rfl, d2, k2⟩
        have D2 := Lib.hid d2
        have KW : Hid (Kept ρ w w2) := Lib.hid ((Kept.below B1.out).then k2.wide)
        obtain ⟨fo, fc, hvf⟩ := d2.rowF.shape
        have hb := d2.blk.lt
        have c5 := d2.cells.c5
        rw [hvf] at c5
        have c7 := d2.cells.c7
        have f7 := d2.cells.f7
        have hown := d2.rowW.1
        have hmany2 : (D.spend 1).waits.length ≤ 1000000 := hmany
        have hne : L.vw.ownBlock ≠ some b := fun e => by have := d2.rowW.2 b e; rw [d2.blk.2] at this; cases this
        clear d2 k2 hvf
        go_wp2_with fail
        go_region_law
          ((refine step_append_lies _ (by rfl) _ _ _ (by rfl) 0 95 i0 _ 3 40 Tryz.underlying68 hi0 hz0 hz1 hz2 rfl (by omega) L.vw (D.spend 1).waits.length ((D.spend 1).waits.flatMap En.cells) (by rfl) ((hown.alloc _).drew)
                ⟨w2.heap.size, 0, none⟩ 1 1 (En.made s (D.spend 1).files.length).cells (by rfl) (by rfl) (World.news_of_block (cs := (En.made s (D.spend 1).files.length).cells.toArray) (t := 95) (fr := (0, 0)) (heap_alloc_new w2 _)) (by simp [En.made, En.cells, Value.oneCell'])
                (by omega) (by unfold maxLen; omega) (by omega) (by simp) (w2.heap.size + 1) (by simp) ?_; intro gg cap w3 hown1 hgrow hat hlt; have g7 : w3.frozen? ⟨b, 7, none⟩ = false := (hgrow.frozen_far _ (by simp; omega) (Ne.symm hne)).trans ((((Below.refl w2.heap.size w2).alloc (Nat.le_refl _) _).frozen (p := ⟨b, 7, none⟩) hb).trans f7); have k7 : w3.cell? ⟨b, 7, none⟩ = some L.vw := (hgrow.cell_far _ (by simp; omega) (Ne.symm hne)).trans ((((Below.refl w2.heap.size w2).alloc (Nat.le_refl _) _).cell (p := ⟨b, 7, none⟩) hb).trans c7)))
        all_goals
          have T3 := turned_waits (x := En.made s (D.spend 1).files.length) D2.out ((Below.refl w2.heap.size w2).alloc (Nat.le_refl _) _).drew hown1 hgrow (by rcases hat with hat | hat; exact .inl hat; exact .inr (by rw [hat]; simp)) hlt
          clear hown1 hgrow hat hlt g7 k7 c5 c7 f7 hown hne hmany2 hi0 hz0 hz1 hz2
          generalize w3.setCell ⟨b, 7, none⟩ (.slice (some ⟨gg, 0, none⟩) ((D.spend 1).waits.length + 1) cap) = w4 at *
          obtain ⟨ρ4, ⟨L4, d4⟩, e4, k4⟩ := T3
          obtain ⟨j0, hj0, hy0, hy1, hy2⟩ := info_parts infoF
          have D4 := Lib.hid d4
          have E4 := Lib.hid e4
          have K4 := Lib.hid k4
          have hb4 := d4.blk.lt
          have c5 := d4.cells.c5
          have f5 := d4.cells.f5
          have hown := d4.rowF.1
          have hne : L4.vf.ownBlock ≠ some b := fun e => by have := d4.rowF.2 b e; rw [d4.blk.2] at this; cases this
          have hlots : ((D.spend 1).moved (En.made s (D.spend 1).files.length)).files.length ≤ 1000000 := OK.out.lots
          clear d4 e4 k4
          go_wp2_with (at_builtin; refine wpList_append_lies _ rfl _ _ _ rfl 0 97 j0 _ 1 8 Tryz.underlying67 hj0 hy0 hy1 hy2 rfl (by omega) L4.vf _ _ rfl ((hown.alloc _).alloc _) ⟨w4.heap.size + 1, 0, none⟩ 1 1 [.pointer (some ⟨w4.heap.size, 0, none⟩)] rfl rfl (World.news_of_block (cs := #[.pointer (some ⟨w4.heap.size, 0, none⟩)]) (t := 97) (fr := (0, 0)) (heap_two w4 _ _)) (by simp [Value.oneCell']) (by omega) (by unfold maxLen; omega) (by omega) (by simp) (w4.heap.size + 2) (by simp) ?_; intro gg2 cap2 w5 hown2 hgrow2 hat2 hlt2; refine Hid.out ?_)
          refine Lib.hid ?_
          have g5 : w5.frozen? ⟨b, 5, none⟩ = false := (hgrow2.frozen_far _ (by simp; omega) (Ne.symm hne)).trans ((((Below.refl w4.heap.size w4).alloc (Nat.le_refl _) _).alloc (by simp) _ |>.frozen (p := ⟨b, 5, none⟩) hb4).trans f5)
          have k5 : w5.cell? ⟨b, 5, none⟩ = some L4.vf := (hgrow2.cell_far _ (by simp; omega) (Ne.symm hne)).trans ((((Below.refl w4.heap.size w4).alloc (Nat.le_refl _) _).alloc (by simp) _ |>.cell (p := ⟨b, 5, none⟩) hb4).trans c5)
          have T5 := turned_files D4.out (((Below.refl w4.heap.size w4).alloc (Nat.le_refl _) (.cells #[.string ⟨#[]⟩, .slice none 0 0] 100)).alloc (by simp) (.cells #[.pointer (some ⟨w4.heap.size, 0, none⟩)] 97)) (fb := w4.heap.size) (Nat.le_refl _) (heap_one w4 _ _) hown2 hgrow2 (by rcases hat2 with hat2 | hat2; exact .inl hat2; exact .inr (by rw [hat2]; simp)) hlt2
          have T5' := Lib.hid T5
          clear T5 hown2 hgrow2 hat2 hlt2 c5 f5 hown hne hlots hj0 hy0 hy1 hy2
          go_wp2_with fail
          obtain ⟨ρ6, ⟨L6, d6⟩, e6, k6⟩ := T5'.out
          refine (did_any ⟨1, s, ⟨#[]⟩, ⟨#[]⟩, 0⟩ _ ρ6 b _ L6 d6 (Nat.le_trans OK.out.acts (by omega))).mono ?_
          rintro e w7 ⟨rfl, T7⟩
          have T7' := Lib.hid (Turned.next E4.out K4.out (Turned.next e6 k6 T7))
          clear T7 d6 e6 k6 T5'
          go_wp2_with fail
          go_ret
          exact ⟨rfl, Turned.next (Ext.refl _ _) KW.out T7'.out⟩
    · have hk : D.fileN s = 1 ∨ D.fileN s = 3 := by omega
      have hr : Hid (D.create s = (D.fileN s, D)) := Lib.hid (by unfold Dk.create; rw [if_neg h0, if_pos h7])
      rw [hr.out]
      rcases hk with hk | hk
      · rw [hk] at C0 ⊢
        have C : Hid (Calls Tryz.prog 48 #[.pointer (some ⟨b, 0, none⟩), .string s] w fun e w' => e = .returned (.tuple #[.pointer none, .iface 31 (.int .i64 1)]) ∧ Below w.heap.size w w') := Lib.hid C0
        have E7 := ne17
        clear h ok h0 h7 C0 hc hk
        go_enter Tryz.func15, Tryz.ntmps15
        go_wp2_with fail
        refine C.out.mono ?_
        rintro e w1 ⟨rfl, b1⟩
        have B1 := Lib.hid b1
        clear b1
        go_wp2_with fail
        go_ret
        exact ⟨rfl, Turned.same ⟨L, HD.out⟩ B1.out⟩
      · rw [hk] at C0 ⊢
        have C : Hid (Calls Tryz.prog 48 #[.pointer (some ⟨b, 0, none⟩), .string s] w fun e w' => e = .returned (.tuple #[.pointer none, .iface 31 (.int .i64 3)]) ∧ Below w.heap.size w w') := Lib.hid C0
        have E7 := ne37
        clear h ok h0 h7 C0 hc hk
        go_enter Tryz.func15, Tryz.ntmps15
        go_wp2_with fail
        refine C.out.mono ?_
        rintro e w1 ⟨rfl, b1⟩
        have B1 := Lib.hid b1
        clear b1
        go_wp2_with fail
        go_ret
        exact ⟨rfl, Turned.same ⟨L, HD.out⟩ B1.out⟩
end Go.Proofs.YthfcmgbkhjnfjaaGreatDoor

namespace Go.Proofs.YthfcmgbkhjnfjaaGreatDoor
open Go.RowKit Go.Maps
attribute [local go_sem ↓] Go.wp_at_zero Go.wp_at_succ

theorem owns_size {w : World} {P : Program} {k : TypeId} {R : Value → Option (DataW Unit × List MemPlace)} {b n : Nat} {M : DataW Unit} (h : w.ownsMap P k R b n M) : w.ownsMap P k R b (Maps.size M) M := by
  obtain ⟨es, clock, hb, F, _, rfl⟩ := h
  exact ⟨es, clock, hb, F, by rw [Maps.size_eq, length_read]; exact Nat.le_refl _, rfl⟩
/-- The disk with these names for sure. -/
def Dk.named (D : Dk) (M : DataW Unit) : Dk := { D with dir := M, waits := [] }
theorem turned_dir {w w0 : World} {ρ : Col} {b : Nat} {D : Dk} {L : Lay} (h : DiskAt w ρ b D L) (hb0 : Below w.heap.size w w0) {mb n : Nat} {M : DataW Unit} (hm : w0.ownsMap Tryz.prog 9 RI mb n M) (hmb : w.heap.size ≤ mb) :
    Turned w ρ b (D.named M) ((w0.setCell ⟨b, 6, none⟩ (.map (some mb))).setCell ⟨b, 7, none⟩ (.slice none 0 0)) := by
  have h0 := h.below hb0
  have hml := hm.lt
  have hbb : b ≠ mb := by have := h.blk.lt; omega
  obtain ⟨s1, k1⟩ := h0.blk.store (i := 6) (v := .map (some mb))
  obtain ⟨s2, k2⟩ := s1.store (i := 7) (v := .slice none 0 0)
  have k12 := k1.then k2
  have p2 := k12.only (p := fun c => c == 0) rfl
  have he : Ext w ρ (paint ρ mb 1) := paint_ext ρ 1 hmb
  have hk0 : Kept (Those (fun c => c == 0) ρ) w _ := (Kept.below hb0).then p2
  obtain ⟨-, -, q2, -, q4, q5⟩ := h.parts he hk0
  refine ⟨paint ρ mb 1, ⟨{ L with mb := mb, vw := .slice none 0 0 }, ⟨⟨s2.1, by rw [paint_else _ hbb]; exact h.blk.2⟩, ⟨owns_size (ownsMap_of_block hm ?_), paint_here _ _ _⟩, q2 rfl, Row.nil _ _ _ _ _, q4 rfl, h.len, fun i f F a c => q5 i f F a c (by simp) (by simp), ?_⟩⟩, he, hk0.those⟩
  · rw [Below.heap_setCell _ _ _ _ (by simpa using hbb.symm), Below.heap_setCell _ _ _ _ (by simpa using hbb.symm)]
  · exact ((h.fits.more hb0.size).paint hml).more k12.size
/-- The disk behind SyncDir, and its error. -/
def Dk.syncDir (D : Dk) : Nat × Dk :=
  if D.gone = true then (3, D) else if D.spent 1 < 1 then (3, D.spend 1) else (0, ((D.spend 1).named D.dirOf).did ⟨7, ⟨#[]⟩, ⟨#[]⟩, ⟨#[]⟩, 0⟩)
set_option maxHeartbeats 1600000 in
set_option maxRecDepth 20000 in
theorem syncDir_any (w : World) (ρ : Col) (b : Nat) (D : Dk) (L : Lay) (h : DiskAt w ρ b D L) (ok : D.Ok) :
    Calls Tryz.prog 21 #[.pointer (some ⟨b, 0, none⟩)] w fun e w' => e = .returned (errV D.syncDir.1) ∧ Turned w ρ b D.syncDir.2 w' := by
  have HD := Lib.hid h
  have OK := Lib.hid ok
  have A0 := asked_any _ [] w (names_none w) b D h.blk.lt h.cells.c3
  have ha : D.askedN [] = if D.gone then 3 else 0 := by unfold Dk.askedN; simp
  rw [ha] at A0
  cases hg : D.gone with
  | true =>
    rw [hg, if_pos rfl] at A0
    have A : Hid (Calls Tryz.prog 53 #[.pointer (some ⟨b, 0, none⟩), .slice none 0 0] w fun e w' => e = .returned (.iface 31 (.int .i64 3)) ∧ Below w.heap.size w w') := Lib.hid A0
    have hr : Hid (D.syncDir = (3, D)) := Lib.hid (by unfold Dk.syncDir; rw [if_pos hg])
    rw [hr.out]
    clear h ok A0 ha hg
    go_enter Tryz.func21, Tryz.ntmps21
    go_wp2_with fail
    refine A.out.mono ?_
    rintro e w1 ⟨rfl, b1⟩
    have B1 := Lib.hid b1
    clear b1
    go_wp2_with fail
    go_ret
    exact ⟨rfl, Turned.same ⟨L, HD.out⟩ B1.out⟩
  | false =>
    rw [hg, if_neg (by simp)] at A0
    have A : Hid (Calls Tryz.prog 53 #[.pointer (some ⟨b, 0, none⟩), .slice none 0 0] w fun e w' => e = .returned .nilIface ∧ Below w.heap.size w w') := Lib.hid A0
    by_cases hsp : D.spent 1 < 1
    · have hr : Hid (D.syncDir = (3, D.spend 1)) := Lib.hid (by unfold Dk.syncDir; rw [if_neg (by rw [hg]; simp), if_pos hsp])
      rw [hr.out]
      clear h ok A0 ha hg
      go_enter Tryz.func21, Tryz.ntmps21
      go_wp2_with fail
      refine A.out.mono ?_
      rintro e w1 ⟨rfl, b1⟩
      have B1 := Lib.hid b1
      have S0 := step_any w1 ρ b D L (HD.out.below b1) OK.out.units0 (by have := OK.out.units1; omega) OK.out.left0 OK.out.left1
      rw [if_pos hsp] at S0
      have S : Hid (Calls Tryz.prog 50 #[.pointer (some ⟨b, 0, none⟩)] w1 fun e w' => e = .returned (.iface 31 (.int .i64 3)) ∧ DiskAt w' ρ b (D.spend 1) L ∧ Kept (Only 0 ρ) w1 w') := Lib.hid S0
      clear b1 S0
      go_wp2_with fail
      refine S.out.mono ?_
      rintro e w2 ⟨rfl, d2, k2⟩
      have D2 := Lib.hid d2
      have K2 := Lib.hid k2
      clear d2 k2
      go_wp2_with fail
      go_ret
      exact ⟨rfl, Turned.of0 B1.out D2.out K2.out⟩
    · have hr : Hid (D.syncDir = (0, ((D.spend 1).named D.dirOf).did ⟨7, ⟨#[]⟩, ⟨#[]⟩, ⟨#[]⟩, 0⟩)) := Lib.hid (by unfold Dk.syncDir; rw [if_neg (by rw [hg]; simp), if_neg hsp])
      rw [hr.out]
      clear h ok A0 ha hg
      go_enter Tryz.func21, Tryz.ntmps21
      go_wp2_with fail
      refine A.out.mono ?_
      rintro e w1 ⟨rfl, b1⟩
      have B1 := Lib.hid b1
      have S0 := step_any w1 ρ b D L (HD.out.below b1) OK.out.units0 (by have := OK.out.units1; omega) OK.out.left0 OK.out.left1
      rw [if_neg (by omega)] at S0
      have S : Hid (Calls Tryz.prog 50 #[.pointer (some ⟨b, 0, none⟩)] w1 fun e w' => e = .returned .nilIface ∧ DiskAt w' ρ b (D.spend 1) L ∧ Kept (Only 0 ρ) w1 w') := Lib.hid S0
      clear b1 S0
      go_wp2_with fail
      refine S.out.mono ?_
      rintro e w2 ⟨rfl, d2, k2⟩
      have D2 := Lib.hid d2
      have KW : Hid (Kept ρ w w2) := Lib.hid ((Kept.below B1.out).then k2.wide)
      have R2 := Lib.hid (dir_any w2 ρ b (D.spend 1) L d2 (Nat.le_trans OK.out.names (by omega)) (Nat.le_trans OK.out.many (by omega)) OK.out.fits)
      have hb := d2.blk.lt
      have c6 := d2.cells.c6
      have f6 := d2.cells.f6
      have c7 := d2.cells.c7
      have f7 := d2.cells.f7
      clear d2 k2
      go_wp2_with fail
      refine R2.out.mono ?_
      rintro e w3 ⟨rfl, m3, b3⟩
      have k6 := (b3.cell (p := ⟨b, 6, none⟩) hb).trans c6
      have k7 := (b3.cell (p := ⟨b, 7, none⟩) hb).trans c7
      have g6 := (b3.frozen (p := ⟨b, 6, none⟩) hb).trans f6
      have g7 := (b3.frozen (p := ⟨b, 7, none⟩) hb).trans f7
      have T3 := Lib.hid (turned_dir D2.out b3 m3 (Nat.le_refl _))
      clear m3 b3 c6 c7 f6 f7
      go_wp2_with fail
      obtain ⟨ρ4, ⟨L4, d4⟩, e4, k4⟩ := T3.out
      refine (did_any ⟨7, ⟨#[]⟩, ⟨#[]⟩, ⟨#[]⟩, 0⟩ _ ρ4 b _ L4 d4 (Nat.le_trans OK.out.acts (by omega))).mono ?_
      rintro e w7 ⟨rfl, T7⟩
      have T7' := Lib.hid (Turned.next e4 k4 T7)
      clear T7 d4 e4 k4 T3
      go_wp2_with fail
      go_ret
      exact ⟨rfl, Turned.next (Ext.refl _ _) KW.out T7'.out⟩
end Go.Proofs.YthfcmgbkhjnfjaaGreatDoor

namespace Go.Proofs.YthfcmgbkhjnfjaaGreatDoor
open Go.RowKit Go.Maps

/-- How long the text is to which an entry leads. -/
def lenOf (fs : List Fl) : DataW Unit → Int
  | .lit (.int _ i) => match fs[i.toNat]? with
    | some F => F.seen.size
    | none => 0
  | _ => 0
/-- What of the entries is still to come. -/
def restSum (f : DataW Unit → Int) (left : Lit → Bool) : List (Lit × DataW Unit) → Int
  | [] => 0
  | p :: t => (if left p.1 then f p.2 else 0) + restSum f left t
theorem rest_same {f : DataW Unit → Int} {l m : Lit → Bool} : ∀ {es : List (Lit × DataW Unit)}, (∀ p ∈ es, l p.1 = m p.1) → restSum f l es = restSum f m es
  | [], _ => rfl
  | p :: t, h => by
    unfold restSum
    rw [h p (List.mem_cons_self ..), rest_same fun q hq => h q (List.mem_cons_of_mem _ hq)]
theorem rest_step {f : DataW Unit → Int} {left : Lit → Bool} {kl : Lit} {y : DataW Unit} (hl : left kl = true) : ∀ {es : List (Lit × DataW Unit)}, es.Pairwise (fun p q => p.1 ≠ q.1) → (∃ p ∈ es, p.1 = kl ∧ p.2 = y) → (∀ p ∈ es, WideAt.IsKeyLit p.1) →
    restSum f left es = f y + restSum f (fun z => left z && !z.sameKey kl) es
  | [], _, ⟨p, hp, _⟩, _ => by cases hp
  | p :: t, hw, ⟨q, hq, hk, hy⟩, hkey => by
    obtain ⟨hw1, hw2⟩ := List.pairwise_cons.1 hw
    unfold restSum
    by_cases hpk : p.1 = kl
    · have hq' : q = p := by
        rcases List.mem_cons.1 hq with h | h
        · exact h
        · exact absurd (hpk.trans hk.symm) (hw1 q h)
      subst hq'
      have hs : q.1.sameKey kl = true := by rw [hk]; rw [← hk]; exact WideAt.sameKey_self (hkey q (List.mem_cons_self ..))
      have ht : restSum f (fun z => left z && !z.sameKey kl) t = restSum f left t := by
        refine rest_same fun z hz => ?_
        have : z.1.sameKey kl = false := sameKey_ne fun e => hw1 z hz (hpk.trans e.symm)
        rw [this]; simp
      rw [ht, hs, hk, hl, hy]
      simp
    · have hqt : q ∈ t := by
        rcases List.mem_cons.1 hq with h | h
        · exact absurd (h ▸ hk) hpk
        · exact h
      rw [rest_step hl hw2 ⟨q, hqt, hk, hy⟩ fun z hz => hkey z (List.mem_cons_of_mem _ hz), sameKey_ne hpk]
      simp
      omega
theorem rest_none {f : DataW Unit → Int} {left : Lit → Bool} (h : ∀ kl, left kl = false) : ∀ es : List (Lit × DataW Unit), restSum f left es = 0
  | [] => rfl
  | p :: t => by unfold restSum; rw [h, rest_none h t]; rfl
/-- An entry that a look-up finds. -/
theorem entry_of {es : List (Lit × DataW Unit)} {kl : Lit} {y : DataW Unit} (h : ∀ zd, (DataW.map es).atKey kl zd = y) : ∃ p ∈ es, p.1 = kl ∧ p.2 = y := by
  have h1 := h (.lit (.bool true))
  have h2 := h (.lit (.bool false))
  unfold DataW.atKey at h1 h2
  simp only at h1 h2
  cases hf : es.find? (fun p => p.1.sameKey kl) with
  | none => rw [hf] at h1 h2; rw [← h2] at h1; cases h1
  | some p =>
    rw [hf] at h1
    exact ⟨p, List.mem_of_find?_eq_some hf, WideAt.sameKey_eq (by simpa using List.find?_some hf), h1⟩
/-- How many bytes the names' files have. -/
def usedOf (fs : List Fl) : DataW Unit → Int
  | .map es => restSum (lenOf fs) (fun _ => true) es
  | _ => 0
def Dk.free (D : Dk) : Int := max 0 (D.room - usedOf D.files D.dirOf)
theorem rest_bound {f : DataW Unit → Int} {B : Int} (hB : 0 ≤ B) : ∀ (es : List (Lit × DataW Unit)) (left : Lit → Bool), (∀ p ∈ es, 0 ≤ f p.2 ∧ f p.2 ≤ B) → 0 ≤ restSum f left es ∧ restSum f left es ≤ B * es.length
  | [], _, _ => by simp [restSum]
  | p :: t, left, h => by
    have h1 := h p (List.mem_cons_self ..)
    have h2 := rest_bound hB t left fun q hq => h q (List.mem_cons_of_mem _ hq)
    unfold restSum
    rw [List.length_cons]
    have : B * ((t.length + 1 : Nat) : Int) = B * t.length + B := by rw [Int.natCast_add, Int.mul_add]; simp
    rw [this]
    split <;> omega
theorem rest_le {f : DataW Unit → Int} (left : Lit → Bool) : ∀ (es : List (Lit × DataW Unit)), (∀ p ∈ es, 0 ≤ f p.2) → restSum f left es ≤ restSum f (fun _ => true) es
  | [], _ => Int.le_refl _
  | p :: t, h => by
    have h1 := h p (List.mem_cons_self ..)
    have h2 := rest_le left t fun q hq => h q (List.mem_cons_of_mem _ hq)
    unfold restSum
    rw [if_pos rfl]
    split <;> omega
theorem lenOf_bound {fs : List Fl} (h : ∀ F ∈ fs, F.Ok) (d : DataW Unit) : 0 ≤ lenOf fs d ∧ lenOf fs d ≤ 10000000 := by
  unfold lenOf
  split
  · rename_i k i
    cases hf : fs[i.toNat]? with
    | none => simp
    | some F =>
      have h1 := (h F (List.mem_of_getElem? hf)).mass
      have h2 : F.seen.size ≤ F.mass := Fl.behind_size F (-1)
      simp only
      omega
  · simp
theorem key_inv (key : Value) (kl : Lit) (h : keyOf Tryz.prog 9 key = some kl) : ∃ s : ByteArray, key = .string s :=
  let ⟨s, hs, _⟩ := WideMaps.string_of_keyOf Tryz.underlying9 h
  ⟨s, hs⟩
theorem elem_inv (v : Value) (y : DataW Unit × List MemPlace) (h : RI v = some y) : ∃ c : Int, v = .int .i64 c :=
  let ⟨c, hc, _⟩ := plainElem_int_inv Tryz.underlying3 h
  ⟨c, hc⟩
theorem total_left {f : DataW Unit → Int} (left : Lit → Bool) {es : List (Lit × DataW Unit)} (h : ∀ p ∈ es, left p.1 = true) : restSum f left es = restSum f (fun _ => true) es := rest_same fun p hp => h p hp
/-- The loop's relation. -/
def FreeRel (w : World) (mb r n : Nat) (es : List (Lit × DataW Unit)) (f : DataW Unit → Int) (room : Int) (v : Value) (wr : World) : Prop :=
  ∃ (left : Lit → Bool) (cnt : Nat), v = .int .i64 (room - restSum f (fun _ => true) es + restSum f left es) ∧ Hid (wr.ranges Tryz.prog 9 RI mb r n (.map es) left cnt) ∧ Hid (Below w.heap.size w wr)
set_option maxHeartbeats 3200000 in
set_option maxRecDepth 20000 in
theorem free_any (w : World) (ρ : Col) (b : Nat) (D : Dk) (L : Lay) (h : DiskAt w ρ b D L) (ok : D.Ok) (hr0 : 0 ≤ D.room) (hr1 : D.room ≤ 9223372036854775807) :
    Calls Tryz.prog 24 #[.pointer (some ⟨b, 0, none⟩)] w fun e w' => e = .returned (.int .i64 D.free) ∧ Below w.heap.size w w' := by
  have R := Lib.hid (dir_any w ρ b D L h (Nat.le_trans ok.names (by omega)) (Nat.le_trans ok.many (by omega)) ok.fits)
  have hb := h.blk.lt
  have c4 := h.cells.c4
  have c5 := h.cells.c5
  have HP := Lib.hid (play_points D.waits D.dir (h.map.1.tidy keyed) ok.points ok.waits)
  obtain ⟨fo, fc, hvf⟩ := h.rowF.shape
  rw [hvf] at c5
  have HROW := Lib.hid (hvf ▸ h.rowF.1)
  have HD := Lib.hid h
  have OK := Lib.hid ok
  have hlots := ok.lots
  clear h ok hvf
  go_enter Tryz.func24, Tryz.ntmps24
  go_wp2_with fail
  refine R.out.mono ?_
  rintro e w1 ⟨rfl, m1, b1⟩
  have M1 := Lib.hid m1
  have B1 := Lib.hid b1
  obtain ⟨es, hes, hpw, hkl⟩ := m1.entries keyed
  have hsz := m1.size_le
  rw [hes] at hsz
  have hbd := fun left => rest_bound (f := lenOf D.files) (B := 10000000) (by omega) es left fun p _ => lenOf_bound OK.out.files p.2
  have hlen : es.length ≤ 2000000 := by
    have h1 := OK.out.names
    have h2 := OK.out.many
    rw [Maps.size_eq] at hsz
    omega
  have hfree : Hid (D.free = max 0 (D.room - restSum (lenOf D.files) (fun _ => true) es)) := Lib.hid (by unfold Dk.free usedOf; rw [hes])
  have HES := Lib.hid hes
  have HPW := Lib.hid hpw
  have HKL := Lib.hid hkl
  have HBD := Lib.hid hbd
  have hml : w.heap.size < w1.heap.size := m1.lt
  clear m1 b1 hes hpw hkl hsz hbd
  go_wp2_with (at_range; refine wpList_range_own _ rfl _ 64 rfl 9 3 keyed Tryz.underlying64 _ _ _ _ rfl M1.out ?_; intro w2 hrg2 hg2 hs2)
  have hrl : w.heap.size ≤ w1.heap.size := by omega
  have HB2 : Hid (Below w.heap.size w w2) := Lib.hid (B1.out.grown hg2 hrl (fun k hk => by cases hk))
  have HR2 := Lib.hid hrg2
  clear hrg2 hg2 hs2
  go_frame
  go_loopw [3] (FreeRel w w.heap.size w1.heap.size (Maps.size D.dir + D.waits.length) es (lenOf D.files) D.room) (fun _ wr => wr.rangeLeft w.heap.size w1.heap.size)
  case atStart =>
    have ht := total_left (f := lenOf D.files) (Maps.has D.dirOf) (es := es) fun p hp => by
      rw [HES.out]
      show (es.any fun q => q.1.sameKey p.1) = true
      rw [List.any_eq_true]
      exact ⟨p, hp, WideAt.sameKey_self (HKL.out p hp)⟩
    refine ⟨Maps.has D.dirOf, _, ?_, by rw [← HES.out]; exact HR2.out, HB2.out⟩
    rw [ht]
    congr 1
    omega
  case round =>
    obtain ⟨left, cnt, rfl, hrg, hbw⟩ := hrel
    go_wp2_with (at_next; refine wpList_next_ranges _ rfl _ rfl 9 keyed RI Value.string (Value.int .i64) key_inv elem_inv w.heap.size w1.heap.size _ _ left cnt rfl hrg.out ?_ ?_)
    · intro _ hl0
      have hz := rest_none (f := lenOf D.files) hl0 es
      rw [hz]
      have hf := hfree.out
      have hbd := HBD.out fun _ => true
      generalize restSum (lenOf D.files) (fun _ => true) es = T at *
      have e : D.room - T + 0 = D.room - T := by omega
      rw [e]
      have HF := Lib.hid hf
      clear hf hz hl0 e
      by_cases hx : 0 ≤ D.room - T
      · have E : Hid (max 0 (D.room - T) = D.room - T) := Lib.hid (by omega)
        go_wp2_with fail
        go_ret
        exact ⟨reti (by rw [HF.out, E.out]), hbw.out⟩
      · have E : Hid (max 0 (D.room - T) = 0) := Lib.hid (by omega)
        go_wp2_with fail
        go_ret
        exact ⟨reti (by rw [HF.out, E.out]), hbw.out⟩
    · intro x c kl yd yp w3 cnt3 hkey hlk hv hat hrg3 hlt hg3 hs3 hen
      obtain ⟨c', hc', hy, hwf⟩ := plainElem_int_inv Tryz.underlying3 hv
      cases hc'
      cases hy
      obtain ⟨p, hp, hpk, hpy⟩ := entry_of hat
      have hat2 := hat
      rw [← HES.out] at hat2
      obtain ⟨i, hi, hz⟩ := HP.out.1 kl (Maps.has_true_of_atKey hat2)
      have hci : c = i := by have := (hat2 (.lit (.bool true))).symm.trans (hz _); cases this; rfl
      subst hci
      have hrs := rest_step (f := lenOf D.files) hlk HPW.out ⟨p, hp, hpk, hpy⟩ HKL.out
      obtain ⟨f, hf⟩ : ∃ f, L.fs[i]? = some f := ⟨_, List.getElem?_eq_getElem (by rw [HD.out.len]; exact hi)⟩
      obtain ⟨F, hF⟩ : ∃ F, D.files[i]? = some F := ⟨_, List.getElem?_eq_getElem hi⟩
      have hlen1 : lenOf D.files (.lit (.int .i64 (i : Int))) = F.seen.size := by
        show (match D.files[((i : Int)).toNat]? with | some F => (F.seen.size : Int) | none => 0) = _
        rw [Int.toNat_natCast, hF]
      have hb3 : Hid (Below w.heap.size w w3) := Lib.hid (hbw.out.grown hg3 hbw.out.size (fun j hj => by cases hj; exact hrl))
      have d3 := HD.out.below hb3.out
      have S := Lib.hid (seen_any w3 ρ i f F (d3.files i f F hf hF) (OK.out.files F (List.mem_of_getElem? hF)))
      have hFs : F.seen.size ≤ 10000000 := Nat.le_trans (Fl.behind_size F (-1)) (OK.out.files F (List.mem_of_getElem? hF)).mass
      obtain ⟨g, cp, hvf, -, hg⟩ := HROW.out.form (by omega)
      have hcell := HROW.out.cells (g := g) (by rw [hvf]; rfl) i _ (by rw [List.getElem?_map, hf]; rfl)
      rw [add_at] at hcell
      cases hvf
      have k5 := (hb3.out.cell (p := ⟨b, 5, none⟩) hb).trans c5
      have kr := (hb3.out.cell (p := ⟨g, i, none⟩) hg).trans hcell
      have hiL : (i : Int) < (D.files.length : Int) := by omega
      have hbd1 := HBD.out fun _ => true
      have hbd2 := HBD.out left
      have hbd3 := HBD.out fun z => left z && !z.sameKey kl
      rw [hlen1] at hrs
      have hmo := rest_le left es fun p _ => (lenOf_bound OK.out.files p.2).1
      have HRG3 := Lib.hid hrg3
      have HRS : Hid (D.room - restSum (lenOf D.files) (fun _ => true) es + restSum (lenOf D.files) left es - (F.seen.size : Int) = D.room - restSum (lenOf D.files) (fun _ => true) es + restSum (lenOf D.files) (fun z => left z && !z.sameKey kl) es) := Lib.hid (by omega)
      have HW : Hid (wrap64 (D.room - restSum (lenOf D.files) (fun _ => true) es + restSum (lenOf D.files) left es - (F.seen.size : Int)) = D.room - restSum (lenOf D.files) (fun _ => true) es + restSum (lenOf D.files) left es - (F.seen.size : Int)) := Lib.hid (IntWalk.wrap64_in _ ⟨by omega, by omega⟩)
      have hms : Hid (w3.rangeLeft w.heap.size w1.heap.size < wr.rangeLeft w.heap.size w1.heap.size) := Lib.hid (by rw [hrg3.left_eq, hrg.out.left_eq]; exact hlt)
      clear hat hat2 hz hv hkey hlk hrg3 hlt hg3 hs3 hrs hlen1 hcell hmo hbd1 hbd2 hbd3 d3 hf hF hp hpk hpy hwf
      go_wp2_with fail
      refine S.out.mono ?_
      rintro e w4 ⟨rfl, b4⟩
      have hb4 : Hid (Below w.heap.size w w4) := Lib.hid (hb3.out.trans (b4.mono hb3.out.size))
      have hr3 := HRG3.out.lt
      have hrg4 : Hid (w4.ranges Tryz.prog 9 RI w.heap.size w1.heap.size (Maps.size D.dir + D.waits.length) (.map es) (fun z => left z && !z.sameKey kl) cnt3) := Lib.hid (HRG3.out.kept ⟨b4.os, b4.tape, b4.output, b4.size, fun k hk _ => b4.block k hk⟩ (row := none) (by simp) (by simp))
      have hms4 : Hid (w4.rangeLeft w.heap.size w1.heap.size < wr.rangeLeft w.heap.size w1.heap.size) := Lib.hid (by have := hms.out; rw [HRG3.out.left_eq] at this; rw [hrg4.out.left_eq]; exact this)
      clear b4
      go_wp2_with fail
      go_roundw
      case rel => exact ⟨fun z => left z && !z.sameKey kl, cnt3, by rw [HW.out, HRS.out], hrg4.out, hb4.out⟩
      case measure => exact hms4.out
end Go.Proofs.YthfcmgbkhjnfjaaGreatDoor
