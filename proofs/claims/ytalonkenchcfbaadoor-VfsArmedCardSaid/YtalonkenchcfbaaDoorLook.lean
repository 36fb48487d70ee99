/- Which file a name leads to: file; what the disk answers without being turned: Read, Units, Down. -/
import Derived.Test.YtalonkenchcfbaaDoorDir
namespace Go.Proofs.YtalonkenchcfbaaDoor
open Go.RowKit Go.Maps
attribute [local go_sem ↓] Go.wp_at_zero Go.wp_at_succ

theorem add_at (g j : Nat) : (⟨g, 0, none⟩ : Addr).add j = ⟨g, j, none⟩ := by unfold Addr.add; split <;> simp_all
theorem zeroI (w : World) : (zeroValue 3).run Tryd.prog w = .ok (.int .i64 0) w := by kernel_rfl
/-- What the walks ask of a disk; m bounds all that is counted. -/
structure Dk.Ok (D : Dk) : Prop where
  points : Points D.dir D.files.length
  waits : ∀ e ∈ D.waits, EnOk D.files.length e
  fits : ∀ e ∈ D.waits, EnFits e
  names : Maps.size D.dir ≤ 1000000
  many : D.waits.length ≤ 1000000
  files : ∀ F ∈ D.files, F.Ok
  lots : D.files.length ≤ 1000000
  acts : D.acts.length ≤ 1000000
  units0 : 0 ≤ D.units
  units1 : D.units ≤ 100000000
  left0 : 0 ≤ D.left
  left1 : D.left ≤ 9223372036854775807
/-- Which error the way to a file ends in. -/
def Dk.fileN (D : Dk) (s : ByteArray) : Nat := if D.askedN [s] = 0 then (if Maps.has D.dirOf (nameK s) then 0 else 7) else D.askedN [s]
theorem names_one (w : World) (s : ByteArray) (hs : s.size ≤ 9223372036854775807) : NamesAt (w.alloc (.cells #[.string s] 9)) (.slice (some ⟨w.heap.size, 0, none⟩) 1 1) [s] :=
  ⟨_, _, rfl, by simp, by simpa using hs, fun k x hx => by
    cases k with
    | zero => simp at hx; subst hx; exact ⟨_, 0, rfl, by simp, World.cell?_alloc_new _ _ _ _⟩
    | succ k => simp at hx⟩
set_option maxHeartbeats 800000 in
set_option maxRecDepth 20000 in
theorem file_err (s : ByteArray) (hs : s.size ≤ 1000) (w : World) (ρ : Col) (b : Nat) (D : Dk) (L : Lay) (h : DiskAt w ρ b D L) (ok : D.Ok) (hne : D.fileN s ≠ 0) :
    Calls Tryd.prog 22 #[.pointer (some ⟨b, 0, none⟩), .string s] w fun e w' => e = .returned (.tuple #[.pointer none, errV (D.fileN s)]) ∧ Below w.heap.size w w' := by
  have hb := h.blk.lt
  have c3 := h.cells.c3
  have hB1 : Below w.heap.size w (w.alloc (.cells #[.string s] 9)) := (Below.refl _ _).alloc (Nat.le_refl _) _
  have A0 := asked_any _ [s] _ (names_one w s (by omega)) b D (by simp; omega) ((hB1.cell (p := ⟨b, 3, none⟩) hb).trans c3)
  have HD := Lib.hid h
  have OK := Lib.hid ok
  have HB1 := Lib.hid hB1
  unfold Dk.fileN at hne ⊢
  generalize hk : D.askedN [s] = k at *
  clear h ok hk hB1
  by_cases hk0 : k = 0
  · rw [if_pos hk0] at hne ⊢
    have hhas : Maps.has D.dirOf (nameK s) = false := by
      cases hh : Maps.has D.dirOf (nameK s)
      · rfl
      · rw [hh] at hne; simp at hne
    rw [hhas]
    have HH := Lib.hid hhas
    subst hk0
    rw [show errV 0 = .nilIface from rfl] at A0
    have A' := Lib.hid A0
    have kt := Lib.hid (WideMaps.keyOf_string_mk (P := Tryd.prog) (k := 9) Tryd.underlying9 (s := s) (by unfold maxLen; omega))
    clear A0 hne hhas
    go_enter Tryd.func22, Tryd.ntmps22
    go_wp2_with fail
    refine A'.out.mono ?_
    rintro e w2 ⟨rfl, b2⟩
    have hb2 : Hid (Below w.heap.size w w2) := Lib.hid (HB1.out.trans (b2.mono HB1.out.size))
    clear b2
    have D2 := Lib.hid (dir_any w2 ρ b D L (HD.out.below hb2.out) (by have := OK.out.names; omega) (by have := OK.out.many; omega) OK.out.fits)
    go_wp2_with fail
    refine D2.out.mono ?_
    rintro e w3 ⟨rfl, h3, b3⟩
    have H3 := Lib.hid h3
    have hb3 : Hid (Below w.heap.size w w3) := Lib.hid (hb2.out.trans (b3.mono hb2.out.size))
    clear h3 b3
    go_wp2_with (at_lookup; refine wpList_lookup_own_ok_int _ rfl _ _ 59 rfl 9 3 .i64 keyed Tryd.underlying59 Tryd.underlying3 (zeroI _) _ _ _ rfl H3.out _ _ rfl kt.out ?_; intro c hat hwc; rw [show Maps.has D.dirOf (.string s.data.toList) = false from HH.out]; clear hat hwc)
    go_ret2
    exact ⟨rfl, hb3.out⟩
  · rw [if_neg hk0] at hne ⊢
    rw [show errV k = .iface 57 (.int .i64 k) from if_neg hk0] at A0 ⊢
    have A' := Lib.hid A0
    clear A0 hne
    go_enter Tryd.func22, Tryd.ntmps22
    go_wp2_with fail
    refine A'.out.mono ?_
    rintro e w2 ⟨rfl, b2⟩
    have hb2 : Hid (Below w.heap.size w w2) := Lib.hid (HB1.out.trans (b2.mono HB1.out.size))
    clear b2
    go_wp2_with fail
    go_ret2
    exact ⟨rfl, hb2.out⟩
set_option maxHeartbeats 800000 in
set_option maxRecDepth 20000 in
theorem file_ok (s : ByteArray) (hs : s.size ≤ 1000) (w : World) (ρ : Col) (b : Nat) (D : Dk) (L : Lay) (h : DiskAt w ρ b D L) (ok : D.Ok) (he : D.askedN [s] = 0) (hh : Maps.has D.dirOf (nameK s) = true) (i : Nat) (hi : ∀ z, D.dirOf.atKey (nameK s) z = .lit (.int .i64 i)) (f : Nat × Value) (hf : L.fs[i]? = some f) :
    Calls Tryd.prog 22 #[.pointer (some ⟨b, 0, none⟩), .string s] w fun e w' => e = .returned (.tuple #[.pointer (some ⟨f.1, 0, none⟩), .nilIface]) ∧ Below w.heap.size w w' := by
  have hb := h.blk.lt
  have c3 := h.cells.c3
  have hB1 : Below w.heap.size w (w.alloc (.cells #[.string s] 9)) := (Below.refl _ _).alloc (Nat.le_refl _) _
  have A0 := asked_any _ [s] _ (names_one w s (by omega)) b D (by simp; omega) ((hB1.cell (p := ⟨b, 3, none⟩) hb).trans c3)
  rw [he, show errV 0 = .nilIface from rfl] at A0
  have A' := Lib.hid A0
  have HD := Lib.hid h
  have OK := Lib.hid ok
  have HB1 := Lib.hid hB1
  have HH := Lib.hid hh
  have HI := Lib.hid hi
  have hiL : i < D.files.length := by
    rw [← h.len]
    rcases Nat.lt_or_ge i L.fs.length with g | g
    · exact g
    · rw [List.getElem?_eq_none g] at hf; cases hf
  have hil := ok.lots
  obtain ⟨g, c, hvf, hg, hcell⟩ : ∃ g c, L.vf = .slice (some ⟨g, 0, none⟩) D.files.length c ∧ g < w.heap.size ∧ w.cell? ⟨g, i, none⟩ = some (.pointer (some ⟨f.1, 0, none⟩)) := by
    obtain ⟨g, c, hv, _, hg⟩ := h.rowF.1.form (by omega)
    have hc := h.rowF.1.cells (g := g) (by rw [hv]; rfl) i _ (by rw [List.getElem?_map, hf]; rfl)
    exact ⟨g, c, hv, hg, by rw [add_at] at hc; exact hc⟩
  have c5 := h.cells.c5
  rw [hvf] at c5
  have kt := Lib.hid (WideMaps.keyOf_string_mk (P := Tryd.prog) (k := 9) Tryd.underlying9 (s := s) (by unfold maxLen; omega))
  have hiL' : (i : Int) < (D.files.length : Int) := by omega
  clear A0 he h ok hB1 hh hi hf hvf
  go_enter Tryd.func22, Tryd.ntmps22
  go_wp2_with fail
  refine A'.out.mono ?_
  rintro e w2 ⟨rfl, b2⟩
  have hb2 : Hid (Below w.heap.size w w2) := Lib.hid (HB1.out.trans (b2.mono HB1.out.size))
  clear b2
  have D2 := Lib.hid (dir_any w2 ρ b D L (HD.out.below hb2.out) (by have := OK.out.names; omega) (by have := OK.out.many; omega) OK.out.fits)
  go_wp2_with fail
  refine D2.out.mono ?_
  rintro e w3 ⟨rfl, h3, b3⟩
  have H3 := Lib.hid h3
  have hb3 : Hid (Below w.heap.size w w3) := Lib.hid (hb2.out.trans (b3.mono hb2.out.size))
  have k5 := (hb3.out.cell (p := ⟨b, 5, none⟩) hb).trans c5
  have k6 := (hb3.out.cell (p := ⟨g, i, none⟩) hg).trans hcell
  clear h3 b3
  go_wp2_with (at_lookup; refine wpList_lookup_own_ok_int _ rfl _ _ 59 rfl 9 3 .i64 keyed Tryd.underlying59 Tryd.underlying3 (zeroI _) _ _ _ rfl H3.out _ _ rfl kt.out ?_; intro c hat hwc; rw [show Maps.has D.dirOf (.string s.data.toList) = true from HH.out]; rw [show D.dirOf.atKey (.string s.data.toList) (.lit (.int .i64 0)) = .lit (.int .i64 i) from HI.out _] at hat; cases hat; clear hwc)
  go_ret2
  exact ⟨rfl, hb3.out⟩
end Go.Proofs.YtalonkenchcfbaaDoor
