/- A file is made sure (Sync), or read (Read). -/
import Derived.Test.YtalonkenchcfbaaDoorFileTurn
namespace Go.Proofs.YtalonkenchcfbaaDoor
open Go.RowKit Go.Maps
attribute [local go_sem ↓] Go.wp_at_zero Go.wp_at_succ

/-- The number of the file to which a name leads. -/
def Dk.idx (D : Dk) (s : ByteArray) : Nat := match D.dirOf.atKey (nameK s) (.lit (.int .i64 0)) with
  | .lit (.int _ i) => i.toNat
  | _ => 0
theorem file_found' {w : World} {ρ : Col} {b : Nat} {D : Dk} {L : Lay} (h : DiskAt w ρ b D L) (ok : D.Ok) {s : ByteArray} (hs : D.fileN s = 0) :
    D.askedN [s] = 0 ∧ Maps.has D.dirOf (nameK s) = true ∧ ∃ f F, L.fs[D.idx s]? = some f ∧ D.files[D.idx s]? = some F ∧ ∀ z, D.dirOf.atKey (nameK s) z = .lit (.int .i64 (D.idx s : Nat)) := by
  obtain ⟨h1, h2, i, f, F, h3, h4, h5⟩ := file_found h ok hs
  have e : D.idx s = i := by unfold Dk.idx; rw [h5]; simp
  rw [e]
  exact ⟨h1, h2, f, F, h3, h4, h5⟩
/-- What a file's text is, and how the file is gone through. -/
def Dk.text (D : Dk) (s : ByteArray) : ByteArray := match D.files[D.idx s]? with
  | some F => F.seen
  | none => ⟨#[]⟩
def Dk.sync (D : Dk) (s : ByteArray) : Nat × Dk :=
  if D.fileN s ≠ 0 then (D.fileN s, D) else if D.spent 1 < 1 then (3, D.spend 1) else (0, ((D.spend 1).setFile (D.idx s) ⟨D.text s, []⟩).did ⟨4, s, ⟨#[]⟩, ⟨#[]⟩, 0⟩)
theorem errV_pos {k : Nat} (h : k ≠ 0) : errV k = .iface 57 (.int .i64 k) := if_neg h
set_option maxHeartbeats 1600000 in
set_option maxRecDepth 20000 in
theorem sync_any (s : ByteArray) (hs : s.size ≤ 1000) (w : World) (ρ : Col) (b : Nat) (D : Dk) (L : Lay) (h : DiskAt w ρ b D L) (ok : D.Ok) :
    Calls Tryd.prog 12 #[.pointer (some ⟨b, 0, none⟩), .string s] w fun e w' => e = .returned (errV (D.sync s).1) ∧ Turned w ρ b (D.sync s).2 w' := by
  have HD := Lib.hid h
  have OK := Lib.hid ok
  by_cases h0 : D.fileN s = 0
  · obtain ⟨h1, h2, f, F, h3, h4, h5⟩ := file_found' h ok h0
    have C := Lib.hid (file_ok s hs w ρ b D L h ok h1 h2 _ h5 f h3)
    have hFok := ok.files F (List.mem_of_getElem? h4)
    have htx : D.text s = F.seen := by unfold Dk.text; rw [h4]
    by_cases hsp : D.spent 1 < 1
    · have hr : Hid (D.sync s = (3, D.spend 1)) := Lib.hid (by unfold Dk.sync; rw [if_neg (by omega), if_pos hsp])
      rw [hr.out]
      clear h ok h0 h1 h2 h3 h4 h5 hFok htx
      go_enter Tryd.func12, Tryd.ntmps12
      go_wp2_with fail
      refine C.out.mono ?_
      rintro e w1 ⟨rfl, b1⟩
      have B1 := Lib.hid b1
      have S0 := step_any w1 ρ b D L (HD.out.below b1) OK.out.units0 (by have := OK.out.units1; omega) OK.out.left0 OK.out.left1
      rw [if_pos hsp] at S0
      have S : Hid (Calls Tryd.prog 23 #[.pointer (some ⟨b, 0, none⟩)] w1 fun e w' => e = .returned (.iface 57 (.int .i64 3)) ∧ DiskAt w' ρ b (D.spend 1) L ∧ Kept (Only 0 ρ) w1 w') := Lib.hid S0
      clear b1 S0
      go_wp2_with fail
      refine S.out.mono ?_
      rintro e w2 ⟨rfl, d2, k2⟩
      have D2 := Lib.hid d2
      have K2 := Lib.hid k2
      clear d2 k2
      go_wp2_with fail
      go_ret
      exact ⟨rfl, Turned.of0 B1.out D2.out K2.out⟩
    · have hr : Hid (D.sync s = (0, ((D.spend 1).setFile (D.idx s) ⟨F.seen, []⟩).did ⟨4, s, ⟨#[]⟩, ⟨#[]⟩, 0⟩)) := Lib.hid (by unfold Dk.sync; rw [if_neg (by omega), if_neg hsp, htx])
      rw [hr.out]
      have H3 := Lib.hid h3
      have H4 := Lib.hid h4
      have HF := Lib.hid hFok
      clear h ok h0 h1 h2 h3 h4 h5 hFok htx
      go_enter Tryd.func12, Tryd.ntmps12
      go_wp2_with fail
      refine C.out.mono ?_
      rintro e w1 ⟨rfl, b1⟩
      have B1 := Lib.hid b1
      have S0 := step_any w1 ρ b D L (HD.out.below b1) OK.out.units0 (by have := OK.out.units1; omega) OK.out.left0 OK.out.left1
      rw [if_neg (by omega)] at S0
      have S : Hid (Calls Tryd.prog 23 #[.pointer (some ⟨b, 0, none⟩)] w1 fun e w' => e = .returned .nilIface ∧ DiskAt w' ρ b (D.spend 1) L ∧ Kept (Only 0 ρ) w1 w') := Lib.hid S0
      clear b1 S0
      go_wp2_with fail
      refine S.out.mono ?_
      rintro e w2 ⟨rfl, d2, k2⟩
      have D2 := Lib.hid d2
      have KW : Hid (Kept ρ w w2) := Lib.hid ((Kept.below B1.out).then k2.wide)
      have fa := d2.files _ f F H3.out H4.out
      have R2 := Lib.hid (seen_any w2 ρ _ f F fa HF.out)
      have hfl := fa.1.lt
      obtain ⟨c0, c1, f0, f1⟩ := fa.cells
      clear d2 k2 fa
      go_wp2_with fail
      refine R2.out.mono ?_
      rintro e w3 ⟨rfl, b3⟩
      have k0 := (b3.cell (p := ⟨f.1, 0, none⟩) hfl).trans c0
      have k1 := (b3.cell (p := ⟨f.1, 1, none⟩) hfl).trans c1
      have g0 := (b3.frozen (p := ⟨f.1, 0, none⟩) hfl).trans f0
      have g1 := (b3.frozen (p := ⟨f.1, 1, none⟩) hfl).trans f1
      have T3 := Lib.hid (turned_sure D2.out H3.out H4.out b3 F.seen)
      clear b3 c0 c1 f0 f1
      go_wp2_with fail
      obtain ⟨d4, k4⟩ := T3.out
      refine (did_any ⟨4, s, ⟨#[]⟩, ⟨#[]⟩, 0⟩ _ ρ b _ _ d4 (Nat.le_trans OK.out.acts (by omega))).mono ?_
      rintro e w7 ⟨rfl, T7⟩
      have T7' := Lib.hid (Turned.next (Ext.refl _ _) k4 T7)
      clear T7 d4 k4 T3
      go_wp2_with fail
      go_ret
      exact ⟨rfl, Turned.next (Ext.refl _ _) KW.out T7'.out⟩
  · have C0 := file_err s hs w ρ b D L h ok h0
    rw [errV_pos h0] at C0
    have C := Lib.hid C0
    have hr : Hid (D.sync s = (D.fileN s, D)) := Lib.hid (by unfold Dk.sync; rw [if_pos h0])
    rw [hr.out]
    have EV := Lib.hid (errV_pos h0)
    clear h ok h0 C0
    go_enter Tryd.func12, Tryd.ntmps12
    go_wp2_with fail
    refine C.out.mono ?_
    rintro e w1 ⟨rfl, b1⟩
    have B1 := Lib.hid b1
    clear b1
    go_wp2_with fail
    go_ret
    exact ⟨by rw [EV.out]; rfl, Turned.same ⟨L, HD.out⟩ B1.out⟩
theorem down_any (w : World) (ρ : Col) (b : Nat) (D : Dk) (L : Lay) (h : DiskAt w ρ b D L) :
    Calls Tryd.prog 18 #[.pointer (some ⟨b, 0, none⟩)] w fun e w' => e = .returned (.bool D.gone) ∧ w = w' := by
  have c3 := h.cells.c3
  clear h
  go_enter Tryd.func18, Tryd.ntmps18
  go_wp2_with fail
  go_ret
  exact ⟨rfl, rfl⟩
theorem unitsD_any (w : World) (ρ : Col) (b : Nat) (D : Dk) (L : Lay) (h : DiskAt w ρ b D L) :
    Calls Tryd.prog 19 #[.pointer (some ⟨b, 0, none⟩)] w fun e w' => e = .returned (.int .i64 D.units) ∧ w = w' := by
  have c0 := h.cells.c0
  clear h
  go_enter Tryd.func19, Tryd.ntmps19
  go_wp2_with fail
  go_ret
  exact ⟨rfl, rfl⟩
/-- What Read answers. -/
def Dk.readN (D : Dk) (s : ByteArray) : Nat := if D.gone = true then 3 else D.fileN s
theorem read_ok (s : ByteArray) (hs : s.size ≤ 1000) (w : World) (ρ : Col) (b : Nat) (D : Dk) (L : Lay) (h : DiskAt w ρ b D L) (ok : D.Ok) (h0 : D.readN s = 0) :
    Calls Tryd.prog 14 #[.pointer (some ⟨b, 0, none⟩), .string s] w fun e w' => e = .returned (.tuple #[.string (D.text s), .nilIface]) ∧ Below w.heap.size w w' := by
  have hg : D.gone = false := by
    cases hg : D.gone
    · rfl
    · unfold Dk.readN at h0; rw [hg] at h0; simp at h0
  have h0' : D.fileN s = 0 := by unfold Dk.readN at h0; rw [hg] at h0; simpa using h0
  obtain ⟨h1, h2, f, F, h3, h4, h5⟩ := file_found' h ok h0'
  have C := Lib.hid (file_ok s hs w ρ b D L h ok h1 h2 _ h5 f h3)
  have hFok := Lib.hid (ok.files F (List.mem_of_getElem? h4))
  have htx : D.text s = F.seen := by unfold Dk.text; rw [h4]
  rw [htx]
  have DN0 := down_any w ρ b D L h
  rw [hg] at DN0
  have DN := Lib.hid DN0
  have HD := Lib.hid h
  have H3 := Lib.hid h3
  have H4 := Lib.hid h4
  clear h ok h0 h0' h1 h2 h3 h4 h5 htx hg DN0
  go_enter Tryd.func14, Tryd.ntmps14
  go_wp2_with fail
  refine DN.out.mono ?_
  rintro e w0 ⟨rfl, rfl⟩
  go_wp2_with fail
  refine C.out.mono ?_
  rintro e w1 ⟨rfl, b1⟩
  have B1 := Lib.hid b1
  have R := Lib.hid (seen_any w1 ρ _ f F ((HD.out.below b1).files _ f F H3.out H4.out) hFok.out)
  clear b1
  go_wp2_with fail
  refine R.out.mono ?_
  rintro e w2 ⟨rfl, b2⟩
  have B2 := Lib.hid b2
  clear b2
  go_wp2_with fail
  go_ret2
  exact ⟨rfl, B1.out.trans (B2.out.mono B1.out.size)⟩
theorem read_err (s : ByteArray) (hs : s.size ≤ 1000) (w : World) (ρ : Col) (b : Nat) (D : Dk) (L : Lay) (h : DiskAt w ρ b D L) (ok : D.Ok) (h0 : D.readN s ≠ 0) :
    Calls Tryd.prog 14 #[.pointer (some ⟨b, 0, none⟩), .string s] w fun e w' => e = .returned (.tuple #[.string ⟨#[]⟩, errV (D.readN s)]) ∧ Below w.heap.size w w' := by
  have DN0 := down_any w ρ b D L h
  have C0 := file_err s hs w ρ b D L h ok
  unfold Dk.readN at h0 ⊢
  cases hg : D.gone with
  | true =>
    rw [hg] at DN0
    have DN := Lib.hid DN0
    clear h ok h0 C0 DN0 hg
    rw [if_pos rfl]
    go_enter Tryd.func14, Tryd.ntmps14
    go_wp2_with fail
    refine DN.out.mono ?_
    rintro e w0 ⟨rfl, rfl⟩
    go_wp2_with fail
    go_ret2
    exact ⟨rfl, Below.refl _ _⟩
  | false =>
    rw [hg] at DN0 h0
    have h0' : D.fileN s ≠ 0 := by simpa using h0
    rw [if_neg (by simp), errV_pos h0']
    have C1 := C0 h0'
    rw [errV_pos h0'] at C1
    have C := Lib.hid C1
    have DN := Lib.hid DN0
    clear h ok h0 h0' C0 C1 DN0 hg
    go_enter Tryd.func14, Tryd.ntmps14
    go_wp2_with fail
    refine DN.out.mono ?_
    rintro e w0 ⟨rfl, rfl⟩
    go_wp2_with fail
    refine C.out.mono ?_
    rintro e w1 ⟨rfl, b1⟩
    have B1 := Lib.hid b1
    clear b1
    go_wp2_with fail
    go_ret2
    exact ⟨rfl, B1.out⟩
end Go.Proofs.YtalonkenchcfbaaDoor
