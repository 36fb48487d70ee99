/- A disk behind a change of one of its files: one change more that waits, or a text made sure. A file is made sure (Sync), or read (Read). Where the reference's disk lies in memory: its value, its rows. The reference's names: find, move. -/
import Derived.Test.YthfcmgbkhjnfjaaGreatDoorVD
import Derived.Test.YthfcmgbkhjnfjaaGreatDoorVB
namespace Go.Proofs.YthfcmgbkhjnfjaaGreatDoor
open Go.RowKit Go.Maps

def Dk.setFile (D : Dk) (i : Nat) (F : Fl) : Dk := { D with files := D.files.set i F }
def Fl.push (F : Fl) (x : Wt) : Fl := { F with waits := F.waits ++ [x] }
theorem map_set_same {fs : List (Nat × Value)} {i : Nat} {f : Nat × Value} {v : Value} (h : fs[i]? = some f) : (fs.set i (f.1, v)).map (fun f => Value.pointer (some ⟨f.1, 0, none⟩)) = fs.map fun f => Value.pointer (some ⟨f.1, 0, none⟩) := by
  apply List.ext_getElem?
  intro j
  simp only [List.getElem?_map, List.getElem?_set]
  by_cases hij : i = j
  · subst hij
    rw [h]
    have : i < fs.length := (List.getElem?_eq_some_iff.1 h).1
    simp [this]
  · simp [hij]
theorem set_get {α : Type} {l : List α} {i j : Nat} {x y : α} (h : (l.set i x)[j]? = some y) : (i = j ∧ y = x) ∨ (i ≠ j ∧ l[j]? = some y) := by
  rw [List.getElem?_set] at h
  split at h
  · split at h
    · cases h; exact .inl ⟨by assumption, rfl⟩
    · cases h
  · exact .inr ⟨by assumption, h⟩
/-- The disk with another file in place i: w2: the world with the file as it is now. -/
theorem DiskAt.refile {w w2 : World} {ρ ρ' : Col} {b i : Nat} {D : Dk} {L : Lay} {f : Nat × Value} {F' : Fl} {v : Value} (h : DiskAt w ρ b D L) (hf : L.fs[i]? = some f) (he : Ext w ρ ρ')
    (K : Kept (Those (fun c => c == 5 + 2 * i || c == 6 + 2 * i) ρ) w w2) (hn : FileAt w2 ρ' i (f.1, v) F') (hfit : Fits w2 ρ') : DiskAt w2 ρ' b (D.setFile i F') { L with fs := L.fs.set i (f.1, v) } := by
  obtain ⟨q0, q1, q2, q3, q4, q5⟩ := h.parts he K
  refine ⟨q0 (by simp; omega), q1 (by simp; omega), ?_, q3 (by simp; omega), q4 (by simp; omega), ?_, ?_, hfit⟩
  · show Row _ _ _ _ _ _ (D.files.set i F').length ((L.fs.set i (f.1, v)).map fun f => Value.pointer (some ⟨f.1, 0, none⟩))
    rw [List.length_set, map_set_same hf]
    exact q2 (by simp; omega)
  · show (L.fs.set i _).length = (D.files.set i F').length
    rw [List.length_set, List.length_set, h.len]
  · intro j g G hg hG
    rcases set_get hg with ⟨rfl, rfl⟩ | ⟨hij, hg⟩
    · rcases set_get hG with ⟨_, rfl⟩ | ⟨hne, _⟩
      · exact hn
      · exact absurd rfl hne
    · rcases set_get hG with ⟨rfl, _⟩ | ⟨_, hG⟩
      · exact absurd rfl hij
      · exact q5 j g G hg hG (by simp; omega) (by simp; omega)
theorem turned_push {w w0 w1 : World} {ρ : Col} {b i : Nat} {D : Dk} {L : Lay} {f : Nat × Value} {F : Fl} (h : DiskAt w ρ b D L) (hf : L.fs[i]? = some f) (hF : D.files[i]? = some F) (hb0 : Below w.heap.size w w0) (x : Wt) {gg cap : Nat}
    (hown : w1.ownsRow 0 103 3 (.slice (some ⟨gg, 0, none⟩) (F.waits.length + 1) cap) (F.waits.length + 1) (F.waits.flatMap Wt.cells ++ x.cells)) (hgrow : w0.grownBy w1 f.2.ownBlock) (hat : f.2.ownBlock = some gg ∨ w0.heap.size ≤ gg) (hlt : gg < w1.heap.size) :
    Turned w ρ b (D.setFile i (F.push x)) (w1.setCell ⟨f.1, 1, none⟩ (.slice (some ⟨gg, 0, none⟩) (F.waits.length + 1) cap)) := by
  have h0 := h.below hb0
  have hfa := h0.files i f F hf hF
  obtain ⟨hr1, he1, hk1⟩ := hfa.2.append hown hgrow hat
  have p1 := hk1.only (p := fun c => c == 5 + 2 * i || c == 6 + 2 * i) (by simp)
  have hblk := hfa.1.keep he1 hk1 (only_none (by rw [hfa.1.2]; simp <;> omega))
  obtain ⟨hs, hk2⟩ := hblk.store (i := 1) (v := .slice (some ⟨gg, 0, none⟩) (F.waits.length + 1) cap)
  have p2 := p1.thoseTrans he1 (hk2.only (p := fun c => c == 5 + 2 * i || c == 6 + 2 * i) (by simp))
  have hr2 := hr1.keep (Ext.refl _ _) hk2 fun g hg => only_none (by rw [hg]; simp <;> omega)
  refine ⟨paint ρ gg (6 + 2 * i), ⟨_, h0.refile hf he1 p2 (v := .slice (some ⟨gg, 0, none⟩) (F.waits.length + 1) cap) (F' := F.push x) ⟨hs, ?_⟩ ?_⟩, fun k hk => he1 k (Nat.lt_of_lt_of_le hk hb0.size), (Kept.below hb0).then p2.those⟩
  · show Row _ _ _ _ _ _ (F.waits ++ [x]).length ((F.waits ++ [x]).flatMap Wt.cells)
    rw [List.length_append, flat_snoc]
    exact hr2
  · exact ((h.fits.more hb0.size).more hk1.size).paint hlt |>.more hk2.size
theorem turned_sure {w w0 : World} {ρ : Col} {b i : Nat} {D : Dk} {L : Lay} {f : Nat × Value} {F : Fl} (h : DiskAt w ρ b D L) (hf : L.fs[i]? = some f) (hF : D.files[i]? = some F) (hb0 : Below w.heap.size w w0) (s : ByteArray) :
    DiskAt ((w0.setCell ⟨f.1, 0, none⟩ (.string s)).setCell ⟨f.1, 1, none⟩ (.slice none 0 0)) ρ b (D.setFile i ⟨s, []⟩) { L with fs := L.fs.set i (f.1, .slice none 0 0) } ∧ Kept ρ w ((w0.setCell ⟨f.1, 0, none⟩ (.string s)).setCell ⟨f.1, 1, none⟩ (.slice none 0 0)) := by
  have h0 := h.below hb0
  have hfa := h0.files i f F hf hF
  obtain ⟨hs1, hk1⟩ := hfa.1.store (i := 0) (v := .string s)
  obtain ⟨hs2, hk2⟩ := hs1.store (i := 1) (v := .slice none 0 0)
  have k := hk1.then hk2
  have p := k.only (p := fun c => c == 5 + 2 * i || c == 6 + 2 * i) (by simp)
  exact ⟨h0.refile hf (Ext.refl _ _) p ⟨hs2, Row.nil _ _ _ _ _⟩ (h0.fits.more k.size), (Kept.below hb0).then p.those⟩
/-- A file's cells, for a walk. -/
structure FileCells (w : World) (f : Nat × Value) (F : Fl) : Prop where
  c0 : w.cell? ⟨f.1, 0, none⟩ = some (.string F.sure)
  c1 : w.cell? ⟨f.1, 1, none⟩ = some f.2
  f0 : w.frozen? ⟨f.1, 0, none⟩ = false
  f1 : w.frozen? ⟨f.1, 1, none⟩ = false
theorem FileAt.cells {w : World} {ρ : Col} {i : Nat} {f : Nat × Value} {F : Fl} (h : FileAt w ρ i f F) : FileCells w f F :=
  ⟨cell_of_row w f.1 0 _ _ _ h.1.1, cell_of_row w f.1 1 _ _ _ h.1.1, frozen_of_row w f.1 0 _ _ h.1.1, frozen_of_row w f.1 1 _ _ h.1.1⟩
end Go.Proofs.YthfcmgbkhjnfjaaGreatDoor

namespace Go.Proofs.YthfcmgbkhjnfjaaGreatDoor
open Go.RowKit Go.Maps
attribute [local go_sem ↓] Go.wp_at_zero Go.wp_at_succ

/-- The number of the file to which a name leads. -/
def Dk.idx (D : Dk) (s : ByteArray) : Nat := match D.dirOf.atKey (nameK s) (.lit (.int .i64 0)) with
  | .lit (.int _ i) => i.toNat
  | _ => 0
theorem file_found' {w : World} {ρ : Col} {b : Nat} {D : Dk} {L : Lay} (h : DiskAt w ρ b D L) (ok : D.Ok) {s : ByteArray} (hs : D.fileN s = 0) :
    D.askedN [s] = 0 ∧ Maps.has D.dirOf (nameK s) = true ∧ ∃ f F, L.fs[D.idx s]? = some f ∧ D.files[D.idx s]? = some F ∧ ∀ z, D.dirOf.atKey (nameK s) z = .lit (.int .i64 (D.idx s : Nat)) := by
  obtain ⟨h1, h2, i, f, F, h3, h4, h5⟩ := file_found h ok hs
  have e : D.idx s = i := by unfold Dk.idx; rw [h5]; simp
  rw [e]
  exact ⟨h1, h2, f, F, h3, h4, h5⟩
/-- What a file's text is, and how the file is gone through. -/
def Dk.text (D : Dk) (s : ByteArray) : ByteArray := match D.files[D.idx s]? with
  | some F => F.seen
  | none => ⟨#[]⟩
def Dk.sync (D : Dk) (s : ByteArray) : Nat × Dk :=
  if D.fileN s ≠ 0 then (D.fileN s, D) else if D.spent 1 < 1 then (3, D.spend 1) else (0, ((D.spend 1).setFile (D.idx s) ⟨D.text s, []⟩).did ⟨4, s, ⟨#[]⟩, ⟨#[]⟩, 0⟩)
theorem errV_pos {k : Nat} (h : k ≠ 0) : errV k = .iface 31 (.int .i64 k) := if_neg h
set_option maxHeartbeats 1600000 in
set_option maxRecDepth 20000 in
theorem sync_any (s : ByteArray) (hs : s.size ≤ 1000) (w : World) (ρ : Col) (b : Nat) (D : Dk) (L : Lay) (h : DiskAt w ρ b D L) (ok : D.Ok) :
    Calls Tryz.prog 18 #[.pointer (some ⟨b, 0, none⟩), .string s] w fun e w' => e = .returned (errV (D.sync s).1) ∧ Turned w ρ b (D.sync s).2 w' := by
  have HD := Lib.hid h
  have OK := Lib.hid ok
  by_cases h0 : D.fileN s = 0
  · obtain ⟨h1, h2, f, F, h3, h4, h5⟩ := file_found' h ok h0
    have C := Lib.hid (file_ok s hs w ρ b D L h ok h1 h2 _ h5 f h3)
    have hFok := ok.files F (List.mem_of_getElem? h4)
    have htx : D.text s = F.seen := by unfold Dk.text; rw [h4]
    by_cases hsp : D.spent 1 < 1
    · have hr : Hid (D.sync s = (3, D.spend 1)) := Lib.hid (by unfold Dk.sync; rw [if_neg (by omega), if_pos hsp])
      rw [hr.out]
      clear h ok h0 h1 h2 h3 h4 h5 hFok htx
      go_enter Tryz.func18, Tryz.ntmps18
      go_wp2_with fail
      refine C.out.mono ?_
      rintro e w1 ⟨rfl, b1⟩
      have B1 := Lib.hid b1
      have S0 := step_any w1 ρ b D L (HD.out.below b1) OK.out.units0 (by have := OK.out.units1; omega) OK.out.left0 OK.out.left1
      rw [if_pos hsp] at S0
      have S : Hid (Calls Tryz.prog 50 #[.pointer (some ⟨b, 0, none⟩)] w1 fun e w' => e = .returned (.iface 31 (.int .i64 3)) ∧ DiskAt w' ρ b (D.spend 1) L ∧ Kept (Only 0 ρ) w1 w') := Lib.hid S0
      clear b1 S0
      go_wp2_with fail
      refine S.out.mono ?_
      rintro e w2 ⟨rfl, d2, k2⟩
      have D2 := Lib.hid d2
      have K2 := Lib.hid k2
      clear d2 k2
      go_wp2_with fail
      go_ret
      exact ⟨rfl, Turned.of0 B1.out D2.out K2.out⟩
    · have hr : Hid (D.sync s = (0, ((D.spend 1).setFile (D.idx s) ⟨F.seen, []⟩).did ⟨4, s, ⟨#[]⟩, ⟨#[]⟩, 0⟩)) := Lib.hid (by unfold Dk.sync; rw [if_neg (by omega), if_neg hsp, htx])
      rw [hr.out]
      have H3 := Lib.hid h3
      have H4 := Lib.hid h4
      have HF := Lib.hid hFok
      clear h ok h0 h1 h2 h3 h4 h5 hFok htx
      go_enter Tryz.func18, Tryz.ntmps18
      go_wp2_with fail
      refine C.out.mono ?_
      rintro e w1 ⟨rfl, b1⟩
      have B1 := Lib.hid b1
      have S0 := step_any w1 ρ b D L (HD.out.below b1) OK.out.units0 (by have := OK.out.units1; omega) OK.out.left0 OK.out.left1
      rw [if_neg (by omega)] at S0
      have S : Hid (Calls Tryz.prog 50 #[.pointer (some ⟨b, 0, none⟩)] w1 fun e w' => e = .returned .nilIface ∧ DiskAt w' ρ b (D.spend 1) L ∧ Kept (Only 0 ρ) w1 w') := Lib.hid S0
      clear b1 S0
      go_wp2_with fail
      refine S.out.mono ?_
      rintro e w2 ⟨rfl, d2, k2⟩
      have D2 := Lib.hid d2
      have KW : Hid (Kept ρ w w2) := Lib.hid ((Kept.below B1.out).then k2.wide)
      have fa := d2.files _ f F H3.out H4.out
      have R2 := Lib.hid (seen_any w2 ρ _ f F fa HF.out)
      have hfl := fa.1.lt
      obtain ⟨c0, c1, f0, f1⟩ := fa.cells
      clear d2 k2 fa
      go_wp2_with fail
      refine R2.out.mono ?_
      rintro e w3 ⟨rfl, b3⟩
      have k0 := (b3.cell (p := ⟨f.1, 0, none⟩) hfl).trans c0
      have k1 := (b3.cell (p := ⟨f.1, 1, none⟩) hfl).trans c1
      have g0 := (b3.frozen (p := ⟨f.1, 0, none⟩) hfl).trans f0
      have g1 := (b3.frozen (p := ⟨f.1, 1, none⟩) hfl).trans f1
      have T3 := Lib.hid (turned_sure D2.out H3.out H4.out b3 F.seen)
      clear b3 c0 c1 f0 f1
      go_wp2_with fail
      obtain ⟨d4, k4⟩ := T3.out
      refine (did_any ⟨4, s, ⟨#[]⟩, ⟨#[]⟩, 0⟩ _ ρ b _ _ d4 (Nat.le_trans OK.out.acts (by omega))).mono ?_
      rintro e w7 ⟨rfl, T7⟩
      have T7' := Lib.hid (Turned.next (Ext.refl _ _) k4 T7)
      clear T7 d4 k4 T3
      go_wp2_with fail
      go_ret
      exact ⟨rfl, Turned.next (Ext.refl _ _) KW.out T7'.out⟩
  · have C0 := file_err s hs w ρ b D L h ok h0
    rw [errV_pos h0] at C0
    have C := Lib.hid C0
    have hr : Hid (D.sync s = (D.fileN s, D)) := Lib.hid (by unfold Dk.sync; rw [if_pos h0])
    rw [hr.out]
    have EV := Lib.hid (errV_pos h0)
    clear h ok h0 C0
    go_enter Tryz.func18, Tryz.ntmps18
    go_wp2_with fail
    refine C.out.mono ?_
    rintro e w1 ⟨rfl, b1⟩
    have B1 := Lib.hid b1
    clear b1
    go_wp2_with fail
    go_ret
    exact ⟨by rw [EV.out]; rfl, Turned.same ⟨L, HD.out⟩ B1.out⟩
theorem down_any (w : World) (ρ : Col) (b : Nat) (D : Dk) (L : Lay) (h : DiskAt w ρ b D L) :
    Calls Tryz.prog 26 #[.pointer (some ⟨b, 0, none⟩)] w fun e w' => e = .returned (.bool D.gone) ∧ w = w' := by
  have c3 := h.cells.c3
  clear h
  go_enter Tryz.func26, Tryz.ntmps26
  go_wp2_with fail
  go_ret
  exact ⟨rfl, rfl⟩
theorem unitsD_any (w : World) (ρ : Col) (b : Nat) (D : Dk) (L : Lay) (h : DiskAt w ρ b D L) :
    Calls Tryz.prog 25 #[.pointer (some ⟨b, 0, none⟩)] w fun e w' => e = .returned (.int .i64 D.units) ∧ w = w' := by
  have c0 := h.cells.c0
  clear h
  go_enter Tryz.func25, Tryz.ntmps25
  go_wp2_with fail
  go_ret
  exact ⟨rfl, rfl⟩
/-- What Read answers. -/
def Dk.readN (D : Dk) (s : ByteArray) : Nat := if D.gone = true then 3 else D.fileN s
theorem read_ok (s : ByteArray) (hs : s.size ≤ 1000) (w : World) (ρ : Col) (b : Nat) (D : Dk) (L : Lay) (h : DiskAt w ρ b D L) (ok : D.Ok) (h0 : D.readN s = 0) :
    Calls Tryz.prog 13 #[.pointer (some ⟨b, 0, none⟩), .string s] w fun e w' => e = .returned (.tuple #[.string (D.text s), .nilIface]) ∧ Below w.heap.size w w' := by
  have hg : D.gone = false := by
    cases hg : D.gone
    · rfl
    · unfold Dk.readN at h0; rw [hg] at h0; simp at h0
  have h0' : D.fileN s = 0 := by unfold Dk.readN at h0; rw [hg] at h0; simpa using h0
  obtain ⟨h1, h2, f, F, h3, h4, h5⟩ := file_found' h ok h0'
  have C := Lib.hid (file_ok s hs w ρ b D L h ok h1 h2 _ h5 f h3)
  have hFok := Lib.hid (ok.files F (List.mem_of_getElem? h4))
  have htx : D.text s = F.seen := by unfold Dk.text; rw [h4]
  rw [htx]
  have DN0 := down_any w ρ b D L h
  rw [hg] at DN0
  have DN := Lib.hid DN0
  have HD := Lib.hid h
  have H3 := Lib.hid h3
  have H4 := Lib.hid h4
  clear h ok h0 h0' h1 h2 h3 h4 h5 htx hg DN0
  go_enter Tryz.func13, Tryz.ntmps13
  go_wp2_with fail
  refine DN.out.mono ?_
  rintro e w0 ⟨rfl, rfl⟩
  go_wp2_with fail
  refine C.out.mono ?_
  rintro e w1 ⟨rfl, b1⟩
  have B1 := Lib.hid b1
  have R := Lib.hid (seen_any w1 ρ _ f F ((HD.out.below b1).files _ f F H3.out H4.out) hFok.out)
  clear b1
  go_wp2_with fail
  refine R.out.mono ?_
  rintro e w2 ⟨rfl, b2⟩
  have B2 := Lib.hid b2
  clear b2
  go_wp2_with fail
  go_ret2
  exact ⟨rfl, B1.out.trans (B2.out.mono B1.out.size)⟩
theorem read_err (s : ByteArray) (hs : s.size ≤ 1000) (w : World) (ρ : Col) (b : Nat) (D : Dk) (L : Lay) (h : DiskAt w ρ b D L) (ok : D.Ok) (h0 : D.readN s ≠ 0) :
    Calls Tryz.prog 13 #[.pointer (some ⟨b, 0, none⟩), .string s] w fun e w' => e = .returned (.tuple #[.string ⟨#[]⟩, errV (D.readN s)]) ∧ Below w.heap.size w w' := by
  have DN0 := down_any w ρ b D L h
  have C0 := file_err s hs w ρ b D L h ok
  unfold Dk.readN at h0 ⊢
  cases hg : D.gone with
  | true =>
    rw [hg] at DN0
    have DN := Lib.hid DN0
    clear h ok h0 C0 DN0 hg
    rw [if_pos rfl]
    go_enter Tryz.func13, Tryz.ntmps13
    go_wp2_with fail
    refine DN.out.mono ?_
    rintro e w0 ⟨rfl, rfl⟩
    go_wp2_with fail
    go_ret2
    exact ⟨rfl, Below.refl _ _⟩
  | false =>
    rw [hg] at DN0 h0
    have h0' : D.fileN s ≠ 0 := by simpa using h0
    rw [if_neg (by simp), errV_pos h0']
    have C1 := C0 h0'
    rw [errV_pos h0'] at C1
    have C := Lib.hid C1
    have DN := Lib.hid DN0
    clear h ok h0 h0' C0 C1 DN0 hg
    go_enter Tryz.func13, Tryz.ntmps13
    go_wp2_with fail
    refine DN.out.mono ?_
    rintro e w0 ⟨rfl, rfl⟩
    go_wp2_with fail
    refine C.out.mono ?_
    rintro e w1 ⟨rfl, b1⟩
    have B1 := Lib.hid b1
    clear b1
    go_wp2_with fail
    go_ret2
    exact ⟨rfl, B1.out⟩
end Go.Proofs.YthfcmgbkhjnfjaaGreatDoor

namespace Go.Proofs.YthfcmgbkhjnfjaaGreatDoor
open Go.RowKit Go.Maps

/-- The values of the disk's rows, its files' cells, its names in their order. -/
structure RL where
  vf : Value
  vs : Value
  vw : Value
  va : Value
  fs : List (ByteArray × Value)
  ls : List Ent
def RL.cells (R : RL) (D : Dk) : Array Value := #[.int .i64 D.room, R.vf, R.vs, R.vw, .int .i64 D.units, .int .i64 D.left, .bool D.armed, .bool D.gone, R.va]
def RL.val (R : RL) (D : Dk) : Value := .agg #[.int .i64 D.room, R.vf, R.vs, R.vw, .int .i64 D.units, .int .i64 D.left, .bool D.armed, .bool D.gone, R.va]
structure RAt (w : World) (D : Dk) (R : RL) : Prop where
  ff : FilesAt w R.vf R.fs
  len : R.fs.length = D.files.length
  fb : ∀ (i : Nat) F p, D.files[i]? = some F → R.fs[i]? = some p → p.1 = F.sure ∧ BitsAt w p.2 F.bits
  ss : EntsAt w R.vs R.ls
  dir : D.dir = dirD R.ls
  null : NoNull R.ls
  ww : MovesAt w R.vw D.waits
  aa : ActsAt w R.va D.acts
  pts : ∀ e ∈ R.ls, e.2 < D.files.length
/-- The value v is the reference's disk that stands as D. -/
def IsR (w : World) (v : Value) (D : Dk) : Prop := ∃ R : RL, v = R.val D ∧ RAt w D R
theorem RAt.below {w w' : World} {D : Dk} {R : RL} (h : RAt w D R) (hb : Below w.heap.size w w') : RAt w' D R where
  ff := own0_below h.ff hb
  len := h.len
  fb := fun i F p h1 h2 => ⟨(h.fb i F p h1 h2).1, own0_below (h.fb i F p h1 h2).2 hb⟩
  ss := own0_below h.ss hb
  dir := h.dir
  null := h.null
  ww := own0_below h.ww hb
  aa := own0_below h.aa hb
  pts := h.pts
theorem IsR.below {w w' : World} {v : Value} {D : Dk} (h : IsR w v D) (hb : Below w.heap.size w w') : IsR w' v D := let ⟨R, h1, h2⟩ := h; ⟨R, h1, h2.below hb⟩
/-- Another disk of the same rows. -/
theorem RAt.like {w : World} {D D' : Dk} {R : RL} (h : RAt w D R) (h1 : D'.files = D.files) (h2 : D'.dir = D.dir) (h3 : D'.waits = D.waits) (h4 : D'.acts = D.acts) : RAt w D' R where
  ff := h.ff
  len := by rw [h1]; exact h.len
  fb := by rw [h1]; exact h.fb
  ss := h.ss
  dir := by rw [h2]; exact h.dir
  null := h.null
  ww := by rw [h3]; exact h.ww
  aa := by rw [h4]; exact h.aa
  pts := by rw [h1]; exact h.pts
theorem RAt.spend {w : World} {D : Dk} {R : RL} (h : RAt w D R) (m : Int) : RAt w (D.spend m) R := h.like rfl rfl rfl rfl
theorem RAt.did {w : World} {D : Dk} {R : RL} (h : RAt w D R) (a : Ac) {v : Value} (hv : ActsAt w v (D.acts ++ [a])) : RAt w (D.did a) { R with va := v } :=
  ⟨h.ff, h.len, h.fb, h.ss, h.dir, h.null, h.ww, hv, h.pts⟩
theorem RAt.moved {w : World} {D : Dk} {R : RL} (h : RAt w D R) (m : En) {v : Value} (hv : MovesAt w v (D.waits ++ [m])) : RAt w { D with waits := D.waits ++ [m] } { R with vw := v } :=
  ⟨h.ff, h.len, h.fb, h.ss, h.dir, h.null, hv, h.aa, h.pts⟩
theorem RAt.with_ {w : World} {D : Dk} {R : RL} (h : RAt w D R) (i : Nat) (F : Fl) (p : ByteArray × Value) {v : Value} (hv : FilesAt w v (R.fs.set i p)) (h1 : p.1 = F.sure) (h2 : BitsAt w p.2 F.bits) :
    RAt w (D.setFile i F) { R with vf := v, fs := R.fs.set i p } where
  ff := hv
  len := by show (R.fs.set i p).length = (D.files.set i F).length; rw [List.length_set, List.length_set]; exact h.len
  fb := by
    intro j G q hG hq
    have hG : (D.files.set i F)[j]? = some G := hG
    have hq : (R.fs.set i p)[j]? = some q := hq
    rw [List.getElem?_set] at hG hq
    by_cases hij : i = j
    · rw [if_pos hij] at hG hq
      split at hG
      · split at hq
        · injection hG with hG
          injection hq with hq
          subst hG hq
          exact ⟨h1, h2⟩
        · cases hq
      · cases hG
    · rw [if_neg hij] at hG hq
      exact h.fb j G q hG hq
  ss := h.ss
  dir := h.dir
  null := h.null
  ww := h.ww
  aa := h.aa
  pts := by show ∀ e ∈ R.ls, e.2 < (D.files.set i F).length; rw [List.length_set]; exact h.pts
theorem RAt.grew {w : World} {D : Dk} {R : RL} (h : RAt w D R) {v : Value} (hv : FilesAt w v (R.fs ++ [(⟨#[]⟩, .slice none 0 0)])) : RAt w D.grew { R with vf := v, fs := R.fs ++ [(⟨#[]⟩, .slice none 0 0)] } where
  ff := hv
  len := by show (R.fs ++ [_]).length = (D.files ++ [_]).length; rw [List.length_append, List.length_append, h.len]; rfl
  fb := by
    intro j G q hG hq
    have hG : (D.files ++ [Fl.fresh])[j]? = some G := hG
    have hq : (R.fs ++ [(⟨#[]⟩, .slice none 0 0)])[j]? = some q := hq
    have hl := h.len
    rcases Nat.lt_or_ge j D.files.length with hj | hj
    · rw [List.getElem?_append_left hj] at hG
      rw [List.getElem?_append_left (by omega)] at hq
      exact h.fb j G q hG hq
    · rw [List.getElem?_append_right hj] at hG
      rw [List.getElem?_append_right (by omega)] at hq
      have h1 := List.mem_of_getElem? hG
      have h2 := List.mem_of_getElem? hq
      rw [List.mem_singleton.1 h1, List.mem_singleton.1 h2]
      exact ⟨rfl, World.ownsRow_nil _ _ _ _⟩
  ss := h.ss
  dir := h.dir
  null := h.null
  ww := h.ww
  aa := h.aa
  pts := fun e he => by have := h.pts e he; show e.2 < (D.files ++ [_]).length; rw [List.length_append]; exact Nat.lt_add_right _ this
/-- The directory that is seen. -/
theorem RAt.seen {w : World} {D : Dk} {R : RL} (h : RAt w D R) : D.dirOf = dirD (playL R.ls D.waits) := by
  unfold Dk.dirOf
  rw [h.dir, playL_play _ h.null]
theorem playL_pts {n : Nat} : ∀ (ms : List En) {l : List Ent}, (∀ e ∈ l, e.2 < n) → (∀ m ∈ ms, EnOk n m) → ∀ e ∈ playL l ms, e.2 < n
  | [], _, h, _ => h
  | m :: ms, l, h, hm => playL_pts ms (l := moveL l m) (fun e he => by
      rcases moveL_mem he with he | ⟨hp, rfl⟩
      · exact h e he
      · exact hm m (List.mem_cons_self ..) hp) fun x hx => hm x (List.mem_cons_of_mem _ hx)
theorem RAt.named {w : World} {D : Dk} {R : RL} (h : RAt w D R) {l : List Ent} {v : Value} (hl : NoNull l) (hv : EntsAt w v l) (hp : ∀ e ∈ l, e.2 < D.files.length) : RAt w { D with dir := dirD l, waits := [] } { R with vs := v, ls := l, vw := .slice none 0 0 } :=
  ⟨h.ff, h.len, h.fb, hv, rfl, hl, World.ownsRow_nil _ _ _ _, h.aa, hp⟩
end Go.Proofs.YthfcmgbkhjnfjaaGreatDoor

namespace Go.Proofs.YthfcmgbkhjnfjaaGreatDoor
open Go.RowKit Go.Maps

def findI (l : List Ent) (s : ByteArray) : Int := match findL l s with
  | some i => (i : Int)
  | none => -1
theorem findL_cons (e : Ent) (r : List Ent) (s : ByteArray) : findL (e :: r) s = if e.1 = s then some e.2 else findL r s := by
  unfold findL
  rw [List.find?_cons]
  by_cases h : e.1 = s <;> simp [h]
theorem drop_get {α : Type} {l : List α} {k : Nat} {x : α} (h : l[k]? = some x) : l.drop k = x :: l.drop (k + 1) := by
  obtain ⟨h1, rfl⟩ := List.getElem?_eq_some_iff.1 h
  exact List.drop_eq_getElem_cons h1
/-- A name's cells in a row of names. -/
theorem ents_cells {w : World} {v : Value} {l : List Ent} (h : EntsAt w v l) : ∃ ao cp, v = .slice ao l.length cp ∧ ∀ k e, l[k]? = some e → ∃ g, ao = some ⟨g, 0, none⟩ ∧ g < w.heap.size ∧ ∀ wr : World, wr.heap[g]? = w.heap[g]? → wr.cell? ⟨g, k * 2, none⟩ = some (.string e.1) ∧ wr.cell? ⟨g, k * 2 + 1, none⟩ = some (.int .i64 e.2) := by
  obtain ⟨ao, cp, hv, hc⟩ := rec_cells (c := entC) (n := 2) (fun _ => rfl) h
  exact ⟨ao, cp, hv, fun k e he => let ⟨g, h1, h2, h3⟩ := hc k e he; ⟨g, h1, h2, fun wr hw => ⟨h3 wr hw 0 (by omega), h3 wr hw 1 (by omega)⟩⟩⟩
theorem ba_inj {a b : ByteArray} (h : a.toList = b.toList) : a = b := by
  rw [Lib.toList_data, Lib.toList_data] at h
  exact ByteArray.ext (Array.toList_inj.1 h)
theorem ne_test {a b : ByteArray} (h : a ≠ b) : (a.toList == b.toList) = false := by rw [beq_eq_false_iff_ne]; exact fun e => h (ba_inj e)
theorem eq_test (a : ByteArray) : (a.toList == a.toList) = true := by simp
theorem less_before : ∀ a b : List UInt8, Op.bytesLess a b = bytesBefore a b
  | [], [] => rfl
  | [], _ :: _ => rfl
  | _ :: _, [] => rfl
  | a :: x, b :: y => by
    unfold Op.bytesLess bytesBefore
    rw [less_before x y]
theorem gt_test (a b : ByteArray) : (Op.bytesLess a.toList b.toList || a.toList == b.toList) = !nameLt b a := by
  show _ = !bytesBefore b.data.toList a.data.toList
  rw [less_before, Lib.toList_data, Lib.toList_data]
  by_cases h : a.data.toList = b.data.toList
  · rw [h]
    simp [WideAt.bytes_irrefl]
  · rw [show (a.data.toList == b.data.toList) = false from beq_eq_false_iff_ne.2 h, Bool.or_false]
    rcases WideAt.bytes_total _ _ h with h1 | h1
    · rw [h1]
      cases h2 : bytesBefore b.data.toList a.data.toList with
      | false => rfl
      | true =>
        have := WideShapes.bytes_trans _ _ _ h1 h2
        rw [WideAt.bytes_irrefl] at this
        cases this
    · rw [h1]
      cases h2 : bytesBefore a.data.toList b.data.toList with
      | false => rfl
      | true =>
        have := WideShapes.bytes_trans _ _ _ h1 h2
        rw [WideAt.bytes_irrefl] at this
        cases this
set_option maxRecDepth 20000 in
theorem find_ref (s : ByteArray) (v : Value) (l : List Ent) (w : World) (h : EntsAt w v l) (hl : l.length ≤ 10000000) :
    Calls Tryz.prog 67 #[v, .string s] w fun e w' => e = .returned (.int .i64 (findI l s)) ∧ w = w' := by
  obtain ⟨ao, cp, rfl, hc⟩ := ents_cells h
  have HC := Lib.hid hc
  clear hc h
  go_enter Tryz.func67, Tryz.ntmps67
  go_wp2_with fail
  go_loop [5] (fun i => ∃ k : Nat, i = .int .i64 k ∧ k ≤ l.length ∧ Hid (findL (l.drop k) s = findL l s)) (fun i => l.length - (intOf i).toNat)
  case atStart => exact ⟨0, rfl, Nat.zero_le _, Lib.hid rfl⟩
  case round =>
    obtain ⟨k, rfl, hk, hf⟩ := hrel
    by_cases hlt : k < l.length
    · obtain ⟨⟨nm, fi⟩, he⟩ : ∃ e, l[k]? = some e := ⟨_, List.getElem?_eq_getElem hlt⟩
      obtain ⟨g, rfl, -, hcc⟩ := HC.out k _ he
      obtain ⟨c0, c1⟩ := hcc w rfl
      have hd := hf.out
      rw [drop_get he, findL_cons] at hd
      simp only at c0 c1 hd
      have HD := Lib.hid hd
      clear hcc hd he
      by_cases hs : nm = s
      · have hr : Hid (findI l s = (fi : Int)) := Lib.hid (by
          have := HD.out
          rw [if_pos hs] at this
          unfold findI
          rw [← this])
        rw [hs] at c0
        go_wp2_with fail
        go_ret
        exact ⟨by rw [hr.out]; rfl, rfl⟩
      · have hr : Hid (findL (l.drop (k + 1)) s = findL l s) := Lib.hid (by
          have := HD.out
          rwa [if_neg hs] at this)
        have hq := ne_test hs
        go_wp2_with fail
        exact ⟨⟨k + 1, by go_num, by omega, hr⟩, by simp [intOf]; omega⟩
    · have hr : Hid (findI l s = -1) := Lib.hid (by
        have := hf.out
        rw [List.drop_of_length_le (by omega)] at this
        unfold findI
        rw [← this]
        rfl)
      go_wp2_with fail
      go_ret
      exact ⟨by rw [hr.out]; rfl, rfl⟩
end Go.Proofs.YthfcmgbkhjnfjaaGreatDoor
