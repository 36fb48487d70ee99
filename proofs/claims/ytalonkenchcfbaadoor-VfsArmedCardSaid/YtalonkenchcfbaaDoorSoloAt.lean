/- The methods' contracts at a disk with one file that the call itself has made. -/
import Derived.Test.YtalonkenchcfbaaDoorSolo
namespace Go.Proofs.YtalonkenchcfbaaDoor
open Go.RowKit Go.Maps

/-- A disk of the call's own: from block B on. -/
def DiskSt (B : Nat) (w : World) (b : Nat) (D : Dk) : Prop := ∃ ρ, IsDisk w ρ b D ∧ (∀ k, k < B → ρ k = none) ∧ B ≤ w.heap.size
theorem Turned.st {B b : Nat} {w w' : World} {ρ : Col} {D' : Dk} (h : Turned w ρ b D' w') (hρ : ∀ k, k < B → ρ k = none) (hB : B ≤ w.heap.size) : DiskSt B w' b D' ∧ Below B w w' := by
  obtain ⟨ρ', h1, h2, h3⟩ := h
  exact ⟨⟨ρ', h1, fun k hk => (h2 k (by omega)).trans (hρ k hk), Nat.le_trans hB h3.size⟩, h3.toBelow hB hρ⟩
theorem DiskSt.below {B b : Nat} {w w' : World} {D : Dk} (h : DiskSt B w b D) (hb : Below w.heap.size w w') : DiskSt B w' b D := by
  obtain ⟨ρ, h1, h2, h3⟩ := h
  exact ⟨ρ, h1.below hb, h2, Nat.le_trans h3 hb.size⟩
/-- A new disk. -/
def NewSt (room : Int) (w : World) (e : Ending) (w' : World) : Prop := ∃ b, e = .returned (.tuple #[.pointer (some ⟨b, 0, none⟩), .nilIface]) ∧ DiskSt w.heap.size w' b (Dk.fresh room) ∧ Below w.heap.size w w'
theorem new_st (room : Int) (h0 : 0 ≤ room) (w : World) : Calls Tryd.prog 8 #[.int .i64 room] w (NewSt room w) :=
  (new_ok room h0 w).mono fun _ _ ⟨b, ρ, he, hd, hρ, hb⟩ => ⟨b, he, ⟨ρ, hd, hρ, hb.size⟩, hb⟩
/-- A call that ends in this error, with the disk so. -/
def StPost (B b k : Nat) (D' : Dk) (w : World) (e : Ending) (w' : World) : Prop := e = .returned (errV k) ∧ DiskSt B w' b D' ∧ Below B w w'
theorem create_st (s : ByteArray) (hs : s.size ≤ 1000) (hg : goodName s.data.toList = true) (room : Int) {B b : Nat} {w : World} (h : DiskSt B w b (Dk.fresh room)) :
    Calls Tryd.prog 9 #[.pointer (some ⟨b, 0, none⟩), .string s] w (StPost B b 0 (Dk.first room s) w) := by
  obtain ⟨ρ, ⟨L, hd⟩, hρ, hB⟩ := h
  refine (create_any s hs w ρ b _ L hd (fresh_ok room)).mono fun e w' ⟨he, ht⟩ => ?_
  rw [fresh_create room s hg] at he ht
  obtain ⟨h1, h2⟩ := ht.st hρ hB
  exact ⟨he, h1, h2⟩
/-- A disk of the call's own with one name and one file. -/
structure SoloSt (B : Nat) (w : World) (b : Nat) (s : ByteArray) (room : Int) (sure all : List UInt8) (u : Int) (na nw : Nat) : Prop where
  ex : ∃ D F, DiskSt B w b D ∧ Solo D s room F u na ∧ Plain F sure all ∧ F.waits.length ≤ nw
  good : goodName s.data.toList = true
  size : s.size ≤ 1000
  room0 : 0 ≤ room
  room1 : room ≤ 9223372036854775807
  len : all.length ≤ 1000000
  u0 : 0 ≤ u
  u1 : u ≤ 10000000
  nna : na ≤ 100000
  nnw : nw ≤ 100000
section
variable {B b na nw : Nat} {w : World} {s : ByteArray} {room u : Int} {sure all : List UInt8}
theorem SoloSt.below {w' : World} (h : SoloSt B w b s room sure all u na nw) (hb : Below w.heap.size w w') : SoloSt B w' b s room sure all u na nw :=
  let ⟨D, F, h1, h2⟩ := h.ex
  { h with ex := ⟨D, F, h1.below hb, h2⟩ }
def SoloPost (B b : Nat) (s : ByteArray) (room : Int) (sure all : List UInt8) (u : Int) (na nw : Nat) (w : World) (e : Ending) (w' : World) : Prop :=
  e = .returned .nilIface ∧ SoloSt B w' b s room sure all u na nw ∧ Below B w w'
theorem syncDir_solo (s : ByteArray) (hs : s.size ≤ 1000) (hg : goodName s.data.toList = true) (room : Int) (hr0 : 0 ≤ room) (hr1 : room ≤ 9223372036854775807) (h : DiskSt B w b (Dk.first room s)) :
    Calls Tryd.prog 10 #[.pointer (some ⟨b, 0, none⟩)] w (SoloPost B b s room [] [] 2 2 0 w) := by
  obtain ⟨ρ, ⟨L, hd⟩, hρ, hB⟩ := h
  refine (syncDir_any w ρ b _ L hd (first_ok room s hs)).mono fun e w' ⟨he, ht⟩ => ?_
  obtain ⟨h1, h2⟩ := first_syncDir room s hg
  rw [h1] at he
  obtain ⟨h3, h4⟩ := ht.st hρ hB
  exact ⟨he, ⟨⟨_, _, h3, h2, Plain.fresh, Nat.le_refl _⟩, hg, hs, hr0, hr1, by simp, by decide, by decide, by decide, by decide⟩, h4⟩
/-- The blocks that came to be since w0 stand as they stood. -/
def Late (w0 w w' : World) : Prop := ∀ x, w0.heap.size ≤ x → x < w.heap.size → w'.heap[x]? = w.heap[x]?
/-- A write, where blocks were laid since the disk was last looked at. -/
theorem write_solo_over {w0 : World} (h : SoloSt B w0 b s room sure all u na nw) (hb : Below w0.heap.size w0 w) (t : ByteArray) (hr : (all.length : Int) + t.size ≤ room) (hl : all.length + t.size ≤ 1000000) (hu : u + t.size ≤ 10000000) (hna : na + 1 ≤ 100000) (hnw : nw + 1 ≤ 100000) :
    Calls Tryd.prog 11 #[.pointer (some ⟨b, 0, none⟩), .string s, .string t] w fun e w' => SoloPost B b s room sure (all ++ t.data.toList) (u + t.size) (if 0 < t.size then na + 1 else na) (nw + 1) w e w' ∧ Late w0 w w' := by
  obtain ⟨D, F, ⟨ρ, ⟨L, hd0⟩, hρ, hB0⟩, hS, hP, hw⟩ := h.ex
  have hd := hd0.below hb
  have hB := Nat.le_trans hB0 hb.size
  have hFok : F.Ok := hP.ok (by have := h.len; omega) (by have := h.nnw; omega)
  have hok := hS.ok hFok h.u0 (by have := h.u1; omega) (by have := h.nna; omega)
  have hz : F.seen.size = all.length := by rw [Lib.size_eq, hP.seen]
  refine (write_any s t h.size (by omega) w ρ b D L hd hok (by rw [hS.room]; exact h.room0) (by rw [hS.room]; exact h.room1)).mono fun e w' ⟨he, ht⟩ => ?_
  obtain ⟨h1, h2⟩ := hS.write h.good t (by rw [hz]; exact hr)
  rw [h1] at he
  have hlate : Late w0 w w' := by
    obtain ⟨ρ', -, -, hk⟩ := ht
    intro x hx1 hx2
    refine hk.block x hx2 ?_
    cases hh : ρ x with
    | none => rfl
    | some c => have := hd0.fits x (by rw [hh]; simp); omega
  obtain ⟨h3, h4⟩ := ht.st hρ hB
  refine ⟨⟨he, ⟨?_, h.good, h.size, h.room0, h.room1, ?_, by have := h.u0; omega, hu, by split <;> omega, hnw⟩, h4⟩, hlate⟩
  · by_cases htz : 0 < t.size
    · rw [if_pos htz] at h2
      rw [if_pos htz] at h2
      rw [if_pos htz]
      exact ⟨_, _, h3, h2, hP.push t, by show (F.waits ++ [_]).length ≤ _; rw [List.length_append]; simp; omega⟩
    · rw [if_neg htz] at h2
      rw [if_neg htz] at h2
      rw [if_neg htz]
      have e0 : t.data.toList = [] := List.length_eq_zero_iff.1 (by rw [← Lib.size_eq]; omega)
      rw [e0, List.append_nil]
      exact ⟨_, _, h3, h2, hP, by omega⟩
  · rw [List.length_append, ← Lib.size_eq]; exact hl
theorem write_solo (h : SoloSt B w b s room sure all u na nw) (t : ByteArray) (hr : (all.length : Int) + t.size ≤ room) (hl : all.length + t.size ≤ 1000000) (hu : u + t.size ≤ 10000000) (hna : na + 1 ≤ 100000) (hnw : nw + 1 ≤ 100000) :
    Calls Tryd.prog 11 #[.pointer (some ⟨b, 0, none⟩), .string s, .string t] w (SoloPost B b s room sure (all ++ t.data.toList) (u + t.size) (if 0 < t.size then na + 1 else na) (nw + 1) w) :=
  (write_solo_over h (Below.refl _ _) t hr hl hu hna hnw).mono fun _ _ h => h.1
theorem sync_solo (h : SoloSt B w b s room sure all u na nw) (hu : u + 1 ≤ 10000000) (hna : na + 1 ≤ 100000) :
    Calls Tryd.prog 12 #[.pointer (some ⟨b, 0, none⟩), .string s] w (SoloPost B b s room all all (u + 1) (na + 1) nw w) := by
  obtain ⟨D, F, ⟨ρ, ⟨L, hd⟩, hρ, hB⟩, hS, hP, hw⟩ := h.ex
  have hFok : F.Ok := hP.ok (by have := h.len; omega) (by have := h.nnw; omega)
  have hok := hS.ok hFok h.u0 (by have := h.u1; omega) (by have := h.nna; omega)
  refine (sync_any s h.size w ρ b D L hd hok).mono fun e w' ⟨he, ht⟩ => ?_
  obtain ⟨h1, h2⟩ := hS.sync h.good
  rw [h1] at he
  obtain ⟨h3, h4⟩ := ht.st hρ hB
  exact ⟨he, ⟨⟨_, _, h3, h2, hP.synced, Nat.zero_le _⟩, h.good, h.size, h.room0, h.room1, h.len, by have := h.u0; omega, hu, hna, h.nnw⟩, h4⟩
/-- What a crash leaves of a text. -/
def crashText (sure all : List UInt8) (k : Int) : List UInt8 := all.take (sure.length + (max 0 k).toNat)
def CrashPost (B b : Nat) (s : ByteArray) (room : Int) (all : List UInt8) (u : Int) (na nw : Nat) (w : World) (e : Ending) (w' : World) : Prop :=
  e = .returned (.tuple #[]) ∧ SoloSt B w' b s room all all u na nw ∧ Below B w w'
/-- One number in a row that is new. -/
theorem crash_solo (h : SoloSt B w b s room sure all u na nw) (k : Int) (hk : k ≤ 9223372036854775807) :
    Calls Tryd.prog 13 #[.pointer (some ⟨b, 0, none⟩), .int .i64 0, .slice (some ⟨w.heap.size, 0, none⟩) 1 1] (w.alloc (.cells #[.int .i64 k] 3)) (CrashPost B b s room (crashText sure all k) u na nw w) := by
  have hb1 : Below w.heap.size w (w.alloc (.cells #[.int .i64 k] 3)) := (Below.refl _ _).alloc (Nat.le_refl _) _
  obtain ⟨D, F, ⟨ρ, ⟨L, hd⟩, hρ, hB⟩, hS, hP, hw⟩ := h.ex
  have hFok : F.Ok := hP.ok (by have := h.len; omega) (by have := h.nnw; omega)
  have hok := hS.ok hFok h.u0 (by have := h.u1; omega) (by have := h.nna; omega)
  have hi : IntsAt (w.alloc (.cells #[.int .i64 k] 3)) ρ (.slice (some ⟨w.heap.size, 0, none⟩) 1 1) [k] := by
    refine ⟨_, _, rfl, (by simp), fun j d hj => ?_⟩
    cases j with
    | succ j => simp at hj
    | zero =>
      simp at hj
      subst hj
      refine ⟨_, 0, rfl, by simp, ?_, World.cell?_alloc_new _ _ _ _, hk⟩
      cases hh : ρ w.heap.size with
      | none => rfl
      | some c => have := hd.fits w.heap.size (by rw [hh]; simp); omega
  refine (crash_any 0 _ [k] _ ρ b D L (hd.below hb1) hok hi (by decide) (by decide)).mono fun e w' ⟨he, ht⟩ => ?_
  have h2 := hS.crash k
  obtain ⟨h3, h4⟩ := ht.st hρ (Nat.le_trans hB hb1.size)
  have hbe := hP.behind (max 0 k) (by omega)
  refine ⟨he, ⟨⟨_, _, h3, h2, ⟨(by intro x hx; cases hx), hbe, (by simp [texts, crashText])⟩, Nat.zero_le _⟩, h.good, h.size, h.room0, h.room1, ?_, h.u0, h.u1, h.nna, h.nnw⟩, (hb1.mono hB).trans h4⟩
  unfold crashText
  rw [List.length_take]
  have := h.len
  omega
theorem read_solo (h : SoloSt B w b s room sure all u na nw) :
    Calls Tryd.prog 14 #[.pointer (some ⟨b, 0, none⟩), .string s] w fun e w' => e = .returned (.tuple #[.string ⟨all.toArray⟩, .nilIface]) ∧ Below w.heap.size w w' := by
  obtain ⟨D, F, ⟨ρ, ⟨L, hd⟩, hρ, hB⟩, hS, hP, hw⟩ := h.ex
  have hFok : F.Ok := hP.ok (by have := h.len; omega) (by have := h.nnw; omega)
  have hok := hS.ok hFok h.u0 (by have := h.u1; omega) (by have := h.nna; omega)
  have ht : D.text s = ⟨all.toArray⟩ := by rw [hS.text, ← hP.seen, Lib.mk_data]
  rw [← ht]
  exact read_ok s h.size w ρ b D L hd hok (hS.read h.good)
theorem free_solo (h : SoloSt B w b s room sure all u na nw) :
    Calls Tryd.prog 15 #[.pointer (some ⟨b, 0, none⟩)] w fun e w' => e = .returned (.int .i64 (max 0 (room - all.length))) ∧ Below w.heap.size w w' := by
  obtain ⟨D, F, ⟨ρ, ⟨L, hd⟩, hρ, hB⟩, hS, hP, hw⟩ := h.ex
  have hFok : F.Ok := hP.ok (by have := h.len; omega) (by have := h.nnw; omega)
  have hok := hS.ok hFok h.u0 (by have := h.u1; omega) (by have := h.nna; omega)
  have hz : F.seen.size = all.length := by rw [Lib.size_eq, hP.seen]
  have hf := hS.free
  rw [hz] at hf
  rw [← hf]
  exact free_any w ρ b D L hd hok (by rw [hS.room]; exact h.room0) (by rw [hS.room]; exact h.room1)
theorem units_solo (h : SoloSt B w b s room sure all u na nw) :
    Calls Tryd.prog 19 #[.pointer (some ⟨b, 0, none⟩)] w fun e w' => e = .returned (.int .i64 u) ∧ w = w' := by
  obtain ⟨D, F, ⟨ρ, ⟨L, hd⟩, hρ, hB⟩, hS, hP, hw⟩ := h.ex
  rw [← hS.units]
  exact unitsD_any w ρ b D L hd
theorem acts_solo (h : SoloSt B w b s room sure all u na nw) (hn : 0 < na) :
    Calls Tryd.prog 21 #[.pointer (some ⟨b, 0, none⟩)] w (CountPost na w) := by
  obtain ⟨D, F, ⟨ρ, ⟨L, hd⟩, hρ, hB⟩, hS, hP, hw⟩ := h.ex
  have e := hS.acts
  subst e
  exact acts_any w ρ b D L hd hn (by have := h.nna; omega)
end
end Go.Proofs.YtalonkenchcfbaaDoor
