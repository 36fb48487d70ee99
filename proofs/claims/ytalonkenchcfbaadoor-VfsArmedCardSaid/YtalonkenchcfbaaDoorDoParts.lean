/- What the law's do needs: each method of the disk with a bound on its error's number, and where do's own boxes lie. -/
import Derived.Test.YtalonkenchcfbaaDoorRefs8
import Derived.Test.YtalonkenchcfbaaDoorCut
namespace Go.Proofs.YtalonkenchcfbaaDoor
open Go.RowKit Go.Maps

/-- What an operation makes of a disk. -/
def Dk.act (D : Dk) (kd n : Int) (nm tx : ByteArray) : Dk :=
  if kd = 1 then (D.create nm).2 else if kd = 2 then (D.write nm tx).2 else if kd = 3 then (D.cutFile nm n).2 else if kd = 4 then (D.sync nm).2
  else if kd = 5 then (D.rename nm tx).2 else if kd = 6 then (D.remove nm).2 else if kd = 7 then D.syncDir.2 else D
/-- A method of the disk ended. -/
def MethPost (w : World) (ρ : Col) (b : Nat) (D' : Dk) (e : Ending) (w' : World) : Prop := ∃ k : Nat, k ≤ 12 ∧ e = .returned (errV k) ∧ Turned w ρ b D' w'
/-- The operation ended. -/
def DoPost (w : World) (ρ : Col) (b : Nat) (D' : Dk) (e : Ending) (w' : World) : Prop := (∃ (v : Value) (c : Bool), e = .returned (.tuple #[v, .bool c])) ∧ Turned w ρ b D' w'
theorem asked_le (D : Dk) (l : List ByteArray) : D.askedN l ≤ 12 := by unfold Dk.askedN; (repeat' split) <;> omega
theorem fileN_le (D : Dk) (s : ByteArray) : D.fileN s ≤ 12 := by
  have := asked_le D [s]
  unfold Dk.fileN; repeat' split
  all_goals omega
section
variable (w : World) (ρ : Col) (b : Nat) (D : Dk) (h : IsDisk w ρ b D) (ok : D.Ok)
include h ok
theorem create_m (s : ByteArray) (hs : s.size ≤ 1000) : Calls Tryd.prog 9 #[.pointer (some ⟨b, 0, none⟩), .string s] w (MethPost w ρ b (D.create s).2) := by
  obtain ⟨L, h⟩ := h
  refine (create_any s hs w ρ b D L h ok).mono fun e w' p => ⟨(D.create s).1, ?_, p.1, p.2⟩
  have := fileN_le D s
  unfold Dk.create; repeat' split
  all_goals first | exact this | simp
theorem write_m (s t : ByteArray) (hs : s.size ≤ 1000) (ht : t.size ≤ 1000) (hr0 : 0 ≤ D.room) (hr1 : D.room ≤ 9223372036854775807) : Calls Tryd.prog 11 #[.pointer (some ⟨b, 0, none⟩), .string s, .string t] w (MethPost w ρ b (D.write s t).2) := by
  obtain ⟨L, h⟩ := h
  refine (write_any s t hs (by omega) w ρ b D L h ok hr0 hr1).mono fun e w' p => ⟨(D.write s t).1, ?_, p.1, p.2⟩
  have := fileN_le D s
  unfold Dk.write; repeat' split
  all_goals first | exact this | simp
theorem cut_m (s : ByteArray) (n : Int) (hs : s.size ≤ 1000) : Calls Tryd.prog 35 #[.pointer (some ⟨b, 0, none⟩), .string s, .int .i64 n] w (MethPost w ρ b (D.cutFile s n).2) := by
  obtain ⟨L, h⟩ := h
  refine (cut_any s hs n w ρ b D L h ok).mono fun e w' p => ⟨(D.cutFile s n).1, ?_, p.1, p.2⟩
  have := fileN_le D s
  unfold Dk.cutFile; repeat' split
  all_goals first | exact this | simp
theorem sync_m (s : ByteArray) (hs : s.size ≤ 1000) : Calls Tryd.prog 12 #[.pointer (some ⟨b, 0, none⟩), .string s] w (MethPost w ρ b (D.sync s).2) := by
  obtain ⟨L, h⟩ := h
  refine (sync_any s hs w ρ b D L h ok).mono fun e w' p => ⟨(D.sync s).1, ?_, p.1, p.2⟩
  have := fileN_le D s
  unfold Dk.sync; repeat' split
  all_goals first | exact this | simp
theorem rename_m (s t : ByteArray) (hs : s.size ≤ 1000) (ht : t.size ≤ 1000) : Calls Tryd.prog 31 #[.pointer (some ⟨b, 0, none⟩), .string s, .string t] w (MethPost w ρ b (D.rename s t).2) := by
  obtain ⟨L, h⟩ := h
  refine (rename_any s t hs ht w ρ b D L h ok).mono fun e w' p => ⟨(D.rename s t).1, ?_, p.1, p.2⟩
  have := asked_le D [s, t]
  unfold Dk.rename; repeat' split
  all_goals first | exact this | simp
theorem remove_m (s : ByteArray) (hs : s.size ≤ 1000) : Calls Tryd.prog 39 #[.pointer (some ⟨b, 0, none⟩), .string s] w (MethPost w ρ b (D.remove s).2) := by
  obtain ⟨L, h⟩ := h
  refine (remove_any s hs w ρ b D L h ok).mono fun e w' p => ⟨(D.remove s).1, ?_, p.1, p.2⟩
  have := fileN_le D s
  unfold Dk.remove; repeat' split
  all_goals first | exact this | simp
theorem syncDir_m : Calls Tryd.prog 10 #[.pointer (some ⟨b, 0, none⟩)] w (MethPost w ρ b D.syncDir.2) := by
  obtain ⟨L, h⟩ := h
  refine (syncDir_any w ρ b D L h ok).mono fun e w' p => ⟨D.syncDir.1, ?_, p.1, p.2⟩
  unfold Dk.syncDir; repeat' split
  all_goals simp
/-- Read ended: some text and an error's number. -/
theorem read_m (s : ByteArray) (hs : s.size ≤ 1000) : Calls Tryd.prog 14 #[.pointer (some ⟨b, 0, none⟩), .string s] w fun e w' => ∃ (t : ByteArray) (k : Nat), k ≤ 12 ∧ e = .returned (.tuple #[.string t, errV k]) ∧ Below w.heap.size w w' := by
  obtain ⟨L, h⟩ := h
  by_cases h0 : D.readN s = 0
  · exact (read_ok s hs w ρ b D L h ok h0).mono fun e w' p => ⟨D.text s, 0, by decide, p.1, p.2⟩
  · refine (read_err s hs w ρ b D L h ok h0).mono fun e w' p => ⟨⟨#[]⟩, D.readN s, ?_, p.1, p.2⟩
    have := fileN_le D s
    unfold Dk.readN; split <;> omega
end
/-- The disk was turned, and the two blocks x and z are not its. -/
def TurnX (w : World) (ρ : Col) (b : Nat) (D' : Dk) (x z : Nat) (w' : World) : Prop := ∃ ρ', IsDisk w' ρ' b D' ∧ Ext w ρ ρ' ∧ Kept ρ w w' ∧ ρ' x = none ∧ ρ' z = none
theorem TurnX.turned {w w' : World} {ρ : Col} {b : Nat} {D' : Dk} {x z : Nat} (h : TurnX w ρ b D' x z w') : Turned w ρ b D' w' := let ⟨ρ', h1, h2, h3, _⟩ := h; ⟨ρ', h1, h2, h3⟩
theorem TurnX.of {w w0 w1 : World} {ρ : Col} {b : Nat} {D' : Dk} {x z : Nat} (hf : Fits w ρ) (hb : Below w.heap.size w w0) (hx : w.heap.size ≤ x) (hz : w.heap.size ≤ z) (hx0 : x < w0.heap.size) (hz0 : z < w0.heap.size) (h : Turned w0 ρ b D' w1) : TurnX w ρ b D' x z w1 := by
  obtain ⟨ρ', h1, h2, h3⟩ := h
  have g : ∀ y, w.heap.size ≤ y → y < w0.heap.size → ρ' y = none := fun y hy hy0 => by
    rw [h2 y hy0]
    cases e : ρ y with
    | none => rfl
    | some c => exact absurd (hf y (by rw [e]; simp)) (by omega)
  exact ⟨ρ', h1, fun k hk => h2 k (Nat.lt_of_lt_of_le hk hb.size), (Kept.below hb).then h3, g x hx hx0, g z hz hz0⟩
theorem TurnX.below {w w1 w2 : World} {ρ : Col} {b : Nat} {D' : Dk} {x z : Nat} (h : TurnX w ρ b D' x z w1) (hb : Below w1.heap.size w1 w2) : TurnX w ρ b D' x z w2 := by
  obtain ⟨ρ', h1, h2, h3, h4, h5⟩ := h
  exact ⟨ρ', h1.below hb, h2, h3.trans h2 (Kept.below hb), h4, h5⟩
theorem IsDisk.fits {w : World} {ρ : Col} {b : Nat} {D : Dk} (h : IsDisk w ρ b D) : Fits w ρ := let ⟨_, h⟩ := h; h.fits
theorem IsDisk.size {w : World} {ρ : Col} {b : Nat} {D : Dk} (h : IsDisk w ρ b D) : b < w.heap.size := let ⟨_, h⟩ := h; h.blk.lt
theorem TurnX.set {w w1 : World} {ρ : Col} {b : Nat} {D' : Dk} {x z : Nat} (h : TurnX w ρ b D' x z w1) (y j : Nat) (v : Value) (hy : y = x ∨ y = z) (hw : w.heap.size ≤ y) : TurnX w ρ b D' x z (w1.setCell ⟨y, j, none⟩ v) := by
  obtain ⟨ρ', ⟨L, h1⟩, h2, h3, h4, h5⟩ := h
  have hs : (w1.setCell ⟨y, j, none⟩ v).heap.size = w1.heap.size := by simp [World.setCell]
  refine ⟨ρ', ⟨L, h1.keep (Ext.refl _ _) (σ := fun g => if g = y then some 0 else none) (Kept.setCell (by simp)) ?_ (h1.fits.more (by omega))⟩, h2, ?_, h4, h5⟩
  · intro g hg
    have : g ≠ y := by rintro rfl; rcases hy with rfl | rfl; exact hg h4; exact hg h5
    simp [this]
  · refine ⟨h3.os, h3.tape, h3.output, by rw [hs]; exact h3.size, fun k hk hn => ?_⟩
    rw [Below.heap_setCell _ _ _ _ (by show k ≠ y; omega)]
    exact h3.block k hk hn
theorem TurnX.drewn {w w1 : World} {ρ : Col} {b : Nat} {D' : Dk} {x z : Nat} (h : TurnX w ρ b D' x z w1) : TurnX w ρ b D' x z w1.drew := h.below (Below.refl _ _).drew
abbrev opCells (kd n : Int) (nm tx : ByteArray) (kv : Value) : Array Value := #[.int .i64 kd, .int .i64 n, .string nm, .string tx, kv]
/-- do's own boxes. -/
structure Box3 (w : World) (cx co : Array Value) (w1 : World) : Prop where
  x : w1.heap[w.heap.size]? = some (.cells cx 51 (0, 0))
  o : w1.heap[w.heap.size + 1]? = some (.cells co 34 (0, 0))
  z : w1.heap[w.heap.size + 1 + 1]? = some (.cells zCells 51 (0, 0))
theorem box3 (w : World) (co : Array Value) : Box3 w zCells co (((w.alloc (.cells zCells 51)).alloc (.cells co 34)).alloc (.cells zCells 51)) := by
  have e1 : ∀ (v : World) (o : Obj), (v.alloc o).heap[v.heap.size]? = some o := fun v o => heap_alloc_new v o
  have e2 : ∀ (v : World) (o : Obj) (k : Nat), k < v.heap.size → (v.alloc o).heap[k]? = v.heap[k]? := fun v o k hk => ((Below.refl v.heap.size v).alloc (Nat.le_refl _) o).block k hk
  refine ⟨?_, ?_, ?_⟩
  · rw [e2 _ _ _ (by simp; omega), e2 _ _ _ (by simp), e1]
  · rw [e2 _ _ _ (by simp)]
    have := e1 (w.alloc (.cells zCells 51)) (.cells co 34)
    simpa using this
  · have := e1 ((w.alloc (.cells zCells 51)).alloc (.cells co 34)) (.cells zCells 51)
    simpa using this
theorem below_alloc3 (w : World) (o1 o2 o3 : Obj) : Below w.heap.size w (((w.alloc o1).alloc o2).alloc o3) := (((Below.refl _ _).alloc (Nat.le_refl _) _).alloc (by simp) _).alloc (by simp <;> omega) _
theorem Box3.kept {w w1 w2 : World} {ρ : Col} {cx co : Array Value} (h : Box3 w cx co w1) (hf : Fits w ρ) (k : Kept ρ w1 w2) : Box3 w cx co w2 := by
  have g : ∀ y, w.heap.size ≤ y → ρ y = none := fun y hy => by
    cases e : ρ y with
    | none => rfl
    | some c => exact absurd (hf y (by rw [e]; simp)) (by omega)
  exact ⟨(k.block _ (Array.getElem?_eq_some_iff.1 h.x).1 (g _ (by omega))).trans h.x, (k.block _ (Array.getElem?_eq_some_iff.1 h.o).1 (g _ (by omega))).trans h.o, (k.block _ (Array.getElem?_eq_some_iff.1 h.z).1 (g _ (by omega))).trans h.z⟩
theorem Box3.below {w w1 w2 : World} {cx co : Array Value} (h : Box3 w cx co w1) (k : Below w1.heap.size w1 w2) : Box3 w cx co w2 :=
  ⟨(k.block _ (Array.getElem?_eq_some_iff.1 h.x).1).trans h.x, (k.block _ (Array.getElem?_eq_some_iff.1 h.o).1).trans h.o, (k.block _ (Array.getElem?_eq_some_iff.1 h.z).1).trans h.z⟩
end Go.Proofs.YtalonkenchcfbaaDoor
