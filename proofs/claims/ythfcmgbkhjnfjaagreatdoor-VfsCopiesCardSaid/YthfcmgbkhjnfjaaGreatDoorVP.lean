/- The program's disk and the reference's beside each other: a colouring that holds the program's disk alone. The law's do: its boxes, an error's number. What any operation makes of a disk, and what it keeps. -/
import Derived.Test.YthfcmgbkhjnfjaaGreatDoorPCrash
import Derived.Test.YthfcmgbkhjnfjaaGreatDoorPWrite
import Derived.Test.YthfcmgbkhjnfjaaGreatDoorVN
import Derived.Test.YthfcmgbkhjnfjaaGreatDoorVO
import Derived.Test.YthfcmgbkhjnfjaaGreatDoorVW
namespace Go.Proofs.YthfcmgbkhjnfjaaGreatDoor
open Go.RowKit Go.Maps

/-- No coloured block is of a type of the reference's rows. -/
def Tight (w : World) (ρ : Col) : Prop := ∀ (g : Nat) (cs : Array Value) (T : TypeId) (fr : Nat × Nat), ρ g ≠ none → w.heap[g]? = some (.cells cs T fr) → T = 70 ∨ T = 97 ∨ T = 95 ∨ T = 88 ∨ T = 100 ∨ T = 103
theorem own_apart {w w' : World} {ρ : Col} (k : Kept ρ w w') (ht : Tight w ρ) {e : TypeId} {size n : Nat} {v : Value} {xs : List Value} (h : w.ownsRow 0 e size v n xs) (he : ¬ (e = 70 ∨ e = 97 ∨ e = 95 ∨ e = 88 ∨ e = 100 ∨ e = 103)) : w'.ownsRow 0 e size v n xs :=
  ownsRow_of_block h fun g hg => k.block g (h.lt g hg).2 (by
    rcases h.2 with ⟨h1, -⟩ | ⟨g', c', cur, h1, h2, h3, -⟩
    · rw [h1] at hg; cases hg
    · rw [h1] at hg
      injection hg with hg
      subst hg
      cases hr : ρ g' with
      | none => rfl
      | some c => exact absurd (ht g' cur e (0, 0) (by rw [hr]; simp) h3) he)
/-- The reference's disk stands where only the program's is turned. -/
theorem IsD.kept {w w' : World} {ρ : Col} {D : Dk} {S : Sh} (h : IsD w D S) (k : Kept ρ w w') (ht : Tight w ρ) : IsD w' D S := by
  obtain ⟨R, h1, h⟩ := h.ex
  exact ⟨R, h1, own_apart k ht h.ff (by decide), h.len, fun i F p h1 h2 => ⟨(h.fb i F p h1 h2).1, own_apart k ht (h.fb i F p h1 h2).2 (by decide)⟩, own_apart k ht h.ss (by decide), h.dir, h.null, own_apart k ht h.ww (by decide), own_apart k ht h.aa (by decide), h.pts⟩
/-- A block of the disk. -/
def OfDisk (b : Nat) (L : Lay) (g : Nat) : Prop := g = b ∨ g = L.mb ∨ L.vf.ownBlock = some g ∨ L.vw.ownBlock = some g ∨ L.va.ownBlock = some g ∨ ∃ (i : Nat) (f : Nat × Value), L.fs[i]? = some f ∧ (g = f.1 ∨ f.2.ownBlock = some g)
open Classical in
/-- The colouring of the disk's own blocks. -/
noncomputable def shrink (ρ : Col) (b : Nat) (L : Lay) : Col := fun g => if OfDisk b L g then ρ g else none
theorem shrink_at {ρ : Col} {b : Nat} {L : Lay} {g : Nat} (h : OfDisk b L g) : shrink ρ b L g = ρ g := if_pos h
theorem shrink_of {ρ : Col} {b : Nat} {L : Lay} {g : Nat} (h : shrink ρ b L g ≠ none) : OfDisk b L g ∧ ρ g ≠ none := by
  unfold shrink at h
  split at h
  · rename_i hg; exact ⟨hg, h⟩
  · exact absurd rfl h
theorem Row.type {w : World} {ρ : Col} {c : Nat} {e : TypeId} {size : Nat} {v : Value} {n : Nat} {xs : List Value} (h : Row w ρ c e size v n xs) {g : Nat} (hg : v.ownBlock = some g) {cs : Array Value} {T : TypeId} {fr : Nat × Nat} (hc : w.heap[g]? = some (.cells cs T fr)) : T = e := by
  rcases h.1.2 with ⟨h1, -⟩ | ⟨g', c', cur, h1, h2, h3, -⟩
  · rw [h1] at hg; cases hg
  · rw [h1] at hg
    injection hg with hg
    subst hg
    rw [h3] at hc
    injection hc with hc
    injection hc with _ hc
    exact hc.symm
theorem DiskAt.shrink {w : World} {ρ : Col} {b : Nat} {D : Dk} {L : Lay} (h : DiskAt w ρ b D L) : DiskAt w (shrink ρ b L) b D L ∧ Tight w (shrink ρ b L) := by
  have hb := shrink_at (ρ := ρ) (L := L) (show OfDisk b L b from .inl rfl)
  have hm := shrink_at (ρ := ρ) (L := L) (show OfDisk b L L.mb from .inr (.inl rfl))
  refine ⟨⟨⟨h.blk.1, hb.trans h.blk.2⟩, ⟨h.map.1, hm.trans h.map.2⟩, ⟨h.rowF.1, fun g hg => (shrink_at (.inr (.inr (.inl hg)))).trans (h.rowF.2 g hg)⟩, ⟨h.rowW.1, fun g hg => (shrink_at (.inr (.inr (.inr (.inl hg))))).trans (h.rowW.2 g hg)⟩, ⟨h.rowA.1, fun g hg => (shrink_at (.inr (.inr (.inr (.inr (.inl hg)))))).trans (h.rowA.2 g hg)⟩, h.len, fun i f F h1 h2 => ?_, fun g hg => h.fits g (shrink_of hg).2⟩, ?_⟩
  · obtain ⟨q1, q2⟩ := h.files i f F h1 h2
    exact ⟨⟨q1.1, (shrink_at (.inr (.inr (.inr (.inr (.inr ⟨i, f, h1, .inl rfl⟩)))))).trans q1.2⟩, ⟨q2.1, fun g hg => (shrink_at (.inr (.inr (.inr (.inr (.inr ⟨i, f, h1, .inr hg⟩)))))).trans (q2.2 g hg)⟩⟩
  · intro g cs T fr hg hc
    rcases (shrink_of hg).1 with rfl | rfl | hr | hr | hr | ⟨i, f, hf, hr⟩
    · have := h.blk.1
      rw [hc] at this
      injection this with this
      injection this with _ this
      exact .inl this
    · obtain ⟨es, clock, hq, -⟩ := h.map.1
      rw [hc] at hq
      injection hq with hq
      cases hq
    · exact .inr (.inl (h.rowF.type hr hc))
    · exact .inr (.inr (.inl (h.rowW.type hr hc)))
    · exact .inr (.inr (.inr (.inl (h.rowA.type hr hc))))
    · have hi := (List.getElem?_eq_some_iff.1 hf).1
      obtain ⟨q1, q2⟩ := h.files i f (D.files[i]'(by rw [← h.len]; exact hi)) hf (List.getElem?_eq_getElem _)
      rcases hr with rfl | hr
      · have := q1.1
        rw [hc] at this
        injection this with this
        injection this with _ this
        exact .inr (.inr (.inr (.inr (.inl this))))
      · exact .inr (.inr (.inr (.inr (.inr (q2.type hr hc)))))
theorem IsDisk.shrink {w : World} {ρ : Col} {b : Nat} {D : Dk} (h : IsDisk w ρ b D) : ∃ ρ', IsDisk w ρ' b D ∧ Tight w ρ' ∧ ∀ g, ρ' g ≠ none → ρ g ≠ none :=
  let ⟨L, h⟩ := h; ⟨_, ⟨L, h.shrink.1⟩, h.shrink.2, fun _ hg => (shrink_of hg).2⟩
theorem IsDisk.fits' {w : World} {ρ : Col} {b : Nat} {D : Dk} (h : IsDisk w ρ b D) : Fits w ρ := let ⟨_, h⟩ := h; h.fits
theorem IsDisk.lt {w : World} {ρ : Col} {b : Nat} {D : Dk} (h : IsDisk w ρ b D) : b < w.heap.size := let ⟨_, h⟩ := h; h.blk.lt
theorem IsDisk.keep {w w' : World} {ρ σ : Col} {b : Nat} {D : Dk} (h : IsDisk w ρ b D) (k : Kept σ w w') (hσ : ∀ g, ρ g ≠ none → σ g = none) : IsDisk w' ρ b D :=
  let ⟨L, h⟩ := h; ⟨L, h.keep (Ext.refl _ _) k hσ (h.fits.more k.size)⟩
/-- Both disks stand; what was not the program's disk's is as it was. -/
structure Pair (w : World) (ρ : Col) (b : Nat) (D : Dk) (S : Sh) (w' : World) : Prop where
  disk : ∃ ρ', IsDisk w' ρ' b D ∧ (∀ g, g < w.heap.size → ρ g = none → ρ' g = none)
  kept : Kept ρ w w'
  ref : IsD w' D S
theorem Pair.start {w : World} {ρ : Col} {b : Nat} {D : Dk} {S : Sh} (h : IsDisk w ρ b D) (hr : IsD w D S) : Pair w ρ b D S w := ⟨⟨ρ, h, fun _ _ h => h⟩, Kept.refl _ _, hr⟩
theorem Pair.below {w w1 w2 : World} {ρ : Col} {b : Nat} {D : Dk} {S : Sh} (h : Pair w ρ b D S w1) (hb : Below w1.heap.size w1 w2) : Pair w ρ b D S w2 :=
  let ⟨⟨ρ', h1, h2⟩, h3, h4⟩ := h; ⟨⟨ρ', h1.below hb, h2⟩, ⟨hb.os.trans h3.os, hb.tape.trans h3.tape, hb.output.trans h3.output, Nat.le_trans h3.size hb.size, fun k hk hn => (hb.block k (Nat.lt_of_lt_of_le hk h3.size)).trans (h3.block k hk hn)⟩, h4.below hb⟩
/-- A box of do's own is stored into. -/
theorem Pair.set {w w1 : World} {ρ : Col} {b : Nat} {D : Dk} {S : Sh} (h : Pair w ρ b D S w1) {x : Nat} (hx : w.heap.size ≤ x) {cs : Array Value} (hc : w1.heap[x]? = some (.cells cs 37 (0, 0))) {w2 : World} (h1 : Below x w1 w2) (hk : ∀ g, g ≠ x → w2.heap[g]? = w1.heap[g]?) : Pair w ρ b D S w2 := by
  obtain ⟨⟨ρ', h2, h3⟩, h4, h5⟩ := h
  obtain ⟨ρ₀, d0, t0, l0⟩ := h2.shrink
  have hr : ρ₀ x = none := by
    cases hr : ρ₀ x with
    | none => rfl
    | some c => exact absurd (t0 x cs _ (0, 0) (by rw [hr]; simp) hc) (by decide)
  refine ⟨⟨ρ₀, d0.keep (σ := fun g => if g = x then some 0 else none) ⟨h1.os, h1.tape, h1.output, h1.size, fun k _ hn => hk k (by intro e; simp [e] at hn)⟩ ?_, fun g hg hn => ?_⟩, ⟨h1.os.trans h4.os, h1.tape.trans h4.tape, h1.output.trans h4.output, Nat.le_trans h4.size h1.size, fun k hk2 hn => (hk k (by omega)).trans (h4.block k hk2 hn)⟩, h5.box hc hk⟩
  · intro g hg
    have : g ≠ x := by rintro rfl; exact hg hr
    simp [this]
  · cases hr : ρ₀ g with
    | none => rfl
    | some c => exact absurd (h3 g hg hn) (l0 g (by rw [hr]; simp))
/-- A method of the program's disk, from a world w0 that is w with boxes. -/
theorem Pair.turn {w w0 w1 : World} {ρ ρ₀ : Col} {b : Nat} {D D1 : Dk} {S : Sh} (hb : Below w.heap.size w w0) (hl : ∀ g, ρ₀ g ≠ none → ρ g ≠ none) (ht : Tight w0 ρ₀) (hr : IsD w0 D S) (h : Turned w0 ρ₀ b D1 w1) :
    (∃ ρ', IsDisk w1 ρ' b D1 ∧ (∀ g, g < w.heap.size → ρ g = none → ρ' g = none)) ∧ Kept ρ w w1 ∧ IsD w1 D S ∧ ∀ g, g < w0.heap.size → ρ₀ g = none → w1.heap[g]? = w0.heap[g]? := by
  obtain ⟨ρ', h1, h2, h3⟩ := h
  have hn : ∀ g, ρ g = none → ρ₀ g = none := fun g hg => by
    cases hr : ρ₀ g with
    | none => rfl
    | some c => exact absurd hg (hl g (by rw [hr]; simp))
  refine ⟨⟨ρ', h1, fun g hg hn1 => (h2 g (Nat.lt_of_lt_of_le hg hb.size)).trans (hn g hn1)⟩, (Kept.below hb).then (h3.mono hn), hr.kept h3 ht, h3.block⟩
end Go.Proofs.YthfcmgbkhjnfjaaGreatDoor

namespace Go.Proofs.YthfcmgbkhjnfjaaGreatDoor
open Go.RowKit Go.Maps

theorem assert_errno (v : Value) (w : World) : (Instr.typeAssert (.iface 31 v) 27 31 true).run Tryz.prog w = .ok (.tuple #[v, .bool true]) w := by kernel_rfl
theorem num_err (k : Nat) (h0 : 1 ≤ k) (h1 : k ≤ 12) (w : World) :
    Calls Tryz.prog 28 #[.iface 31 (.int .i64 k)] w fun e w' => e = .returned (.int .i64 k) ∧ w = w' := by
  have E := assert_errno (.int .i64 k)
  have hk0 : (k : Int) ≠ 0 := by omega
  go_enter Tryz.func28, Tryz.ntmps28
  go_wp2_with fail
  refine wp_loop_rounds 1 ?_
  rw [rounds_succ]
  go_wp2_with fail
  go_ret
  exact ⟨rfl, rfl⟩
theorem num_nil (w : World) :
    Calls Tryz.prog 28 #[.nilIface] w fun e w' => e = .returned (.int .i64 0) ∧ w = w' := by
  go_enter Tryz.func28, Tryz.ntmps28
  go_wp2_with fail
  refine wp_loop_rounds 1 ?_
  rw [rounds_succ]
  go_wp2_with fail
  go_ret
  exact ⟨rfl, rfl⟩
theorem num_any (k : Nat) (h1 : k ≤ 12) (w : World) :
    Calls Tryz.prog 28 #[errV k] w fun e w' => e = .returned (.int .i64 k) ∧ w = w' := by
  by_cases h0 : k = 0
  · subst h0; exact num_nil w
  · rw [errV_pos h0]; exact num_err k (by omega) h1 w
abbrev oc (kd n : Int) (nm tx : ByteArray) (ko : Option Addr) (kn kc : Nat) : Array Value := #[.int .i64 kd, .int .i64 n, .string nm, .string tx, .slice ko kn kc]
theorem askedN_le (D : Dk) (l : List ByteArray) : D.askedN l ≤ 12 := by unfold Dk.askedN; (repeat' split) <;> omega
theorem fileN_le' (D : Dk) (s : ByteArray) : D.fileN s ≤ 12 := by
  have := askedN_le D [s]
  unfold Dk.fileN; repeat' split
  all_goals omega
theorem create_le (D : Dk) (s : ByteArray) : (D.create s).1 ≤ 12 := by
  have := fileN_le' D s
  unfold Dk.create; repeat' split
  all_goals first | exact this | simp
theorem write_le (D : Dk) (s t : ByteArray) : (D.write s t).1 ≤ 12 := by
  have := fileN_le' D s
  unfold Dk.write; repeat' split
  all_goals first | exact this | simp
theorem cut_le (D : Dk) (s : ByteArray) (n : Int) : (D.cutFile s n).1 ≤ 12 := by
  have := fileN_le' D s
  unfold Dk.cutFile; repeat' split
  all_goals first | exact this | simp
theorem sync_le (D : Dk) (s : ByteArray) : (D.sync s).1 ≤ 12 := by
  have := fileN_le' D s
  unfold Dk.sync; repeat' split
  all_goals first | exact this | simp
theorem rename_le (D : Dk) (s t : ByteArray) : (D.rename s t).1 ≤ 12 := by
  have := askedN_le D [s, t]
  unfold Dk.rename; repeat' split
  all_goals first | exact this | simp
theorem remove_le (D : Dk) (s : ByteArray) : (D.remove s).1 ≤ 12 := by
  have := fileN_le' D s
  unfold Dk.remove; repeat' split
  all_goals first | exact this | simp
theorem syncDir_le (D : Dk) : D.syncDir.1 ≤ 12 := by unfold Dk.syncDir; repeat' split
                                                     all_goals simp
/-- What is asked of the disks ahead of an operation. -/
structure DoOk (D : Dk) (nm tx : ByteArray) : Prop where
  nm : nm.size ≤ 1000
  tx : tx.size ≤ 1000
  ok : D.Ok
  hu : D.units ≤ 90000000
  r0 : 0 ≤ D.room
  r1 : D.room ≤ 9223372036854775807
/-- do's three boxes. -/
structure DoBx (w : World) (N : Nat) (d o : Array Value) (W : World) : Prop where
  b0 : W.heap[N]? = some (.cells d 37 (0, 0))
  b1 : W.heap[N + 1]? = some (.cells o 40 (0, 0))
  b2 : W.heap[N + 1 + 1]? = some (.cells zc 37 (0, 0))
theorem DoBx.keep {w : World} {N : Nat} {d o : Array Value} {W W' : World} (h : DoBx w N d o W) (hk : ∀ g, g < W.heap.size → N ≤ g → g ≤ N + 1 + 1 → W'.heap[g]? = W.heap[g]?) : DoBx w N d o W' :=
  ⟨(hk N (heap_size_of h.b0) (Nat.le_refl _) (by omega)).trans h.b0, (hk (N + 1) (heap_size_of h.b1) (by omega) (by omega)).trans h.b1, (hk (N + 1 + 1) (heap_size_of h.b2) (by omega) (Nat.le_refl _)).trans h.b2⟩
theorem DoBx.below {w : World} {N : Nat} {d o : Array Value} {W W' : World} (h : DoBx w N d o W) (hb : Below W.heap.size W W') : DoBx w N d o W' := h.keep fun g hg _ _ => hb.block g hg
theorem DoBx.c0 {w : World} {N : Nat} {x0 x1 x2 x3 x4 x5 x6 x7 x8 : Value} {o : Array Value} {W : World} (h : DoBx w N #[x0, x1, x2, x3, x4, x5, x6, x7, x8] o W) :
    (W.cell? ⟨N, 0, none⟩ = some x0 ∧ W.cell? ⟨N, 1, none⟩ = some x1 ∧ W.cell? ⟨N, 2, none⟩ = some x2 ∧ W.cell? ⟨N, 3, none⟩ = some x3 ∧ W.cell? ⟨N, 4, none⟩ = some x4 ∧ W.cell? ⟨N, 5, none⟩ = some x5 ∧ W.cell? ⟨N, 6, none⟩ = some x6 ∧ W.cell? ⟨N, 7, none⟩ = some x7 ∧ W.cell? ⟨N, 8, none⟩ = some x8) ∧
    (W.frozen? ⟨N, 0, none⟩ = false ∧ W.frozen? ⟨N, 1, none⟩ = false ∧ W.frozen? ⟨N, 2, none⟩ = false ∧ W.frozen? ⟨N, 3, none⟩ = false ∧ W.frozen? ⟨N, 4, none⟩ = false ∧ W.frozen? ⟨N, 5, none⟩ = false ∧ W.frozen? ⟨N, 6, none⟩ = false ∧ W.frozen? ⟨N, 7, none⟩ = false ∧ W.frozen? ⟨N, 8, none⟩ = false) := box9 h.b0
theorem DoBx.c1 {w : World} {N : Nat} {x0 x1 x2 x3 x4 : Value} {d : Array Value} {W : World} (h : DoBx w N d #[x0, x1, x2, x3, x4] W) :
    W.cell? ⟨N + 1, 0, none⟩ = some x0 ∧ W.cell? ⟨N + 1, 1, none⟩ = some x1 ∧ W.cell? ⟨N + 1, 2, none⟩ = some x2 ∧ W.cell? ⟨N + 1, 3, none⟩ = some x3 ∧ W.cell? ⟨N + 1, 4, none⟩ = some x4 :=
  ⟨by simp [World.cell?, h.b1], by simp [World.cell?, h.b1], by simp [World.cell?, h.b1], by simp [World.cell?, h.b1], by simp [World.cell?, h.b1]⟩
theorem DoBx.c2 {w : World} {N : Nat} {d o : Array Value} {W : World} (h : DoBx w N d o W) :
    (W.cell? ⟨N + 1 + 1, 0, none⟩ = some (.int .i64 0) ∧ W.cell? ⟨N + 1 + 1, 1, none⟩ = some (.slice none 0 0) ∧ W.cell? ⟨N + 1 + 1, 2, none⟩ = some (.slice none 0 0) ∧ W.cell? ⟨N + 1 + 1, 3, none⟩ = some (.slice none 0 0) ∧ W.cell? ⟨N + 1 + 1, 4, none⟩ = some (.int .i64 0) ∧ W.cell? ⟨N + 1 + 1, 5, none⟩ = some (.int .i64 0) ∧ W.cell? ⟨N + 1 + 1, 6, none⟩ = some (.bool false) ∧ W.cell? ⟨N + 1 + 1, 7, none⟩ = some (.bool false) ∧ W.cell? ⟨N + 1 + 1, 8, none⟩ = some (.slice none 0 0)) ∧
    (W.frozen? ⟨N + 1 + 1, 0, none⟩ = false ∧ W.frozen? ⟨N + 1 + 1, 1, none⟩ = false ∧ W.frozen? ⟨N + 1 + 1, 2, none⟩ = false ∧ W.frozen? ⟨N + 1 + 1, 3, none⟩ = false ∧ W.frozen? ⟨N + 1 + 1, 4, none⟩ = false ∧ W.frozen? ⟨N + 1 + 1, 5, none⟩ = false ∧ W.frozen? ⟨N + 1 + 1, 6, none⟩ = false ∧ W.frozen? ⟨N + 1 + 1, 7, none⟩ = false ∧ W.frozen? ⟨N + 1 + 1, 8, none⟩ = false) := box9 h.b2
/-- do ended: both disks stand as D'. -/
def DoP (w : World) (ρ : Col) (b : Nat) (D' : Dk) (e : Ending) (w' : World) : Prop := ∃ S : Sh, e = .returned (.tuple #[dv D' S, .bool true]) ∧ Pair w ρ b D' S w'
/-- The reference's new disk is stored. -/
theorem DoBx.disk {w : World} {N : Nat} {a0 a1 a2 a3 a4 a5 a6 a7 a8 : Value} {o : Array Value} {W : World} (h : DoBx w N #[a0, a1, a2, a3, a4, a5, a6, a7, a8] o W) {ρ : Col} {b : Nat} {D : Dk} {S : Sh} (hN : w.heap.size = N) (hP : Pair w ρ b D S W) :
    DoBx w N (dc D S) o (all9 W N (.int .i64 D.room) (.slice S.fo S.fn S.fc) (.slice S.so S.sn S.sc) (.slice S.wo S.wn S.wk) (.int .i64 D.units) (.int .i64 D.left) (.bool D.armed) (.bool D.gone) (.slice S.ao S.an S.ac)) ∧
    Pair w ρ b D S (all9 W N (.int .i64 D.room) (.slice S.fo S.fn S.fc) (.slice S.so S.sn S.sc) (.slice S.wo S.wn S.wk) (.int .i64 D.units) (.int .i64 D.left) (.bool D.armed) (.bool D.gone) (.slice S.ao S.an S.ac)) := by
  have h9 := (stored9 h.b0 h.b1 (Nat.succ_ne_self N) (Below.refl N W) (.int .i64 D.room) (.slice S.fo S.fn S.fc) (.slice S.so S.sn S.sc) (.slice S.wo S.wn S.wk) (.int .i64 D.units) (.int .i64 D.left) (.bool D.armed) (.bool D.gone) (.slice S.ao S.an S.ac))
  have hk := fun g (hg : g ≠ N) => all9_heap W N (.int .i64 D.room) (.slice S.fo S.fn S.fc) (.slice S.so S.sn S.sc) (.slice S.wo S.wn S.wk) (.int .i64 D.units) (.int .i64 D.left) (.bool D.armed) (.bool D.gone) (.slice S.ao S.an S.ac) g hg
  exact ⟨⟨h9.1, h9.2.1, (hk _ (by omega)).trans h.b2⟩, hP.set (Nat.le_of_eq hN) h.b0 h9.2.2 hk⟩
/-- The result. -/
theorem DoBx.done {w : World} {N : Nat} {d o : Array Value} {W : World} (h : DoBx w N d o W) {ρ : Col} {b : Nat} {D : Dk} {S : Sh} (hN : w.heap.size = N) (hP : Pair w ρ b D S W) :
    ∀ W', W' = (all9 W (N + 1 + 1) (.int .i64 D.room) (.slice S.fo S.fn S.fc) (.slice S.so S.sn S.sc) (.slice S.wo S.wn S.wk) (.int .i64 D.units) (.int .i64 D.left) (.bool D.armed) (.bool D.gone) (.slice S.ao S.an S.ac)).drew → DoP w ρ b D (.returned (.tuple #[dv D S, .bool true])) W' := by
  rintro W' rfl
  refine ⟨S, rfl, (hP.set (x := N + 1 + 1) (by omega) h.b2 ?_ fun g hg => all9_heap W (N + 1 + 1) (.int .i64 D.room) (.slice S.fo S.fn S.fc) (.slice S.so S.sn S.sc) (.slice S.wo S.wn S.wk) (.int .i64 D.units) (.int .i64 D.left) (.bool D.armed) (.bool D.gone) (.slice S.ao S.an S.ac) g hg).below (Below.drew (Below.refl _ _))⟩
  exact below_all9 (Below.refl _ _) (Nat.le_refl _) _ _ _ _ _ _ _ _ _
/-- Behind the program's method: what stands. -/
theorem DoBx.turned {w W0 w1 : World} {N : Nat} {d o : Array Value} (h : DoBx w N d o W0) {ρ ρ₀ : Col} {b : Nat} {D D1 : Dk} {S : Sh} (hN : w.heap.size = N) (hf : Fits w ρ) (hb : Below w.heap.size w W0) (hl : ∀ g, ρ₀ g ≠ none → ρ g ≠ none) (ht : Tight W0 ρ₀) (hr : IsD W0 D S) (hT : Turned W0 ρ₀ b D1 w1) :
    DoBx w N d o w1 ∧ IsD w1 D S ∧ ∀ S' w2, IsD w2 D1 S' → Below w1.heap.size w1 w2 → Pair w ρ b D1 S' w2 := by
  obtain ⟨h1, h2, h3, h4⟩ := Pair.turn hb hl ht hr hT
  refine ⟨h.keep fun g hg hN1 _ => h4 g hg ?_, h3, fun S' w2 hI hb2 => ?_⟩
  · cases hq : ρ₀ g with
    | none => rfl
    | some c => exact absurd (hf g (hl g (by rw [hq]; simp))) (by omega)
  · obtain ⟨ρ', d1, d2⟩ := h1
    exact ⟨⟨ρ', d1.below hb2, d2⟩, ⟨hb2.os.trans h2.os, hb2.tape.trans h2.tape, hb2.output.trans h2.output, Nat.le_trans h2.size hb2.size, fun k hk hn => (hb2.block k (Nat.lt_of_lt_of_le hk h2.size)).trans (h2.block k hk hn)⟩, hI⟩
end Go.Proofs.YthfcmgbkhjnfjaaGreatDoor

namespace Go.Proofs.YthfcmgbkhjnfjaaGreatDoor
open Go.RowKit Go.Maps

/-- What an operation makes of a disk. -/
def Dk.actF (D : Dk) (kd n : Int) (nm tx : ByteArray) (ds : List Int) : Dk :=
  if kd = 1 then (D.create nm).2 else if kd = 2 then (D.write nm tx).2 else if kd = 3 then (D.cutFile nm n).2 else if kd = 4 then (D.sync nm).2
  else if kd = 5 then (D.rename nm tx).2 else if kd = 6 then (D.remove nm).2 else if kd = 7 then D.syncDir.2 else if kd = 8 then (if n < 0 then D else D.arm n) else if kd = 9 then D.crash n ds else D
/-- What a disk is made of, behind k operations. -/
structure Kp (r : Int) (k : Nat) (D : Dk) : Prop where
  tidy : Maps.Tidy D.dir
  points : Points D.dir D.files.length
  waits : ∀ e ∈ D.waits, EnOk D.files.length e ∧ EnFits e
  names : Maps.size D.dir + D.waits.length ≤ k
  files : ∀ F ∈ D.files, (∀ x ∈ F.waits, x.cut = true → 0 ≤ x.place) ∧ F.mass ≤ 200 * k ∧ F.waits.length ≤ k
  lots : D.files.length ≤ k
  acts : D.acts.length ≤ k
  room : D.room = r
/-- Its power, behind k operations. -/
structure Pw (k : Nat) (D : Dk) : Prop where
  units0 : 0 ≤ D.units
  units1 : D.units ≤ 200 * k
  left0 : 0 ≤ D.left
  left1 : D.left ≤ 9223372036854775807
theorem Kp.ok {r : Int} {k : Nat} {D : Dk} (h : Kp r k D) (p : Pw k D) (hk : k ≤ 1000) : D.Ok where
  points := h.points
  waits := fun e he => (h.waits e he).1
  fits := fun e he => (h.waits e he).2
  names := by have := h.names; omega
  many := by have := h.names; omega
  files := fun F hF => ⟨(h.files F hF).1, by have := (h.files F hF).2.1; omega, by have := (h.files F hF).2.2; omega⟩
  lots := by have := h.lots; omega
  acts := by have := h.acts; omega
  units0 := p.units0
  units1 := by have := p.units1; omega
  left0 := p.left0
  left1 := p.left1
theorem points_up {M : DataW Unit} {n m : Nat} (h : Points M n) (hn : n ≤ m) : Points M m := fun k hk => let ⟨i, hi, hz⟩ := h k hk; ⟨i, by omega, hz⟩
theorem enOk_up {n m : Nat} {e : En} (h : EnOk n e) (hn : n ≤ m) : EnOk m e := fun hp => by have := h hp; omega
theorem Kp.up {r : Int} {k m : Nat} {D : Dk} (h : Kp r k D) (hk : k ≤ m) : Kp r m D where
  tidy := h.tidy
  points := h.points
  waits := h.waits
  names := by have := h.names; omega
  files := fun F hF => ⟨(h.files F hF).1, by have := (h.files F hF).2.1; omega, by have := (h.files F hF).2.2; omega⟩
  lots := by have := h.lots; omega
  acts := by have := h.acts; omega
  room := h.room
theorem Kp.spend {r : Int} {k : Nat} {D : Dk} (h : Kp r k D) (m : Int) : Kp r k (D.spend m) := ⟨h.tidy, h.points, h.waits, h.names, h.files, h.lots, h.acts, h.room⟩
theorem Pw.up {k m : Nat} {D : Dk} (h : Pw k D) (hk : k ≤ m) : Pw m D := ⟨h.units0, by have := h.units1; omega, h.left0, h.left1⟩
theorem Pw.spend {k : Nat} {D : Dk} (h : Pw k D) (m : Int) (h0 : 0 ≤ m) (h1 : m ≤ 200) : Pw (k + 1) (D.spend m) := by
  have hu0 := h.units0
  have hu1 := h.units1
  have hl0 := h.left0
  have hl1 := h.left1
  have h2 : 0 ≤ D.spent m ∧ D.spent m ≤ m := by unfold Dk.spent; split <;> omega
  have h3 : D.armed = true → D.spent m ≤ D.left := fun ha => by
    unfold Dk.spent
    split
    · omega
    · rename_i hx; have : ¬ D.left < m := fun hl => hx ⟨ha, hl⟩; omega
  refine ⟨?_, ?_, ?_, ?_⟩
  · show 0 ≤ D.units + D.spent m; omega
  · show D.units + D.spent m ≤ _; omega
  · show 0 ≤ if D.armed = true then D.left - D.spent m else D.left
    split
    · rename_i ha; have := h3 ha; omega
    · omega
  · show (if D.armed = true then D.left - D.spent m else D.left) ≤ _
    split <;> omega
/-- A step of the law. -/
structure Stp (r : Int) (k : Nat) (D' : Dk) : Prop where
  keeps : Kp r (k + 1) D'
  power : Pw (k + 1) D'
theorem Stp.same {r : Int} {k : Nat} {D : Dk} (h : Kp r k D) (p : Pw k D) : Stp r k D := ⟨h.up (by omega), p.up (by omega)⟩
theorem Stp.spend {r : Int} {k : Nat} {D : Dk} (h : Kp r k D) (p : Pw k D) (m : Int) (h0 : 0 ≤ m) (h1 : m ≤ 200) : Stp r k (D.spend m) := ⟨(h.spend m).up (by omega), p.spend m h0 h1⟩
/-- A step that changes what the disk is made of, too. -/
theorem Stp.of {r : Int} {k : Nat} {D D' : Dk} (p : Pw k D) (m : Int) (h0 : 0 ≤ m) (h1 : m ≤ 200) (hk : Kp r (k + 1) D') (hu : D'.units = (D.spend m).units) (hl : D'.left = (D.spend m).left) : Stp r k D' := by
  have q := p.spend m h0 h1
  exact ⟨hk, ⟨hu ▸ q.units0, hu ▸ q.units1, hl ▸ q.left0, hl ▸ q.left1⟩⟩
/-! ### What the methods make -/
theorem Fl.push_mass (F : Fl) (x : Wt) : (F.push x).mass = F.mass + x.text.size := by
  unfold Fl.mass Fl.push
  simp [List.map_append, List.sum_append]
  omega
theorem play_size : ∀ (l : List En) (M : DataW Unit) (n : Nat), Maps.Tidy M → Points M n → (∀ e ∈ l, EnOk n e) → Maps.size (play M l) ≤ Maps.size M + l.length
  | [], M, n, t, _, _ => Nat.le_refl _
  | e :: l, M, n, t, h, he => by
    have h1 := play_points (n := n) [e] M t h (fun x hx => he x (by simp at hx; simp [hx]))
    have h2 := play_size l (playOne M e) n h1.2 h1.1 fun x hx => he x (List.mem_cons_of_mem _ hx)
    have h3 := playOne_size e t
    show Maps.size (play (playOne M e) l) ≤ _
    simp only [List.length_cons]
    omega
section
variable {r : Int} {k : Nat} {D : Dk} (h : Kp r k D)
include h
theorem Kp.dirOf : Points D.dirOf D.files.length ∧ Maps.Tidy D.dirOf := play_points D.waits D.dir h.tidy h.points fun e he => (h.waits e he).1
theorem Kp.idx {s : ByteArray} (hh : Maps.has D.dirOf (nameK s) = true) : D.idx s < D.files.length := by
  obtain ⟨i, hi, hz⟩ := h.dirOf.1 _ hh
  unfold Dk.idx
  rw [hz]
  simpa using hi
theorem Kp.set {i : Nat} {F : Fl} (hF : (∀ x ∈ F.waits, x.cut = true → 0 ≤ x.place) ∧ F.mass ≤ 200 * (k + 1) ∧ F.waits.length ≤ k + 1) (m : Int) (a : Ac) : Kp r (k + 1) (((D.spend m).setFile i F).did a) where
  tidy := h.tidy
  points := by show Points D.dir (D.files.set i F).length; rw [List.length_set]; exact h.points
  waits := by show ∀ e ∈ D.waits, EnOk (D.files.set i F).length e ∧ EnFits e; rw [List.length_set]; exact h.waits
  names := by have := h.names; show Maps.size D.dir + D.waits.length ≤ _; omega
  files := by
    show ∀ G ∈ D.files.set i F, _
    intro G hG
    rcases List.mem_or_eq_of_mem_set hG with hG | rfl
    · obtain ⟨g1, g2, g3⟩ := h.files G hG
      exact ⟨g1, by omega, by omega⟩
    · exact hF
  lots := by have := h.lots; show (D.files.set i F).length ≤ _; rw [List.length_set]; omega
  acts := by have := h.acts; show (D.acts ++ [a]).length ≤ _; rw [List.length_append]; simp; omega
  room := h.room
theorem Kp.move {e : En} (he : EnOk D.files.length e ∧ EnFits e) (m : Int) (a : Ac) : Kp r (k + 1) (((D.spend m).moved e).did a) where
  tidy := h.tidy
  points := h.points
  waits := by
    show ∀ x ∈ D.waits ++ [e], _
    intro x hx
    rcases List.mem_append.1 hx with hx | hx
    · exact h.waits x hx
    · obtain rfl := List.mem_singleton.1 hx; exact he
  names := by have := h.names; show Maps.size D.dir + (D.waits ++ [e]).length ≤ _; rw [List.length_append]; simp; omega
  files := fun G hG => by
    obtain ⟨g1, g2, g3⟩ := h.files G hG
    exact ⟨g1, by omega, by omega⟩
  lots := by have := h.lots; show D.files.length ≤ _; omega
  acts := by have := h.acts; show (D.acts ++ [a]).length ≤ _; rw [List.length_append]; simp; omega
  room := h.room
theorem Kp.note (m : Int) (a : Ac) : Kp r (k + 1) ((D.spend m).did a) where
  tidy := h.tidy
  points := h.points
  waits := h.waits
  names := by have := h.names; show Maps.size D.dir + D.waits.length ≤ _; omega
  files := fun G hG => by
    obtain ⟨g1, g2, g3⟩ := h.files G hG
    exact ⟨g1, by omega, by omega⟩
  lots := by have := h.lots; show D.files.length ≤ _; omega
  acts := by have := h.acts; show (D.acts ++ [a]).length ≤ _; rw [List.length_append]; simp; omega
  room := h.room
theorem Kp.make (hk : k ≤ 1000) {s : ByteArray} (hs : s.size ≤ 1000) (m : Int) (a : Ac) : Kp r (k + 1) ((((D.spend m).moved (En.made s D.files.length)).grew).did a) where
  tidy := h.tidy
  points := by show Points D.dir (D.files ++ [Fl.fresh]).length; exact points_up h.points (by rw [List.length_append]; simp)
  waits := by
    show ∀ x ∈ D.waits ++ [En.made s D.files.length], EnOk (D.files ++ [Fl.fresh]).length x ∧ EnFits x
    have hl : (D.files ++ [Fl.fresh]).length = D.files.length + 1 := by rw [List.length_append]; rfl
    rw [hl]
    intro x hx
    rcases List.mem_append.1 hx with hx | hx
    · exact ⟨enOk_up (h.waits x hx).1 (by omega), (h.waits x hx).2⟩
    · obtain rfl := List.mem_singleton.1 hx
      have := h.lots
      exact ⟨fun _ => Nat.lt_succ_self _, hs, by show 0 ≤ 1000; decide, by show D.files.length ≤ 10000000; omega⟩
  names := by have := h.names; show Maps.size D.dir + (D.waits ++ [_]).length ≤ _; rw [List.length_append]; simp; omega
  files := by
    show ∀ G ∈ D.files ++ [Fl.fresh], _
    intro G hG
    rcases List.mem_append.1 hG with hG | hG
    · obtain ⟨g1, g2, g3⟩ := h.files G hG
      exact ⟨g1, by omega, by omega⟩
    · obtain rfl := List.mem_singleton.1 hG
      exact ⟨(by intro x hx; cases hx), by show 0 ≤ _; omega, by show 0 ≤ _; omega⟩
  lots := by have := h.lots; show (D.files ++ [Fl.fresh]).length ≤ _; rw [List.length_append]; simp; omega
  acts := by have := h.acts; show (D.acts ++ [a]).length ≤ _; rw [List.length_append]; simp; omega
  room := h.room
theorem Kp.name (m : Int) (a : Ac) : Kp r (k + 1) (((D.spend m).named D.dirOf).did a) where
  tidy := h.dirOf.2
  points := h.dirOf.1
  waits := by intro e he; cases he
  names := by
    have h1 := h.names
    have h2 := play_size D.waits D.dir D.files.length h.tidy h.points fun e he => (h.waits e he).1
    show Maps.size (play D.dir D.waits) + 0 ≤ _
    omega
  files := fun G hG => by
    obtain ⟨g1, g2, g3⟩ := h.files G hG
    exact ⟨g1, by omega, by omega⟩
  lots := by have := h.lots; show D.files.length ≤ _; omega
  acts := by have := h.acts; show (D.acts ++ [a]).length ≤ _; rw [List.length_append]; simp; omega
  room := h.room
theorem Kp.fileAt (s : ByteArray) : (∀ x ∈ (D.fileAt s).waits, x.cut = true → 0 ≤ x.place) ∧ (D.fileAt s).mass ≤ 200 * k ∧ (D.fileAt s).waits.length ≤ k := by
  unfold Dk.fileAt
  rw [List.getD_eq_getElem?_getD]
  cases hg : D.files[D.idx s]? with
  | none => exact ⟨(by intro x hx; cases hx), by show 0 ≤ _; omega, by show 0 ≤ _; omega⟩
  | some F => exact h.files F (List.mem_of_getElem? hg)
theorem Kp.text (s : ByteArray) : (D.text s).size ≤ 200 * k := by
  unfold Dk.text
  split
  · rename_i F hF
    have h1 := (h.files F (List.mem_of_getElem? hF)).2.1
    have h2 := F.behind_size (-1)
    exact Nat.le_trans h2 h1
  · show 0 ≤ _; omega
theorem Kp.arm (n : Int) : Kp r k (D.arm n) := ⟨h.tidy, h.points, h.waits, h.names, h.files, h.lots, h.acts, h.room⟩
theorem Kp.crash (dir : Int) (ds : List Int) : Kp r k (D.crash dir ds) where
  tidy := (play_points (D.waits.take (cutN D dir)) D.dir h.tidy h.points fun e he => (h.waits e (List.mem_of_mem_take he)).1).2
  points := by
    show Points (play D.dir (D.waits.take (cutN D dir))) (crashFiles D.files ds D.files.length).length
    rw [crash_len]
    exact (play_points (D.waits.take (cutN D dir)) D.dir h.tidy h.points fun e he => (h.waits e (List.mem_of_mem_take he)).1).1
  waits := by intro e he; cases he
  names := by
    have h1 := h.names
    have h2 := play_size (D.waits.take (cutN D dir)) D.dir D.files.length h.tidy h.points fun e he => (h.waits e (List.mem_of_mem_take he)).1
    rw [List.length_take] at h2
    show Maps.size (play D.dir (D.waits.take (cutN D dir))) + 0 ≤ _
    omega
  files := by
    show ∀ G ∈ crashFiles D.files ds D.files.length, _
    intro F hF
    unfold crashFiles at hF
    rw [List.mem_mapIdx] at hF
    obtain ⟨i, hi, rfl⟩ := hF
    have hG := h.files _ (List.getElem_mem hi)
    rw [if_pos hi]
    refine ⟨(by intro x hx; cases hx), ?_, by show 0 ≤ _; omega⟩
    have h1 := (D.files[i]).behind_size (unitsAt ds i)
    have h2 := hG.2.1
    show (Fl.behind _ _).size + 0 ≤ _
    omega
  lots := by show (crashFiles D.files ds D.files.length).length ≤ _; rw [crash_len]; exact h.lots
  acts := h.acts
  room := h.room
end
theorem has_of_fileN {D : Dk} {s : ByteArray} (h : D.fileN s = 0) : Maps.has D.dirOf (nameK s) = true := by
  unfold Dk.fileN at h
  split at h
  · split at h
    · assumption
    · cases h
  · rename_i hx; exact absurd h hx
set_option maxHeartbeats 800000 in
theorem act_step {r : Int} {k : Nat} {D : Dk} (h : Kp r k D) (p : Pw k D) (hk : k ≤ 1000) (kd m : Int) (hm : m ≤ 9223372036854775807) (ds : List Int) {nm tx : ByteArray} (hnm : nm.size ≤ 100) (htx : tx.size ≤ 200) : Stp r k (D.actF kd m nm tx ds) := by
  have S := Stp.same h p
  have S1 := Stp.spend h p 1 (by decide) (by decide)
  unfold Dk.actF
  split
  · unfold Dk.create
    split; · exact S
    split; · exact S
    split; · exact S1
    exact Stp.of p 1 (by decide) (by decide) (h.make hk (by omega) 1 _) rfl rfl
  split
  · unfold Dk.write
    split; · exact S
    split; · exact S
    show Stp r k (D.wrote nm tx (D.spent tx.size))
    unfold Dk.wrote
    split
    · have hx : (tx.extract 0 (D.spent tx.size).toNat).size ≤ 200 := by rw [ByteArray.size_extract]; omega
      obtain ⟨f1, f2, f3⟩ := h.fileAt nm
      refine Stp.of p tx.size (by omega) (by omega) (h.set ⟨?_, ?_, ?_⟩ _ _) rfl rfl
      · show ∀ x ∈ (D.fileAt nm).waits ++ [_], _
        intro x hx
        rcases List.mem_append.1 hx with hx | hx
        · exact f1 x hx
        · obtain rfl := List.mem_singleton.1 hx; intro hc; cases hc
      · rw [Fl.push_mass]; show _ + (tx.extract 0 (D.spent tx.size).toNat).size ≤ _; omega
      · show ((D.fileAt nm).waits ++ [_]).length ≤ _; rw [List.length_append]; simp; omega
    · exact Stp.spend h p _ (by omega) (by omega)
  split
  · unfold Dk.cutFile
    split; · exact S
    split; · exact S
    rename_i hcut
    split; · exact S1
    obtain ⟨f1, f2, f3⟩ := h.fileAt nm
    refine Stp.of p 1 (by decide) (by decide) (h.set ⟨?_, ?_, ?_⟩ _ _) rfl rfl
    · show ∀ x ∈ (D.fileAt nm).waits ++ [_], _
      intro x hx
      rcases List.mem_append.1 hx with hx | hx
      · exact f1 x hx
      · obtain rfl := List.mem_singleton.1 hx; intro _; show 0 ≤ m; omega
    · rw [Fl.push_mass]; show _ + 0 ≤ _; omega
    · show ((D.fileAt nm).waits ++ [_]).length ≤ _; rw [List.length_append]; simp; omega
  split
  · unfold Dk.sync
    split; · exact S
    split; · exact S1
    refine Stp.of p 1 (by decide) (by decide) (h.set ⟨(by intro x hx; cases hx), ?_, by show 0 ≤ _; omega⟩ _ _) rfl rfl
    have := h.text nm
    show (D.text nm).size + 0 ≤ _
    omega
  split
  · unfold Dk.rename
    split; · exact S
    split; · exact S
    rename_i hh
    split; · exact S1
    have hh' : Maps.has D.dirOf (nameK nm) = true := by simpa using hh
    have hi := h.idx hh'
    have hl := h.lots
    show Stp r k (D.renamed nm tx)
    unfold Dk.renamed
    split
    · exact Stp.of p 1 (by decide) (by decide) (h.note 1 _) rfl rfl
    · exact Stp.of p 1 (by decide) (by decide) (h.move ⟨fun _ => hi, by show tx.size ≤ 1000; omega, by show nm.size ≤ 1000; omega, by show D.idx nm ≤ 10000000; omega⟩ 1 _) rfl rfl
  split
  · unfold Dk.remove
    split; · exact S
    split; · exact S1
    exact Stp.of p 1 (by decide) (by decide) (h.move ⟨fun hp => absurd rfl hp, by show 0 ≤ 1000; decide, by show nm.size ≤ 1000; omega, by show 0 ≤ 10000000; decide⟩ 1 _) rfl rfl
  split
  · unfold Dk.syncDir
    split; · exact S
    split; · exact S1
    exact Stp.of p 1 (by decide) (by decide) (h.name 1 _) rfl rfl
  split
  · split
    · exact S
    · exact ⟨(h.arm m).up (by omega), ⟨p.units0, by have := p.units1; show D.units ≤ _; omega, by show 0 ≤ m; omega, hm⟩⟩
  split
  · exact ⟨(h.crash m ds).up (by omega), ⟨p.units0, by have := p.units1; show D.units ≤ _; omega, p.left0, p.left1⟩⟩
  · exact S
end Go.Proofs.YthfcmgbkhjnfjaaGreatDoor
