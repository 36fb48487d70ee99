/- Both disks in a law's loop: what stands, and what an operation, a store, stands make of it. -/
import Derived.Test.YthfcmgbkhjnfjaaGreatDoorVT
import Derived.Test.YthfcmgbkhjnfjaaGreatDoorPStands
import Derived.Test.YthfcmgbkhjnfjaaGreatDoorVV
namespace Go.Proofs.YthfcmgbkhjnfjaaGreatDoor
open Go.RowKit Go.Maps

/-- Both disks stand; σ: what has no colour is kept for ever; N: the box of the reference's disk, which holds d. -/
structure PL (σ : Col) (b N : Nat) (r : Int) (k : Nat) (D : Dk) (S : Sh) (d : Array Value) (W : World) : Prop where
  box : W.heap[N]? = some (.cells d 37 (0, 0))
  disk : ∃ ρ, IsDisk W ρ b D ∧ ∀ g, σ g = none → ρ g = none
  ref : IsD W D S
  kp : Kp r k D
  pw : Pw k D
  ks : KeysSmall D.dir
theorem PL.below {σ : Col} {b N : Nat} {r : Int} {k : Nat} {D : Dk} {S : Sh} {d : Array Value} {W W' : World} (h : PL σ b N r k D S d W) (hb : Below W.heap.size W W') : PL σ b N r k D S d W' :=
  ⟨(hb.block N (heap_size_of h.box)).trans h.box, let ⟨ρ, h1, h2⟩ := h.disk; ⟨ρ, h1.below hb, h2⟩, h.ref.below hb, h.kp, h.pw, h.ks⟩
/-- The blocks below B. -/
def lowCol (B : Nat) : Col := fun g => if g < B then none else some 0
theorem lowCol_lt {B g : Nat} (h : g < B) : lowCol B g = none := if_pos h
theorem lowCol_ge {B g : Nat} (h : lowCol B g = none) : g < B := by
  unfold lowCol at h
  split at h
  · assumption
  · cases h
theorem act_ref {σ : Col} {b N : Nat} {r : Int} {k : Nat} {D D' : Dk} {S S' : Sh} {d : Array Value} {W W' : World} {ρ : Col} (h : PL σ b N r k D S d W) (ht : Tight W ρ) (hσ : ∀ g, σ g = none → ρ g = none) (hf : ∀ g, σ g = none → g < W.heap.size) (hp : Pair W ρ b D' S' W') (st : Stp r k D') (ks : KeysSmall D'.dir) : PL σ b N r (k + 1) D' S' d W' ∧ Kept σ W W' := by
  have hN : ρ N = none := by
    cases hr : ρ N with
    | none => rfl
    | some c => exact absurd (ht N d _ (0, 0) (by rw [hr]; simp) h.box) (by decide)
  obtain ⟨ρ', h1, h2⟩ := hp.disk
  exact ⟨⟨(hp.kept.block N (heap_size_of h.box) hN).trans h.box, ⟨ρ', h1, fun g hg => h2 g (hf g hg) (hσ g hg)⟩, hp.ref, st.keeps, st.power, ks⟩, hp.kept.mono hσ⟩
/-- An operation. -/
theorem PL.act {σ : Col} {b N : Nat} {r : Int} {k : Nat} {D : Dk} {S : Sh} {d : Array Value} {W : World} (h : PL σ b N r k D S d W) {B : Nat} (hB : B ≤ W.heap.size) (hσB : ∀ g, g < B → σ g = none) (hf : ∀ g, σ g = none → g < W.heap.size) (hk : k ≤ 1000) (hr0 : 0 ≤ r) (hr1 : r ≤ 9223372036854775807) (kd n : Int) (nm tx : ByteArray) (ko : Option Addr) (kn kc : Nat) (hn0 : -9223372036854775808 ≤ n) (hn1 : n ≤ 9223372036854775807) (hnm : nm.size ≤ 100) (htx : tx.size ≤ 200) (hds : ∃ ds, KeepAt B W (.slice ko kn kc) ds) :
    Calls Tryz.prog 9 #[.pointer (some ⟨b, 0, none⟩), dv D S, .agg #[.int .i64 kd, .int .i64 n, .string nm, .string tx, .slice ko kn kc]] W fun e w1 => ∃ D' S', e = .returned (.tuple #[dv D' S', .bool true]) ∧ PL σ b N r (k + 1) D' S' d w1 ∧ Kept σ W w1 := by
  obtain ⟨ds, hds⟩ := hds
  obtain ⟨ρ₁, d1, s1⟩ := h.disk
  obtain ⟨ρ, d0, t0, l0⟩ := d1.shrink
  have hσ : ∀ g, σ g = none → ρ g = none := fun g hg => by
    cases hr : ρ g with
    | none => rfl
    | some c => exact absurd (s1 g hg) (l0 g (by rw [hr]; simp))
  have hroom := h.kp.room
  have hu := h.pw.units1
  refine (do_all kd n nm tx ko kn kc ds W ρ b D S d0 h.ref ⟨by omega, by omega, h.kp.ok h.pw hk, by omega, by omega, by omega⟩ (hds.ints hB fun g hg => hσ g (hσB g hg)) hn0 hn1).mono ?_
  rintro e w1 ⟨S', rfl, hp⟩
  exact ⟨_, S', rfl, act_ref h t0 hσ hf hp (act_step h.kp h.pw hk kd n hn1 ds hnm htx) (act_small h.ks (fun e he => (h.kp.waits e he).2) kd n nm tx ds)⟩
/-- Whether both stand: they do. -/
theorem PL.stands {σ : Col} {b N : Nat} {r : Int} {k : Nat} {D : Dk} {S : Sh} {d : Array Value} {W : World} (h : PL σ b N r k D S d W) (hk : k ≤ 1000) (hr0 : 0 ≤ r) (hr1 : r ≤ 9223372036854775807) :
    Calls Tryz.prog 10 #[.pointer (some ⟨b, 0, none⟩), dv D S] W fun e w1 => e = .returned (.bool true) ∧ Below W.heap.size W w1 := by
  obtain ⟨ρ, d1, s1⟩ := h.disk
  have hroom := h.kp.room
  exact stands_any W ρ b D S d1 h.ref (h.kp.ok h.pw hk) (by omega) (by omega) h.ks
theorem disk_set {W W2 : World} {ρ : Col} {b : Nat} {D : Dk} (h : IsDisk W ρ b D) {x : Nat} {cs : Array Value} (hc : W.heap[x]? = some (.cells cs 37 (0, 0))) (h1 : Below x W W2) (hk : ∀ g, g ≠ x → W2.heap[g]? = W.heap[g]?) : ∃ ρ₀, IsDisk W2 ρ₀ b D ∧ ∀ g, ρ₀ g ≠ none → ρ g ≠ none := by
  obtain ⟨ρ₀, d0, t0, l0⟩ := h.shrink
  have hr : ρ₀ x = none := by
    cases hr : ρ₀ x with
    | none => rfl
    | some c => exact absurd (t0 x cs _ (0, 0) (by rw [hr]; simp) hc) (by decide)
  refine ⟨ρ₀, d0.keep (σ := fun g => if g = x then some 0 else none) ⟨h1.os, h1.tape, h1.output, h1.size, fun k _ hn => hk k (by intro e; simp [e] at hn)⟩ ?_, l0⟩
  intro g hg
  have : g ≠ x := by rintro rfl; exact hg hr
  simp [this]
theorem all9_box {w : World} {x : Nat} {a0 a1 a2 a3 a4 a5 a6 a7 a8 : Value} {T : TypeId} (h : w.heap[x]? = some (.cells #[a0, a1, a2, a3, a4, a5, a6, a7, a8] T (0, 0))) (v0 v1 v2 v3 v4 v5 v6 v7 v8 : Value) :
    (all9 w x v0 v1 v2 v3 v4 v5 v6 v7 v8).heap[x]? = some (.cells #[v0, v1, v2, v3, v4, v5, v6, v7, v8] T (0, 0)) := by
  have h9 := set_one (i := 8) (set_one (i := 7) (set_one (i := 6) (set_one (i := 5) (set_one (i := 4) (set_one (i := 3) (set_one (i := 2) (set_one (i := 1) (set_one (i := 0) h v0 rfl) v1 rfl) v2 rfl) v3 rfl) v4 rfl) v5 rfl) v6 rfl) v7 rfl) v8 rfl
  simpa using h9
/-- The box holds something else. -/
theorem PL.into {σ : Col} {b N : Nat} {r : Int} {k : Nat} {D : Dk} {S : Sh} {d d' : Array Value} {W W2 : World} (h : PL σ b N r k D S d W) (hN : σ N ≠ none) (h9 : W2.heap[N]? = some (.cells d' 37 (0, 0))) (hb : Below N W W2) (hk : ∀ g, g ≠ N → W2.heap[g]? = W.heap[g]?) : PL σ b N r k D S d' W2 ∧ Kept σ W W2 := by
  obtain ⟨ρ, d1, s1⟩ := h.disk
  obtain ⟨ρ₀, d0, l0⟩ := disk_set d1 h.box hb hk
  refine ⟨⟨h9, ⟨ρ₀, d0, fun g hg => ?_⟩, h.ref.box h.box hk, h.kp, h.pw, h.ks⟩, ⟨hb.os, hb.tape, hb.output, hb.size, fun g _ hn => hk g (by rintro rfl; exact hN hn)⟩⟩
  cases hr : ρ₀ g with
  | none => rfl
  | some c => exact absurd (s1 g hg) (l0 g (by rw [hr]; simp))
/-- The reference's disk is stored in its box. -/
theorem PL.set {σ : Col} {b N : Nat} {r : Int} {k : Nat} {D : Dk} {S : Sh} {a0 a1 a2 a3 a4 a5 a6 a7 a8 : Value} {W : World} (h : PL σ b N r k D S #[a0, a1, a2, a3, a4, a5, a6, a7, a8] W) (hN : σ N ≠ none) :
    PL σ b N r k D S (dc D S) (all9 W N (.int .i64 D.room) (.slice S.fo S.fn S.fc) (.slice S.so S.sn S.sc) (.slice S.wo S.wn S.wk) (.int .i64 D.units) (.int .i64 D.left) (.bool D.armed) (.bool D.gone) (.slice S.ao S.an S.ac)) ∧ Kept σ W (all9 W N (.int .i64 D.room) (.slice S.fo S.fn S.fc) (.slice S.so S.sn S.sc) (.slice S.wo S.wn S.wk) (.int .i64 D.units) (.int .i64 D.left) (.bool D.armed) (.bool D.gone) (.slice S.ao S.an S.ac)) :=
  h.into hN (all9_box h.box _ _ _ _ _ _ _ _ _) (below_all9 (Below.refl N W) (Nat.le_refl N) _ _ _ _ _ _ _ _ _) (fun g hg => all9_heap W N _ _ _ _ _ _ _ _ _ g hg)
/-! ### The beginning -/
theorem fresh_kp (room : Int) : Kp room 0 (Dk.fresh room) where
  tidy := Maps.tidy_empty
  points := (fresh_ok room).points
  waits := by intro e he; cases he
  names := by show 0 ≤ 0; decide
  files := by intro e he; cases he
  lots := by show 0 ≤ 0; decide
  acts := by show 0 ≤ 0; decide
  room := rfl
theorem fresh_pw (room : Int) : Pw 0 (Dk.fresh room) := ⟨by show (0 : Int) ≤ 0; decide, by show (0 : Int) ≤ _; decide, by show (0 : Int) ≤ 0; decide, by show (0 : Int) ≤ _; decide⟩
theorem fresh_ks (room : Int) : KeysSmall (Dk.fresh room).dir := fun s hs => by cases hs
theorem fresh_isD (W : World) (room : Int) : IsD W (Dk.fresh room) ⟨none, 0, 0, none, 0, 0, none, 0, 0, none, 0, 0⟩ :=
  ⟨⟨.slice none 0 0, .slice none 0 0, .slice none 0 0, .slice none 0 0, [], []⟩, ⟨rfl, rfl, rfl, rfl⟩, ⟨World.ownsRow_nil W 0 _ _, rfl, (fun i F p h => by simp [Dk.fresh] at h), World.ownsRow_nil W 0 _ _, rfl, (fun e he => by cases he), World.ownsRow_nil W 0 _ _, World.ownsRow_nil W 0 _ _, (fun e he => by cases he)⟩⟩
/-- A new disk, and the reference's, in a new box. -/
theorem fresh_PL {σ ρ : Col} {W : World} {b : Nat} {room : Int} (h : IsDisk W ρ b (Dk.fresh room)) (hσ : ∀ g, σ g = none → ρ g = none) (hN : σ W.heap.size ≠ none) :
    PL σ b W.heap.size room 0 (Dk.fresh room) ⟨none, 0, 0, none, 0, 0, none, 0, 0, none, 0, 0⟩ #[.int .i64 room, .slice none 0 0, .slice none 0 0, .slice none 0 0, .int .i64 0, .int .i64 0, .bool false, .bool false, .slice none 0 0] (all9 (W.alloc (.cells zc 37)) W.heap.size (.int .i64 room) (.slice none 0 0) (.slice none 0 0) (.slice none 0 0) (.int .i64 0) (.int .i64 0) (.bool false) (.bool false) (.slice none 0 0)) ∧
    Kept σ W (all9 (W.alloc (.cells zc 37)) W.heap.size (.int .i64 room) (.slice none 0 0) (.slice none 0 0) (.slice none 0 0) (.int .i64 0) (.int .i64 0) (.bool false) (.bool false) (.slice none 0 0)) := by
  have bA : Below W.heap.size W (W.alloc (.cells zc 37)) := (Below.refl _ _).alloc (Nat.le_refl _) _
  have h0 : PL σ b W.heap.size room 0 (Dk.fresh room) ⟨none, 0, 0, none, 0, 0, none, 0, 0, none, 0, 0⟩ zc (W.alloc (.cells zc 37)) :=
    ⟨heap_alloc_new W _, ⟨ρ, h.below bA, hσ⟩, fresh_isD _ room, fresh_kp room, fresh_pw room, fresh_ks room⟩
  have h1 := h0.set hN
  exact ⟨h1.1, (Kept.below bA).then h1.2⟩
end Go.Proofs.YthfcmgbkhjnfjaaGreatDoor
