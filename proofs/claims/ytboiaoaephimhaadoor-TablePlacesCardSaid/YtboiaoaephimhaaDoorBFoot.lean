/- Footprints: which blocks of the heap belong to which part of a thing that is built of many blocks. A colouring gives each block of the thing its part's number; what has no colour does not change. No program is named here. -/
import Derived.Below
import Derived.Laws.AppendOwn
import Derived.Deep.AppendLies
import Derived.Maps.OwnSet
import Derived.Maps.Range
namespace Go.Proofs.YtboiaoaephimhaaDoor.B
open Go.RowKit

/-- A colouring of the blocks: none: not of the thing. -/
abbrev Col := Nat → Option Nat
/-- What has no colour is as it was. -/
structure Kept (ρ : Col) (w w' : World) : Prop where
  os : w'.os = w.os
  tape : w'.tape = w.tape
  output : w'.output = w.output
  size : w.heap.size ≤ w'.heap.size
  block : ∀ k, k < w.heap.size → ρ k = none → w'.heap[k]? = w.heap[k]?
/-- What was there keeps its colour. -/
def Ext (w : World) (ρ ρ' : Col) : Prop := ∀ k, k < w.heap.size → ρ' k = ρ k
theorem Ext.refl (w : World) (ρ : Col) : Ext w ρ ρ := fun _ _ => rfl
theorem Ext.trans {w w' : World} {ρ ρ' ρ'' : Col} (h : Ext w ρ ρ') (h' : Ext w' ρ' ρ'') (hs : w.heap.size ≤ w'.heap.size) : Ext w ρ ρ'' :=
  fun k hk => (h' k (by omega)).trans (h k hk)
theorem Kept.refl (ρ : Col) (w : World) : Kept ρ w w := ⟨rfl, rfl, rfl, Nat.le_refl _, fun _ _ _ => rfl⟩
theorem Kept.trans {ρ ρ' : Col} {a b c : World} (h : Kept ρ a b) (he : Ext a ρ ρ') (k : Kept ρ' b c) : Kept ρ a c :=
  ⟨k.os.trans h.os, k.tape.trans h.tape, k.output.trans h.output, Nat.le_trans h.size k.size, fun i hi hn => (k.block i (Nat.lt_of_lt_of_le hi h.size) ((he i hi).trans hn)).trans (h.block i hi hn)⟩
theorem Kept.then {ρ : Col} {a b c : World} (h : Kept ρ a b) (k : Kept ρ b c) : Kept ρ a c := h.trans (Ext.refl _ _) k
theorem Kept.below {ρ : Col} {w w' : World} (h : Below w.heap.size w w') : Kept ρ w w' := ⟨h.os, h.tape, h.output, h.size, fun k hk _ => h.block k hk⟩
theorem Kept.toBelow {ρ : Col} {w w' : World} {B : Nat} (h : Kept ρ w w') (hB : B ≤ w.heap.size) (hρ : ∀ k, k < B → ρ k = none) : Below B w w' :=
  ⟨h.os, h.tape, h.output, h.size, fun k hk => h.block k (by omega) (hρ k hk)⟩
theorem Kept.grown {ρ : Col} {w w' : World} {row : Option Nat} (h : w.grownBy w' row) (hr : ∀ k, row = some k → ρ k ≠ none) : Kept ρ w w' :=
  ⟨h.os, h.tape, h.output, h.size, fun k hk hn => h.block k hk (fun e => hr k e.symm hn)⟩
theorem Kept.setCell {ρ : Col} {w : World} {a : Addr} {v : Value} (h : ρ a.block ≠ none) : Kept ρ w (w.setCell a v) :=
  ⟨rfl, rfl, rfl, by simp [World.setCell], fun k _ hn => Below.heap_setCell _ _ _ _ (fun e => h (e ▸ hn))⟩
theorem Kept.mono {ρ σ : Col} {w w' : World} (h : Kept ρ w w') (hs : ∀ k, σ k = none → ρ k = none) : Kept σ w w' :=
  ⟨h.os, h.tape, h.output, h.size, fun k hk hn => h.block k hk (hs k hn)⟩
/-- Only the blocks of one colour (and new ones) have changed. -/
def Only (c : Nat) (ρ : Col) : Col := fun k => if ρ k = some c then some c else none
theorem only_none {c : Nat} {ρ : Col} {k : Nat} (h : ρ k ≠ some c) : Only c ρ k = none := if_neg h
theorem only_some {c : Nat} {ρ : Col} {k : Nat} (h : ρ k = some c) : Only c ρ k = some c := if_pos h
theorem Kept.wide {ρ : Col} {c : Nat} {w w' : World} (h : Kept (Only c ρ) w w') : Kept ρ w w' :=
  h.mono fun k hk => only_none (by rw [hk]; exact fun e => by cases e)
/-- A block of the thing, known whole. -/
def Blk (w : World) (ρ : Col) (c b : Nat) (o : Obj) : Prop := w.heap[b]? = some o ∧ ρ b = some c
theorem Blk.lt {w : World} {ρ : Col} {c b : Nat} {o : Obj} (h : Blk w ρ c b o) : b < w.heap.size := (Array.getElem?_eq_some_iff.1 h.1).1
theorem Blk.keep {w w' : World} {ρ ρ' σ : Col} {c b : Nat} {o : Obj} (h : Blk w ρ c b o) (he : Ext w ρ ρ') (k : Kept σ w w') (hσ : σ b = none) : Blk w' ρ' c b o :=
  ⟨(k.block b h.lt hσ).trans h.1, (he b h.lt).trans h.2⟩
/-- A row of the thing. -/
def Row (w : World) (ρ : Col) (c : Nat) (e : TypeId) (size : Nat) (v : Value) (n : Nat) (xs : List Value) : Prop :=
  w.ownsRow 0 e size v n xs ∧ ∀ g, v.ownBlock = some g → ρ g = some c
theorem ownsRow_of_block {w w' : World} {base : Nat} {e : TypeId} {size : Nat} {v : Value} {n : Nat} {xs : List Value} (h : w.ownsRow base e size v n xs) (hk : ∀ g, v.ownBlock = some g → w'.heap[g]? = w.heap[g]?) : w'.ownsRow base e size v n xs := by
  refine ⟨h.1, ?_⟩
  rcases h.2 with h0 | ⟨g, cap, cur, rfl, hb, hg, r⟩
  · exact .inl h0
  · exact .inr ⟨g, cap, cur, rfl, hb, (hk g rfl).trans hg, r⟩
theorem Row.keep {w w' : World} {ρ ρ' σ : Col} {c : Nat} {e : TypeId} {size : Nat} {v : Value} {n : Nat} {xs : List Value} (h : Row w ρ c e size v n xs) (he : Ext w ρ ρ') (k : Kept σ w w') (hσ : ∀ g, ρ g = some c → σ g = none) : Row w' ρ' c e size v n xs :=
  ⟨ownsRow_of_block h.1 fun g hg => k.block g (h.1.lt g hg).2 (hσ g (h.2 g hg)), fun g hg => (he g (h.1.lt g hg).2).trans (h.2 g hg)⟩
theorem Row.nil (w : World) (ρ : Col) (c : Nat) (e : TypeId) (size : Nat) : Row w ρ c e size (.slice none 0 0) 0 [] :=
  ⟨World.ownsRow_nil w 0 e size, fun g hg => by simp [Value.ownBlock] at hg⟩
/-- A map of the thing. -/
def MapIs (w : World) (ρ : Col) (c : Nat) (P : Program) (k : TypeId) (R : Value → Option (DataW Unit × List MemPlace)) (b n : Nat) (D : DataW Unit) : Prop := w.ownsMap P k R b n D ∧ ρ b = some c
theorem ownsMap_of_block {H : Type} {w w' : World} {P : Program} {k : TypeId} {R : Value → Option (DataW H × List MemPlace)} {b n : Nat} {D : DataW H} (h : w.ownsMap P k R b n D) (hk : w'.heap[b]? = w.heap[b]?) : w'.ownsMap P k R b n D := by
  obtain ⟨es, clock, hb, r⟩ := h
  exact ⟨es, clock, hk.trans hb, r⟩
theorem MapIs.keep {w w' : World} {ρ ρ' σ : Col} {c : Nat} {P : Program} {k : TypeId} {R : Value → Option (DataW Unit × List MemPlace)} {b n : Nat} {D : DataW Unit} (h : MapIs w ρ c P k R b n D) (he : Ext w ρ ρ') (ke : Kept σ w w') (hσ : σ b = none) : MapIs w' ρ' c P k R b n D :=
  ⟨ownsMap_of_block h.1 (ke.block b h.1.lt hσ), (he b h.1.lt).trans h.2⟩
/-- A new block gets a colour. -/
def paint (ρ : Col) (b c : Nat) : Col := fun k => if k = b then some c else ρ k
theorem paint_here (ρ : Col) (b c : Nat) : paint ρ b c b = some c := if_pos rfl
theorem paint_else (ρ : Col) {b c k : Nat} (h : k ≠ b) : paint ρ b c k = ρ k := if_neg h
theorem paint_ext {w : World} (ρ : Col) {b : Nat} (c : Nat) (h : w.heap.size ≤ b) : Ext w ρ (paint ρ b c) := fun k hk => paint_else ρ (by omega)
/-- Nothing beyond the heap has a colour. -/
def Fits (w : World) (ρ : Col) : Prop := ∀ k, ρ k ≠ none → k < w.heap.size
theorem Fits.more {w w' : World} {ρ : Col} (h : Fits w ρ) (hs : w.heap.size ≤ w'.heap.size) : Fits w' ρ := fun k hk => Nat.lt_of_lt_of_le (h k hk) hs
theorem Fits.paint {w : World} {ρ : Col} {b c : Nat} (h : Fits w ρ) (hb : b < w.heap.size) : Fits w (paint ρ b c) := fun k hk => by
  by_cases e : k = b
  · rw [e]; exact hb
  · exact h k (by rw [paint_else ρ e] at hk; exact hk)
/-- Behind an append: the row lies where it lay, or in a new block, which gets the row's colour. -/
theorem Row.append {w w' : World} {ρ : Col} {c : Nat} {e : TypeId} {size : Nat} {v : Value} {n : Nat} {xs : List Value} (h : Row w ρ c e size v n xs)
    {g m cap : Nat} {ys : List Value} (hown : w'.ownsRow 0 e size (.slice (some ⟨g, 0, none⟩) m cap) m ys) (hgrow : w.grownBy w' v.ownBlock) (hat : v.ownBlock = some g ∨ w.heap.size ≤ g) :
    Row w' (paint ρ g c) c e size (.slice (some ⟨g, 0, none⟩) m cap) m ys ∧ Ext w ρ (paint ρ g c) ∧ Kept (Only c ρ) w w' := by
  refine ⟨⟨hown, fun g' hg' => ?_⟩, fun k hk => ?_, Kept.grown hgrow fun k hk => ?_⟩
  · simp only [Value.ownBlock, Option.some.injEq] at hg'
    rw [← hg']; exact paint_here _ _ _
  · by_cases e : k = g
    · rw [e, paint_here]
      rcases hat with hat | hat
      · exact (h.2 g hat).symm
      · omega
    · exact paint_else ρ e
  · rw [only_some (h.2 k hk)]; exact fun e => by cases e
/-- Only the blocks of some colours (and new ones) have changed. -/
def Those (p : Nat → Bool) (ρ : Col) : Col := fun k => (ρ k).filter p
theorem those_none {p : Nat → Bool} {ρ : Col} {k : Nat} (h : ∀ c, ρ k = some c → p c = false) : Those p ρ k = none := by
  unfold Those
  cases hk : ρ k with
  | none => rfl
  | some c => simp [Option.filter, h c hk]
theorem those_at {p : Nat → Bool} {ρ : Col} {k c : Nat} (h : ρ k = some c) (hp : p c = false) : Those p ρ k = none := those_none fun c' h' => by rw [h] at h'; cases h'; exact hp
theorem those_some {p : Nat → Bool} {ρ : Col} {k c : Nat} (h : ρ k = some c) (hp : p c = true) : Those p ρ k = some c := by
  unfold Those; rw [h]; simp [Option.filter, hp]
theorem Ext.those {w : World} {ρ ρ' : Col} (h : Ext w ρ ρ') (p : Nat → Bool) : Ext w (Those p ρ) (Those p ρ') := fun k hk => by unfold Those; rw [h k hk]
theorem Kept.only {p : Nat → Bool} {ρ : Col} {c : Nat} {w w' : World} (h : Kept (Only c ρ) w w') (hp : p c = true) : Kept (Those p ρ) w w' :=
  h.mono fun k hk => only_none fun e => by rw [those_some e hp] at hk; cases hk
theorem Kept.those {p : Nat → Bool} {ρ : Col} {w w' : World} (h : Kept (Those p ρ) w w') : Kept ρ w w' :=
  h.mono fun k hk => those_none fun c hc => by rw [hk] at hc; cases hc
theorem Kept.thoseTrans {p : Nat → Bool} {ρ ρ' : Col} {a b c : World} (h : Kept (Those p ρ) a b) (he : Ext a ρ ρ') (k : Kept (Those p ρ') b c) : Kept (Those p ρ) a c := h.trans (he.those p) k
end Go.Proofs.YtboiaoaephimhaaDoor.B
