/- A copy of a disk: what stands of it, file by file. -/
import Derived.Test.YthfcmgbkhjnfjaaGreatDoorVL
namespace Go.Proofs.YthfcmgbkhjnfjaaGreatDoor
open Go.RowKit Go.Maps

/-- A new row gets a colour. -/
def paintO (ρ : Col) (o : Option Nat) (c : Nat) : Col := match o with
  | none => ρ
  | some g => paint ρ g c
theorem paintO_here {ρ : Col} {o : Option Nat} {c g : Nat} (h : o = some g) : paintO ρ o c g = some c := by
  subst h; exact paint_here _ _ _
theorem paintO_else {ρ : Col} {o : Option Nat} {c k : Nat} (h : o ≠ some k) : paintO ρ o c k = ρ k := by
  unfold paintO
  split
  · rfl
  · exact paint_else _ fun e => h (by rw [e])
theorem Fits.paintO {w : World} {ρ : Col} {o : Option Nat} {c : Nat} (h : Fits w ρ) (ho : ∀ g, o = some g → g < w.heap.size) : Fits w (paintO ρ o c) := by
  unfold Go.Proofs.YthfcmgbkhjnfjaaGreatDoor.paintO
  split
  · exact h
  · exact h.paint (ho _ rfl)
/-- The disk with its first k files. -/
def Dk.upTo (D : Dk) (k : Nat) : Dk := { D with files := D.files.take k }
theorem Dk.upTo_all (D : Dk) : D.upTo D.files.length = D := by unfold Dk.upTo; rw [List.take_of_length_le (Nat.le_refl _)]
theorem Dk.upTo_len {D : Dk} {k : Nat} (h : k ≤ D.files.length) : (D.upTo k).files.length = k := by show (D.files.take k).length = k; rw [List.length_take]; omega
theorem Dk.upTo_succ {D : Dk} {k : Nat} {F : Fl} (h : D.files[k]? = some F) : (D.upTo (k + 1)).files = (D.upTo k).files ++ [F] := by
  show D.files.take (k + 1) = D.files.take k ++ [F]
  rw [List.take_add_one, h]; rfl
/-- A file more. -/
theorem turned_copied {w w0 w1 : World} {ρ : Col} {b : Nat} {D D' : Dk} {L : Lay} (h : DiskAt w ρ b D L) (hb0 : Below w.heap.size w w0) {fb : Nat} (hfb : w.heap.size ≤ fb) (F : Fl) (v : Value) (hfh : w0.heap[fb]? = some (.cells #[.string F.sure, v] 100 (0, 0)))
    (hv : w0.ownsRow w.heap.size 103 3 v F.waits.length (F.waits.flatMap Wt.cells)) (hD : D' = { D with files := D.files ++ [F] }) {gg cap : Nat}
    (hown : w1.ownsRow 0 97 1 (.slice (some ⟨gg, 0, none⟩) (D.files.length + 1) cap) (D.files.length + 1) ((L.fs.map fun f => Value.pointer (some ⟨f.1, 0, none⟩)) ++ [.pointer (some ⟨fb, 0, none⟩)])) (hgrow : w0.grownBy w1 L.vf.ownBlock) (hat : L.vf.ownBlock = some gg ∨ w0.heap.size ≤ gg) (hlt : gg < w1.heap.size) :
    Turned w ρ b D' (w1.setCell ⟨b, 5, none⟩ (.slice (some ⟨gg, 0, none⟩) (D.files.length + 1) cap)) := by
  have h0 := h.below hb0
  have hfl : fb < w0.heap.size := (Array.getElem?_eq_some_iff.1 hfh).1
  have hnew : ∀ g, w.heap.size ≤ g → ρ g = none := fun g hg => by
    cases hh : ρ g with
    | none => rfl
    | some c => have := h.fits g (by rw [hh]; simp); omega
  have hfn : ρ fb = none := hnew fb hfb
  have hfv : L.vf.ownBlock ≠ some fb := fun e => by have := h.rowF.2 fb e; rw [hfn] at this; cases this
  have hvlt := hv.lt
  have hvv : ∀ g, v.ownBlock = some g → L.vf.ownBlock ≠ some g := fun g hg e => by have := h.rowF.2 g e; rw [hnew g (hvlt g hg).1] at this; cases this
  have hvf : v.ownBlock ≠ some fb := fun e => by
    rcases hv.2 with ⟨h1, -⟩ | ⟨g', c', cur, h1, h2, h3, -⟩
    · rw [h1] at e; cases e
    · rw [h1] at e; injection e with e; subst e
      rw [hfh] at h3; injection h3 with h3; injection h3 with _ h3; exact absurd h3 (by decide)
  obtain ⟨hr1, he1, hk1⟩ := h0.rowF.append hown hgrow hat
  have hgf : fb ≠ gg := by
    rcases hat with hat | hat
    · rintro rfl; exact hfv hat
    · omega
  have hgv : v.ownBlock ≠ some gg := fun e => by
    rcases hat with hat | hat
    · exact hvv gg e hat
    · have := (hvlt gg e).2; omega
  have p1 := hk1.only (p := fun c => c == 0 || c == 2) rfl
  have hblk := (h0.parts he1 (hk1.only (p := fun c => c == 2) rfl)).1 rfl
  have hblt := h.blk.lt
  have hbf : fb ≠ b := by omega
  have hbv : v.ownBlock ≠ some b := fun e => by have := (hvlt b e).1; omega
  obtain ⟨hs, hk2⟩ := hblk.store (i := 5) (v := .slice (some ⟨gg, 0, none⟩) (D.files.length + 1) cap)
  have p2 := p1.thoseTrans he1 (hk2.only (p := fun c => c == 0 || c == 2) rfl)
  have hkeep : ∀ g, g ≠ b → g < w0.heap.size → L.vf.ownBlock ≠ some g → (w1.setCell ⟨b, 5, none⟩ (.slice (some ⟨gg, 0, none⟩) (D.files.length + 1) cap)).heap[g]? = w0.heap[g]? := fun g hg hl hn => by
    rw [Below.heap_setCell _ _ _ _ hg, hgrow.block g hl (by intro e; exact hn e.symm)]
  have hf2 := (hkeep fb hbf hfl hfv).trans hfh
  have hv2 := ownsRow_of_block hv (w' := w1.setCell ⟨b, 5, none⟩ (.slice (some ⟨gg, 0, none⟩) (D.files.length + 1) cap)) fun g hg => hkeep g (by rintro rfl; exact hbv hg) (hvlt g hg).2 (hvv g hg)
  -- the new colours
  have e2 : ∀ k, k ≠ fb → v.ownBlock ≠ some k → paintO (paint (paint ρ gg 2) fb (5 + 2 * D.files.length)) v.ownBlock (6 + 2 * D.files.length) k = paint ρ gg 2 k := fun k hk hk2 => by rw [paintO_else hk2]; exact paint_else _ hk
  have he3 : Ext w ρ (paintO (paint (paint ρ gg 2) fb (5 + 2 * D.files.length)) v.ownBlock (6 + 2 * D.files.length)) := fun k hk => by
    rw [e2 k (by omega) (fun e => by have := (hvlt k e).1; omega)]
    exact he1 k (Nat.lt_of_lt_of_le hk hb0.size)
  have hk0 : Kept (Those (fun c => c == 0 || c == 2) ρ) w (w1.setCell ⟨b, 5, none⟩ (.slice (some ⟨gg, 0, none⟩) (D.files.length + 1) cap)) := (Kept.below hb0).then p2
  obtain ⟨-, q1, -, q3, q4, q5⟩ := h.parts he3 hk0
  subst hD
  refine ⟨paintO (paint (paint ρ gg 2) fb (5 + 2 * D.files.length)) v.ownBlock (6 + 2 * D.files.length), ⟨{ L with vf := .slice (some ⟨gg, 0, none⟩) (D.files.length + 1) cap, fs := L.fs ++ [(fb, v)] }, ⟨⟨hs.1, by rw [e2 b hbf.symm hbv]; exact hs.2⟩, q1 rfl, ?_, q3 rfl, q4 rfl, ?_, ?_, ?_⟩⟩, he3, hk0.those⟩
  · show Row _ _ _ _ _ _ (D.files ++ [F]).length ((L.fs ++ [(fb, v)]).map fun f => Value.pointer (some ⟨f.1, 0, none⟩))
    have hr2 := hr1.keep (Ext.refl _ _) hk2 fun g hg => only_none (by rw [hg]; simp)
    rw [List.length_append, List.map_append]
    refine ⟨hr2.1, fun g hg => ?_⟩
    simp only [Value.ownBlock, Option.some.injEq] at hg
    subst hg
    rw [e2 gg hgf.symm hgv]
    exact hr2.2 gg (by simp [Value.ownBlock])
  · show (L.fs ++ [_]).length = (D.files ++ [F]).length
    rw [List.length_append, List.length_append, h.len]; rfl
  · intro i f G hf hG
    rcases get_snoc hf with ⟨hi, hf⟩ | ⟨hi, rfl⟩
    · rcases get_snoc hG with ⟨hj, hG⟩ | ⟨hj, rfl⟩
      · exact q5 i f G hf hG (by simp; omega) (by simp; omega)
      · rw [h.len] at hi; omega
    · rcases get_snoc hG with ⟨hj, hG⟩ | ⟨hj, rfl⟩
      · rw [h.len] at hi; omega
      · refine ⟨⟨hf2, ?_⟩, own_to0 hv2, fun g hg => ?_⟩
        · rw [hj, paintO_else hvf]; exact paint_here _ _ _
        · rw [hj]; exact paintO_here hg
  · have hfit : Fits (w1.setCell ⟨b, 5, none⟩ (.slice (some ⟨gg, 0, none⟩) (D.files.length + 1) cap)) (paint ρ gg 2) := (((h.fits.more hb0.size).more hk1.size).paint hlt).more hk2.size
    exact (hfit.paint (Nat.lt_of_lt_of_le hfl (Nat.le_trans hk1.size hk2.size))).paintO fun g hg => Nat.lt_of_lt_of_le (hvlt g hg).2 (Nat.le_trans hk1.size hk2.size)
/-- The copy without its files. -/
theorem copy_start {w w1 w2 w3 w4 : World} {D : Dk} {vw va : Value} (hm : w1.ownsMap Tryz.prog 9 (plainElem Tryz.prog 3) w.heap.size (Maps.size D.dir) D.dir) (b1 : Below w.heap.size w w1) (hw : w2.ownsRow w1.heap.size 95 3 vw D.waits.length (D.waits.flatMap En.cells)) (b2 : Below w1.heap.size w1 w2)
    (ha : w3.ownsRow w2.heap.size 88 5 va D.acts.length (D.acts.flatMap Ac.cells)) (b3 : Below w2.heap.size w2 w3) (h4 : w4.heap[w3.heap.size]? = some (.cells ((D.upTo 0).cells ⟨.slice none 0 0, w.heap.size, vw, va, []⟩) 70 (0, 0))) (b4 : Below w3.heap.size w3 w4) :
    ∃ ρ, DiskAt w4 ρ w3.heap.size (D.upTo 0) ⟨.slice none 0 0, w.heap.size, vw, va, []⟩ ∧ ∀ g, g < w.heap.size → ρ g = none := by
  have hml := hm.lt
  have hwl := hw.lt
  have hal := ha.lt
  have s1 := b1.size
  have s2 := b2.size
  have s3 := b3.size
  have s4 : w3.heap.size < w4.heap.size := heap_size_of h4
  have hm4 := ((ownsMap_of_block hm (b2.block _ hml)) |> fun h => ownsMap_of_block h (b3.block _ (by omega))) |> fun h => ownsMap_of_block h (b4.block _ (by omega))
  have hw4 := ownsRow_of_block (ownsRow_of_block hw fun g hg => b3.block g (hwl g hg).2) fun g hg => b4.block g (by have := (hwl g hg).2; omega)
  have ha4 := ownsRow_of_block ha fun g hg => b4.block g (hal g hg).2
  refine ⟨paint (paintO (paintO (paint (fun _ => none) w.heap.size 1) vw.ownBlock 3) va.ownBlock 4) w3.heap.size 0, ⟨⟨h4, paint_here _ _ _⟩, ⟨hm4, ?_⟩, Row.nil _ _ _ _ _, ⟨own_to0 hw4, fun g hg => ?_⟩, ⟨own_to0 ha4, fun g hg => ?_⟩, rfl, fun i f F h => by simp at h, ?_⟩, fun g hg => ?_⟩
  · show paint _ _ _ w.heap.size = _
    rw [paint_else _ (by omega), paintO_else (fun e => by have := (hal _ e).1; omega), paintO_else (fun e => by have := (hwl _ e).1; omega)]
    exact paint_here _ _ _
  · have := hwl g hg
    rw [paint_else _ (by omega), paintO_else (fun e => by have := (hal _ e).1; omega)]
    exact paintO_here hg
  · have := hal g hg
    rw [paint_else _ (by omega)]
    exact paintO_here hg
  · refine Fits.paint ?_ s4
    refine Fits.paintO ?_ fun g hg => by have := (hal g hg).2; omega
    refine Fits.paintO ?_ fun g hg => by have := (hwl g hg).2; omega
    exact Fits.paint (fun k hk => absurd rfl hk) (by omega)
  · rw [paint_else _ (by omega), paintO_else (fun e => by have := (hal _ e).1; omega), paintO_else (fun e => by have := (hwl _ e).1; omega), paint_else _ (by omega)]
theorem infoFileP : (Tryz.prog.info? 97).map (fun i => (i.zero, i.size, i.bytes)) = some (some (.pointer none), 1, 8) := by kernel_rfl
/-- A file more: the append's run, what stands behind the store. -/
theorem copy_push {wr w1 : World} {ρ : Col} {c k : Nat} {D : Dk} {L : Lay} {F : Fl} {v : Value} (h : DiskAt wr ρ c (D.upTo k) L) (hk : k < D.files.length) (hF : D.files[k]? = some F) (hfew : D.files.length ≤ 1000000) (b1 : Below wr.heap.size wr w1) (hv : w1.ownsRow wr.heap.size 103 3 v F.waits.length (F.waits.flatMap Wt.cells)) : ∃ gg cap w2,
    Hid ((Builtin.append_ #[67, 67] 67 #[L.vf, .slice (some ⟨w1.heap.size + 1, 0, none⟩) 1 1]).run Tryz.prog ((w1.alloc (.cells #[.string F.sure, v] 100)).alloc (.cells #[.pointer (some ⟨w1.heap.size, 0, none⟩)] 97)) = .ok (.slice (some ⟨gg, 0, none⟩) (k + 1) cap) w2) ∧
    Hid (Turned wr ρ c (D.upTo (k + 1)) (w2.setCell ⟨c, 5, none⟩ (.slice (some ⟨gg, 0, none⟩) (k + 1) cap)) ∧ w2.cell? ⟨c, 5, none⟩ = some L.vf ∧ w2.frozen? ⟨c, 5, none⟩ = false) := by
  obtain ⟨i0, hi0, hz0, hz1, hz2⟩ := info_parts infoFileP
  have hlen := Dk.upTo_len (D := D) (Nat.le_of_lt hk)
  have hsz : (w1.alloc (.cells #[.string F.sure, v] 100)).heap.size = w1.heap.size + 1 := by simp
  have bA : Below w1.heap.size w1 ((w1.alloc (.cells #[.string F.sure, v] 100)).alloc (.cells #[.pointer (some ⟨w1.heap.size, 0, none⟩)] 97)) := ((Below.refl _ _).alloc (Nat.le_refl _) _).alloc (by simp) _
  have bB : Below wr.heap.size wr ((w1.alloc (.cells #[.string F.sure, v] 100)).alloc (.cells #[.pointer (some ⟨w1.heap.size, 0, none⟩)] 97)) := b1.trans (bA.mono b1.size)
  have g1 : ((w1.alloc (.cells #[.string F.sure, v] 100)).alloc (.cells #[.pointer (some ⟨w1.heap.size, 0, none⟩)] 97)).heap[w1.heap.size]? = some (.cells #[.string F.sure, v] 100 (0, 0)) := (Below.heap_alloc _ _ _ (by simp)).trans (heap_alloc_new w1 _)
  have g2 : ((w1.alloc (.cells #[.string F.sure, v] 100)).alloc (.cells #[.pointer (some ⟨w1.heap.size, 0, none⟩)] 97)).heap[w1.heap.size + 1]? = some (.cells #[.pointer (some ⟨w1.heap.size, 0, none⟩)] 97 (0, 0)) := by
    have := heap_alloc_new (w1.alloc (.cells #[.string F.sure, v] 100)) (.cells #[.pointer (some ⟨w1.heap.size, 0, none⟩)] 97)
    rwa [hsz] at this
  have hs2 : ((w1.alloc (.cells #[.string F.sure, v] 100)).alloc (.cells #[.pointer (some ⟨w1.heap.size, 0, none⟩)] 97)).heap.size = w1.heap.size + 2 := by simp
  generalize (w1.alloc (.cells #[.string F.sure, v] 100)).alloc (.cells #[.pointer (some ⟨w1.heap.size, 0, none⟩)] 97) = ws at *
  have hS := h.below bB
  have hown := hS.rowF.1
  rw [hlen] at hown
  obtain ⟨gg, cap, w2, hr, hown2, hgrow, hat, hlt⟩ := run_append_lies (P := Tryz.prog) ws 67 67 0 97 i0 (.pointer none) 1 8 Tryz.underlying67 hi0 hz0 hz1 hz2 rfl (by omega) L.vf k _ hown ⟨w1.heap.size + 1, 0, none⟩ 1 1 [.pointer (some ⟨w1.heap.size, 0, none⟩)] (by simp) (fun j u hu => World.news_of_block (cs := #[.pointer (some ⟨w1.heap.size, 0, none⟩)]) (t := 97) (fr := (0, 0)) g2 j u (by simpa using hu)) (by intro u hu; simp at hu; subst hu; rfl) (by omega) (by unfold maxLen; omega) (by omega) (Nat.zero_le _) _ rfl
  have hb := h.blk.lt
  have hne : L.vf.ownBlock ≠ some c := fun e => by have h1 := h.rowF.2 c e; rw [h.blk.2] at h1; cases h1
  have hblk : w2.heap[c]? = some (.cells ((D.upTo k).cells L) 70 (0, 0)) := (hgrow.block c (by have := bB.size; omega) fun e => hne e.symm).trans hS.blk.1
  have T := turned_copied (D' := D.upTo (k + 1)) (gg := gg) (cap := cap) (w1 := w2) h bB b1.size F v g1 (ownsRow_of_block hv fun g hg => bA.block g (hv.lt g hg).2) (by unfold Dk.upTo; rw [show D.files.take (k + 1) = D.files.take k ++ [F] from Dk.upTo_succ hF]) (by rw [hlen]; exact hown2) hgrow (hat.imp id fun e => by omega) hlt
  rw [hlen] at T
  exact ⟨gg, cap, w2, Lib.hid hr, Lib.hid ⟨T, cell_of_row w2 c 5 _ _ _ hblk, frozen_of_row w2 c 5 _ _ hblk⟩⟩
end Go.Proofs.YthfcmgbkhjnfjaaGreatDoor
