/- Copies of a row of fields, of a row of strings. -/
import Derived.Test.YtboiaoaephimhaaDoorBAll
namespace Go.Proofs.YtboiaoaephimhaaDoor.B
open Go.RowKit Go.Shelf

theorem fdCells_one (fs : List Fd) : ∀ u ∈ fs.flatMap Fd.cells, u.oneCell' = true := by
  intro u hu
  obtain ⟨a, _, ha⟩ := List.mem_flatMap.1 hu
  unfold Fd.cells at ha
  simp at ha
  rcases ha with rfl | rfl <;> rfl
/-- A copy of a row: as long, in a new block. -/
def CopyPost (e0 : TypeId) (size n : Nat) (xs : List Value) (w : World) (e : Ending) (w' : World) : Prop :=
  ∃ g cp, e = .returned (.slice (some ⟨g, 0, none⟩) n cp) ∧ w.heap.size ≤ g ∧ g < w'.heap.size ∧ w'.ownsRow 0 e0 size (.slice (some ⟨g, 0, none⟩) n cp) n xs ∧ Below w.heap.size w w'
set_option maxHeartbeats 800000 in
set_option maxRecDepth 20000 in
theorem cloneF_any (v : Value) (xs : List Value) (n : Nat) (w : World) (hown : w.ownsRow 0 100 2 v n xs) (hn : 0 < n) (hn1 : n ≤ 1000000) (h1 : ∀ u ∈ xs, u.oneCell' = true) :
    Calls Tryd.prog 47 #[v] w (CopyPost 100 2 n xs w) := by
  obtain ⟨i0, hi0, hz0, hz1, hz2⟩ := info_parts infoFd
  obtain ⟨g, c, hv, -, hg⟩ := hown.form hn
  have hcells := hown.cells (g := g) (by rw [hv]; rfl)
  have hlen := Lib.hid hown.1
  have HC := Lib.hid hcells
  have H1 := Lib.hid h1
  have hq : ∀ w, (binOp .eql 43 (.slice (some ⟨g, 0, none⟩) n c) (.slice none 0 0)).run Tryd.prog w = .ok (.bool false) w := fun w => by kernel_rfl
  subst hv
  clear hown hcells h1
  go_enter Tryd.func47, Tryd.ntmps47
  have hm := World.ownsRow_made (base := 0) (e := 100) (size := 2) w #[] 0 (Nat.zero_le _) (Nat.zero_le _) rfl
  have hb1 : Below w.heap.size w (w.alloc (.cells #[] 100)) := (Below.refl _ _).alloc (Nat.le_refl _) _
  have HM := Lib.hid hm
  have HB1 := Lib.hid hb1
  clear hm hb1
  go_wp2_with (at_builtin; refine wpList_append_lies _ rfl _ _ _ rfl 0 100 i0 _ 2 32 Tryd.underlying43 hi0 hz0 hz1 hz2 rfl (by omega) (.slice (some ⟨w.heap.size, 0, none⟩) 0 0) 0 [] rfl HM.out ⟨g, 0, none⟩ n c xs rfl hlen.out (fun j u hu => by rw [HB1.out.cell (p := (⟨g, 0, none⟩ : Addr).add j) (by rw [addr0]; exact hg)]; exact HC.out j u hu) H1.out hn (by unfold maxLen; omega) (by omega) (Nat.zero_le _) _ rfl ?_; refine Hid.out ?_)
  refine Lib.hid ?_
  intro gg cap w1 hown1 hgrow hat hlt
  have hown1 := Lib.hid hown1
  have hgrow := Lib.hid hgrow
  have hat := Lib.hid hat
  go_wp2
  go_ret
  have hat' : w.heap.size ≤ gg := by
    rcases hat.out with h | h
    · simp [Value.ownBlock] at h; omega
    · have := HB1.out.size; omega
  exact ⟨gg, cap, by simp [go_sem], hat', hlt, (by simpa using hown1.out), HB1.out.grown hgrow.out HB1.out.size (fun k hk => by cases hk; exact Nat.le_refl _)⟩
end Go.Proofs.YtboiaoaephimhaaDoor.B
