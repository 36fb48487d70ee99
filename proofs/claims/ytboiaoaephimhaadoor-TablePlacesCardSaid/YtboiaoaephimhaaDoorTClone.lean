/- A copy of a row of texts: slices.Clone. -/
import Derived.Test.YtboiaoaephimhaaDoorTCells
namespace Go.Proofs.YtboiaoaephimhaaDoor.T
open Go.RowKit Go.Shelf
open Go.Proofs.YtboiaoaephimhaaDoor.B

set_option maxHeartbeats 800000 in
set_option maxRecDepth 20000 in
theorem cloneS_some (a : Addr) (c : Nat) (ss : List ByteArray) (w : World) (hc : ∀ (k : Nat) (s : ByteArray), ss[k]? = some s → a.block < w.heap.size ∧ w.cell? (a.add k) = some (.string s)) (hn : 0 < ss.length) (hn1 : ss.length ≤ 1000000) :
    Calls Tryd.prog 29 #[.slice (some a) ss.length c] w fun e w' => ∃ u, e = .returned u ∧ StrRow w.heap.size w' u ss ∧ Below w.heap.size w w' := by
  obtain ⟨i0, hi0, hz0, hz1, hz2⟩ := info_parts infoS
  have hlen : Hid ((strVals ss).length = ss.length * 1) := Lib.hid (by simp [strVals])
  have HC := Lib.hid (fun (j : Nat) (u : Value) (hu : (strVals ss)[j]? = some u) => show a.block < w.heap.size ∧ w.cell? (a.add j) = some u by
    obtain ⟨s, hs⟩ : ∃ s, ss[j]? = some s := by
      cases h : ss[j]? with
      | none => simp [strVals, h] at hu
      | some s => exact ⟨s, rfl⟩
    have e1 : u = .string s := by simp [strVals, hs] at hu; exact hu.symm
    rw [e1]; exact hc j s hs)
  have H1 := Lib.hid (strVals_one ss)
  have hq : ∀ w, (binOp .eql 24 (.slice (some a) ss.length c) (.slice none 0 0)).run Tryd.prog w = .ok (.bool false) w := fun w => by kernel_rfl
  clear hc
  go_enter Tryd.func29, Tryd.ntmps29
  have hm := World.ownsRow_made (base := w.heap.size) (e := 9) (size := 1) w #[] 0 (Nat.le_refl _) (Nat.zero_le _) rfl
  have hb1 : Below w.heap.size w (w.alloc (.cells #[] 9)) := (Below.refl _ _).alloc (Nat.le_refl _) _
  have HM := Lib.hid hm
  have HB1 := Lib.hid hb1
  clear hm hb1
  go_wp2_with (at_builtin; refine wpList_append_lies _ rfl _ _ _ rfl w.heap.size 9 i0 _ 1 16 Tryd.underlying24 hi0 hz0 hz1 hz2 rfl (by omega) (.slice (some ⟨w.heap.size, 0, none⟩) 0 0) 0 [] rfl HM.out a ss.length c (strVals ss) rfl hlen.out (fun j u hu => by have h := HC.out j u hu; rw [HB1.out.cell (p := a.add j) (by rw [add_block]; exact h.1)]; exact h.2) H1.out hn (by unfold maxLen; omega) (by omega) (by simp) _ rfl ?_; refine Hid.out ?_)
  refine Lib.hid ?_
  intro gg cap w1 hown1 hgrow hat hlt
  have hown1 := Lib.hid hown1
  have hgrow := Lib.hid hgrow
  clear hat hlt
  go_wp2
  go_ret
  exact ⟨_, rfl, hown1.out, HB1.out.grown hgrow.out HB1.out.size (fun k hk => by cases hk; exact Nat.le_refl _)⟩
theorem cloneS_any (v : Value) (ss : List ByteArray) (w : World) (h : StrsAt w.heap.size w v ss) (hn1 : ss.length ≤ 1000000) :
    Calls Tryd.prog 29 #[v] w fun e w' => ∃ u, e = .returned u ∧ StrRow w.heap.size w' u ss ∧ Below w.heap.size w w' := by
  obtain ⟨ao, c, rfl, hc⟩ := h
  by_cases hn : ss.length = 0
  · have hs : ss = [] := List.eq_nil_of_length_eq_zero hn
    subst hs
    cases ao with
    | none => exact (Tryd.slices_Clone_string_nil 0 c w).mono fun e w' ⟨he, hw⟩ => ⟨_, he, StrRow.nil _ _, hw ▸ Below.refl _ _⟩
    | some a => exact (Tryd.slices_Clone_string_zero a c w).mono fun e w' ⟨u, he, h1, _, hb⟩ => ⟨u, he, h1, hb⟩
  · obtain ⟨s, hs⟩ : ∃ s, ss[0]? = some s := ⟨_, List.getElem?_eq_getElem (by omega)⟩
    obtain ⟨a, rfl, -⟩ := hc 0 s hs
    exact cloneS_some a c ss w (fun k s hs => by
      obtain ⟨a', e, h1, h2⟩ := hc k s hs
      cases e
      exact ⟨h1, h2⟩) (by omega) hn1
end Go.Proofs.YtboiaoaephimhaaDoor.T
