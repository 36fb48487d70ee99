/- Index.Count; Between and Count where the key is not there. -/
import Derived.Test.YtklbbcemacpimaaGreatDoorIBetw
namespace Go.Proofs.YtklbbcemacpimaaGreatDoor.I
open Go Go.Maps Go.Proofs Go.RowKit Go.Sort Go.Shelf

set_option maxRecDepth 100000 in
set_option maxHeartbeats 1600000 in
theorem between_nil (xp : Option Addr) (key lo hi : ByteArray) (w : World) (hg : Gives xp key none w) :
    Calls Tryz.prog 14 #[.pointer xp, .string key, .string lo, .string hi] w (IntAns w fun _ => False) := by
  have hrg := run_range_nilMap (P := Tryz.prog) w 82 9 84 tys.hV
  have hnx : ∀ ty, (Instr.next (.pointer (some ⟨w.heap.size, 0, none⟩)) false ty).run Tryz.prog (w.alloc (.mapIter none 0 #[] 0)) = _ := fun ty => run_next_nilMap _ ty 0 0 #[]
  have hb := below_grow1 w (.mapIter none 0 #[] 0)
  have UN := Lib.hid (united_any (.slice none 0 0) 0 [] (w.alloc (.mapIter none 0 #[] 0)) ⟨none, 0, rfl, fun k p h => by simp at h⟩ (by omega) (by simp))
  have HG := Lib.hid hg
  have HB := Lib.hid hb
  clear hg hb
  go_enter Tryz.func14, Tryz.ntmps14
  go_wp2_with fail
  refine Calls.mono HG.out ?_
  rintro e w' ⟨rfl, hw⟩
  subst hw
  go_wp2_with fail
  refine wp_loop_rounds 1 ?_
  rw [rounds_succ]
  go_wp2_with fail
  refine UN.out.mono ?_
  rintro e w4 ⟨u, ss, rfl, h1, h2, h3, h4⟩
  have FIN := Lib.hid (And.intro h1 (And.intro h2 (And.intro (rowLow (lo := w'.heap.size) h3 HB.out.size) (HB.out.trans (h4.mono HB.out.size)))))
  clear h1 h2 h3 h4 UN
  go_wp2_with fail
  go_ret
  exact ⟨u, ss, rfl, FIN.out.1, fun x => (FIN.out.2.1 x).trans (by simp), FIN.out.2.2.1, FIN.out.2.2.2⟩
set_option maxRecDepth 100000 in
set_option maxHeartbeats 1600000 in
theorem count_nil (xp : Option Addr) (key val : ByteArray) (n : Nat) (mb : Option Nat) (cbk : Vk) (cfk : Ck) (w : World) (hg : Gives xp key mb w) (hV : ValsOf w n mb cbk cfk) (hv : val.size ≤ maxLen) (h0 : cbk val.data.toList = none) :
    Calls Tryz.prog 12 #[.pointer xp, .string key, .string val] w fun e w' => e = .returned (.int .i64 0) ∧ Below w.heap.size w w' := by
  have hrg := run_range_nilMap (P := Tryz.prog) w 84 3 3 tys.hC
  have hnx : ∀ ty, (Instr.next (.pointer (some ⟨w.heap.size, 0, none⟩)) false ty).run Tryz.prog (w.alloc (.mapIter none 0 #[] 0)) = _ := fun ty => run_next_nilMap _ ty 0 0 #[]
  have hb := below_grow1 w (.mapIter none 0 #[] 0)
  have l := hV.look val hv
  rw [h0] at l
  have HG := Lib.hid hg
  have HB := Lib.hid hb
  clear hg hb hV
  go_enter Tryz.func12, Tryz.ntmps12
  go_wp2_with fail
  refine Calls.mono HG.out ?_
  rintro e w' ⟨rfl, hw⟩
  subst hw
  go_wp2_with fail
  refine wp_loop_rounds 1 ?_
  rw [rounds_succ]
  go_wp2_with fail
  go_ret
  exact ⟨rfl, HB.out⟩
theorem sum_bound {f : Int → Int} {B : Int} (hB : 0 ≤ B) : ∀ (is : List Int), (∀ i ∈ is, 0 ≤ f i ∧ f i ≤ B) → 0 ≤ (is.map f).sum ∧ (is.map f).sum ≤ (is.length : Int) * B
  | [], _ => by simp
  | i :: r, h => by
    obtain ⟨h1, h2⟩ := sum_bound hB r fun j hj => h j (by simp [hj])
    obtain ⟨h3, h4⟩ := h i (by simp)
    rw [List.map_cons, List.sum_cons, List.length_cons]
    have : ((r.length + 1 : Nat) : Int) * B = (r.length : Int) * B + B := by rw [Int.natCast_add, Int.add_mul]; simp
    omega
set_option maxRecDepth 100000 in
set_option maxHeartbeats 1600000 in
theorem count_any (xp : Option Addr) (key val : ByteArray) (n r : Nat) (mb : Option Nat) (cbk : Vk) (cfk : Ck) (w : World) (hg : Gives xp key mb w) (hV : ValsOf w n mb cbk cfk) (hv : val.size ≤ maxLen) (h0 : cbk val.data.toList = some r) (hn : n ≤ 1000000) (hc : ∀ i a, cfk val.data.toList i = some a → 0 ≤ a ∧ a ≤ 1000000) :
    Calls Tryz.prog 12 #[.pointer xp, .string key, .string val] w fun e w' => ∃ is : List Int, is.Nodup ∧ (∀ i, i ∈ is ↔ cfk val.data.toList i ≠ none) ∧ e = .returned (.int .i64 (is.map fun i => (cfk val.data.toList i).getD 0).sum) ∧ Below w.heap.size w w' := by
  have l := hV.look val hv
  rw [h0] at l
  have hC : CMap tys w r n (cfk val.data.toList) := by
    unfold ValsOf at hV
    cases mb with
    | none => rw [hV] at h0; cases h0
    | some b => exact hV.2 _ _ h0
  obtain ⟨D0, hown, -, hat0, hhas⟩ := hC.has
  have hsz := hown.size_le
  obtain ⟨F, hF⟩ : ∃ F : Int → Int, (fun i => (cfk val.data.toList i).getD 0) = F := ⟨_, rfl⟩
  have HG := Lib.hid hg
  have HAT := Lib.hid hat0
  have HHAS := Lib.hid hhas
  have HC := Lib.hid hc
  have HF := Lib.hid hF
  rw [hF]
  clear hg hV hat0 hhas hC hc h0 hF
  go_enter Tryz.func12, Tryz.ntmps12
  go_wp2_with fail
  refine Calls.mono HG.out ?_
  rintro e w' ⟨rfl, hw⟩
  subst hw
  go_wp2_with (first
    | (at_range; refine wpList_range_own _ rfl _ 84 rfl 3 3 (int_keyed tys.hi) tys.hC _ r n _ rfl hown ?_; intro w0 hrg0 hg0 hs0)
    | go_in)
  try go_frame
  go_loopw [7] (fun sv wr => ∃ (left : Lit → Bool) (cnt : Nat) (is : List Int), sv = .int .i64 (is.map F).sum ∧ wr.ranges Tryz.prog 3 numEl.R r w'.heap.size n D0 left cnt ∧ is.length + cnt ≤ Maps.size D0 ∧ CollectedI D0 left is ∧ (∀ i ∈ is, 0 ≤ F i ∧ F i ≤ 1000000) ∧ Below w'.heap.size w' wr)
    (fun _ wr => wr.rangeLeft r w'.heap.size)
  case atStart =>
    exact ⟨_, _, [], rfl, hrg0, by simp, CollectedI.start D0, by simp, (Below.refl _ _).grown hg0 (Nat.le_refl _) (fun k e => by cases e)⟩
  case round =>
    obtain ⟨left, cnt, is, rfl, hrg, hlen, hcol, hval, hb⟩ := hrel
    obtain ⟨S, hS⟩ : ∃ S, (is.map F).sum = S := ⟨_, rfl⟩
    have hbd := sum_bound (by omega) is hval
    rw [hS] at hbd ⊢
    have hbd2 : (is.length : Int) * 1000000 ≤ 1000000 * 1000000 := by
      have : (is.length : Int) ≤ 1000000 := by omega
      omega
    have HS := Lib.hid hS
    have HCOL := Lib.hid hcol
    have HVAL := Lib.hid hval
    have HB := Lib.hid hb
    clear hS hcol hval hb
    go_wp2_with (first
      | (at_next; refine wpList_next_ranges _ rfl _ rfl 3 (int_keyed tys.hi) numEl.R encZ (Value.int .i64) (fun key kl hk => by obtain ⟨x, hx, _⟩ := Maps.keyOf_i64 tys.hi hk; exact ⟨x, hx⟩) (fun v y hv => by obtain ⟨c, e, _⟩ := numEl.inv v y hv; exact ⟨c, e⟩) r w'.heap.size n _ _ _ rfl hrg ?_ ?_)
      | go_in)
    · intro hc0 hl0
      have HM : Hid (∀ i, i ∈ is ↔ cfk val.data.toList i ≠ none) := Lib.hid fun i => by
        rw [HCOL.out.2 i, hl0]
        have := HHAS.out i
        rw [show Maps.has D0 (Lit.int .i64 i) = Maps.has D0 (mkN i) from rfl, this]
        cases hfx : cfk val.data.toList i <;> simp
      go_wp2_with fail
      go_ret
      exact ⟨is, HCOL.out.1, HM.out, by rw [HS.out]; rfl, HB.out⟩
    · intro x c kl yd yp w2 cnt2 hkey hlk hv hat hrg2 hlt hg2 hs2 hen
      obtain ⟨x', ex, rfl, _⟩ := Maps.keyOf_i64 tys.hi hkey
      have hxx : x = x' := by injection ex
      subst hxx
      obtain ⟨c', ec, ez⟩ := numEl.inv _ _ hv
      have hcc : c = c' := by injection ec
      subst hcc
      have hfx : cfk val.data.toList x = some c := by
        have h1 := HAT.out x .nil
        have h2 := hat .nil
        rw [show yd = numEl.dat c from (Prod.mk.inj ez).1] at h2
        rw [show D0.atKey (mkN x) _ = _ from h2] at h1
        cases hfx : cfk val.data.toList x with
        | none => rw [hfx] at h1; cases h1
        | some a => rw [hfx] at h1; exact congrArg some (numEl.inj _ _ h1).symm
      have hcb := HC.out x c hfx
      have hFx : F x = c := by rw [← HF.out]; simp [hfx]
      have FIN := Lib.hid (show (S + c = ((is ++ [x]).map F).sum) ∧ w2.ranges Tryz.prog 3 numEl.R r w'.heap.size n D0 (fun z => left z && !z.sameKey (.int .i64 x)) cnt2 ∧ (is ++ [x]).length + cnt2 ≤ Maps.size D0 ∧ CollectedI D0 (fun z => left z && !z.sameKey (.int .i64 x)) (is ++ [x]) ∧ (∀ i ∈ is ++ [x], 0 ≤ F i ∧ F i ≤ 1000000) ∧ Below w'.heap.size w' w2 from
        ⟨by rw [← HS.out]; simp [hFx], hrg2, by simp; omega, HCOL.out.step hlk (fun z => hat z), fun i hi => (List.mem_append.1 hi).elim (HVAL.out i) (fun e => by simp at e; subst e; rw [hFx]; exact hcb), HB.out.grown hg2 HB.out.size (fun k e => by cases e; exact Nat.le_refl _)⟩)
      have hm2 := Lib.hid hrg2.left_eq
      have hm0 := Lib.hid hrg.left_eq
      clear hrg hrg2 hat hfx hg2 hs2 hv hkey ec ez ex hFx hlk
      go_wp2_with fail
      go_roundw
      case rel => exact ⟨_, cnt2, is ++ [x], by rw [FIN.out.1], FIN.out.2⟩
      case measure => rw [hm2.out, hm0.out]; exact hlt
end Go.Proofs.YtklbbcemacpimaaGreatDoor.I
