/- The statement IndexNone, walked. -/
import Derived.Test.YtmdofcpigknaoaaIAlive
namespace Go.Proofs.Ytmdofcpigknaoaa.I
open Go Go.Maps Go.Proofs Go.RowKit Go.Sort Go.Shelf

theorem IntAns.empty {w : World} {p : Int → Prop} {e : Ending} {w' : World} (h : IntAns w p e w') (hp : ∀ i, ¬ p i) : ∃ ao cp, e = .returned (.slice ao 0 cp) ∧ Below w.heap.size w w' := by
  obtain ⟨v, ss, h1, h2, h3, h4, h5⟩ := h
  have : ss = [] := List.eq_nil_iff_forall_not_mem.2 fun i hi => hp i ((h3 i).1 hi)
  subst this
  obtain ⟨ao, c, hv⟩ := own_sh h4
  exact ⟨ao, c, by rw [h1, hv]; rfl, h5⟩
theorem StrAns.empty {w : World} {p : L8 → Prop} {e : Ending} {w' : World} (h : StrAns w p e w') (hp : ∀ i, ¬ p i) : ∃ ao cp, e = .returned (.slice ao 0 cp) ∧ Below w.heap.size w w' := by
  obtain ⟨v, ss, h1, h2, h3, h4, h5⟩ := h
  have : ss = [] := List.eq_nil_iff_forall_not_mem.2 fun i hi => hp i ((h3 i).1 hi)
  subst this
  obtain ⟨ao, c, hv⟩ := own_sh h4
  exact ⟨ao, c, by rw [h1, hv]; rfl, h5⟩
theorem valsNil (w : World) : ValsOf w 0 none (fun _ => none) (fun _ _ => none) := fun _ => rfl
set_option maxRecDepth 100000 in
set_option maxHeartbeats 6400000 in
theorem none_walk (id : Int) (key lo hi : ByteArray) (hl : lo.size ≤ 9223372036854775807) (w : World) :
    Calls Try.prog 4 #[.int .i64 id, .agg #[.string key, .string lo, .string hi]] w fun e w' => e = .returned (.bool true) ∧ Below w.heap.size w w' := by
  have hmx := maxLen_is
  have hlm : lo.size ≤ maxLen := by omega
  clear hl
  obtain ⟨W0, hW0⟩ : ∃ W0, w.alloc (.cells #[.string key, .string lo, .string hi] 24) = W0 := ⟨_, rfl⟩
  have hB0 : Below w.heap.size w W0 := by rw [← hW0]; exact below_grow1 w _
  have g0 : W0.heap[w.heap.size]? = some (.cells #[.string key, .string lo, .string hi] 24 (0, 0)) := by rw [← hW0]; exact heap_alloc_new w _
  have hlt : w.heap.size < W0.heap.size := (Array.getElem?_eq_some_iff.1 g0).1
  obtain ⟨B, hB⟩ : ∃ B, w.heap.size = B := ⟨_, rfl⟩
  rw [hB] at g0 hlt
  have HC : Hid (∀ w', Below W0.heap.size W0 w' → w'.cell? ⟨B, 0, none⟩ = some (.string key) ∧ w'.cell? ⟨B, 1, none⟩ = some (.string lo) ∧ w'.cell? ⟨B, 2, none⟩ = some (.string hi)) := Lib.hid fun w' hb => by
    have h9 := (hb.block B hlt).trans g0
    exact ⟨by simp [World.cell?, h9], by simp [World.cell?, h9], by simp [World.cell?, h9]⟩
  have HB0 := Lib.hid hB0
  have HBE := Lib.hid hB
  have HW0 := Lib.hid hW0
  clear hB0 g0 hlt hW0 hB
  go_enter Try.func4, Try.ntmps4
  go_wp2_with fail
  rw [HW0.out]
  rw [HBE.out]
  refine (alive_any W0).mono ?_
  rintro e w1 ⟨rfl, hb1⟩
  go_wp2_with fail
  refine (of_none w1).mono ?_
  rintro e w2 ⟨xb, own, rfl, hx, hb, hon⟩
  have X2 : Hid (XOn w1 own w2 xb 0 []) := Lib.hid ⟨hx, hon, hb⟩
  have hb2 : Below W0.heap.size W0 w2 := hb1.trans (hb.mono hb1.size)
  have HB1 := Lib.hid hb1
  clear hx hon hb hb1
  go_wp2_with fail
  refine (put_nil id _ w2).mono ?_
  rintro e w' ⟨rfl, hw⟩
  subst hw
  go_wp2_with fail
  refine (is_range w').mono ?_
  rintro e w'' ⟨rfl, hw⟩
  subst hw
  go_wp2_with fail
  refine (drop_nil id w').mono ?_
  rintro e w'' ⟨rfl, hw⟩
  subst hw
  obtain ⟨x0, x1, x2⟩ := HC.out _ hb2
  go_wp2_with fail
  refine (with_any none key 0 none _ _ w'' (gives_nil key w'') (valsNil w'') (by omega)).mono ?_
  intro e w3 ha
  obtain ⟨a3, c3, rfl, h3⟩ := ha.empty fun i ⟨v, h, _⟩ => h rfl
  have hb3 := hb2.trans (h3.mono hb2.size)
  have X3 := Lib.hid (X2.out.on h3)
  obtain ⟨x0, x1, x2⟩ := HC.out _ hb3
  clear ha h3 X2 hb2
  go_wp2_with fail
  refine (equal_any none key lo 0 none _ _ w3 (gives_nil key w3) (valsNil w3) hlm (by omega)).mono ?_
  intro e w4 ha
  obtain ⟨a4, c4, rfl, h4⟩ := ha.empty fun i ⟨h, _⟩ => h rfl
  have hb4 := hb3.trans (h4.mono hb3.size)
  have X4 := Lib.hid (X3.out.on h4)
  obtain ⟨x0, x1, x2⟩ := HC.out _ hb4
  clear ha h4 X3 hb3
  go_wp2_with fail
  refine (between_nil none key lo hi w4 (gives_nil key w4)).mono ?_
  intro e w5 ha
  obtain ⟨a5, c5, rfl, h5⟩ := ha.empty fun i h => h
  have hb5 := hb4.trans (h5.mono hb4.size)
  have X5 := Lib.hid (X4.out.on h5)
  obtain ⟨x0, x1, x2⟩ := HC.out _ hb5
  clear ha h5 X4 hb4
  go_wp2_with fail
  refine (keys_nil w5).mono ?_
  rintro e w' ⟨rfl, hw⟩
  subst hw
  go_wp2_with fail
  refine (values_any none key 0 none _ _ w' (gives_nil key w') (valsNil w') (by omega)).mono ?_
  intro e w6 ha
  obtain ⟨a6, c6, rfl, h6⟩ := ha.empty fun i h => h rfl
  have hb6 := hb5.trans (h6.mono hb5.size)
  have X6 := Lib.hid (X5.out.on h6)
  obtain ⟨x0, x1, x2⟩ := HC.out _ hb6
  clear ha h6 X5 hb5
  go_wp2_with fail
  refine (count_nil none key lo 0 none _ _ w6 (gives_nil key w6) (valsNil w6) hlm rfl).mono ?_
  rintro e w7 ⟨rfl, h7⟩
  have X7 := Lib.hid (X6.out.on h7)
  clear h7 X6 hb6
  go_wp2_with fail
  refine (len_nil w7).mono ?_
  rintro e w' ⟨rfl, hw⟩
  subst hw
  go_wp2_with fail
  refine (len_any X7.out.at_).mono ?_
  rintro e w'' ⟨rfl, hw⟩
  subst hw
  go_wp2_with fail
  have PU := Lib.hid (put_any own xb 0 [] 1 (.slice none 0 0) [] w'' X7.out.at_ FldsAt.nil ⟨by decide, by decide, fun f hf => by cases hf⟩ (by decide) (by omega))
  refine PU.out.mono ?_
  rintro e w8 ⟨rfl, hp⟩
  obtain ⟨own8, x8, -, -⟩ := X7.out.step hp
  have FB := Lib.hid (HB0.out.trans ((HB1.out.trans (x8.below.mono HB1.out.size)).mono HB0.out.size))
  clear hp x8 PU X7
  go_wp2_with fail
  go_ret
  exact ⟨rfl, FB.out⟩
end Go.Proofs.Ytmdofcpigknaoaa.I
