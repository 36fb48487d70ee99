/- A block that is under way ends: end. -/
import Derived.Test.YtklbbcemacpimaaGreatDoorBMoves
import Derived.Deep.DeepCutAuto
namespace Go.Proofs.YtklbbcemacpimaaGreatDoor.B
open Go.RowKit Go.Shelf

theorem flush_ok {p : Ps} {N : Nat} (h : PsOk p N) : PsOk p.flush.st (N + 1) := by
  obtain ⟨h1, h2, h3, h4, h5⟩ := h
  unfold Ps.flush
  split
  · exact ⟨by show massOf p.lines ≤ _; omega, by show massOf p.block ≤ _; omega, by show p.items.length ≤ _; omega, by show p.fields.length ≤ _; omega, by show p.records ≤ _; omega⟩
  split
  · exact ⟨by show massOf p.lines ≤ _; omega, by show massOf p.block ≤ _; omega, by show p.items.length ≤ _; omega, by show p.fields.length ≤ _; omega, by show p.records ≤ _; omega⟩
  split
  · exact ⟨by show massOf p.lines ≤ _; omega, by show massOf p.block ≤ _; omega, by show p.items.length ≤ _; omega, by show p.fields.length ≤ _; omega, by show p.records ≤ _; omega⟩
  · exact ⟨by show 0 ≤ _; omega, by show massOf p.block ≤ _; omega, by show p.items.length ≤ _; omega, by show (p.fields ++ [_]).length ≤ _; rw [List.length_append]; simp; omega, by show p.records ≤ _; omega⟩
theorem StepPost.pos {w w' : World} {ρ : Col} {b : Nat} {r : Res} {e : Ending} (h : StepPost w ρ b r e w') (he : r.err = 0) : e = .returned .nilIface ∧ Became w ρ b r.st w' := by
  unfold StepPost at h; rwa [if_pos he] at h
theorem StepPost.neg {w w' : World} {ρ : Col} {b : Nat} {r : Res} {e : Ending} (h : StepPost w ρ b r e w') (he : r.err ≠ 0) : ∃ g, e = .returned (faultV g) ∧ w.heap.size ≤ g ∧ FaultAt w' g r.at_ r.err ∧ Kept ρ w w' := by
  unfold StepPost at h; rwa [if_neg he] at h
theorem app10 (l : List UInt8) : (⟨l.toArray⟩ : ByteArray) ++ ⟨#[10]⟩ = ⟨(l ++ [10]).toArray⟩ := by
  apply ByteArray.ext
  simp
theorem Became.at {w w' : World} {ρ : Col} {b : Nat} {p : Ps} (h : Became w ρ b p w') : ∃ ρ' L, ParserAt w' ρ' b p L ∧ Ext w ρ ρ' ∧ Kept ρ w w' := let ⟨ρ', ⟨L, h1⟩, h2, h3⟩ := h; ⟨ρ', L, h1, h2, h3⟩
/-- What the walk of Join wants. -/
theorem join_any (ls : List (List UInt8)) (v : Value) (w : World) (h : TextsAt w v ls) (hne : 0 < ls.length) (hm : massOf ls ≤ 1000001) :
    Calls Tryz.prog 68 #[v, .string ⟨#[10]⟩] w fun e w' => e = .returned (.string ⟨(Lib.join ls [10]).toArray⟩) ∧ Below w.heap.size w w' := by
  obtain ⟨ao, cp, rfl, hcp, hc⟩ := h
  obtain ⟨s0, hs0⟩ : ∃ s0, ls[0]? = some s0 := ⟨_, List.getElem?_eq_getElem hne⟩
  obtain ⟨g, rfl, hg, -⟩ := hc 0 s0 hs0
  have hl := massOf_len ls
  have J := Tryz.strings_Join g 0 cp (ls.map fun s => (⟨s.toArray⟩ : ByteArray)) ⟨#[10]⟩ w (fun j x hx => by
    rw [List.getElem?_map] at hx
    cases hp : ls[j]? with
    | none => rw [hp] at hx; cases hx
    | some s =>
      rw [hp] at hx
      cases hx
      obtain ⟨g3, e3, -, h3⟩ := hc j s hp
      cases e3
      rw [Nat.zero_add]
      exact h3) hg (by rw [List.length_map]; omega) (by rw [List.length_map]; exact hcp) (by
      rw [show (ls.map fun s => (⟨s.toArray⟩ : ByteArray)).map (·.data.toList) = ls by rw [List.map_map]; exact List.map_id' _]
      exact Nat.le_trans (join_len ls 10) (by omega))
  rw [show (ls.map fun s => (⟨s.toArray⟩ : ByteArray)).map (·.data.toList) = ls by rw [List.map_map]; exact List.map_id' _, List.length_map] at J
  exact J
set_option maxRecDepth 100000 in
set_option maxHeartbeats 6400000 in
theorem end_any (w : World) (ρ : Col) (b : Nat) (p : Ps) (L : Pay) (h : ParserAt w ρ b p L) (ok : PsOk p 1000000) :
    Calls Tryz.prog 44 #[.pointer (some ⟨b, 0, none⟩)] w (StepPost w ρ b p.fin) := by
  have F0 := flush_any w ρ b p L h ok
  have OK := Lib.hid (flush_ok ok)
  have HP := Lib.hid h
  clear h ok
  by_cases he : p.flush.err = 0
  · have hr : Hid (p.fin = ⟨0, 0, p.flush.st.ended⟩) := Lib.hid (by unfold Ps.fin; rw [if_neg (by rw [he]; simp)])
    have F := Lib.hid (F0.mono fun e w' h => h.pos he)
    clear F0
    obtain ⟨q, hq⟩ : ∃ q, p.flush.st = q := ⟨_, rfl⟩
    rw [hq] at F OK hr
    clear he hq
    go_enter Tryz.func44, Tryz.ntmps44
    go_wp2_with fail
    refine F.out.mono ?_
    rintro e w1 ⟨rfl, hB⟩
    obtain ⟨ρ1, L1, h1, e1, k1⟩ := hB.at
    have H1 := Lib.hid h1
    have EK := Lib.hid (show Ext w ρ ρ1 ∧ Kept ρ w w1 from ⟨e1, k1⟩)
    have c4 := h1.cells.c4
    have f4 := h1.cells.f4
    have c5 := h1.cells.c5
    have f5 := h1.cells.f5
    have hb := h1.blk.lt
    obtain ⟨bo, bc, hvb⟩ := h1.rowB.shape
    obtain ⟨fo, fc, hvf⟩ := h1.rowF.shape
    rw [hvb] at c4
    rw [hvf] at c5
    by_cases hbl : q.block = []
    · have hn : q.block.length = 0 := by rw [hbl]; rfl
      have hend : Hid (q.ended = { q with block := [], fields := [] }) := Lib.hid (by unfold Ps.ended; rw [if_pos hbl])
      rw [hn] at c4
      clear h1 e1 k1 hB hvb hvf hn hbl
      go_wp2
      go_ret
      rw [hr.out, hend.out]
      exact ⟨rfl, Became.next EK.out.1 EK.out.2 (became_clear H1.out)⟩
    · have hpos : 0 < q.block.length := List.length_pos_iff.2 hbl
      obtain ⟨i0, hi0, hz0, hz1, hz2⟩ := info_parts infoIt
      have c3 := h1.cells.c3
      have f3 := h1.cells.f3
      have hown := h1.rowI.1
      have hne : L1.vi.ownBlock ≠ some b := fun e => by have := h1.rowI.2 b e; rw [h1.blk.2] at this; cases this
      have hni := OK.out.items
      have hmass : massOf q.block ≤ 1000001 := OK.out.block
      have HT : Hid (TextsAt w1 (.slice bo q.block.length bc) q.block) := Lib.hid (by rw [← hvb]; exact TextsAt.of h1.rowB.1 rfl hpos)
      obtain ⟨jb, hjb⟩ : ∃ jb : ByteArray, (⟨(Lib.join q.block [10]).toArray⟩ : ByteArray) = jb := ⟨_, rfl⟩
      have hjs : jb.size ≤ 1000001 := by rw [← size_len, ← hjb]; exact Nat.le_trans (join_len q.block 10) hmass
      by_cases hfe : q.fields = []
      · have hfn : q.fields.length = 0 := by rw [hfe]; rfl
        have hvn := h1.nilF hfe
        rw [hvf, hfn] at hvn
        rw [hfn, hvn] at c5
        have hend : Hid (q.ended = { q with items := q.items ++ [⟨2, Lib.join q.block [10] ++ [10], []⟩], block := [], fields := [] }) := Lib.hid (by unfold Ps.ended Ps.item; rw [if_neg hbl, if_pos hfe, if_pos hfe, hfe])
        clear h1 e1 k1 hB hvb hvf hfe hfn hvn hbl
        have J : Hid (∀ V, Below w1.heap.size w1 V → Calls Tryz.prog 68 #[.slice bo q.block.length bc, .string ⟨#[10]⟩] V fun e w' => e = .returned (.string jb) ∧ Below V.heap.size V w') := Lib.hid fun V hV => by
          rw [← hjb]
          exact join_any q.block _ V (HT.out.below hV) hpos hmass
        have hj1 : ¬ 9223372036854775807 < jb.size + 1 := by omega
        go_upto_region 9 with fail
        go_region_law
          (first
          | (refine step_append_lies _ (by rfl) _ _ _ (by rfl) 0 65 i0 _ 3 48 Tryz.underlying58 hi0 hz0 hz1 hz2 rfl (by omega) L1.vi q.items.length (itemCells q.items L1.vis) (by rfl) (hown2.alloc _)
                ⟨w2.heap.size, 0, none⟩ 1 1 [.int .i64 2, .string (jb ++ ⟨#[10]⟩), .slice none 0 0] (by rfl) (by rfl) (World.news_of_block (cs := #[.int .i64 2, .string (jb ++ ⟨#[10]⟩), .slice none 0 0]) (t := 65) (fr := (0, 0)) (heap_alloc_new w2 _)) (by simp [Value.oneCell'])
                (by omega) (by unfold maxLen; omega) (by omega) (by simp) (w2.heap.size + 1) (by simp) ?_; intro gg cap w3 hown3 hgrow hat hlt; have q3 : w3.frozen? ⟨b, 3, none⟩ = false := (hgrow.frozen_far _ (by simp; omega) (Ne.symm hne)).trans (((below_grow1 w2 _).frozen (p := ⟨b, 3, none⟩) hb2).trans g3); have n3 : w3.cell? ⟨b, 3, none⟩ = some L1.vi := (hgrow.cell_far _ (by simp; omega) (Ne.symm hne)).trans (((below_grow1 w2 _).cell (p := ⟨b, 3, none⟩) hb2).trans k3); have q4 : w3.frozen? ⟨b, 4, none⟩ = false := (hgrow.frozen_far _ (by simp; omega) (Ne.symm hne)).trans (((below_grow1 w2 _).frozen (p := ⟨b, 4, none⟩) hb2).trans g4); have n4 : w3.cell? ⟨b, 4, none⟩ = some (.slice bo q.block.length bc) := (hgrow.cell_far _ (by simp; omega) (Ne.symm hne)).trans (((below_grow1 w2 _).cell (p := ⟨b, 4, none⟩) hb2).trans k4); have q5 : w3.frozen? ⟨b, 5, none⟩ = false := (hgrow.frozen_far _ (by simp; omega) (Ne.symm hne)).trans (((below_grow1 w2 _).frozen (p := ⟨b, 5, none⟩) hb2).trans g5); have n5 : w3.cell? ⟨b, 5, none⟩ = some (.slice none 0 0) := (hgrow.cell_far _ (by simp; omega) (Ne.symm hne)).trans (((below_grow1 w2 _).cell (p := ⟨b, 5, none⟩) hb2).trans k5))
          | (go_simp; go_at_call 68; refine (J.out w1.drew (Below.refl _ _).drew).mono ?_; rintro e w2 ⟨rfl, b2⟩; have k3 : w2.cell? ⟨b, 3, none⟩ = some L1.vi := (b2.cell (p := ⟨b, 3, none⟩) hb).trans c3; have g3 : w2.frozen? ⟨b, 3, none⟩ = false := (b2.frozen (p := ⟨b, 3, none⟩) hb).trans f3; have k4 : w2.cell? ⟨b, 4, none⟩ = some (.slice bo q.block.length bc) := (b2.cell (p := ⟨b, 4, none⟩) hb).trans c4; have g4 : w2.frozen? ⟨b, 4, none⟩ = false := (b2.frozen (p := ⟨b, 4, none⟩) hb).trans f4; have k5 : w2.cell? ⟨b, 5, none⟩ = some (.slice none 0 0) := (b2.cell (p := ⟨b, 5, none⟩) hb).trans c5; have g5 : w2.frozen? ⟨b, 5, none⟩ = false := (b2.frozen (p := ⟨b, 5, none⟩) hb).trans f5; have hb2 : b < w2.heap.size := Nat.lt_of_lt_of_le hb b2.size; have hown2 := ownsRow_of_block hown (fun y hy => b2.block y (hown.lt y hy).2); have B2 : Hid (Below w1.heap.size w1 w2) := Lib.hid ((Below.refl w1.heap.size w1).drew.trans b2); clear b2))
        all_goals
          go_wp2_with fail
          go_ret
          rw [hr.out, hend.out]
          rw [← hjb, app10] at hown3
          exact ⟨rfl, Became.next EK.out.1 EK.out.2 (became_item H1.out (B2.out.trans ((below_grow1 w2 _).mono B2.out.size)) ⟨2, Lib.join q.block [10] ++ [10], []⟩ (.slice none 0 0) (Row.nil _ _ _ _ _) hown3 hgrow (by rcases hat with hat | hat; exact .inl hat; exact .inr (by rw [hat]; simp)) hlt rfl rfl rfl (.inr ⟨rfl, rfl⟩) (fun h => setCell_block _ (setCell_block _ (setCell_block _ h))) (fun σ hσ => ((Kept.setCell (by rw [hσ]; simp)).then (Kept.setCell (by rw [hσ]; simp))).then (Kept.setCell (by rw [hσ]; simp))))⟩
      · have hfp : 0 < q.fields.length := List.length_pos_iff.2 hfe
        have hend : Hid (q.ended = { q with items := q.items ++ [⟨3, Lib.join q.block [10] ++ [10], q.fields⟩], records := q.records + 1, block := [], fields := [] }) := Lib.hid (by unfold Ps.ended Ps.item; rw [if_neg hbl, if_neg hfe, if_neg hfe])
        have c6 := h1.cells.c6
        have f6 := h1.cells.f6
        have hrec := OK.out.records
        obtain ⟨s6, t6⟩ := Blk.store h1.blk (i := 6) (v := .int .i64 ((q.records : Int) + 1))
        obtain ⟨wz, hwz⟩ : ∃ wz, w1.setCell ⟨b, 6, none⟩ (.int .i64 ((q.records : Int) + 1)) = wz := ⟨_, rfl⟩
        rw [hwz] at s6 t6
        have h2 : ParserAt wz ρ1 b { q with records := q.records + 1 } L1 := became_set h1 t6 s6.1 rfl rfl rfl rfl
        have H2 := Lib.hid h2
        have T6 := Lib.hid t6
        have HVF := Lib.hid hvf
        have x3 := h2.cells.c3
        have x4 := h2.cells.c4
        have x5 := h2.cells.c5
        have y3 := h2.cells.f3
        have y4 := h2.cells.f4
        have y5 := h2.cells.f5
        rw [hvb] at x4
        rw [hvf] at x5
        have hbz := h2.blk.lt
        have hownz := h2.rowI.1
        have HTz : Hid (TextsAt wz (.slice bo q.block.length bc) q.block) := Lib.hid (by rw [← hvb]; exact TextsAt.of h2.rowB.1 rfl hpos)
        clear h1 h2 e1 k1 hB hvb hvf hfe hbl s6 t6 hown HT
        go_upto_region 9 with fail
        clear hwz c3 f3 c4 f4 c5 f5 c6 f6 hb
        have c3 := x3
        have c4 := x4
        have c5 := x5
        have f3 := y3
        have f4 := y4
        have f5 := y5
        have hb := hbz
        have hown := hownz
        have HT := HTz
        clear x3 x4 x5 y3 y4 y5 hbz hownz HTz
        have J : Hid (∀ V, Below wz.heap.size wz V → Calls Tryz.prog 68 #[.slice bo q.block.length bc, .string ⟨#[10]⟩] V fun e w' => e = .returned (.string jb) ∧ Below V.heap.size V w') := Lib.hid fun V hV => by
          rw [← hjb]
          exact join_any q.block _ V (HT.out.below hV) hpos hmass
        have hj1 : ¬ 9223372036854775807 < jb.size + 1 := by omega
        go_region_law
          (first
          | (refine step_append_lies _ (by rfl) _ _ _ (by rfl) 0 65 i0 _ 3 48 Tryz.underlying58 hi0 hz0 hz1 hz2 rfl (by omega) L1.vi q.items.length (itemCells q.items L1.vis) (by rfl) (hown2.alloc _)
                ⟨w2.heap.size, 0, none⟩ 1 1 [.int .i64 3, .string (jb ++ ⟨#[10]⟩), .slice fo q.fields.length fc] (by rfl) (by rfl) (World.news_of_block (cs := #[.int .i64 3, .string (jb ++ ⟨#[10]⟩), .slice fo q.fields.length fc]) (t := 65) (fr := (0, 0)) (heap_alloc_new w2 _)) (by simp [Value.oneCell'])
                (by omega) (by unfold maxLen; omega) (by omega) (by simp) (w2.heap.size + 1) (by simp) ?_; intro gg cap w3 hown3 hgrow hat hlt; have q3 : w3.frozen? ⟨b, 3, none⟩ = false := (hgrow.frozen_far _ (by simp; omega) (Ne.symm hne)).trans (((below_grow1 w2 _).frozen (p := ⟨b, 3, none⟩) hb2).trans g3); have n3 : w3.cell? ⟨b, 3, none⟩ = some L1.vi := (hgrow.cell_far _ (by simp; omega) (Ne.symm hne)).trans (((below_grow1 w2 _).cell (p := ⟨b, 3, none⟩) hb2).trans k3); have q4 : w3.frozen? ⟨b, 4, none⟩ = false := (hgrow.frozen_far _ (by simp; omega) (Ne.symm hne)).trans (((below_grow1 w2 _).frozen (p := ⟨b, 4, none⟩) hb2).trans g4); have n4 : w3.cell? ⟨b, 4, none⟩ = some (.slice bo q.block.length bc) := (hgrow.cell_far _ (by simp; omega) (Ne.symm hne)).trans (((below_grow1 w2 _).cell (p := ⟨b, 4, none⟩) hb2).trans k4); have q5 : w3.frozen? ⟨b, 5, none⟩ = false := (hgrow.frozen_far _ (by simp; omega) (Ne.symm hne)).trans (((below_grow1 w2 _).frozen (p := ⟨b, 5, none⟩) hb2).trans g5); have n5 : w3.cell? ⟨b, 5, none⟩ = some (.slice fo q.fields.length fc) := (hgrow.cell_far _ (by simp; omega) (Ne.symm hne)).trans (((below_grow1 w2 _).cell (p := ⟨b, 5, none⟩) hb2).trans k5))
          | (go_simp; go_at_call 68; refine (J.out wz.drew (Below.refl _ _).drew).mono ?_; rintro e w2 ⟨rfl, b2⟩; have k3 : w2.cell? ⟨b, 3, none⟩ = some L1.vi := (b2.cell (p := ⟨b, 3, none⟩) hb).trans c3; have g3 : w2.frozen? ⟨b, 3, none⟩ = false := (b2.frozen (p := ⟨b, 3, none⟩) hb).trans f3; have k4 : w2.cell? ⟨b, 4, none⟩ = some (.slice bo q.block.length bc) := (b2.cell (p := ⟨b, 4, none⟩) hb).trans c4; have g4 : w2.frozen? ⟨b, 4, none⟩ = false := (b2.frozen (p := ⟨b, 4, none⟩) hb).trans f4; have k5 : w2.cell? ⟨b, 5, none⟩ = some (.slice fo q.fields.length fc) := (b2.cell (p := ⟨b, 5, none⟩) hb).trans c5; have g5 : w2.frozen? ⟨b, 5, none⟩ = false := (b2.frozen (p := ⟨b, 5, none⟩) hb).trans f5; have hb2 : b < w2.heap.size := Nat.lt_of_lt_of_le hb b2.size; have hown2 := ownsRow_of_block hown (fun y hy => b2.block y (hown.lt y hy).2); have B2 : Hid (Below wz.heap.size wz w2) := Lib.hid ((Below.refl wz.heap.size wz).drew.trans b2); clear b2))
        all_goals
          go_wp2_with fail
          go_ret
          rw [hr.out, hend.out]
          rw [← hjb, app10] at hown3
          exact ⟨rfl, Became.next EK.out.1 EK.out.2 (Became.next (Ext.refl _ _) T6.out.wide (became_item H2.out (B2.out.trans ((below_grow1 w2 _).mono B2.out.size)) ⟨3, Lib.join q.block [10] ++ [10], q.fields⟩ (.slice fo q.fields.length fc) (HVF.out ▸ H2.out.rowF) hown3 hgrow (by rcases hat with hat | hat; exact .inl hat; exact .inr (by rw [hat]; simp)) hlt rfl rfl rfl (.inr ⟨rfl, rfl⟩) (fun h => setCell_block _ (setCell_block _ (setCell_block _ h))) (fun σ hσ => ((Kept.setCell (by rw [hσ]; simp)).then (Kept.setCell (by rw [hσ]; simp))).then (Kept.setCell (by rw [hσ]; simp)))))⟩
  · have hr : Hid (p.fin = p.flush) := Lib.hid (by unfold Ps.fin; rw [if_pos he])
    have F := Lib.hid (F0.mono fun e w' h => h.neg he)
    clear F0
    have HE := Lib.hid he
    clear he
    go_enter Tryz.func44, Tryz.ntmps44
    go_wp2_with fail
    refine F.out.mono ?_
    rintro e w1 ⟨g, rfl, hg, hf, hk⟩
    have HH := Lib.hid (show w.heap.size ≤ g ∧ FaultAt w1 g p.flush.at_ p.flush.err ∧ Kept ρ w w1 from ⟨hg, hf, hk⟩)
    clear hg hf hk
    unfold faultV
    go_wp2
    go_ret
    rw [hr.out]
    unfold StepPost
    rw [if_neg HE.out]
    exact ⟨g, rfl, HH.out⟩
end Go.Proofs.YtklbbcemacpimaaGreatDoor.B
