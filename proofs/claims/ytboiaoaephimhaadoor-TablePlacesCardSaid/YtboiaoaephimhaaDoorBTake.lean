/- What is done with a line: begin, ahead, take. -/
import Derived.Test.YtboiaoaephimhaaDoorBEnd
namespace Go.Proofs.YtboiaoaephimhaaDoor.B
open Go.RowKit Go.Shelf

theorem lineD_val (x : LineD) : x.val = .agg #[.int .i64 x.no, .int .i64 x.at_, .string ⟨x.text.toArray⟩, .bool x.ended] := rfl
/-- begin. -/
theorem begin_any (w : World) (ρ : Col) (b : Nat) (p : Ps) (L : Pay) (h : ParserAt w ρ b p L) (x : LineD) :
    Calls Tryd.prog 62 #[.pointer (some ⟨b, 0, none⟩), .agg #[.int .i64 x.no, .int .i64 x.at_, .string ⟨x.text.toArray⟩, .bool x.ended]] w fun e w' => e = .returned (.tuple #[]) ∧ Became w ρ b (p.begun x) w' := by
  have hb := h.blk.lt
  obtain ⟨fo, fc, hvf⟩ := h.rowF.shape
  obtain ⟨w1, hw1⟩ : ∃ w1, w.alloc (.cells #[.int .i64 x.no, .int .i64 x.at_, .string ⟨x.text.toArray⟩, .bool x.ended] 91) = w1 := ⟨_, rfl⟩
  have b1 : Below w.heap.size w w1 := by rw [← hw1]; exact below_grow1 _ _
  have hX : w1.heap[w.heap.size]? = some (.cells #[.int .i64 x.no, .int .i64 x.at_, .string ⟨x.text.toArray⟩, .bool x.ended] 91 (0, 0)) := by rw [← hw1]; exact heap_alloc_new _ _
  have hxl : w.heap.size < w1.heap.size := (Array.getElem?_eq_some_iff.1 hX).1
  have m0 : w1.cell? ⟨w.heap.size, 0, none⟩ = some (.int .i64 x.no) := by simp [World.cell?, hX]
  have m2 : w1.cell? ⟨w.heap.size, 2, none⟩ = some (.string ⟨x.text.toArray⟩) := by simp [World.cell?, hX]
  have h1 := h.below b1
  have c5 := h1.cells.c5
  have c6 := h1.cells.c6
  have c0 := h1.cells.c0
  have c1 := h1.cells.c1
  have c2 := h1.cells.c2
  have f0 := h1.cells.f0
  have f1 := h1.cells.f1
  have f2 := h1.cells.f2
  rw [hvf] at c5
  have hb1 := h1.blk.lt
  have HD := Lib.hid h
  have B1 := Lib.hid b1
  obtain ⟨lo, lc, hvl⟩ := h1.rowL.shape
  rw [hvl] at c0
  obtain ⟨fl, hfl⟩ : ∃ fl, (decide (p.fields.length = 40) || (decide (p.fields.length = 0) && decide (p.records = 400))) = fl := ⟨_, rfl⟩
  have hbeg : Hid (p.begun x = { p with lines := [x.text], from_ := x.no, full := fl }) := Lib.hid (by unfold Ps.begun; rw [hfl])
  have q1 : ((p.fields.length : Int) == 40) = decide (p.fields.length = 40) := by by_cases e : p.fields.length = 40 <;> simp [e] <;> omega
  have q2 : ((p.fields.length : Int) == 0) = decide (p.fields.length = 0) := by by_cases e : p.fields.length = 0 <;> simp [e]
  have q3 : ((p.records : Int) == 400) = decide (p.records = 400) := by by_cases e : p.records = 400 <;> simp [e] <;> omega
  obtain ⟨g1, hg1⟩ : ∃ g1, decide (p.fields.length = 40) = g1 := ⟨_, rfl⟩
  obtain ⟨g2, hg2⟩ : ∃ g2, decide (p.fields.length = 0) = g2 := ⟨_, rfl⟩
  obtain ⟨g3, hg3⟩ : ∃ g3, decide (p.records = 400) = g3 := ⟨_, rfl⟩
  rw [hg1, hg2, hg3] at hfl
  rw [hg1] at q1
  rw [hg2] at q2
  rw [hg3] at q3
  clear h h1 b1 hvf hvl hX hg1 hg2 hg3
  have HF := Lib.hid hfl
  clear hfl
  go_enter Tryd.func62, Tryd.ntmps62
  have T : ∀ fl', fl' = fl → Hid (Became w ρ b (p.begun x) ((((w1.setCell ⟨b, 0, none⟩ (.slice (some ⟨w1.heap.size, 0, none⟩) 1 1)).setCell ⟨b, 1, none⟩ (.int .i64 x.no)).setCell ⟨b, 2, none⟩ (.bool fl')).alloc (.cells #[.string ⟨x.text.toArray⟩] 9))) := fun fl' e => Lib.hid (by
    subst e
    rw [hbeg.out]
    have hcm : ∀ (V : World) (o : Obj) (j : Nat) (u : Value), b < V.heap.size → (V.alloc o).setCell ⟨b, j, none⟩ u = (V.setCell ⟨b, j, none⟩ u).alloc o := fun V o j u hV => World.setCell_alloc_past o b j u hV
    rw [← hcm _ _ _ _ (by simpa [World.setCell] using hb1), ← hcm _ _ _ _ (by simpa [World.setCell] using hb1), ← hcm _ _ _ _ hb1]
    exact became_begun HD.out B1.out x.text x.no _ w1.heap.size (Nat.le_refl _) (below_grow1 _ _) (heap_alloc_new w1 _))
  have T' := Lib.hid T
  clear T
  cases g1 with
  | true =>
    go_wp2
    go_end0
    exact ⟨rfl, (T'.out true (by rw [← HF.out]; rfl)).out⟩
  | false =>
    cases g2 with
    | true =>
      go_wp2
      go_end0
      exact ⟨rfl, (T'.out g3 (by rw [← HF.out]; cases g3 <;> rfl)).out⟩
    | false =>
      go_wp2
      go_end0
      exact ⟨rfl, (T'.out false (by rw [← HF.out]; rfl)).out⟩
theorem StepPost.next {w w' w'' : World} {ρ ρ' : Col} {b : Nat} {r : Res} {e : Ending} (he : Ext w ρ ρ') (hk : Kept ρ w w') (h : StepPost w' ρ' b r e w'') : StepPost w ρ b r e w'' := by
  unfold StepPost at h ⊢
  split
  · rename_i h0
    rw [if_pos h0] at h
    exact ⟨h.1, Became.next he hk h.2⟩
  · rename_i h0
    rw [if_neg h0] at h
    obtain ⟨g, h1, h2, h3, h4⟩ := h
    exact ⟨g, h1, Nat.le_trans hk.size h2, h3, hk.trans he h4⟩
theorem StepPost.from {w w' w'' : World} {ρ : Col} {b : Nat} {r : Res} {e : Ending} (hb : Below w.heap.size w w') (h : StepPost w' ρ b r e w'') : StepPost w ρ b r e w'' := h.next (Ext.refl _ _) (Kept.below hb)
theorem Fits.none {w : World} {ρ : Col} (h : Fits w ρ) {k : Nat} (hk : w.heap.size ≤ k) : ρ k = none := by
  cases e : ρ k with
  | none => rfl
  | some c => exact absurd (h k (by rw [e]; simp)) (by omega)
theorem more_ok {p : Ps} {N : Nat} (h : PsOk p N) (x : LineD) (M : Nat) (hM : N + (x.text.length + 1) ≤ M) : PsOk (p.more x) M := by
  obtain ⟨h1, h2, h3, h4, h5⟩ := h
  exact ⟨by show massOf (p.lines ++ [x.text]) ≤ _; rw [massOf_snoc]; omega, by show massOf p.block ≤ _; omega, by show p.items.length ≤ _; omega, by show p.fields.length ≤ _; omega, by show p.records ≤ _; omega⟩
set_option maxRecDepth 100000 in
set_option maxHeartbeats 3200000 in
theorem ahead_any (w : World) (ρ : Col) (b : Nat) (p : Ps) (L : Pay) (h : ParserAt w ρ b p L) (ok : PsOk p 900000) (x : LineD) (hx : x.text.length ≤ 60000) (kd : Nat) :
    Calls Tryd.prog 60 #[.pointer (some ⟨b, 0, none⟩), .agg #[.int .i64 x.no, .int .i64 x.at_, .string ⟨x.text.toArray⟩, .bool x.ended], .int .i64 kd] w (StepPost w ρ b (p.aheadOf x kd)) := by
  obtain ⟨w1, hw1⟩ : ∃ w1, w.alloc (.cells #[.int .i64 x.no, .int .i64 x.at_, .string ⟨x.text.toArray⟩, .bool x.ended] 91) = w1 := ⟨_, rfl⟩
  have b1 : Below w.heap.size w w1 := by rw [← hw1]; exact below_grow1 _ _
  have hX : w1.heap[w.heap.size]? = some (.cells #[.int .i64 x.no, .int .i64 x.at_, .string ⟨x.text.toArray⟩, .bool x.ended] 91 (0, 0)) := by rw [← hw1]; exact heap_alloc_new _ _
  have hxl : w.heap.size < w1.heap.size := (Array.getElem?_eq_some_iff.1 hX).1
  have HX := Lib.hid hX
  have m0 : w1.cell? ⟨w.heap.size, 0, none⟩ = some (.int .i64 x.no) := by simp [World.cell?, hX]
  have m2 : w1.cell? ⟨w.heap.size, 2, none⟩ = some (.string ⟨x.text.toArray⟩) := by simp [World.cell?, hX]
  have h1 := h.below b1
  have H1 := Lib.hid h1
  have B1 := Lib.hid b1
  have hfit := Lib.hid (h.fits)
  have ok' : PsOk p 1000000 := ⟨by have := ok.lines; omega, by have := ok.block; omega, by have := ok.items; omega, by have := ok.fields; omega, by have := ok.records; omega⟩
  by_cases h3 : kd = 3
  · subst h3
    have c0 := h1.cells.c0
    have f0 := h1.cells.f0
    obtain ⟨lo, lc, hvl⟩ := h1.rowL.shape
    have hb1 := h1.blk.lt
    by_cases hl : p.lines = []
    · have hn : p.lines.length = 0 := by rw [hl]; rfl
      rw [hvl, hn] at c0
      have hr : Hid (p.aheadOf x 3 = ⟨2, x.no, p⟩) := Lib.hid (by unfold Ps.aheadOf; rw [if_pos rfl, if_pos hl])
      clear h h1 b1 hX hvl hl hn ok ok'
      go_enter Tryd.func60, Tryd.ntmps60
      go_wp2_with fail
      refine (fault_any x.no 2 _).mono ?_
      rintro e w2 ⟨rfl, rfl⟩
      go_wp2
      go_ret
      rw [hr.out]
      exact StepPost.fault (r := ⟨2, x.no, p⟩) (n := x.no) (k := 2) B1.out rfl rfl (by decide) rfl
    · have hp : 0 < p.lines.length := List.length_pos_iff.2 hl
      have hpn : ¬ ((p.lines.length : Int) = 0) := by omega
      obtain ⟨i0, hi0, hz0, hz1, hz2⟩ := info_parts infoS
      have hown := h1.rowL.1
      have hne : L.vl.ownBlock ≠ some b := fun e => by have := h1.rowL.2 b e; rw [h1.blk.2] at this; cases this
      have hnl := massOf_len p.lines
      have hml := ok.lines
      have HVL := Lib.hid hvl
      have c0' : w1.cell? ⟨b, 0, none⟩ = some (.slice lo p.lines.length lc) := by rw [← hvl]; exact c0
      have hown' : w1.ownsRow 0 9 1 (.slice lo p.lines.length lc) p.lines.length (p.lines.flatMap strC) := by rw [← hvl]; exact hown
      have hne' : (Value.slice lo p.lines.length lc).ownBlock ≠ some b := by rw [← hvl]; exact hne
      have hr : Hid (p.aheadOf x 3 = if x.ended = true then ⟨0, 0, p.more x⟩ else (p.more x).flush) := Lib.hid (by unfold Ps.aheadOf; rw [if_pos rfl, if_neg hl])
      have OKm := Lib.hid (more_ok ok x 1000000 (by omega))
      clear h h1 b1 hX hvl hl ok ok' c0 hown hne
      obtain ⟨xe, hxe⟩ : ∃ xe, x.ended = xe := ⟨_, rfl⟩
      rw [hxe] at hw1 HX hr
      go_enter Tryd.func60, Tryd.ntmps60
      go_upto_region 5 with fail
      go_region_law
        ((refine step_append_lies _ (by rfl) _ _ _ (by rfl) 0 9 i0 _ 1 16 Tryd.underlying24 hi0 hz0 hz1 hz2 rfl (by omega) (.slice lo p.lines.length lc) p.lines.length (p.lines.flatMap strC) (by rfl) ((hown'.alloc _).drew)
            ⟨w1.heap.size, 0, none⟩ 1 1 (strC x.text) (by rfl) (by rfl) (World.news_of_block (cs := (strC x.text).toArray) (t := 9) (fr := (0, 0)) (heap_alloc_new w1 _)) (by simp [strC, Value.oneCell'])
            (by omega) (by unfold maxLen; omega) (by omega) (by simp) (w1.heap.size + 1) (by simp) ?_; intro gg cap w3 hown3 hgrow hat hlt; have q0 : w3.frozen? ⟨b, 0, none⟩ = false := (hgrow.frozen_far _ (by simp; omega) (Ne.symm hne')).trans (((below_grow1 w1 _).frozen (p := ⟨b, 0, none⟩) hb1).trans f0); have n0 : w3.cell? ⟨b, 0, none⟩ = some (.slice lo p.lines.length lc) := (hgrow.cell_far _ (by simp; omega) (Ne.symm hne')).trans (((below_grow1 w1 _).cell (p := ⟨b, 0, none⟩) hb1).trans c0')))
      all_goals
        rw [← HVL.out] at hgrow hat
        have T := became_lines H1.out (Below.drew (below_grow1 w1 _)) x.text hown3 hgrow (by rcases hat with hat | hat; exact .inl hat; exact .inr (by rw [hat]; simp)) hlt
        generalize w3.setCell ⟨b, 0, none⟩ (.slice (some ⟨gg, 0, none⟩) (p.lines.length + 1) cap) = wq at *
        have T' : Hid (Became w1 ρ b (p.more x) wq) := Lib.hid T
        clear T hown3 hgrow hat hlt q0 n0 m0 m2 f0 c0' hown'
        obtain ⟨ρ4, L4, h4, e4, k4⟩ := T'.out.at
        have hX4 := (k4.block _ hxl (hfit.out.none (Nat.le_refl _))).trans HX.out
        have m3 : wq.cell? ⟨w.heap.size, 3, none⟩ = some (.bool xe) := by simp [World.cell?, hX4]
        have EK := Lib.hid (show Ext w1 ρ ρ4 ∧ Kept ρ w1 wq from ⟨e4, k4⟩)
        have FF := Lib.hid (flush_any wq ρ4 b (p.more x) L4 h4 OKm.out)
        clear h4 e4 k4 hX4
        cases xe with
        | true =>
          go_wp2
          go_ret
          rw [hr.out, if_pos (by simp)]
          exact StepPost.from B1.out (by unfold StepPost; rw [if_pos rfl]; exact ⟨rfl, T'.out⟩)
        | false =>
          go_wp2_with fail
          by_cases hfe : ((p.more x).flush).err = 0
          · refine (FF.out.mono fun e w' h => h.pos hfe).mono ?_
            rintro e w5 ⟨rfl, hB5⟩
            have hB5' := Lib.hid hB5
            clear hB5
            go_wp2
            go_ret
            rw [hr.out, if_neg (by simp)]
            have hS : StepPost wq ρ4 b ((p.more x).flush) (.returned .nilIface) w5 := by unfold StepPost; rw [if_pos hfe]; exact ⟨rfl, hB5'.out⟩
            exact StepPost.from B1.out (StepPost.next EK.out.1 EK.out.2 hS)
          · refine (FF.out.mono fun e w' h => h.neg hfe).mono ?_
            rintro e w5 ⟨g, rfl, hB5⟩
            have hB5' := Lib.hid hB5
            clear hB5
            unfold faultV
            go_wp2
            go_ret
            rw [hr.out, if_neg (by simp)]
            have hS : StepPost wq ρ4 b ((p.more x).flush) (.returned (faultV g)) w5 := by unfold StepPost; rw [if_neg hfe]; exact ⟨g, rfl, hB5'.out⟩
            exact StepPost.from B1.out (StepPost.next EK.out.1 EK.out.2 hS)
  · have h3b : ((kd : Int) == 3) = false := by simp; omega
    by_cases h1k : kd = 1
    · subst h1k
      have hr : Hid (p.aheadOf x 1 = p.fin) := Lib.hid (by unfold Ps.aheadOf; rw [if_neg (by decide), if_pos rfl])
      have FF := Lib.hid (end_any w1 ρ b p L h1 ok')
      clear h h1 b1 hX ok ok'
      go_enter Tryd.func60, Tryd.ntmps60
      go_wp2_with fail
      by_cases hfe : (p.fin).err = 0
      · refine (FF.out.mono fun e w' h => h.pos hfe).mono ?_
        rintro e w5 ⟨rfl, hB5⟩
        have hB5' := Lib.hid hB5
        clear hB5
        go_wp2
        go_ret
        rw [hr.out]
        have hS : StepPost w1 ρ b (p.fin) (.returned .nilIface) w5 := by unfold StepPost; rw [if_pos hfe]; exact ⟨rfl, hB5'.out⟩
        exact StepPost.from B1.out hS
      · refine (FF.out.mono fun e w' h => h.neg hfe).mono ?_
        rintro e w5 ⟨g, rfl, hB5⟩
        have hB5' := Lib.hid hB5
        clear hB5
        unfold faultV
        go_wp2
        go_ret
        rw [hr.out]
        have hS : StepPost w1 ρ b (p.fin) (.returned (faultV g)) w5 := by unfold StepPost; rw [if_neg hfe]; exact ⟨g, rfl, hB5'.out⟩
        exact StepPost.from B1.out hS
    · have h1b : ((kd : Int) == 1) = false := by simp; omega
      have hr : Hid (p.aheadOf x kd = p.flush) := Lib.hid (by unfold Ps.aheadOf; rw [if_neg h3, if_neg h1k])
      have FF := Lib.hid (flush_any w1 ρ b p L h1 ok')
      clear h h1 b1 hX ok ok'
      go_enter Tryd.func60, Tryd.ntmps60
      go_wp2_with fail
      by_cases hfe : (p.flush).err = 0
      · refine (FF.out.mono fun e w' h => h.pos hfe).mono ?_
        rintro e w5 ⟨rfl, hB5⟩
        have hB5' := Lib.hid hB5
        clear hB5
        go_wp2
        go_ret
        rw [hr.out]
        have hS : StepPost w1 ρ b (p.flush) (.returned .nilIface) w5 := by unfold StepPost; rw [if_pos hfe]; exact ⟨rfl, hB5'.out⟩
        exact StepPost.from B1.out hS
      · refine (FF.out.mono fun e w' h => h.neg hfe).mono ?_
        rintro e w5 ⟨g, rfl, hB5⟩
        have hB5' := Lib.hid hB5
        clear hB5
        unfold faultV
        go_wp2
        go_ret
        rw [hr.out]
        have hS : StepPost w1 ρ b (p.flush) (.returned (faultV g)) w5 := by unfold StepPost; rw [if_neg hfe]; exact ⟨g, rfl, hB5'.out⟩
        exact StepPost.from B1.out hS
theorem aheadOf_ok {p : Ps} {N : Nat} (h : PsOk p N) (x : LineD) (kd M : Nat) (hM : N + x.text.length + 3 ≤ M) : PsOk (p.aheadOf x kd).st M := by
  have up : ∀ {q : Ps} {n : Nat}, PsOk q n → n ≤ M → PsOk q M := fun hq hn => ⟨Nat.le_trans hq.lines hn, Nat.le_trans hq.block hn, Nat.le_trans hq.items hn, Nat.le_trans hq.fields hn, Nat.le_trans hq.records hn⟩
  have hm := more_ok h x (N + (x.text.length + 1)) (Nat.le_refl _)
  have hf := flush_ok h
  unfold Ps.aheadOf
  split
  · split
    · exact up h (by omega)
    split
    · exact up hm (by omega)
    · exact up (flush_ok hm) (by omega)
  split
  · unfold Ps.fin
    split
    · exact up hf (by omega)
    · obtain ⟨h1, h2, h3, h4, h5⟩ := hf
      unfold Ps.ended
      split
      · exact ⟨by show massOf p.flush.st.lines ≤ _; omega, by show 0 ≤ _; omega, by show p.flush.st.items.length ≤ _; omega, by show 0 ≤ _; omega, by show p.flush.st.records ≤ _; omega⟩
      · refine ⟨by show massOf p.flush.st.lines ≤ _; omega, by show 0 ≤ _; omega, by show (p.flush.st.items ++ [_]).length ≤ _; rw [List.length_append]; simp; omega, by show 0 ≤ _; omega, ?_⟩
        show (if p.flush.st.fields = [] then p.flush.st.records else p.flush.st.records + 1) ≤ _
        split <;> omega
  · exact up hf (by omega)
end Go.Proofs.YtboiaoaephimhaaDoor.B
