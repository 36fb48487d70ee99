/- What is done with a line: begin, ahead, take. A line is taken. -/
import Derived.Test.YtklbbcemacpimaaGreatDoorBEnd
namespace Go.Proofs.YtklbbcemacpimaaGreatDoor.B
open Go.RowKit Go.Shelf

theorem lineD_val (x : LineD) : x.val = .agg #[.int .i64 x.no, .int .i64 x.at_, .string ⟨x.text.toArray⟩, .bool x.ended] := rfl
/-- begin. -/
theorem begin_any (w : World) (ρ : Col) (b : Nat) (p : Ps) (L : Pay) (h : ParserAt w ρ b p L) (x : LineD) :
    Calls Tryz.prog 66 #[.pointer (some ⟨b, 0, none⟩), .agg #[.int .i64 x.no, .int .i64 x.at_, .string ⟨x.text.toArray⟩, .bool x.ended]] w fun e w' => e = .returned (.tuple #[]) ∧ Became w ρ b (p.begun x) w' := by
  have hb := h.blk.lt
  obtain ⟨fo, fc, hvf⟩ := h.rowF.shape
  obtain ⟨w1, hw1⟩ : ∃ w1, w.alloc (.cells #[.int .i64 x.no, .int .i64 x.at_, .string ⟨x.text.toArray⟩, .bool x.ended] 111) = w1 := ⟨_, rfl⟩
  have b1 : Below w.heap.size w w1 := by rw [← hw1]; exact below_grow1 _ _
  have hX : w1.heap[w.heap.size]? = some (.cells #[.int .i64 x.no, .int .i64 x.at_, .string ⟨x.text.toArray⟩, .bool x.ended] 111 (0, 0)) := by rw [← hw1]; exact heap_alloc_new _ _
  have hxl : w.heap.size < w1.heap.size := (Array.getElem?_eq_some_iff.1 hX).1
  have m0 : w1.cell? ⟨w.heap.size, 0, none⟩ = some (.int .i64 x.no) := by simp [World.cell?, hX]
  have m2 : w1.cell? ⟨w.heap.size, 2, none⟩ = some (.string ⟨x.text.toArray⟩) := by simp [World.cell?, hX]
  have h1 := h.below b1
  have c5 := h1.cells.c5
  have c6 := h1.cells.c6
  have c0 := h1.cells.c0
  have c1 := h1.cells.c1
  have c2 := h1.cells.c2
  have f0 := h1.cells.f0
  have f1 := h1.cells.f1
  have f2 := h1.cells.f2
  rw [hvf] at c5
  have hb1 := h1.blk.lt
  have HD := Lib.hid h
  have B1 := Lib.hid b1
  obtain ⟨lo, lc, hvl⟩ := h1.rowL.shape
  rw [hvl] at c0
  obtain ⟨fl, hfl⟩ : ∃ fl, (decide (p.fields.length = 40) || (decide (p.fields.length = 0) && decide (p.records = 400))) = fl := ⟨_, rfl⟩
  have hbeg : Hid (p.begun x = { p with lines := [x.text], from_ := x.no, full := fl }) := Lib.hid (by unfold Ps.begun; rw [hfl])
  have q1 : ((p.fields.length : Int) == 40) = decide (p.fields.length = 40) := by by_cases e : p.fields.length = 40 <;> simp [e] <;> omega
  have q2 : ((p.fields.length : Int) == 0) = decide (p.fields.length = 0) := by by_cases e : p.fields.length = 0 <;> simp [e]
  have q3 : ((p.records : Int) == 400) = decide (p.records = 400) := by by_cases e : p.records = 400 <;> simp [e] <;> omega
  obtain ⟨g1, hg1⟩ : ∃ g1, decide (p.fields.length = 40) = g1 := ⟨_, rfl⟩
  obtain ⟨g2, hg2⟩ : ∃ g2, decide (p.fields.length = 0) = g2 := ⟨_, rfl⟩
  obtain ⟨g3, hg3⟩ : ∃ g3, decide (p.records = 400) = g3 := ⟨_, rfl⟩
  rw [hg1, hg2, hg3] at hfl
  rw [hg1] at q1
  rw [hg2] at q2
  rw [hg3] at q3
  clear h h1 b1 hvf hvl hX hg1 hg2 hg3
  have HF := Lib.hid hfl
  clear hfl
  go_enter Tryz.func66, Tryz.ntmps66
  have T : ∀ fl', fl' = fl → Hid (Became w ρ b (p.begun x) ((((w1.setCell ⟨b, 0, none⟩ (.slice (some ⟨w1.heap.size, 0, none⟩) 1 1)).setCell ⟨b, 1, none⟩ (.int .i64 x.no)).setCell ⟨b, 2, none⟩ (.bool fl')).alloc (.cells #[.string ⟨x.text.toArray⟩] 9))) := fun fl' e => Lib.hid (by
    subst e
    rw [hbeg.out]
    have hcm : ∀ (V : World) (o : Obj) (j : Nat) (u : Value), b < V.heap.size → (V.alloc o).setCell ⟨b, j, none⟩ u = (V.setCell ⟨b, j, none⟩ u).alloc o := fun V o j u hV => World.setCell_alloc_past o b j u hV
    rw [← hcm _ _ _ _ (by simpa [World.setCell] using hb1), ← hcm _ _ _ _ (by simpa [World.setCell] using hb1), ← hcm _ _ _ _ hb1]
    exact became_begun HD.out B1.out x.text x.no _ w1.heap.size (Nat.le_refl _) (below_grow1 _ _) (heap_alloc_new w1 _))
  have T' := Lib.hid T
  clear T
  cases g1 with
  | true =>
    go_wp2
    go_end0
    exact ⟨rfl, (T'.out true (by rw [← HF.out]; rfl)).out⟩
  | false =>
    cases g2 with
    | true =>
      go_wp2
      go_end0
      exact ⟨rfl, (T'.out g3 (by rw [← HF.out]; cases g3 <;> rfl)).out⟩
    | false =>
      go_wp2
      go_end0
      exact ⟨rfl, (T'.out false (by rw [← HF.out]; rfl)).out⟩
theorem StepPost.next {w w' w'' : World} {ρ ρ' : Col} {b : Nat} {r : Res} {e : Ending} (he : Ext w ρ ρ') (hk : Kept ρ w w') (h : StepPost w' ρ' b r e w'') : StepPost w ρ b r e w'' := by
  unfold StepPost at h ⊢
  split
  · rename_i h0
    rw [if_pos h0] at h
    exact ⟨h.1, Became.next he hk h.2⟩
  · rename_i h0
    rw [if_neg h0] at h
    obtain ⟨g, h1, h2, h3, h4⟩ := h
    exact ⟨g, h1, Nat.le_trans hk.size h2, h3, hk.trans he h4⟩
theorem StepPost.from {w w' w'' : World} {ρ : Col} {b : Nat} {r : Res} {e : Ending} (hb : Below w.heap.size w w') (h : StepPost w' ρ b r e w'') : StepPost w ρ b r e w'' := h.next (Ext.refl _ _) (Kept.below hb)
theorem Fits.none {w : World} {ρ : Col} (h : Fits w ρ) {k : Nat} (hk : w.heap.size ≤ k) : ρ k = none := by
  cases e : ρ k with
  | none => rfl
  | some c => exact absurd (h k (by rw [e]; simp)) (by omega)
theorem more_ok {p : Ps} {N : Nat} (h : PsOk p N) (x : LineD) (M : Nat) (hM : N + (x.text.length + 1) ≤ M) : PsOk (p.more x) M := by
  obtain ⟨h1, h2, h3, h4, h5⟩ := h
  exact ⟨by show massOf (p.lines ++ [x.text]) ≤ _; rw [massOf_snoc]; omega, by show massOf p.block ≤ _; omega, by show p.items.length ≤ _; omega, by show p.fields.length ≤ _; omega, by show p.records ≤ _; omega⟩
set_option maxRecDepth 100000 in
set_option maxHeartbeats 3200000 in
theorem ahead_any (w : World) (ρ : Col) (b : Nat) (p : Ps) (L : Pay) (h : ParserAt w ρ b p L) (ok : PsOk p 900000) (x : LineD) (hx : x.text.length ≤ 60000) (kd : Nat) :
    Calls Tryz.prog 64 #[.pointer (some ⟨b, 0, none⟩), .agg #[.int .i64 x.no, .int .i64 x.at_, .string ⟨x.text.toArray⟩, .bool x.ended], .int .i64 kd] w (StepPost w ρ b (p.aheadOf x kd)) := by
  obtain ⟨w1, hw1⟩ : ∃ w1, w.alloc (.cells #[.int .i64 x.no, .int .i64 x.at_, .string ⟨x.text.toArray⟩, .bool x.ended] 111) = w1 := ⟨_, rfl⟩
  have b1 : Below w.heap.size w w1 := by rw [← hw1]; exact below_grow1 _ _
  have hX : w1.heap[w.heap.size]? = some (.cells #[.int .i64 x.no, .int .i64 x.at_, .string ⟨x.text.toArray⟩, .bool x.ended] 111 (0, 0)) := by rw [← hw1]; exact heap_alloc_new _ _
  have hxl : w.heap.size < w1.heap.size := (Array.getElem?_eq_some_iff.1 hX).1
  have HX := Lib.hid hX
  have m0 : w1.cell? ⟨w.heap.size, 0, none⟩ = some (.int .i64 x.no) := by simp [World.cell?, hX]
  have m2 : w1.cell? ⟨w.heap.size, 2, none⟩ = some (.string ⟨x.text.toArray⟩) := by simp [World.cell?, hX]
  have h1 := h.below b1
  have H1 := Lib.hid h1
  have B1 := Lib.hid b1
  have hfit := Lib.hid (h.fits)
  have ok' : PsOk p 1000000 := ⟨by have := ok.lines; omega, by have := ok.block; omega, by have := ok.items; omega, by have := ok.fields; omega, by have := ok.records; omega⟩
  by_cases h3 : kd = 3
  · subst h3
    have c0 := h1.cells.c0
    have f0 := h1.cells.f0
    obtain ⟨lo, lc, hvl⟩ := h1.rowL.shape
    have hb1 := h1.blk.lt
    by_cases hl : p.lines = []
    · have hn : p.lines.length = 0 := by rw [hl]; rfl
      rw [hvl, hn] at c0
      have hr : Hid (p.aheadOf x 3 = ⟨2, x.no, p⟩) := Lib.hid (by unfold Ps.aheadOf; rw [if_pos rfl, if_pos hl])
      clear h h1 b1 hX hvl hl hn ok ok'
      go_enter Tryz.func64, Tryz.ntmps64
      go_wp2_with fail
      refine (fault_any x.no 2 _).mono ?_
      rintro e w2 ⟨rfl, rfl⟩
      go_wp2
      go_ret
      rw [hr.out]
      exact StepPost.fault (r := ⟨2, x.no, p⟩) (n := x.no) (k := 2) B1.out rfl rfl (by decide) rfl
    · have hp : 0 < p.lines.length := List.length_pos_iff.2 hl
      have hpn : ¬ ((p.lines.length : Int) = 0) := by omega
      obtain ⟨i0, hi0, hz0, hz1, hz2⟩ := info_parts infoS
      have hown := h1.rowL.1
      have hne : L.vl.ownBlock ≠ some b := fun e => by have := h1.rowL.2 b e; rw [h1.blk.2] at this; cases this
      have hnl := massOf_len p.lines
      have hml := ok.lines
      have HVL := Lib.hid hvl
      have c0' : w1.cell? ⟨b, 0, none⟩ = some (.slice lo p.lines.length lc) := by rw [← hvl]; exact c0
      have hown' : w1.ownsRow 0 9 1 (.slice lo p.lines.length lc) p.lines.length (p.lines.flatMap strC) := by rw [← hvl]; exact hown
      have hne' : (Value.slice lo p.lines.length lc).ownBlock ≠ some b := by rw [← hvl]; exact hne
      have hr : Hid (p.aheadOf x 3 = if x.ended = true then ⟨0, 0, p.more x⟩ else (p.more x).flush) := Lib.hid (by unfold Ps.aheadOf; rw [if_pos rfl, if_neg hl])
      have OKm := Lib.hid (more_ok ok x 1000000 (by omega))
      clear h h1 b1 hX hvl hl ok ok' c0 hown hne
      obtain ⟨xe, hxe⟩ : ∃ xe, x.ended = xe := ⟨_, rfl⟩
      rw [hxe] at hw1 HX hr
      go_enter Tryz.func64, Tryz.ntmps64
      go_upto_region 5 with fail
      go_region_law
        ((refine step_append_lies _ (by rfl) _ _ _ (by rfl) 0 9 i0 _ 1 16 Tryz.underlying30 hi0 hz0 hz1 hz2 rfl (by omega) (.slice lo p.lines.length lc) p.lines.length (p.lines.flatMap strC) (by rfl) ((hown'.alloc _).drew)
            ⟨w1.heap.size, 0, none⟩ 1 1 (strC x.text) (by rfl) (by rfl) (World.news_of_block (cs := (strC x.text).toArray) (t := 9) (fr := (0, 0)) (heap_alloc_new w1 _)) (by simp [strC, Value.oneCell'])
            (by omega) (by unfold maxLen; omega) (by omega) (by simp) (w1.heap.size + 1) (by simp) ?_; intro gg cap w3 hown3 hgrow hat hlt; have q0 : w3.frozen? ⟨b, 0, none⟩ = false := (hgrow.frozen_far _ (by simp; omega) (Ne.symm hne')).trans (((below_grow1 w1 _).frozen (p := ⟨b, 0, none⟩) hb1).trans f0); have n0 : w3.cell? ⟨b, 0, none⟩ = some (.slice lo p.lines.length lc) := (hgrow.cell_far _ (by simp; omega) (Ne.symm hne')).trans (((below_grow1 w1 _).cell (p := ⟨b, 0, none⟩) hb1).trans c0')))
      all_goals
        rw [← HVL.out] at hgrow hat
        have T := became_lines H1.out (Below.drew (below_grow1 w1 _)) x.text hown3 hgrow (by rcases hat with hat | hat; exact .inl hat; exact .inr (by rw [hat]; simp)) hlt
        generalize w3.setCell ⟨b, 0, none⟩ (.slice (some ⟨gg, 0, none⟩) (p.lines.length + 1) cap) = wq at *
        have T' : Hid (Became w1 ρ b (p.more x) wq) := Lib.hid T
        clear T hown3 hgrow hat hlt q0 n0 m0 m2 f0 c0' hown'
        obtain ⟨ρ4, L4, h4, e4, k4⟩ := T'.out.at
        have hX4 := (k4.block _ hxl (hfit.out.none (Nat.le_refl _))).trans HX.out
        have m3 : wq.cell? ⟨w.heap.size, 3, none⟩ = some (.bool xe) := by simp [World.cell?, hX4]
        have EK := Lib.hid (show Ext w1 ρ ρ4 ∧ Kept ρ w1 wq from ⟨e4, k4⟩)
        have FF := Lib.hid (flush_any wq ρ4 b (p.more x) L4 h4 OKm.out)
        clear h4 e4 k4 hX4
        cases xe with
        | true =>
          go_wp2
          go_ret
          rw [hr.out, if_pos (by simp)]
          exact StepPost.from B1.out (by unfold StepPost; rw [if_pos rfl]; exact ⟨rfl, T'.out⟩)
        | false =>
          go_wp2_with fail
          by_cases hfe : ((p.more x).flush).err = 0
          · refine (FF.out.mono fun e w' h => h.pos hfe).mono ?_
            rintro e w5 ⟨rfl, hB5⟩
            have hB5' := Lib.hid hB5
            clear hB5
            go_wp2
            go_ret
            rw [hr.out, if_neg (by simp)]
            have hS : StepPost wq ρ4 b ((p.more x).flush) (.returned .nilIface) w5 := by unfold StepPost; rw [if_pos hfe]; exact ⟨rfl, hB5'.out⟩
            exact StepPost.from B1.out (StepPost.next EK.out.1 EK.out.2 hS)
          · refine (FF.out.mono fun e w' h => h.neg hfe).mono ?_
            rintro e w5 ⟨g, rfl, hB5⟩
            have hB5' := Lib.hid hB5
            clear hB5
            unfold faultV
            go_wp2
            go_ret
            rw [hr.out, if_neg (by simp)]
            have hS : StepPost wq ρ4 b ((p.more x).flush) (.returned (faultV g)) w5 := by unfold StepPost; rw [if_neg hfe]; exact ⟨g, rfl, hB5'.out⟩
            exact StepPost.from B1.out (StepPost.next EK.out.1 EK.out.2 hS)
  · have h3b : ((kd : Int) == 3) = false := by simp; omega
    by_cases h1k : kd = 1
    · subst h1k
      have hr : Hid (p.aheadOf x 1 = p.fin) := Lib.hid (by unfold Ps.aheadOf; rw [if_neg (by decide), if_pos rfl])
      have FF := Lib.hid (end_any w1 ρ b p L h1 ok')
      clear h h1 b1 hX ok ok'
      go_enter Tryz.func64, Tryz.ntmps64
      go_wp2_with fail
      by_cases hfe : (p.fin).err = 0
      · refine (FF.out.mono fun e w' h => h.pos hfe).mono ?_
        rintro e w5 ⟨rfl, hB5⟩
        have hB5' := Lib.hid hB5
        clear hB5
        go_wp2
        go_ret
        rw [hr.out]
        have hS : StepPost w1 ρ b (p.fin) (.returned .nilIface) w5 := by unfold StepPost; rw [if_pos hfe]; exact ⟨rfl, hB5'.out⟩
        exact StepPost.from B1.out hS
      · refine (FF.out.mono fun e w' h => h.neg hfe).mono ?_
        rintro e w5 ⟨g, rfl, hB5⟩
        have hB5' := Lib.hid hB5
        clear hB5
        unfold faultV
        go_wp2
        go_ret
        rw [hr.out]
        have hS : StepPost w1 ρ b (p.fin) (.returned (faultV g)) w5 := by unfold StepPost; rw [if_neg hfe]; exact ⟨g, rfl, hB5'.out⟩
        exact StepPost.from B1.out hS
    · have h1b : ((kd : Int) == 1) = false := by simp; omega
      have hr : Hid (p.aheadOf x kd = p.flush) := Lib.hid (by unfold Ps.aheadOf; rw [if_neg h3, if_neg h1k])
      have FF := Lib.hid (flush_any w1 ρ b p L h1 ok')
      clear h h1 b1 hX ok ok'
      go_enter Tryz.func64, Tryz.ntmps64
      go_wp2_with fail
      by_cases hfe : (p.flush).err = 0
      · refine (FF.out.mono fun e w' h => h.pos hfe).mono ?_
        rintro e w5 ⟨rfl, hB5⟩
        have hB5' := Lib.hid hB5
        clear hB5
        go_wp2
        go_ret
        rw [hr.out]
        have hS : StepPost w1 ρ b (p.flush) (.returned .nilIface) w5 := by unfold StepPost; rw [if_pos hfe]; exact ⟨rfl, hB5'.out⟩
        exact StepPost.from B1.out hS
      · refine (FF.out.mono fun e w' h => h.neg hfe).mono ?_
        rintro e w5 ⟨g, rfl, hB5⟩
        have hB5' := Lib.hid hB5
        clear hB5
        unfold faultV
        go_wp2
        go_ret
        rw [hr.out]
        have hS : StepPost w1 ρ b (p.flush) (.returned (faultV g)) w5 := by unfold StepPost; rw [if_neg hfe]; exact ⟨g, rfl, hB5'.out⟩
        exact StepPost.from B1.out hS
theorem aheadOf_ok {p : Ps} {N : Nat} (h : PsOk p N) (x : LineD) (kd M : Nat) (hM : N + x.text.length + 3 ≤ M) : PsOk (p.aheadOf x kd).st M := by
  have up : ∀ {q : Ps} {n : Nat}, PsOk q n → n ≤ M → PsOk q M := fun hq hn => ⟨Nat.le_trans hq.lines hn, Nat.le_trans hq.block hn, Nat.le_trans hq.items hn, Nat.le_trans hq.fields hn, Nat.le_trans hq.records hn⟩
  have hm := more_ok h x (N + (x.text.length + 1)) (Nat.le_refl _)
  have hf := flush_ok h
  unfold Ps.aheadOf
  split
  · split
    · exact up h (by omega)
    split
    · exact up hm (by omega)
    · exact up (flush_ok hm) (by omega)
  split
  · unfold Ps.fin
    split
    · exact up hf (by omega)
    · obtain ⟨h1, h2, h3, h4, h5⟩ := hf
      unfold Ps.ended
      split
      · exact ⟨by show massOf p.flush.st.lines ≤ _; omega, by show 0 ≤ _; omega, by show p.flush.st.items.length ≤ _; omega, by show 0 ≤ _; omega, by show p.flush.st.records ≤ _; omega⟩
      · refine ⟨by show massOf p.flush.st.lines ≤ _; omega, by show 0 ≤ _; omega, by show (p.flush.st.items ++ [_]).length ≤ _; rw [List.length_append]; simp; omega, by show 0 ≤ _; omega, ?_⟩
        show (if p.flush.st.fields = [] then p.flush.st.records else p.flush.st.records + 1) ≤ _
        split <;> omega
  · exact up hf (by omega)
end Go.Proofs.YtklbbcemacpimaaGreatDoor.B

namespace Go.Proofs.YtklbbcemacpimaaGreatDoor.B
open Go.RowKit Go.Shelf

theorem fin_fields {p : Ps} (h : p.fin.err = 0) : p.fin.st.fields = [] := by
  unfold Ps.fin at h ⊢
  by_cases he : p.flush.err ≠ 0
  · rw [if_pos he] at h; exact absurd h he
  · rw [if_neg he]
    show p.flush.st.ended.fields = []
    unfold Ps.ended
    split <;> rfl
theorem ahead1_fields {p : Ps} {x : LineD} (h : (p.aheadOf x 1).err = 0) : (p.aheadOf x 1).st.fields = [] := by
  have e : p.aheadOf x 1 = p.fin := by unfold Ps.aheadOf; rw [if_neg (by decide), if_pos rfl]
  rw [e] at h ⊢
  exact fin_fields h
set_option maxRecDepth 100000 in
set_option maxHeartbeats 6400000 in
theorem take_any (w : World) (ρ : Col) (b : Nat) (p : Ps) (L : Pay) (h : ParserAt w ρ b p L) (ok : PsOk p 800000) (x : LineD) (hx : x.text.length ≤ 60000) :
    Calls Tryz.prog 43 #[.pointer (some ⟨b, 0, none⟩), .agg #[.int .i64 x.no, .int .i64 x.at_, .string ⟨x.text.toArray⟩, .bool x.ended]] w (StepPost w ρ b (p.take x)) := by
  obtain ⟨K, hK⟩ : ∃ K, kindOf x.text = K := ⟨_, rfl⟩
  have KN0 := kind_any ⟨x.text.toArray⟩ (by rw [← size_len]; show x.text.length ≤ _; omega)
  have KN : Hid (∀ w, Calls Tryz.prog 63 #[.string ⟨x.text.toArray⟩] w fun e w' => e = .returned (.int .i64 K) ∧ Below w.heap.size w w') := Lib.hid (by rw [← hK]; exact KN0)
  have HK := Lib.hid hK
  clear hK KN0
  obtain ⟨w1, hw1⟩ : ∃ w1, w.alloc (.cells #[.int .i64 x.no, .int .i64 x.at_, .string ⟨x.text.toArray⟩, .bool x.ended] 111) = w1 := ⟨_, rfl⟩
  have b1 : Below w.heap.size w w1 := by rw [← hw1]; exact below_grow1 _ _
  have hX : w1.heap[w.heap.size]? = some (.cells #[.int .i64 x.no, .int .i64 x.at_, .string ⟨x.text.toArray⟩, .bool x.ended] 111 (0, 0)) := by rw [← hw1]; exact heap_alloc_new _ _
  have m2 : w1.cell? ⟨w.heap.size, 2, none⟩ = some (.string ⟨x.text.toArray⟩) := by simp [World.cell?, hX]
  have HX1 := Lib.hid hX
  have B1 := Lib.hid b1
  have hfit := Lib.hid (h.fits)
  have HP := Lib.hid h
  have OK := Lib.hid ok
  clear h ok hX b1
  go_enter Tryz.func43, Tryz.ntmps43
  go_wp2_with fail
  refine (KN.out _).mono ?_
  rintro e w2 ⟨rfl, b2⟩
  have hxl1 : w.heap.size < w1.heap.size := (Array.getElem?_eq_some_iff.1 HX1.out).1
  have hX2 := (b2.block _ hxl1).trans HX1.out
  have hxl : w.heap.size < w2.heap.size := Nat.lt_of_lt_of_le hxl1 b2.size
  have m0 : w2.cell? ⟨w.heap.size, 0, none⟩ = some (.int .i64 x.no) := by simp [World.cell?, hX2]
  have m1 : w2.cell? ⟨w.heap.size, 1, none⟩ = some (.int .i64 x.at_) := by simp [World.cell?, hX2]
  have m2' : w2.cell? ⟨w.heap.size, 2, none⟩ = some (.string ⟨x.text.toArray⟩) := by simp [World.cell?, hX2]
  have m3 : w2.cell? ⟨w.heap.size, 3, none⟩ = some (.bool x.ended) := by simp [World.cell?, hX2]
  have HX := Lib.hid hX2
  have B2 := Lib.hid (B1.out.trans (b2.mono B1.out.size))
  have A := Lib.hid (ahead_any w2 ρ b p L (HP.out.below B2.out) ⟨Nat.le_trans OK.out.lines (by omega), Nat.le_trans OK.out.block (by omega), Nat.le_trans OK.out.items (by omega), Nat.le_trans OK.out.fields (by omega), Nat.le_trans OK.out.records (by omega)⟩ x hx K)
  clear b2 hX2 HX1 m2 hw1
  go_wp2_with fail
  by_cases he : (p.aheadOf x K).err = 0
  · refine (A.out.mono fun e w' h => h.pos he).mono ?_
    rintro e w3 ⟨rfl, hB3⟩
    have hr0 : Hid (p.take x = (p.aheadOf x K).st.taken x K) := Lib.hid (by unfold Ps.take; rw [HK.out, if_neg (by rw [he]; simp)])
    have OKq := Lib.hid (aheadOf_ok OK.out x K 900000 (by omega))
    have hff : K = 1 → (p.aheadOf x K).st.fields = [] := fun e => by subst e; exact ahead1_fields he
    generalize (p.aheadOf x K).st = q at *
    have HFF := Lib.hid hff
    obtain ⟨ρ3, L3, h3, e3, k3⟩ := hB3.at
    have EK := Lib.hid (show Ext w2 ρ ρ3 ∧ Kept ρ w2 w3 from ⟨e3, k3⟩)
    have hX3 := (k3.block _ hxl (hfit.out.none (Nat.le_refl _))).trans HX.out
    have hxl3 := Nat.lt_of_lt_of_le hxl k3.size
    have n0 : w3.cell? ⟨w.heap.size, 0, none⟩ = some (.int .i64 x.no) := by simp [World.cell?, hX3]
    have n1 : w3.cell? ⟨w.heap.size, 1, none⟩ = some (.int .i64 x.at_) := by simp [World.cell?, hX3]
    have n2 : w3.cell? ⟨w.heap.size, 2, none⟩ = some (.string ⟨x.text.toArray⟩) := by simp [World.cell?, hX3]
    have n3 : w3.cell? ⟨w.heap.size, 3, none⟩ = some (.bool x.ended) := by simp [World.cell?, hX3]
    have HX3 := Lib.hid hX3
    have hnx : Hid (ρ3 w.heap.size = none) := Lib.hid ((e3 _ hxl).trans (hfit.out.none (Nat.le_refl _)))
    clear hB3 e3 k3 m0 m1 m2' m3 A HX hX3 he hff
    by_cases h5 : K = 5
    · have hr : Hid (p.take x = ⟨2, x.no, q⟩) := Lib.hid (by rw [hr0.out]; unfold Ps.taken; rw [if_pos (.inl h5)])
      subst h5
      clear h3
      go_wp2_with fail
      refine (fault_any x.no 2 _).mono ?_
      rintro e w4 ⟨rfl, rfl⟩
      go_wp2
      go_ret
      rw [hr.out]
      exact StepPost.from B2.out (StepPost.next EK.out.1 EK.out.2 (StepPost.fault (r := ⟨2, x.no, q⟩) (n := x.no) (k := 2) (Below.refl _ _) rfl rfl (by decide) rfl))
    have h5b : ((K : Int) == 5) = false := by simp; omega
    cases hxe : x.ended with
    | false =>
      have hr : Hid (p.take x = ⟨2, x.no, q⟩) := Lib.hid (by rw [hr0.out]; unfold Ps.taken; rw [if_pos (.inr hxe)])
      rw [hxe] at n3
      clear h3
      go_wp2_with fail
      refine (fault_any x.no 2 _).mono ?_
      rintro e w4 ⟨rfl, rfl⟩
      go_wp2
      go_ret
      rw [hr.out]
      exact StepPost.from B2.out (StepPost.next EK.out.1 EK.out.2 (StepPost.fault (r := ⟨2, x.no, q⟩) (n := x.no) (k := 2) (Below.refl _ _) rfl rfl (by decide) rfl))
    | true =>
      have hr1 : Hid (p.take x = if K = 1 then ⟨0, 0, q.blank x⟩ else if K = 4 then ⟨0, 0, (q.begun x).kept x⟩ else ⟨0, 0, q.kept x⟩) := Lib.hid (by rw [hr0.out]; unfold Ps.taken; rw [if_neg (by rintro (h | h); exact h5 h; rw [hxe] at h; cases h)])
      have n3' : w3.cell? ⟨w.heap.size, 3, none⟩ = some (.bool true) := by rw [← hxe]; exact n3
      clear n3 hr0
      by_cases h1 : K = 1
      · have hr : Hid (p.take x = ⟨0, 0, q.blank x⟩) := Lib.hid (by rw [hr1.out, if_pos h1])
        have hfe := HFF.out h1
        have hvn := h3.nilF hfe
        subst h1
        have c3 := h3.cells.c3
        have f3 := h3.cells.f3
        have hb3 := h3.blk.lt
        have hown := h3.rowI.1
        have hne : L3.vi.ownBlock ≠ some b := fun e => by have := h3.rowI.2 b e; rw [h3.blk.2] at this; cases this
        have hni := OKq.out.items
        have H3 := Lib.hid h3
        obtain ⟨i0, hi0, hz0, hz1, hz2⟩ := info_parts infoIt
        have htx : (⟨x.text.toArray⟩ : ByteArray).size ≤ 60000 := by rw [← size_len]; exact hx
        obtain ⟨tb, htb⟩ : ∃ tb : ByteArray, (⟨x.text.toArray⟩ : ByteArray) = tb := ⟨_, rfl⟩
        rw [htb] at htx
        have n2' : w3.cell? ⟨w.heap.size, 2, none⟩ = some (.string tb) := by rw [← htb]; exact n2
        have hj1 : ¬ 9223372036854775807 < tb.size + 1 := by omega
        have HTB := Lib.hid htb
        have HVN := Lib.hid hvn
        have HFE := Lib.hid hfe
        clear h3 n2 hvn hfe htb
        go_upto_region 8 with fail
        go_region_law
          ((refine step_append_lies _ (by rfl) _ _ _ (by rfl) 0 65 i0 _ 3 48 Tryz.underlying58 hi0 hz0 hz1 hz2 rfl (by omega) L3.vi q.items.length (itemCells q.items L3.vis) (by rfl) ((hown.alloc _).drew)
              ⟨w3.heap.size, 0, none⟩ 1 1 [.int .i64 1, .string (tb ++ ⟨#[10]⟩), .slice none 0 0] (by rfl) (by rfl) (World.news_of_block (cs := #[.int .i64 1, .string (tb ++ ⟨#[10]⟩), .slice none 0 0]) (t := 65) (fr := (0, 0)) (heap_alloc_new w3 _)) (by simp [Value.oneCell'])
              (by omega) (by unfold maxLen; omega) (by omega) (by simp) (w3.heap.size + 1) (by simp) ?_; intro gg cap w8 hown8 hgrow hat hlt; have q3 : w8.frozen? ⟨b, 3, none⟩ = false := (hgrow.frozen_far _ (by simp; omega) (Ne.symm hne)).trans (((below_grow1 w3 _).frozen (p := ⟨b, 3, none⟩) hb3).trans f3); have z3 : w8.cell? ⟨b, 3, none⟩ = some L3.vi := (hgrow.cell_far _ (by simp; omega) (Ne.symm hne)).trans (((below_grow1 w3 _).cell (p := ⟨b, 3, none⟩) hb3).trans c3)))
        all_goals
          go_wp2_with fail
          go_ret
          rw [hr.out]
          rw [← HTB.out, app10] at hown8
          have T : Became w3 ρ3 b (q.blank x) (w8.setCell ⟨b, 3, none⟩ (.slice (some ⟨gg, 0, none⟩) (q.items.length + 1) cap)) :=
            became_item H3.out (Below.drew (below_grow1 w3 _)) ⟨1, x.text ++ [10], []⟩ (.slice none 0 0) (Row.nil _ _ _ _ _) hown8 hgrow (by rcases hat with hat | hat; exact .inl hat; exact .inr (by rw [hat]; simp)) hlt rfl rfl HFE.out (.inl ⟨rfl, rfl⟩) (fun h => by
              have := setCell_block (.slice (some ⟨gg, 0, none⟩) (q.items.length + 1) cap) (o := 3) h
              rw [this]
              unfold Ps.cells
              rw [HVN.out]
              rfl) (fun σ hσ => Kept.setCell (by rw [hσ]; simp))
          refine StepPost.from B2.out (StepPost.next EK.out.1 EK.out.2 ?_)
          unfold StepPost
          rw [if_pos rfl]
          exact ⟨rfl, T⟩
      have h1b : ((K : Int) == 1) = false := by simp; omega
      by_cases h4 : K = 4
      · have hr : Hid (p.take x = ⟨0, 0, (q.begun x).kept x⟩) := Lib.hid (by rw [hr1.out, if_neg h1, if_pos h4])
        have BG := begin_any w3 ρ3 b q L3 h3 x
        rw [hxe] at BG
        have BG' := Lib.hid BG
        subst h4
        clear h3 BG h1 h5
        go_wp2_with fail
        refine BG'.out.mono ?_
        rintro e w7 ⟨rfl, hB7⟩
        obtain ⟨q7, hq7⟩ : ∃ q7, q.begun x = q7 := ⟨_, rfl⟩
        have OK7 : massOf q7.block ≤ 900000 := by rw [← hq7]; exact OKq.out.block
        rw [hq7] at hB7 hr
        clear hr1 hq7
        obtain ⟨ρ7, L7, h7, e7, k7⟩ := hB7.at
        have EK7 := Lib.hid (show Ext w3 ρ3 ρ7 ∧ Kept ρ3 w3 w7 from ⟨e7, k7⟩)
        have hX7 := (k7.block _ hxl3 hnx.out).trans HX3.out
        have y2 : w7.cell? ⟨w.heap.size, 2, none⟩ = some (.string ⟨x.text.toArray⟩) := by simp [World.cell?, hX7]
        have hxl7 := Nat.lt_of_lt_of_le hxl3 k7.size
        clear hB7 e7 k7 hX7
        obtain ⟨bo, bc, hvb⟩ := h7.rowB.shape
        have c4 : w7.cell? ⟨b, 4, none⟩ = some (.slice bo q7.block.length bc) := by rw [← hvb]; exact h7.cells.c4
        have f4 := h7.cells.f4
        have hb3 := h7.blk.lt
        have hown : w7.ownsRow 0 9 1 (.slice bo q7.block.length bc) q7.block.length (q7.block.flatMap strC) := by rw [← hvb]; exact h7.rowB.1
        have hne : (Value.slice bo q7.block.length bc).ownBlock ≠ some b := fun e => by rw [← hvb] at e; have := h7.rowB.2 b e; rw [h7.blk.2] at this; cases this
        have hnb : q7.block.length ≤ 1000000 := Nat.le_trans (Nat.le_trans (massOf_len _) (OK7)) (by omega)
        have HVB := Lib.hid hvb
        have H4 := Lib.hid h7
        obtain ⟨i0, hi0, hz0, hz1, hz2⟩ := info_parts infoS
        clear hvb h7
        go_wp2_with fail
        go_region_law
          ((refine step_append_lies _ (by rfl) _ _ _ (by rfl) 0 9 i0 _ 1 16 Tryz.underlying30 hi0 hz0 hz1 hz2 rfl (by omega) (.slice bo q7.block.length bc) q7.block.length (q7.block.flatMap strC) (by rfl) ((hown.alloc _).drew)
              ⟨w7.heap.size, 0, none⟩ 1 1 (strC x.text) (by rfl) (by rfl) (World.news_of_block (cs := (strC x.text).toArray) (t := 9) (fr := (0, 0)) (heap_alloc_new w7 _)) (by simp [strC, Value.oneCell'])
              (by omega) (by unfold maxLen; omega) (by omega) (by simp) (w7.heap.size + 1) (by simp) ?_; intro gg cap w8 hown8 hgrow hat hlt; have q4 : w8.frozen? ⟨b, 4, none⟩ = false := (hgrow.frozen_far _ (by simp; omega) (Ne.symm hne)).trans (((below_grow1 w7 _).frozen (p := ⟨b, 4, none⟩) hb3).trans f4); have n4 : w8.cell? ⟨b, 4, none⟩ = some (.slice bo q7.block.length bc) := (hgrow.cell_far _ (by simp; omega) (Ne.symm hne)).trans (((below_grow1 w7 _).cell (p := ⟨b, 4, none⟩) hb3).trans c4)))
        all_goals
          go_wp2_with fail
          go_ret
          rw [hr.out]
          rw [← HVB.out] at hgrow hat
          have T := became_block H4.out (Below.drew (below_grow1 w7 _)) x.text hown8 hgrow (by rcases hat with hat | hat; exact .inl hat; exact .inr (by rw [hat]; simp)) hlt
          refine StepPost.from B2.out (StepPost.next EK.out.1 EK.out.2 ?_)
          unfold StepPost
          rw [if_pos rfl]
          exact ⟨rfl, Became.next EK7.out.1 EK7.out.2 T⟩
      · have h4b : ((K : Int) == 4) = false := by simp; omega
        have hr : Hid (p.take x = ⟨0, 0, q.kept x⟩) := Lib.hid (by rw [hr1.out, if_neg h1, if_neg h4])
        obtain ⟨bo, bc, hvb⟩ := h3.rowB.shape
        have c4 : w3.cell? ⟨b, 4, none⟩ = some (.slice bo q.block.length bc) := by rw [← hvb]; exact h3.cells.c4
        have f4 := h3.cells.f4
        have hb3 := h3.blk.lt
        have hown : w3.ownsRow 0 9 1 (.slice bo q.block.length bc) q.block.length (q.block.flatMap strC) := by rw [← hvb]; exact h3.rowB.1
        have hne : (Value.slice bo q.block.length bc).ownBlock ≠ some b := fun e => by rw [← hvb] at e; have := h3.rowB.2 b e; rw [h3.blk.2] at this; cases this
        have hnb : q.block.length ≤ 1000000 := Nat.le_trans (Nat.le_trans (massOf_len _) (OKq.out.block)) (by omega)
        have HVB := Lib.hid hvb
        have H4 := Lib.hid h3
        obtain ⟨i0, hi0, hz0, hz1, hz2⟩ := info_parts infoS
        clear hvb h3
        go_wp2_with fail
        go_region_law
          ((refine step_append_lies _ (by rfl) _ _ _ (by rfl) 0 9 i0 _ 1 16 Tryz.underlying30 hi0 hz0 hz1 hz2 rfl (by omega) (.slice bo q.block.length bc) q.block.length (q.block.flatMap strC) (by rfl) ((hown.alloc _).drew)
              ⟨w3.heap.size, 0, none⟩ 1 1 (strC x.text) (by rfl) (by rfl) (World.news_of_block (cs := (strC x.text).toArray) (t := 9) (fr := (0, 0)) (heap_alloc_new w3 _)) (by simp [strC, Value.oneCell'])
              (by omega) (by unfold maxLen; omega) (by omega) (by simp) (w3.heap.size + 1) (by simp) ?_; intro gg cap w8 hown8 hgrow hat hlt; have q4 : w8.frozen? ⟨b, 4, none⟩ = false := (hgrow.frozen_far _ (by simp; omega) (Ne.symm hne)).trans (((below_grow1 w3 _).frozen (p := ⟨b, 4, none⟩) hb3).trans f4); have n4 : w8.cell? ⟨b, 4, none⟩ = some (.slice bo q.block.length bc) := (hgrow.cell_far _ (by simp; omega) (Ne.symm hne)).trans (((below_grow1 w3 _).cell (p := ⟨b, 4, none⟩) hb3).trans c4)))
        all_goals
          go_wp2_with fail
          go_ret
          rw [hr.out]
          rw [← HVB.out] at hgrow hat
          have T := became_block H4.out (Below.drew (below_grow1 w3 _)) x.text hown8 hgrow (by rcases hat with hat | hat; exact .inl hat; exact .inr (by rw [hat]; simp)) hlt
          refine StepPost.from B2.out (StepPost.next EK.out.1 EK.out.2 ?_)
          unfold StepPost
          rw [if_pos rfl]
          exact ⟨rfl, T⟩
  · have hr : Hid (p.take x = p.aheadOf x K) := Lib.hid (by unfold Ps.take; rw [HK.out, if_pos he])
    refine (A.out.mono fun e w' h => h.neg he).mono ?_
    rintro e w3 ⟨g, rfl, hB3⟩
    have hB3' := Lib.hid hB3
    clear hB3
    unfold faultV
    go_wp2
    go_ret
    rw [hr.out]
    exact StepPost.from B2.out (by unfold StepPost; rw [if_neg he]; exact ⟨g, rfl, hB3'.out⟩)
end Go.Proofs.YtklbbcemacpimaaGreatDoor.B
