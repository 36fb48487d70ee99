/- A field that is under way ends: flush. -/
import Derived.Test.YtboiaoaephimhaaDoorBMoves
import Derived.Deep.RegionLaw
namespace Go.Proofs.YtboiaoaephimhaaDoor.B
open Go.RowKit Go.Shelf

/-- A bound on texts that are joined by one byte. -/
def massOf (ls : List (List UInt8)) : Nat := (ls.map fun s => s.length + 1).sum
theorem join_len (ls : List (List UInt8)) (c : UInt8) : (Lib.join ls [c]).length ≤ massOf ls := by
  induction ls with
  | nil => simp [Lib.join, massOf]
  | cons a r ih =>
    cases r with
    | nil => simp [Lib.join, massOf]
    | cons a2 r2 =>
      have e : Lib.join (a :: a2 :: r2) [c] = a ++ [c] ++ Lib.join (a2 :: r2) [c] := by simp [Lib.join]
      rw [e, List.length_append, List.length_append]
      have e2 : massOf (a :: a2 :: r2) = a.length + 1 + massOf (a2 :: r2) := by simp [massOf]
      rw [e2]
      simp
      omega
theorem trim_len (l p : List UInt8) : (Lib.trimPrefix l p).length ≤ l.length := by
  unfold Lib.trimPrefix
  split
  · rw [List.length_drop]; omega
  · exact Nat.le_refl _
theorem behind_le' (c : UInt8) (l : List UInt8) : (behind c l).length ≤ l.length := by
  unfold behind
  have h1 := (List.dropWhile_sublist (fun x => x != c) (l := l)).length_le
  rw [List.length_tail]
  omega
theorem massOf_cons (a : List UInt8) (r : List (List UInt8)) : massOf (a :: r) = a.length + 1 + massOf r := by simp [massOf]
theorem massOf_snoc (a : List UInt8) (r : List (List UInt8)) : massOf (r ++ [a]) = massOf r + (a.length + 1) := by simp [massOf]
theorem massOf_len (ls : List (List UInt8)) : ls.length ≤ massOf ls := by
  induction ls with
  | nil => exact Nat.le_refl _
  | cons a r ih => rw [massOf_cons, List.length_cons]; omega
theorem massOf_mem {ls : List (List UInt8)} {s : List UInt8} (h : s ∈ ls) : s.length ≤ massOf ls := by
  induction ls with
  | nil => cases h
  | cons a r ih =>
    rw [massOf_cons]
    rcases List.mem_cons.1 h with rfl | h
    · omega
    · have := ih h; omega
theorem field_len (l0 : List UInt8) (r : List (List UInt8)) : (fieldOf l0 r).val.length ≤ massOf (l0 :: r) := by
  refine Nat.le_trans (join_len _ _) ?_
  rw [massOf_cons, massOf_cons]
  have h1 := trim_len (behind 58 l0) [32]
  have h2 := behind_le' 58 l0
  have h3 : massOf (r.map fun s => Lib.trimPrefix (s.drop 1) [46]) ≤ massOf r := by
    induction r with
    | nil => exact Nat.le_refl _
    | cons a r ih =>
      rw [List.map_cons, massOf_cons, massOf_cons]
      have h4 := trim_len (a.drop 1) [46]
      rw [List.length_drop] at h4
      omega
  omega
/-- How much a parser may hold. -/
structure PsOk (p : Ps) (N : Nat) : Prop where
  lines : massOf p.lines ≤ N
  block : massOf p.block ≤ N
  items : p.items.length ≤ N
  fields : p.fields.length ≤ N
  records : p.records ≤ N
theorem unfoldN_cases (l0 : List UInt8) (r : List (List UInt8)) : unfoldN (l0 :: r) = 0 ∨ unfoldN (l0 :: r) = 2 ∨ unfoldN (l0 :: r) = 6 := by
  rw [unfoldN_cons]
  split
  · exact .inr (.inl rfl)
  split
  · exact .inr (.inl rfl)
  split
  · exact .inr (.inr rfl)
  · exact .inl rfl
theorem kept_alloc {w : World} {ρ : Col} (o : Obj) : Kept ρ w (w.alloc o) := Kept.below (below_grow1 w o)
theorem StepPost.fault {w w1 : World} {ρ : Col} {b : Nat} {r : Res} {n : Int} {k g : Nat} (hb : Below w.heap.size w w1) (h1 : r.err = k) (h2 : r.at_ = n) (hk : k ≠ 0) (hg : w1.heap.size = g) :
    StepPost w ρ b r (.returned (faultV g)) (w1.alloc (.cells #[.int .i64 n, errnoV k] 127)) := by
  unfold StepPost
  subst hg
  rw [if_neg (by rw [h1]; exact hk)]
  exact ⟨_, rfl, hb.size, by rw [h1, h2]; exact fault_at n k w1, (Kept.below hb).then (kept_alloc _)⟩
set_option maxRecDepth 100000 in
set_option maxHeartbeats 3200000 in
theorem flush_any (w : World) (ρ : Col) (b : Nat) (p : Ps) (L : Pay) (h : ParserAt w ρ b p L) (ok : PsOk p 1000000) :
    Calls Tryd.prog 63 #[.pointer (some ⟨b, 0, none⟩)] w (StepPost w ρ b p.flush) := by
  have c0 := h.cells.c0
  obtain ⟨ao, cp, hvl⟩ := h.rowL.shape
  rw [hvl] at c0
  have hb := h.blk.lt
  have HD := Lib.hid h
  by_cases hl : p.lines = []
  · have hn : p.lines.length = 0 := by rw [hl]; rfl
    rw [hn] at c0
    have hr : Hid (p.flush = ⟨0, 0, p⟩) := Lib.hid (by unfold Ps.flush; rw [if_pos hl])
    clear h hvl hl hn
    go_enter Tryd.func63, Tryd.ntmps63
    go_wp2
    go_ret
    rw [hr.out]
    exact ⟨rfl, Became.same ⟨L, HD.out⟩ (Below.refl _ _)⟩
  · obtain ⟨l0, r, hlr⟩ : ∃ l0 r, p.lines = l0 :: r := by
      cases hp : p.lines with
      | nil => exact absurd hp hl
      | cons l0 r => exact ⟨l0, r, rfl⟩
    have hm := ok.lines
    rw [hlr] at hm
    have hlen : p.lines.length = r.length + 1 := by rw [hlr]; rfl
    rw [hlen] at c0
    have hT : TextsAt w (.slice ao (r.length + 1) cp) (l0 :: r) := by
      have h1 := h.rowL.1
      rw [hvl, hlr] at h1
      exact TextsAt.of h1 rfl (by simp)
    have U := unfold_any l0 r _ w hT (by have := massOf_len (l0 :: r); simp at this; omega) (fun s hs => Nat.le_trans (massOf_mem hs) hm) (Nat.le_trans (field_len l0 r) hm)
    have c1 := h.cells.c1
    have c2 := h.cells.c2
    by_cases hu : unfoldN (l0 :: r) = 0
    · rw [if_pos hu, hu] at U
      have U' : Hid (Calls Tryd.prog 73 #[.slice ao (r.length + 1) cp] w fun e w' => e = .returned (.tuple #[.agg #[.string ⟨(fieldOf l0 r).key.toArray⟩, .string ⟨(fieldOf l0 r).val.toArray⟩], .nilIface]) ∧ Below w.heap.size w w') := Lib.hid U
      clear U hT
      cases hfull : p.full with
      | true =>
        rw [hfull] at c2
        have hr : Hid (p.flush = ⟨11, p.from_, p⟩) := Lib.hid (by unfold Ps.flush; rw [if_neg hl, hlr, hu, if_neg (by simp), if_pos hfull])
        clear h hvl hl hlr hlen hu hfull
        go_enter Tryd.func63, Tryd.ntmps63
        go_wp2_with fail
        refine U'.out.mono ?_
        rintro e w1 ⟨rfl, b1⟩
        have k1 : w1.cell? ⟨b, 1, none⟩ = some (.int .i64 p.from_) := (b1.cell (p := ⟨b, 1, none⟩) hb).trans c1
        have k2 : w1.cell? ⟨b, 2, none⟩ = some (.bool true) := (b1.cell (p := ⟨b, 2, none⟩) hb).trans c2
        have hb1 := Nat.lt_of_lt_of_le hb b1.size
        have B1 := Lib.hid b1
        clear b1
        go_wp2_with fail
        refine (fault_any p.from_ 11 _).mono ?_
        rintro e w2 ⟨rfl, rfl⟩
        go_wp2
        go_ret
        rw [hr.out]
        exact StepPost.fault (r := ⟨11, p.from_, p⟩) (n := p.from_) (k := 11) (B1.out.alloc B1.out.size _) rfl rfl (by decide) (by simp)
      | false =>
        rw [hfull] at c2
        obtain ⟨f, hf⟩ : ∃ f, fieldOf l0 r = f := ⟨_, rfl⟩
        rw [hf] at U'
        have hr : Hid (p.flush = ⟨0, 0, { p with fields := p.fields ++ [f], lines := [] }⟩) := Lib.hid (by unfold Ps.flush; rw [if_neg hl, hlr, hu, if_neg (by simp), if_neg (by rw [hfull]; simp)]; unfold Ps.flushed; rw [hlr, ← hf]; rfl)
        obtain ⟨i0, hi0, hz0, hz1, hz2⟩ := info_parts infoFd
        have c5 := h.cells.c5
        have f5 := h.cells.f5
        have f0 := h.cells.f0
        have hown := h.rowF.1
        have hne : L.vf.ownBlock ≠ some b := fun e => by have := h.rowF.2 b e; rw [h.blk.2] at this; simp at this; omega
        have hnf := ok.fields
        clear h hvl hl hlr hlen hu hfull hf
        go_enter Tryd.func63, Tryd.ntmps63
        go_wp2_with fail
        refine U'.out.mono ?_
        rintro e w1 ⟨rfl, b1⟩
        obtain ⟨w2, hw2⟩ : ∃ w2, w1.alloc (.cells #[.string ⟨f.key.toArray⟩, .string ⟨f.val.toArray⟩] 100) = w2 := ⟨_, rfl⟩
        have b2 : Below w.heap.size w w2 := by rw [← hw2]; exact b1.alloc b1.size _
        have hF2 : w2.heap[w1.heap.size]? = some (.cells #[.string ⟨f.key.toArray⟩, .string ⟨f.val.toArray⟩] 100 (0, 0)) := by rw [← hw2]; exact heap_alloc_new _ _
        have m0 : w2.cell? ⟨w1.heap.size, 0, none⟩ = some (.string ⟨f.key.toArray⟩) := by simp [World.cell?, hF2]
        have m1 : w2.cell? ⟨w1.heap.size, 1, none⟩ = some (.string ⟨f.val.toArray⟩) := by simp [World.cell?, hF2]
        have k2 : w1.cell? ⟨b, 2, none⟩ = some (.bool false) := (b1.cell (p := ⟨b, 2, none⟩) hb).trans c2
        have k2' : w2.cell? ⟨b, 2, none⟩ = some (.bool false) := (b2.cell (p := ⟨b, 2, none⟩) hb).trans c2
        have k5 : w2.cell? ⟨b, 5, none⟩ = some L.vf := (b2.cell (p := ⟨b, 5, none⟩) hb).trans c5
        have k0 : w2.cell? ⟨b, 0, none⟩ = some (.slice ao (r.length + 1) cp) := (b2.cell (p := ⟨b, 0, none⟩) hb).trans c0
        have g5 : w2.frozen? ⟨b, 5, none⟩ = false := (b2.frozen (p := ⟨b, 5, none⟩) hb).trans f5
        have g0 : w2.frozen? ⟨b, 0, none⟩ = false := (b2.frozen (p := ⟨b, 0, none⟩) hb).trans f0
        have hb2 := Nat.lt_of_lt_of_le hb b2.size
        have hl1 : w1.heap.size < w2.heap.size := (Array.getElem?_eq_some_iff.1 hF2).1
        have hown2 := ownsRow_of_block hown (fun y hy => b2.block y (hown.lt y hy).2)
        have hnew : some w2.heap.size ≠ L.vf.ownBlock := fun e => by have := (hown2.lt _ e.symm).2; omega
        have HF2 := Lib.hid hF2
        have B2 := Lib.hid b2
        clear b1 b2 hF2 hown c0 c1 c5 f5 f0 c2
        go_wp2_with fail
        go_region_law
          ((refine step_append_lies _ (by rfl) _ _ _ (by rfl) 0 100 i0 _ 2 32 Tryd.underlying43 hi0 hz0 hz1 hz2 rfl (by omega) L.vf p.fields.length (p.fields.flatMap Fd.cells) (by rfl) ((hown2.alloc _).drew)
              ⟨w2.heap.size, 0, none⟩ 1 1 (Fd.cells f) (by rfl) (by rfl) (World.news_of_block (cs := (Fd.cells f).toArray) (t := 100) (fr := (0, 0)) (heap_alloc_new w2 _)) (by simp [Fd.cells, Value.oneCell'])
              (by omega) (by unfold maxLen; omega) (by omega) (by simp) (w2.heap.size + 1) (by simp) ?_; intro gg cap w3 hown1 hgrow hat hlt; have q5 : w3.frozen? ⟨b, 5, none⟩ = false := (hgrow.frozen_far _ (by simp; omega) (Ne.symm hne)).trans (((below_grow1 w2 _).frozen (p := ⟨b, 5, none⟩) hb2).trans g5); have q0 : w3.frozen? ⟨b, 0, none⟩ = false := (hgrow.frozen_far _ (by simp; omega) (Ne.symm hne)).trans (((below_grow1 w2 _).frozen (p := ⟨b, 0, none⟩) hb2).trans g0); have n5 : w3.cell? ⟨b, 5, none⟩ = some L.vf := (hgrow.cell_far _ (by simp; omega) (Ne.symm hne)).trans (((below_grow1 w2 _).cell (p := ⟨b, 5, none⟩) hb2).trans k5); have n0 : w3.cell? ⟨b, 0, none⟩ = some (.slice ao (r.length + 1) cp) := (hgrow.cell_far _ (by simp; omega) (Ne.symm hne)).trans (((below_grow1 w2 _).cell (p := ⟨b, 0, none⟩) hb2).trans k0)))
        all_goals
          go_wp2_with fail
          go_ret
          rw [hr.out]
          refine ⟨rfl, ?_⟩
          refine became_field HD.out (B2.out.trans (((below_grow1 w2 _).drew).mono B2.out.size)) f hown1 hgrow (by rcases hat with hat | hat; exact .inl hat; exact .inr (by rw [hat]; simp)) hlt ?_
          first | exact .inl rfl | exact .inr rfl
    · have hk : unfoldN (l0 :: r) = 2 ∨ unfoldN (l0 :: r) = 6 := by rcases unfoldN_cases l0 r with h | h | h; exact absurd h hu; exact .inl h; exact .inr h
      rw [if_neg hu] at U
      have hr : Hid (p.flush = ⟨unfoldN (l0 :: r), p.from_, p⟩) := Lib.hid (by unfold Ps.flush; rw [if_neg hl, hlr, if_pos hu])
      obtain ⟨k, hkk⟩ : ∃ k, unfoldN (l0 :: r) = k := ⟨_, rfl⟩
      rw [hkk] at U hk hr
      have hk0 : k ≠ 0 := by rcases hk with rfl | rfl <;> decide
      rw [show errV k = errnoV k from if_neg hk0] at U
      have U' : Hid (Calls Tryd.prog 73 #[.slice ao (r.length + 1) cp] w fun e w' => e = .returned (.tuple #[.agg #[.string ⟨#[]⟩, .string ⟨#[]⟩], .iface 66 (.int .i64 k)]) ∧ Below w.heap.size w w') := Lib.hid U
      clear U hT h hvl hl hlr hlen hu hkk hk
      go_enter Tryd.func63, Tryd.ntmps63
      go_wp2_with fail
      refine U'.out.mono ?_
      rintro e w1 ⟨rfl, b1⟩
      have k1' : w1.cell? ⟨b, 1, none⟩ = some (.int .i64 p.from_) := (b1.cell (p := ⟨b, 1, none⟩) hb).trans c1
      have hb1 := Nat.lt_of_lt_of_le hb b1.size
      have B1 := Lib.hid b1
      clear b1
      go_wp2_with fail
      refine (fault_any p.from_ k _).mono ?_
      rintro e w3 ⟨rfl, rfl⟩
      go_wp2
      go_ret
      rw [hr.out]
      exact StepPost.fault (r := ⟨k, p.from_, p⟩) (n := p.from_) (k := k) (B1.out.alloc B1.out.size _) rfl rfl hk0 (by simp)
end Go.Proofs.YtboiaoaephimhaaDoor.B
