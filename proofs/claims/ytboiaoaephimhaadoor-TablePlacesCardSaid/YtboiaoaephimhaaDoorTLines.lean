/- The rows' lines: table.Lines. -/
import Derived.Test.YtboiaoaephimhaaDoorTLine
import Derived.Lib.OthersKept
namespace Go.Proofs.YtboiaoaephimhaaDoor.T
open Go.RowKit Go.Shelf
open Go.Proofs.YtboiaoaephimhaaDoor.B

theorem NumsAt.ints {B : Nat} {w : World} {v : Value} {ws : List Nat} (h : NumsAt B w v ws) : IntsAt w.heap.size w v ws := by
  rcases h.2 with ⟨h0, h1⟩ | ⟨g, cap, cur, hv, hb, hg, -⟩
  · refine ⟨none, 0, ?_, fun k f hk => ?_⟩
    · rw [h1, h0]
    · have := (List.getElem?_eq_some_iff.1 hk).1; omega
  · refine ⟨_, cap, hv, fun k n hk => ⟨_, rfl, (Array.getElem?_eq_some_iff.1 hg).1, ?_⟩⟩
    exact World.ownsRow.cells h (g := g) (by rw [hv]; rfl) k (.int .i64 n) (by simp [nums, hk])
theorem isbF_block {B b : Nat} {bs : List Value} {w : World} (h : Lib.IsBuilderF 48 5 B b bs w) : ∃ p v, w.heap[b]? = some (.cells #[p, v] 48 (0, 0)) ∧ w.ownsRowF B 5 1 v bs.length bs := by
  rcases h with ⟨_, v, h2, h3, _⟩ | ⟨_, v, h2, h3, _⟩
  · exact ⟨_, v, h2, h3⟩
  · exact ⟨_, v, h2, h3⟩
/-- The widths' row stays where a builder is written. -/
theorem NumsAt.kept {B b : Nat} {bs : List Value} {w w' : World} {v : Value} {ws : List Nat} (h : NumsAt B w v ws) (hb : Lib.IsBuilderF 48 5 B b bs w) (hk : Lib.OthersKept 5 (some b) w w') : NumsAt B w' v ws := by
  refine ownsRow_of_block h fun g hg => ?_
  rcases h.2 with ⟨h0, _⟩ | ⟨g', cap, cur, hv, _, hg', _⟩
  · rw [h0] at hg; simp [Value.ownBlock] at hg
  · rw [hv] at hg
    have e : g' = g := by simpa [Value.ownBlock] using hg
    subst e
    obtain ⟨p, u, h1, -⟩ := isbF_block hb
    refine (hk g' _ hg' (fun e => ?_) fun c fz e => ?_).trans hg'.symm
    · cases e
      rw [h1] at hg'
      injection hg' with e1
      injection e1 with _ e2
      exact absurd e2 (by decide)
    · injection e with _ e2
      exact absurd e2 (by decide)
theorem NumsAt.below {B : Nat} {w w' : World} {v : Value} {ws : List Nat} (h : NumsAt B w v ws) (hb : Below w.heap.size w w') : NumsAt B w' v ws :=
  ownsRow_of_block h fun g hg => hb.block g (World.ownsRow.lt h g hg).2
theorem isbF_below {B b : Nat} {bs : List Value} {w w' : World} (h : Lib.IsBuilderF 48 5 B b bs w) (hb : Below w.heap.size w w') : Lib.IsBuilderF 48 5 B b bs w' := by
  have key : ∀ p, Lib.BuilderAtF 48 5 B b p bs w → Lib.BuilderAtF 48 5 B b p bs w' := by
    rintro p ⟨h1, v, h2, ⟨h3, h4⟩, h5⟩
    refine ⟨h1, v, (hb.block b (Array.getElem?_eq_some_iff.1 h2).1).trans h2, ⟨h3, ?_⟩, h5⟩
    rcases h4 with h4 | ⟨g, cap, cur, fr, hv, hB, hg, hr⟩
    · exact .inl h4
    · exact .inr ⟨g, cap, cur, fr, hv, hB, (hb.block g (Array.getElem?_eq_some_iff.1 hg).1).trans hg, hr⟩
  exact h.imp (key _) (key _)
theorem _root_.Go.Lib.BuilderAtF.toIs {T e : TypeId} {B b : Nat} {bs : List Value} {w : World} (h : Lib.BuilderAtF T e B b (.pointer (some ⟨b, 0, none⟩)) bs w) : Lib.IsBuilderF T e B b bs w := .inr h
theorem WriteString_k (B b : Nat) (bs : List Value) (s : ByteArray) (w : World) (h : Lib.IsBuilderF 48 5 B b bs w) (hlen : bs.length + s.size ≤ 140737488355328) (hBw : B ≤ w.heap.size) :
    Calls Tryd.prog 20 #[.pointer (some ⟨b, 0, none⟩), .string s] w fun e w' => e = .returned (.tuple #[.int .i64 s.size, .nilIface]) ∧ (Lib.BuilderAtF 48 5 B b (.pointer (some ⟨b, 0, none⟩)) (bs ++ Lib.strCells s) w' ∧ Below B w w' ∧ Lib.OthersKept 5 (some b) w w') :=
  Any.Builder_WriteString_k { Tryd.lays156 with } Tryd.Builder_Extra_156 B b bs s w h hlen hBw
/-! ### The rows' lines -/
def linesL (rs : List (List ByteArray)) : List UInt8 := rs.flatMap (lineL (widths rs))
def linesTo (ws : List Nat) (rs : List (List ByteArray)) : List UInt8 := rs.flatMap (lineL ws)
theorem linesTo_snoc (ws : List Nat) (rs : List (List ByteArray)) (r : List ByteArray) : linesTo ws (rs ++ [r]) = linesTo ws rs ++ lineL ws r := by simp [linesTo]
/-- Rows that are looked at. -/
structure RowsFine (rs : List (List ByteArray)) : Prop where
  many : rs.length ≤ 1000
  cols : ∀ r ∈ rs, r.length ≤ 100
  cells : ∀ r ∈ rs, ∀ s ∈ r, s.size ≤ 100000
theorem colMax_ge {rs : List (List ByteArray)} {r : List ByteArray} {i : Nat} (h : r ∈ rs) : lenAt r i ≤ colMax rs i := by
  induction rs with
  | nil => simp at h
  | cons x t ih =>
    show lenAt r i ≤ max (lenAt x i) (colMax t i)
    rcases List.mem_cons.1 h with rfl | h
    · omega
    · have := ih h; omega
theorem colMax_le {rs : List (List ByteArray)} {i n : Nat} (h : ∀ r ∈ rs, lenAt r i ≤ n) : colMax rs i ≤ n := by
  induction rs with
  | nil => exact Nat.zero_le _
  | cons x t ih =>
    show max (lenAt x i) (colMax t i) ≤ n
    have h1 := h x (by simp)
    have h2 := ih fun r hr => h r (by simp [hr])
    omega
theorem most_ge {rs : List (List ByteArray)} {r : List ByteArray} (h : r ∈ rs) : r.length ≤ most rs := by
  induction rs with
  | nil => simp at h
  | cons x t ih =>
    show r.length ≤ max x.length (most t)
    rcases List.mem_cons.1 h with rfl | h
    · omega
    · have := ih h; omega
theorem lenAt_le {r : List ByteArray} {i n : Nat} (h : ∀ s ∈ r, s.size ≤ n) : lenAt r i ≤ n := by
  unfold lenAt
  cases hs : r[i]? with
  | none => exact Nat.zero_le _
  | some s => exact h s (List.mem_of_getElem? hs)
theorem RowsFine.fit {rs : List (List ByteArray)} (h : RowsFine rs) {r : List ByteArray} (hr : r ∈ rs) : RowFit (widths rs) r := by
  refine ⟨h.cols r hr, fun k s hs => ?_⟩
  have h1 := (List.getElem?_eq_some_iff.1 hs).1
  have h2 := most_ge hr
  refine ⟨colMax rs k, widths_get rs k (by omega), ?_, colMax_le fun x hx => lenAt_le (h.cells x hx)⟩
  have := colMax_ge (i := k) hr
  simpa [lenAt, hs] using this
theorem linesTo_len {ws : List Nat} {rs : List (List ByteArray)} (h : ∀ r ∈ rs, RowFit ws r) : (linesTo ws rs).length ≤ rs.length * 20000201 := by
  induction rs with
  | nil => simp [linesTo]
  | cons x t ih =>
    have h1 := lineL_len (h x (by simp))
    have h2 := ih fun r hr => h r (by simp [hr])
    unfold linesTo at h2 ⊢
    simp only [List.flatMap_cons, List.length_append, List.length_cons]
    omega
set_option maxRecDepth 20000 in
set_option maxHeartbeats 3200000 in
theorem lines_any (v : Value) (rs : List (List ByteArray)) (w : World) (h : RowsAt w.heap.size w v rs) (hf : RowsFine rs) :
    Calls Tryd.prog 6 #[v] w fun e w' => e = .returned (.string ⟨(linesL rs).toArray⟩) ∧ Below w.heap.size w w' := by
  have H0 := Lib.hid h
  obtain ⟨ao, cp, rfl, hc⟩ := h
  have HC := Lib.hid hc
  have HF := Lib.hid (fun (r : List ByteArray) (hr : r ∈ rs) => hf.fit hr)
  have hmany := hf.many
  have HCO := Lib.hid hf.cols
  obtain ⟨ws, hws⟩ : ∃ ws, widths rs = ws := ⟨_, rfl⟩
  have HLL := Lib.hid (show linesL rs = linesTo (widths rs) rs from rfl)
  have HWD := Lib.hid (fun (w' : World) (hb : Below w.heap.size w w') => widths_any _ rs w' ((H0.out.below hb (Nat.le_refl _)).up hb.size) (by omega) (fun r hr => Nat.le_trans (HCO.out r hr) (by omega)))
  rw [hws] at HF HLL HWD
  clear hc hws hf H0
  go_enter Tryd.func6, Tryd.ntmps6
  obtain ⟨B, hBB⟩ : ∃ B, w.heap.size = B := ⟨_, rfl⟩
  have hI0 : Lib.IsBuilderF 48 5 B B (Lib.byteCells (linesTo ws (rs.take 0))) (w.alloc (.cells #[.pointer none, .slice none 0 0] 48)) := by
    refine .inl (Lib.BuilderAtF.of ⟨Nat.le_refl _, .slice none 0 0, by rw [← hBB]; exact heap_alloc_new w _, World.ownsRow_nil _ _ _ _, by simp [Value.ownBlock]⟩)
  have hW0 : Below B w (w.alloc (.cells #[.pointer none, .slice none 0 0] 48)) := hBB ▸ below_grow1 w _
  have hz0 : B + 1 ≤ (w.alloc (.cells #[.pointer none, .slice none 0 0] 48)).heap.size := by rw [← hBB]; simp
  have WDc := Lib.hid (HWD.out _ (hBB ▸ hW0))
  obtain ⟨w0, hw0⟩ : ∃ w0, w.alloc (.cells #[.pointer none, .slice none 0 0] 48) = w0 := ⟨_, rfl⟩
  rw [hw0] at hI0 hW0 WDc hz0
  have HI0 := Lib.hid hI0
  have HW0 := Lib.hid hW0
  clear hI0 hW0
  go_wp2_with fail
  refine WDc.out.mono ?_
  rintro e w1 ⟨u, rfl, hN, hb⟩
  obtain ⟨uo, uc, hus⟩ := hN.shape
  subst hus
  have HI1 := Lib.hid (isbF_below HI0.out hb)
  have HW1 := Lib.hid (HW0.out.trans (hb.mono (by omega)))
  have HN1 : Hid (NumsAt B w1 (.slice uo ws.length uc) ws) := Lib.hid (by
    refine ⟨hN.1, ?_⟩
    rcases hN.2 with h0 | ⟨g, cap, cur, hv, hB, hr⟩
    · exact .inl h0
    · exact .inr ⟨g, cap, cur, hv, by omega, hr⟩)
  clear HI0 HW0 hN hb WDc hw0 hz0
  go_wp2
  try rw [hBB]
  go_loopw [11] (fun i wr => ∃ k : Nat, i = .int .i64 k ∧ k ≤ rs.length ∧ Hid (Lib.IsBuilderF 48 5 B B (Lib.byteCells (linesTo ws (rs.take k))) wr) ∧ Hid (NumsAt B wr (.slice uo ws.length uc) ws) ∧ Hid (Below B w wr)) (fun i _ => rs.length - (intOf i).toNat)
  case atStart => exact ⟨0, rfl, Nat.zero_le _, HI1, HN1, HW1⟩
  case round =>
    clear HI1 HN1 HW1
    obtain ⟨k, rfl, hk, hI, hN, hW⟩ := hrel
    have hzr : B ≤ wr.heap.size := hBB ▸ hW.out.size
    by_cases hlt : k < rs.length
    · obtain ⟨r, hr⟩ : ∃ r, rs[k]? = some r := ⟨_, List.getElem?_eq_getElem hlt⟩
      obtain ⟨a, vr, rfl, ha, h1, h2⟩ := HC.out k r hr
      rw [hBB] at ha h2
      have c1 := (hW.out.cell (p := a.add k) (by rw [add_block]; exact ha)).trans h1
      have hrm := List.mem_of_getElem? hr
      have hfit := HF.out r hrm
      have L := Lib.hid (line_any vr _ r ws wr ((h2.below hW.out (Nat.le_refl _)).up hzr) hN.out.ints hfit)
      have hll := lineL_len hfit
      have hlt2 := linesTo_len (ws := ws) (rs := rs.take k) (fun x hx => HF.out x (List.mem_of_mem_take hx))
      rw [List.length_take] at hlt2
      have et : rs.take (k + 1) = rs.take k ++ [r] := by rw [List.take_add_one, hr]; rfl
      have E1 := Lib.hid (show linesTo ws (rs.take (k + 1)) = _ by rw [et, linesTo_snoc])
      obtain ⟨ro, rc, hvr, -⟩ := h2
      subst hvr
      obtain ⟨l, hl⟩ : ∃ l, lineL ws r = l := ⟨_, rfl⟩
      rw [hl] at L E1 hll
      obtain ⟨s, hs⟩ : ∃ s : ByteArray, (⟨l.toArray⟩ : ByteArray) = s := ⟨_, rfl⟩
      have hsl : s.data.toList = l := by rw [← hs]
      have hss : s.size ≤ 20000201 := by rw [Lib.size_eq, hsl]; exact hll
      rw [hs] at L
      rw [← hsl] at E1
      clear h1 hr hrm hfit et hl hs hsl hll
      go_wp2_with fail
      refine L.out.mono ?_
      rintro e w2 ⟨rfl, hb⟩
      have hI2 := isbF_below hI.out hb
      have hN2 := hN.out.below hb
      have hz2 := hb.size
      have HW2 := Lib.hid (hW.out.trans (hb.mono hzr))
      have WS := Lib.hid (WriteString_k B B _ s w2 hI2 (by rw [byteCells_len]; omega) (by omega))
      have HI2 := Lib.hid hI2
      have HN2 := Lib.hid hN2
      clear hb hI2 hN2 L
      go_wp2_with fail
      refine WS.out.mono ?_
      rintro e w3 ⟨rfl, hb4, hb5, hb6⟩
      have hN3 := HN2.out.kept HI2.out hb6
      have hb7 : Lib.byteCells (linesTo ws (rs.take k)) ++ Lib.strCells s = Lib.byteCells (linesTo ws (rs.take (k + 1))) := by
        rw [E1.out, byteCells_app, strCells_eq]
      rw [hb7] at hb4
      have HI3 := Lib.hid hb4.toIs
      have HN3 := Lib.hid hN3
      have HW3 := Lib.hid (HW2.out.trans hb5)
      clear hb4 hb5 hb6 hN3 hb7 WS
      go_wp2
      exact ⟨⟨k + 1, by go_num, by omega, HI3, HN3, HW3⟩, by simp [intOf]; omega⟩
    · have hk' : k = rs.length := by omega
      subst hk'
      have hI' := hI.out
      rw [List.take_length] at hI'
      have HL2 := HLL.out
      obtain ⟨l, hl⟩ : ∃ l, linesTo ws rs = l := ⟨_, rfl⟩
      rw [hl] at hI' HL2
      have HL3 := Lib.hid HL2
      have S := Lib.hid (Tryd.Builder_String_any_k B B l wr hI' (by omega))
      clear hI hI' hl HL2 HLL
      go_wp2_with fail
      refine S.out.mono ?_
      rintro e w1 ⟨rfl, -, hb, -⟩
      go_wp2
      go_ret
      exact ⟨by rw [HL3.out]; rfl, by rw [hBB]; exact hW.out.trans hb⟩
end Go.Proofs.YtboiaoaephimhaaDoor.T
