/- A list's rows: table.Rows. A list's table: table.Table. The chapter's example, walked: stanzakeeplaw25.alive. What the laws of the layer table call besides: large, stanzakeepnum.Num and Is. -/
import Derived.Test.YtjbnjlkoipkpoaaGreatDoorTRow
import Derived.Test.YtjbnjlkoipkpoaaGreatDoorBLists
import Derived.Lib.OthersKept
import Derived.Test.YtjbnjlkoipkpoaaGreatDoorTLines
import Derived.Test.YtjbnjlkoipkpoaaGreatDoorTRows
namespace Go.Proofs.YtjbnjlkoipkpoaaGreatDoor.T
open Go.RowKit Go.Shelf
open Go.Proofs.YtjbnjlkoipkpoaaGreatDoor.B

theorem infoR : (Tryz.prog.info? 39).map (fun i => (i.zero, i.size, i.bytes)) = some (some (.slice none 0 0), 1, 24) := by kernel_rfl
/-- Rows of texts in a row of their own, at B or beyond. -/
structure RowsOwn (B : Nat) (w : World) (v : Value) (rs : List (List ByteArray)) (us : List Value) : Prop where
  row : w.ownsRow B 39 1 v rs.length us
  its : ∀ (k : Nat) (u : Value) (r : List ByteArray), us[k]? = some u → rs[k]? = some r → StrRow B w u r
theorem RowsOwn.len {B : Nat} {w : World} {v : Value} {rs : List (List ByteArray)} {us : List Value} (h : RowsOwn B w v rs us) : us.length = rs.length := by have := h.row.1; omega
theorem RowsOwn.shape {B : Nat} {w : World} {v : Value} {rs : List (List ByteArray)} {us : List Value} (h : RowsOwn B w v rs us) : ∃ vo vc, v = .slice vo rs.length vc := by
  rcases h.row.2 with ⟨h0, h1⟩ | ⟨g, cap, cur, hv, _⟩
  · exact ⟨none, 0, by rw [h0, h1]⟩
  · exact ⟨_, _, hv⟩
theorem RowsOwn.at_ {B : Nat} {w : World} {v : Value} {rs : List (List ByteArray)} {us : List Value} (h : RowsOwn B w v rs us) : RowsAt w.heap.size w v rs := by
  rcases h.row.2 with ⟨h0, h1⟩ | ⟨g, cap, cur, hv, hb, hg, -⟩
  · refine ⟨none, 0, ?_, fun k f hk => ?_⟩
    · rw [h1, h0]
    · have := (List.getElem?_eq_some_iff.1 hk).1; omega
  · refine ⟨_, cap, hv, fun k r hk => ?_⟩
    obtain ⟨u, hu⟩ : ∃ u, us[k]? = some u := ⟨_, List.getElem?_eq_getElem (by rw [h.len]; exact (List.getElem?_eq_some_iff.1 hk).1)⟩
    exact ⟨_, u, rfl, (Array.getElem?_eq_some_iff.1 hg).1, World.ownsRow.cells h.row (g := g) (by rw [hv]; rfl) k u hu, (h.its k u r hu hk).at_⟩
theorem RowsOwn.below {B : Nat} {w w' : World} {v : Value} {rs : List (List ByteArray)} {us : List Value} (h : RowsOwn B w v rs us) (hb : Below w.heap.size w w') : RowsOwn B w' v rs us :=
  ⟨ownsRow_of_block h.row fun g hg => hb.block g (World.ownsRow.lt h.row g hg).2, fun k u r h1 h2 => (h.its k u r h1 h2).below hb (Nat.le_refl _)⟩
theorem RowsOwn.nil (B : Nat) (w : World) : RowsOwn B w (.slice none 0 0) [] [] := ⟨World.ownsRow_nil _ _ _ _, fun k u r h _ => by simp at h⟩
theorem RowsOwn.one {B : Nat} {w : World} {u : Value} {r : List ByteArray} (h : StrRow B w u r) (hB : B ≤ w.heap.size) : RowsOwn B (w.alloc (.cells #[u] 39)) (.slice (some ⟨w.heap.size, 0, none⟩) 1 1) [r] [u] := by
  refine ⟨⟨rfl, .inr ⟨w.heap.size, 1, #[u], rfl, hB, heap_alloc_new w _, Nat.le_refl _, by unfold maxLen; omega, rfl, rfl⟩⟩, fun k x y h1 h2 => ?_⟩
  have h3 : StrRow B (w.alloc (.cells #[u] 39)) u r := h.below (below_grow1 w _) (Nat.le_refl _)
  cases k with
  | zero => simp at h1 h2; rw [← h1, ← h2]; exact h3
  | succ k => simp at h1
/-- A row of texts lies elsewhere than the rows' own row. -/
theorem strRow_grown {B : Nat} {w w' : World} {u v : Value} {r : List ByteArray} {n : Nat} {us : List Value} (h : StrRow B w u r) (hv : w.ownsRow B 39 1 v n us) (hg : w.grownBy w' v.ownBlock) : StrRow B w' u r := by
  refine ownsRow_of_block h fun g hgu => hg.block g (World.ownsRow.lt h g hgu).2 fun e => ?_
  rcases h.2 with ⟨h0, _⟩ | ⟨g1, cap, cur, hu, _, hg1, _⟩
  · rw [h0] at hgu; simp [Value.ownBlock] at hgu
  · rcases hv.2 with ⟨h0, _⟩ | ⟨g2, cap2, cur2, hv2, _, hg2, _⟩
    · rw [h0] at e; simp [Value.ownBlock] at e
    · rw [hu] at hgu
      rw [hv2] at e
      have e1 : g1 = g := by simpa [Value.ownBlock] using hgu
      have e2 : g = g2 := by simpa [Value.ownBlock] using e
      rw [e1, e2, hg2] at hg1
      injection hg1 with e3
      injection e3 with _ e4
      exact absurd e4 (by decide)
theorem RowsOwn.snoc {B gg cap : Nat} {w w8 : World} {v u : Value} {rs : List (List ByteArray)} {us : List Value} {r : List ByteArray} (h : RowsOwn B w v rs us) (hu : StrRow B w u r)
    (hown : w8.ownsRow B 39 1 (.slice (some ⟨gg, 0, none⟩) (rs.length + 1) cap) (rs.length + 1) (us ++ [u])) (hg : w.grownBy w8 v.ownBlock) :
    RowsOwn B w8 (.slice (some ⟨gg, 0, none⟩) (rs.length + 1) cap) (rs ++ [r]) (us ++ [u]) := by
  refine ⟨by rw [List.length_append]; exact hown, fun k x y h1 h2 => ?_⟩
  have hl := h.len
  by_cases hk : k < rs.length
  · rw [List.getElem?_append_left (by omega)] at h1
    rw [List.getElem?_append_left hk] at h2
    exact strRow_grown (h.its k x y h1 h2) h.row hg
  · have h3 := (List.getElem?_eq_some_iff.1 h2).1
    rw [List.length_append] at h3
    have hk2 : k = rs.length := by simp at h3; omega
    subst hk2
    rw [← hl] at h1
    simp at h1 h2
    rw [← h1, ← h2]
    exact strRow_grown hu h.row hg
theorem RowsOwn.cell1 {B : Nat} {w : World} {u : Value} {r : List ByteArray} (h : StrRow B w u r) : u.oneCell' = true := by
  obtain ⟨vo, vc, hv⟩ := h.shape
  rw [hv]; rfl
/-- What is appended to the rows' own row, or is new, alone has changed: so all other rows stand. -/
theorem others_grown {B : Nat} {w w' : World} {v : Value} {n : Nat} {us : List Value} (hv : w.ownsRow B 39 1 v n us) (hg : w.grownBy w' v.ownBlock) : Lib.OthersKept 39 none w w' := by
  intro k o ho _ hne
  refine (hg.block k (Array.getElem?_eq_some_iff.1 ho).1 fun e => ?_).trans ho
  rcases hv.2 with ⟨h0, _⟩ | ⟨g2, cap2, cur2, hv2, _, hg2, _⟩
  · rw [h0] at e; simp [Value.ownBlock] at e
  · rw [hv2] at e
    have e2 : k = g2 := by simpa [Value.ownBlock] using e
    rw [e2, hg2] at ho
    injection ho with e3
    exact hne _ _ e3.symm
theorem others_below {e : TypeId} {w w' : World} (hb : Below w.heap.size w w') : Lib.OthersKept e none w w' := fun k _ ho _ _ => (hb.block k (Array.getElem?_eq_some_iff.1 ho).1).trans ho
theorem row_others {e e' : TypeId} {w w' : World} {B size n : Nat} {v : Value} {xs : List Value} (h : w.ownsRow B e size v n xs) (hk : Lib.OthersKept e' none w w') (hne : e ≠ e') : w'.ownsRow B e size v n xs := by
  refine ownsRow_of_block h fun g hg => ?_
  rcases h.2 with ⟨h0, _⟩ | ⟨g', cap, cur, hv, _, hg', _⟩
  · rw [h0] at hg; simp [Value.ownBlock] at hg
  · rw [hv] at hg
    have e1 : g' = g := by simpa [Value.ownBlock] using hg
    subst e1
    refine (hk g' _ hg' (fun e => by cases e) fun c fz e => ?_).trans hg'.symm
    injection e with _ e2
    exact hne e2
/-! ### The stanzas' rows -/
def rowsOf (ks : List ByteArray) (ss : List St) : List (List ByteArray) := ks :: ss.map fun x => rowL ks x.2
theorem rowsOf_snoc (ks : List ByteArray) (ss : List St) (x : St) : rowsOf ks (ss ++ [x]) = rowsOf ks ss ++ [rowL ks x.2] := by simp [rowsOf]
theorem rowsOf_len (ks : List ByteArray) (ss : List St) : (rowsOf ks ss).length = ss.length + 1 := by simp [rowsOf]
theorem stCells_get : ∀ (ss : List St) (us : List Value) (k : Nat) (x : St) (u : Value), ss[k]? = some x → us[k]? = some u → (stCells ss us)[k * 2]? = some (.int .i64 x.1) ∧ (stCells ss us)[k * 2 + 1]? = some u
  | [], us, k, x, u, h, _ => by simp at h
  | y :: r, [], k, x, u, _, h => by simp at h
  | y :: r, v :: t, 0, x, u, h, h' => by simp at h h'; subst h; subst h'; exact ⟨rfl, rfl⟩
  | y :: r, v :: t, k + 1, x, u, h, h' => by
    obtain ⟨h1, h2⟩ := stCells_get r t k x u (by simpa using h) (by simpa using h')
    have e1 : (k + 1) * 2 = k * 2 + 1 + 1 := by omega
    rw [e1]
    have e : stCells (y :: r) (v :: t) = .int .i64 y.1 :: v :: stCells r t := rfl
    rw [e]
    exact ⟨by simpa using h1, by simpa using h2⟩
def RRel (B : Nat) (w w2 : World) (ks : List ByteArray) (ss : List St) (v i : Value) (wr : World) : Prop :=
  ∃ (k : Nat) (us : List Value), i = .int .i64 k ∧ k ≤ ss.length ∧ Hid (RowsOwn B wr v (rowsOf ks (ss.take k)) us) ∧ Hid (Below B w wr) ∧ Hid (Lib.OthersKept 39 none w2 wr) ∧ w2.heap.size ≤ wr.heap.size
set_option maxRecDepth 20000 in
set_option maxHeartbeats 6400000 in
theorem rows_any (p : Value) (vk : Value) (ks : List ByteArray) (ss : List St) (w : World) (hk : StrsAt w.heap.size w vk ks) (hn : ks.length ≤ 1000) (hm : ss.length ≤ 1000000) (hfine : ∀ x ∈ ss, FsFine x.2) (hr : Ready w) (hp : ∃ q, p = .pointer q)
    (HS : ∀ w', Below w.heap.size w w' → Calls Tryz.prog 30 #[p] w' (StanzasPost ss w')) :
    Calls Tryz.prog 28 #[p, vk] w fun e w' => ∃ u us, e = .returned u ∧ RowsOwn w.heap.size w' u (rowsOf ks ss) us ∧ Below w.heap.size w w' := by
  obtain ⟨q, rfl⟩ := hp
  obtain ⟨i0, hi0, hz0, hz1, hz2⟩ := info_parts infoR
  have HCL := Lib.hid (cloneS_any vk ks w hk (by omega))
  have HK := Lib.hid hk
  have HSS := Lib.hid HS
  have HR := Lib.hid hr
  have HFI := Lib.hid hfine
  obtain ⟨ao, cp, hvk, -⟩ := hk
  subst hvk
  clear HS hr hfine
  go_enter Tryz.func28, Tryz.ntmps28
  obtain ⟨B, hBB⟩ : ∃ B, w.heap.size = B := ⟨_, rfl⟩
  rw [hBB] at HCL HK HSS
  go_wp2_with fail
  refine HCL.out.mono ?_
  rintro e w1 ⟨u0, rfl, hU, hb1⟩
  have hz1' := hb1.size
  rw [hBB] at hz1'
  obtain ⟨uo, uc, hus⟩ := hU.shape
  subst hus
  have hO1 := RowsOwn.one hU hz1'
  have hB1 := hb1.alloc hz1' (.cells #[.slice uo ks.length uc] 39)
  obtain ⟨N, hN⟩ : ∃ N, w1.heap.size = N := ⟨_, rfl⟩
  rw [hN] at hO1
  obtain ⟨w1', hw1'⟩ : ∃ w1', w1.alloc (.cells #[.slice uo ks.length uc] 39) = w1' := ⟨_, rfl⟩
  rw [hw1'] at hO1 hB1
  have hz2' := hB1.size
  rw [hBB] at hz2'
  have ST := Lib.hid (HSS.out w1' hB1)
  have HO1 := Lib.hid hO1
  have HB1 := Lib.hid hB1
  clear hU hb1 hO1 hB1 HCL hz1'
  go_wp2_with fail
  refine ST.out.mono ?_
  rintro e w2 ⟨v, ρ, us, rfl, hS, -, hb2⟩
  have hO2 := HO1.out.below hb2
  have hB2 := HB1.out.trans (hb2.mono hz2')
  have hz3 := hb2.size
  obtain ⟨so, sc, hsv⟩ := hS.row.shape
  subst hsv
  have HO2 := Lib.hid hO2
  have HB2 := Lib.hid hB2
  have HSA := Lib.hid hS
  have hz4 : B ≤ w2.heap.size := by omega
  have HOK := Lib.hid (Lib.OthersKept.refl 39 none w2)
  clear hO2 hB2 hS hb2 ST HO1 HB1 hw1' hN
  go_wp2
  go_loopw [5, 14] (fun v i wr => RRel B w w2 ks ss v i wr) (fun _ i _ => ss.length - (intOf i).toNat)
  case atStart => exact ⟨0, _, rfl, Nat.zero_le _, HO2, HB2, HOK, Nat.le_refl _⟩
  case round =>
    clear HO2 HB2 HOK
    obtain ⟨k, ys, rfl, hk, hO, hW, hOK, hzw⟩ := hrel
    by_cases hlt : k < ss.length
    · obtain ⟨x, hx⟩ : ∃ x, ss[k]? = some x := ⟨_, List.getElem?_eq_getElem hlt⟩
      have hul := HSA.out.len
      obtain ⟨f, hf⟩ : ∃ f, us[k]? = some f := ⟨_, List.getElem?_eq_getElem (by omega)⟩
      obtain ⟨g1, g2⟩ := stCells_get ss us k x f hx hf
      have hrow := row_others HSA.out.row.1 hOK.out (by decide)
      have hfr := row_others (HSA.out.its k f x hf hx).1 hOK.out (by decide)
      obtain ⟨g, hg, hao⟩ : ∃ g, (Value.slice so ss.length sc).ownBlock = some g ∧ so = some ⟨g, 0, none⟩ := by
        rcases hrow.2 with ⟨-, h0⟩ | ⟨g, cp', cur, hz, -⟩
        · omega
        · injection hz with z1 z2 z3
          exact ⟨g, by rw [z1]; rfl, z1⟩
      have e1 := hrow.cells hg _ _ g1
      have e2 := hrow.cells hg _ _ g2
      have hgl := (hrow.lt g hg).2
      rw [addrO] at e1 e2
      subst hao
      have hfa := FieldsAt.row hfr
      obtain ⟨fo, fc, hfv, -⟩ := FieldsAt.row hfr
      have HX : Hid (rowsOf ks (ss.take (k + 1)) = rowsOf ks (ss.take k) ++ [rowL ks x.2]) := Lib.hid (by rw [List.take_add_one, hx]; exact rowsOf_snoc ks _ x)
      have hrl : (rowsOf ks (ss.take k)).length = k + 1 := by rw [rowsOf_len, List.length_take]; omega
      have hfx := HFI.out x (List.mem_of_getElem? hx)
      have hzr : B ≤ wr.heap.size := by omega
      subst hfv
      have hO3 : RowsOwn B wr u5 (rowsOf ks (ss.take k)) ys := hO.out
      obtain ⟨rs, hrs⟩ : ∃ rs, rowsOf ks (ss.take k) = rs := ⟨_, rfl⟩
      rw [hrs] at hO3 HX hrl
      obtain ⟨vo, vc, hvs⟩ := hO3.shape
      subst hvs
      obtain ⟨W1, hW1⟩ : ∃ W1, wr.alloc (.cells #[.int .i64 x.1, .slice fo x.2.length fc] 61) = W1 := ⟨_, rfl⟩
      have hb4 : Below wr.heap.size wr W1 := by rw [← hW1]; exact below_grow1 wr _
      have hkk := (HK.out.below (hW.out) (Nat.le_refl _)).below hb4 hzr
      have hzW := hb4.size
      have RW := Lib.hid (row_any ks (.slice ao ks.length cp) (.slice fo x.2.length fc) x.2 W1 (hkk.up (by omega)) ((hfa.below hb4 (Nat.le_refl _)).up hzW) hfx (HR.out.stays ((hBB ▸ hW.out.trans (hb4.mono hzr)))) hn)
      have hE : W1.heap[wr.heap.size]? = some (.cells #[.int .i64 x.1, .slice fo x.2.length fc] 61 (0, 0)) := by rw [← hW1]; exact heap_alloc_new wr _
      have p1 : W1.cell? ⟨wr.heap.size, 1, none⟩ = some (.slice fo x.2.length fc) := by simp [World.cell?, hE]
      have HO4 := Lib.hid (hO3.below hb4)
      have HB4 := Lib.hid (hW.out.trans (hb4.mono hzr))
      have HK4 := Lib.hid (hOK.out.trans (others_below hb4))
      obtain ⟨xi, xf⟩ := x
      simp only at e1 RW HX p1
      have hrl2 : rs.length ≤ 1000001 := by omega
      have HRL := Lib.hid hrl
      clear hO hO3 hrow hfr hfa g1 g2 hx hf hg hrs hkk hb4 hE hOK hW hrl
      go_wp2_with fail
      refine RW.out.mono ?_
      rintro e w5 ⟨u, rfl, hU, hb5⟩
      have hU1 : StrRow B w5 u (rowL ks xf) := by
        refine ⟨hU.1, ?_⟩
        rcases hU.2 with h0 | ⟨g, cap, cur, hv, hB, hr⟩
        · exact .inl h0
        · exact .inr ⟨g, cap, cur, hv, by omega, hr⟩
      have hO5 := HO4.out.below hb5
      have hu1 := RowsOwn.cell1 hU1
      obtain ⟨ro, rc, hus⟩ := hU1.shape
      subst hus
      obtain ⟨u, hu⟩ : ∃ u, (Value.slice ro (rowL ks xf).length rc) = u := ⟨_, rfl⟩
      rw [hu] at hU1 hu1
      have hz5 := hb5.size
      have hB5 := HB4.out.trans (hb5.mono (by omega))
      have hK5 := HK4.out.trans (others_below hb5)
      have HO := Lib.hid (World.ownsRow.alloc hO5.row (.cells #[u] 39))
      have HU1 := Lib.hid hU1
      have HO5 := Lib.hid hO5
      have HB5 := Lib.hid hB5
      have HK5 := Lib.hid hK5
      clear hU hU1 hb5 hO5 hB5 hK5 RW HO4 HB4 HK4
      subst hu
      go_wp2_with (at_builtin; refine wpList_append_lies _ rfl _ _ _ rfl B 39 i0 _ 1 24 Tryz.underlying49 hi0 hz0 hz1 hz2 rfl (by omega) (.slice vo rs.length vc) rs.length ys rfl HO.out ⟨w5.heap.size, 0, none⟩ 1 1 [.slice ro (rowL ks xf).length rc] rfl rfl (World.news_of_block (cs := #[.slice ro (rowL ks xf).length rc]) (heap_alloc_new w5 _)) (fun y hy => by rw [List.mem_singleton.1 hy]; exact hu1) (by omega) (by unfold maxLen; omega) (by omega) (by simp; omega) _ rfl ?_; refine Hid.out ?_)
      refine Lib.hid ?_
      intro gg cap w8 hown8 hgrow hat hlt8
      have hb6 := below_grow1 w5 (.cells #[.slice ro (rowL ks xf).length rc] 39)
      have hO6 := HO5.out.below hb6
      have hU6 : StrRow B (w5.alloc (.cells #[.slice ro (rowL ks xf).length rc] 39)) (.slice ro (rowL ks xf).length rc) (rowL ks xf) := HU1.out.below hb6 (Nat.le_refl _)
      have HN8 := Lib.hid (hO6.snoc hU6 hown8 hgrow)
      have hB6 := HB5.out.alloc (by omega) (.cells #[.slice ro (rowL ks xf).length rc] 39)
      have HB8 := Lib.hid (hB6.grown hgrow (hBB ▸ hB6.size) (fun q hq => (World.ownsRow.lt HO5.out.row q hq).1))
      have HK8 := Lib.hid ((HK5.out.trans (others_below hb6)).trans (others_grown hO6.row hgrow))
      have hz8 := hgrow.size
      have hz9 := hb6.size
      clear hown8 hgrow hat hb6 hO6 hU6 hB6
      go_wp2
      refine ⟨⟨k + 1, ys ++ [.slice ro (rowL ks xf).length rc], by go_num, by omega, ?_, HB8, HK8, by omega⟩, by simp [intOf]; omega⟩
      rw [HX.out]
      exact HN8
    · have hO4 : RowsOwn B wr _ (rowsOf ks (ss.take k)) ys := hO.out
      rw [List.take_of_length_le (by omega)] at hO4
      have HO4 := Lib.hid hO4
      clear hO4 hO
      go_wp2
      go_ret
      exact ⟨_, _, rfl, hBB ▸ HO4.out, hBB ▸ hW.out⟩
end Go.Proofs.YtjbnjlkoipkpoaaGreatDoor.T

namespace Go.Proofs.YtjbnjlkoipkpoaaGreatDoor.T
open Go.RowKit Go.Shelf
open Go.Proofs.YtjbnjlkoipkpoaaGreatDoor.B

theorem retb2 {a b : Bool} (h : a = b) : Ending.returned (.bool a) = .returned (.bool b) := by rw [h]
theorem bad_any (s : ByteArray) (w : World) :
    Calls Tryz.prog 63 #[.string s] w fun e w' => e = .returned (.bool (!goodKey s.data.toList)) ∧ w = w' := by
  have K := Lib.hid (key_any s w)
  go_enter Tryz.func63, Tryz.ntmps63
  go_wp2_with fail
  refine K.out.mono ?_
  rintro e w' ⟨rfl, rfl⟩
  go_wp2_with fail
  go_ret
  exact ⟨rfl, rfl⟩
def goodB (s : ByteArray) : Bool := goodKey s.data.toList
theorem any_false_take {zs : List ByteArray} {p : ByteArray → Bool} {k : Nat} {s : ByteArray} (h : (zs.take k).any p = false) (hs : zs[k]? = some s) (hp : p s = false) : (zs.take (k + 1)).any p = false := by
  rw [List.take_add_one, hs]; simp only [Option.toList_some, List.any_append, h, List.any_cons, hp, List.any_nil, Bool.or_self]
def IdxPost (zs : List ByteArray) (w : World) (e : Ending) (w' : World) : Prop := ∃ i : Int, e = .returned (.int .i64 i) ∧ (0 ≤ i ↔ (zs.any fun s => !goodB s) = true) ∧ -1 ≤ i ∧ i ≤ 1000000 ∧ w = w'
set_option maxHeartbeats 800000 in
theorem idx_any (v : Value) (zs : List ByteArray) (w : World) (h : StrsAt w.heap.size w v zs) (hn : zs.length ≤ 1000000) :
    Calls Tryz.prog 107 #[v, .func (.func 63) #[] #[]] w (IdxPost zs w) := by
  obtain ⟨ao, c, rfl, hc⟩ := h
  have HC := Lib.hid hc
  clear hc
  go_enter Tryz.func107, Tryz.ntmps107
  go_wp2_with fail
  go_loop [8] (fun i => ∃ k : Nat, i = .int .i64 k ∧ k ≤ zs.length ∧ Hid ((zs.take k).any (fun s => !goodB s) = false)) (fun i => zs.length - (intOf i).toNat)
  case atStart => exact ⟨0, rfl, Nat.zero_le _, rfl⟩
  case round =>
    obtain ⟨k, rfl, hk, ha⟩ := hrel
    by_cases hlt : k < zs.length
    · obtain ⟨s, hs⟩ : ∃ s, zs[k]? = some s := ⟨_, List.getElem?_eq_getElem hlt⟩
      obtain ⟨a, rfl, hg, n0⟩ := HC.out k s hs
      have B0 := bad_any s w
      have HS := Lib.hid hs
      clear hs
      have eg : goodKey s.data.toList = goodB s := rfl
      cases hgd : goodB s with
      | true =>
        rw [eg, hgd] at B0
        have B := Lib.hid B0
        have HG := Lib.hid hgd
        clear B0 hgd eg
        go_wp2_with fail
        refine B.out.mono ?_
        rintro e w2 ⟨rfl, rfl⟩
        go_wp2_with fail
        go_round
        case rel => exact ⟨k + 1, by go_num, by omega, any_false_take ha.out HS.out (by rw [HG.out]; rfl)⟩
        case measure => simp [intOf]; omega
      | false =>
        rw [eg, hgd] at B0
        have B := Lib.hid B0
        have HG := Lib.hid hgd
        clear B0 hgd eg
        go_wp2_with fail
        refine B.out.mono ?_
        rintro e w2 ⟨rfl, rfl⟩
        go_wp2_with fail
        go_ret
        refine ⟨k, rfl, ⟨fun _ => ?_, fun _ => by omega⟩, by omega, by omega, rfl⟩
        rw [List.any_eq_true]
        exact ⟨s, List.mem_of_getElem? HS.out, by rw [HG.out]; rfl⟩
    · go_wp2_with fail
      go_ret
      refine ⟨-1, rfl, ⟨fun h => by omega, fun h => ?_⟩, by omega, by omega, rfl⟩
      have := ha.out
      rw [List.take_of_length_le (by omega), h] at this
      cases this
theorem contains_any (v : Value) (zs : List ByteArray) (w : World) (h : StrsAt w.heap.size w v zs) (hn : zs.length ≤ 1000000) :
    Calls Tryz.prog 62 #[v, .func (.func 63) #[] #[]] w fun e w' => e = .returned (.bool (zs.any fun s => !goodB s)) ∧ w = w' := by
  have I := Lib.hid (idx_any v zs w h hn)
  clear h
  go_enter Tryz.func62, Tryz.ntmps62
  go_wp2_with fail
  refine I.out.mono ?_
  rintro e w' ⟨i, rfl, hi, h0, h1, rfl⟩
  have HI := Lib.hid hi
  clear hi
  go_wp2_with fail
  go_ret
  refine ⟨retb2 ?_, rfl⟩
  rw [Bool.eq_iff_iff, decide_eq_true_iff]
  exact HI.out
theorem swap_cells {ks : List ByteArray} {fs : List Fld} (h : FsFine fs) : ∀ s ∈ rowL ks fs, s.size ≤ 40080 := by
  intro s hs
  obtain ⟨k, _, rfl⟩ := List.mem_map.1 hs
  rw [Lib.size_eq]
  exact cellL_len h
theorem rowsOf_fine {ks : List ByteArray} {ss : List St} (hn : ks.length ≤ 100) (hk : ∀ s ∈ ks, s.size ≤ 100000) (hm : ss.length ≤ 900) (hf : ∀ x ∈ ss, FsFine x.2) : RowsFine (rowsOf ks ss) := by
  refine ⟨by rw [rowsOf_len]; omega, fun r hr => ?_, fun r hr s hs => ?_⟩
  · rcases List.mem_cons.1 hr with rfl | hr
    · exact hn
    · obtain ⟨x, _, rfl⟩ := List.mem_map.1 hr
      rw [rowL_len]; exact hn
  · rcases List.mem_cons.1 hr with rfl | hr
    · exact hk s hs
    · obtain ⟨x, hx, rfl⟩ := List.mem_map.1 hr
      exact Nat.le_trans (swap_cells (hf x hx) s hs) (by omega)
set_option maxRecDepth 20000 in
set_option maxHeartbeats 1600000 in
theorem table_ok (a : Addr) (vk : Value) (ks : List ByteArray) (ss : List St) (w : World) (hk : StrsAt w.heap.size w vk ks) (hn : ks.length ≤ 100) (hks : ∀ s ∈ ks, s.size ≤ 100000) (hm : ss.length ≤ 900) (hfine : ∀ x ∈ ss, FsFine x.2) (hr : Ready w) (hg : (ks.any fun s => !goodB s) = false)
    (HS : ∀ w', Below w.heap.size w w' → Calls Tryz.prog 30 #[.pointer (some a)] w' (StanzasPost ss w')) :
    Calls Tryz.prog 26 #[.pointer (some a), vk] w fun e w' => e = .returned (.tuple #[.string ⟨(linesL (rowsOf ks ss)).toArray⟩, .nilIface]) ∧ Below w.heap.size w w' := by
  have C := contains_any vk ks w hk (by omega)
  rw [hg] at C
  have CC := Lib.hid C
  have R := Lib.hid (rows_any (.pointer (some a)) vk ks ss w hk (by omega) (by omega) hfine hr ⟨_, rfl⟩ HS)
  have HF := Lib.hid (rowsOf_fine hn hks hm hfine)
  obtain ⟨ao, cp, hvk, -⟩ := hk
  subst hvk
  clear C hg HS hfine hr hks
  go_enter Tryz.func26, Tryz.ntmps26
  go_wp2_with fail
  refine CC.out.mono ?_
  rintro e w' ⟨rfl, rfl⟩
  go_wp2_with fail
  refine R.out.mono ?_
  rintro e w1 ⟨u, us, rfl, hO, hb⟩
  have L := Lib.hid (lines_any u _ w1 hO.at_ HF.out)
  obtain ⟨uo, uc, hu⟩ := hO.shape
  subst hu
  have HB := Lib.hid hb
  clear hO hb R
  go_wp2_with fail
  refine L.out.mono ?_
  rintro e w2 ⟨rfl, hb2⟩
  have HB2 := Lib.hid hb2
  clear hb2 L
  go_wp2
  go_ret2
  exact ⟨rfl, below_cat HB.out HB2.out⟩
set_option maxRecDepth 20000 in
set_option maxHeartbeats 1600000 in
theorem table_bad (a : Addr) (vk : Value) (ks : List ByteArray) (w : World) (hk : StrsAt w.heap.size w vk ks) (hn : ks.length ≤ 100) (hg : (ks.any fun s => !goodB s) = true) :
    Calls Tryz.prog 26 #[.pointer (some a), vk] w fun e w' => e = .returned (.tuple #[.string ⟨#[]⟩, errnoV 5]) ∧ w = w' := by
  have C := contains_any vk ks w hk (by omega)
  rw [hg] at C
  have CC := Lib.hid C
  obtain ⟨ao, cp, hvk, -⟩ := hk
  subst hvk
  clear C hg
  go_enter Tryz.func26, Tryz.ntmps26
  go_wp2_with fail
  refine CC.out.mono ?_
  rintro e w' ⟨rfl, rfl⟩
  go_wp2
  go_ret2
  exact ⟨rfl, rfl⟩
set_option maxRecDepth 20000 in
theorem table_none (vk : Value) (ks : List ByteArray) (w : World) (hk : StrsAt w.heap.size w vk ks) :
    Calls Tryz.prog 26 #[.pointer none, vk] w fun e w' => e = .returned (.tuple #[.string ⟨#[]⟩, errnoV 7]) ∧ w = w' := by
  obtain ⟨ao, cp, hvk, -⟩ := hk
  subst hvk
  go_enter Tryz.func26, Tryz.ntmps26
  go_wp2
  go_ret2
  exact ⟨rfl, rfl⟩
end Go.Proofs.YtjbnjlkoipkpoaaGreatDoor.T

namespace Go.Proofs.YtjbnjlkoipkpoaaGreatDoor.T
open Go.RowKit Go.Shelf
open Go.Proofs.YtjbnjlkoipkpoaaGreatDoor.B

def t0 : List UInt8 := [65, 58, 32, 49, 10, 10, 65, 58, 32, 50, 50, 10, 66, 58, 32, 120, 10]
def k0 : List ByteArray := [⟨#[65]⟩, ⟨#[66]⟩]
theorem t0_err : (parse t0).err = 0 := by decide +kernel
theorem t0_lines : linesL (rowsOf k0 (stanzasOf t0)) = [65, 32, 32, 32, 66, 10, 49, 32, 32, 32, 45, 10, 50, 50, 32, 32, 120, 10] := by decide +kernel
theorem k0_good : (k0.any fun s => !goodB s) = false := by decide +kernel
set_option maxRecDepth 20000 in
set_option maxHeartbeats 1600000 in
theorem alive_any (w : World) (hr : Ready w) :
    Calls Tryz.prog 21 #[] w fun e w' => e = .returned (.bool true) ∧ Below w.heap.size w w' := by
  have L := Lib.hid (list_ok ⟨t0.toArray⟩ (by decide) w t0_err)
  have HR := Lib.hid hr
  clear hr
  go_enter Tryz.func21, Tryz.ntmps21
  go_wp2_with fail
  refine L.out.mono ?_
  rintro e w1 ⟨b, rfl, hL, -, hb⟩
  obtain ⟨w2, hw2⟩ : ∃ w2, w1.alloc (.cells #[.string ⟨#[65]⟩, .string ⟨#[66]⟩] 9) = w2 := ⟨_, rfl⟩
  have hb2 : Below w1.heap.size w1 w2 := by rw [← hw2]; exact below_grow1 w1 _
  have hE : w2.heap[w1.heap.size]? = some (.cells #[.string ⟨#[65]⟩, .string ⟨#[66]⟩] 9 (0, 0)) := by rw [← hw2]; exact heap_alloc_new w1 _
  have hlt : w1.heap.size < w2.heap.size := (Array.getElem?_eq_some_iff.1 hE).1
  have hK : StrsAt w2.heap.size w2 (.slice (some ⟨w1.heap.size, 0, none⟩) 2 2) k0 := by
    refine ⟨_, 2, rfl, fun k s hs => ⟨_, rfl, hlt, ?_⟩⟩
    rw [addrO]
    match k, hs with
    | 0, hs => simp [k0] at hs; subst hs; simp [World.cell?, hE]
    | 1, hs => simp [k0] at hs; subst hs; simp [World.cell?, hE]
  have hL2 := hL.below hb2
  have T := Lib.hid (table_ok ⟨b, 0, none⟩ _ k0 (stanzasOf t0) w2 hK (by decide) (by decide) (Nat.le_trans (stanzasOf_few t0) (by omega)) (fun x hx => (stanzasOf_fine hx).1) ((HR.out.stays hb).stays hb2) k0_good (fun w' hb' => stanzas_in (s := ⟨t0.toArray⟩) (hL2.below hb') (by decide)))
  rw [t0_lines] at T
  have HB := Lib.hid (below_cat hb hb2)
  clear hb hb2 hE hlt hK hL hL2 HR L
  go_wp2_with fail
  refine T.out.mono ?_
  rintro e w3 ⟨rfl, hb3⟩
  have HB3 := Lib.hid hb3
  clear hb3 T
  go_wp2
  go_ret
  exact ⟨rfl, below_cat HB.out HB3.out⟩
end Go.Proofs.YtjbnjlkoipkpoaaGreatDoor.T

namespace Go.Proofs.YtjbnjlkoipkpoaaGreatDoor.T
open Go.RowKit Go.Shelf
open Go.Proofs.YtjbnjlkoipkpoaaGreatDoor.B

/-- More than is looked at. -/
def isLarge (s : ByteArray) (ks : List ByteArray) : Bool := decide (2500 < s.size) || decide (12 < ks.length) || ks.any fun k => decide (200 < k.size)
set_option maxRecDepth 20000 in
set_option maxHeartbeats 1600000 in
theorem large_any (s : ByteArray) (v : Value) (ks : List ByteArray) (w : World) (hk : StrsAt w.heap.size w v ks) (hs : s.size ≤ 9223372036854775807) (hl : ks.length ≤ 9223372036854775807) (hz : ∀ k ∈ ks, k.size ≤ 9223372036854775807) :
    Calls Tryz.prog 22 #[.string s, v] w fun e w' => e = .returned (.bool (isLarge s ks)) ∧ w = w' := by
  obtain ⟨ao, cp, rfl, hc⟩ := hk
  have HC := Lib.hid hc
  have HZ := Lib.hid hz
  have HL := Lib.hid (show isLarge s ks = _ from rfl)
  unfold isLarge at HL
  obtain ⟨b, hb⟩ : ∃ b, isLarge s ks = b := ⟨_, rfl⟩
  have HB : Hid (b = (decide (2500 < s.size) || decide (12 < ks.length) || ks.any fun k => decide (200 < k.size))) := Lib.hid (by rw [← hb]; rfl)
  rw [hb]
  clear hb HL hc hz
  go_enter Tryz.func22, Tryz.ntmps22
  by_cases h1 : s.size ≤ 2500
  · by_cases h2 : ks.length ≤ 12
    · go_wp2
      go_loop [17] (fun i => ∃ k : Nat, i = .int .i64 k ∧ k ≤ ks.length ∧ Hid ((ks.take k).any (fun k => decide (200 < k.size)) = false)) (fun i => ks.length - (intOf i).toNat)
      case atStart => exact ⟨0, rfl, Nat.zero_le _, Lib.hid rfl⟩
      case round =>
        obtain ⟨k, rfl, hk, ha⟩ := hrel
        by_cases hlt : k < ks.length
        · obtain ⟨x, hx⟩ : ∃ x, ks[k]? = some x := ⟨_, List.getElem?_eq_getElem hlt⟩
          obtain ⟨a, rfl, -, c1⟩ := HC.out k x hx
          have hxs := HZ.out x (List.mem_of_getElem? hx)
          have HX := Lib.hid hx
          clear hx
          by_cases h200 : x.size ≤ 200
          · go_wp2
            go_round
            case rel => exact ⟨k + 1, by go_num, by omega, Lib.hid (any_false_take ha.out HX.out (by simpa using h200))⟩
            case measure => simp [intOf]; omega
          · go_wp2
            go_ret
            refine ⟨?_, rfl⟩
            have e : b = true := by
              rw [HB.out]
              have : (ks.any fun k => decide (200 < k.size)) = true := by rw [List.any_eq_true]; exact ⟨x, List.mem_of_getElem? HX.out, by simpa using h200⟩
              rw [this]; simp
            rw [e]; rfl
        · have ha' := ha.out
          rw [List.take_of_length_le (by omega)] at ha'
          have HA := Lib.hid ha'
          clear ha'
          go_wp2
          go_ret
          refine ⟨?_, rfl⟩
          have e : b = false := by
            rw [HB.out, HA.out]
            simp; omega
          rw [e]; rfl
    · go_wp2
      go_ret
      refine ⟨?_, rfl⟩
      have e : b = true := by rw [HB.out]; simp; omega
      rw [e]; rfl
  · go_wp2
    go_ret
    refine ⟨?_, rfl⟩
    have e : b = true := by rw [HB.out]; simp; omega
    rw [e]; rfl
theorem assert_errno (v : Value) (w : World) : (Instr.typeAssert (.iface 56 v) 44 56 true).run Tryz.prog w = .ok (.tuple #[v, .bool true]) w := by kernel_rfl
set_option maxRecDepth 20000 in
theorem num_errno (n : Int) (hn : (n != 0) = true) (w : World) : Calls Tryz.prog 41 #[.iface 56 (.int .i64 n)] w fun e w' => e = .returned (.int .i64 n) ∧ w = w' := by
  have E := assert_errno (.int .i64 n)
  go_enter Tryz.func41, Tryz.ntmps41
  go_wp2_with fail
  refine wp_loop_rounds 1 ?_
  rw [rounds_succ]
  go_wp2_with fail
  go_ret
  exact ⟨rfl, rfl⟩
theorem is_errno (n : Int) (hn : (n != 0) = true) (w : World) : Calls Tryz.prog 29 #[.iface 56 (.int .i64 n), .int .i64 n] w fun e w' => e = .returned (.bool true) ∧ w = w' := by
  have N := Lib.hid (num_errno n hn w)
  go_enter Tryz.func29, Tryz.ntmps29
  go_wp2_with fail
  refine N.out.mono ?_
  rintro e w' ⟨rfl, rfl⟩
  go_wp2_with fail
  go_ret
  exact ⟨rfl, rfl⟩
end Go.Proofs.YtjbnjlkoipkpoaaGreatDoor.T
