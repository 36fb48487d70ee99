/- A list's rows: table.Rows. -/
import Derived.Test.YtboiaoaephimhaaDoorTRow
import Derived.Test.YtboiaoaephimhaaDoorTClone
import Derived.Test.YtboiaoaephimhaaDoorBStanzas
import Derived.Lib.OthersKept
namespace Go.Proofs.YtboiaoaephimhaaDoor.T
open Go.RowKit Go.Shelf
open Go.Proofs.YtboiaoaephimhaaDoor.B

theorem infoR : (Tryd.prog.info? 24).map (fun i => (i.zero, i.size, i.bytes)) = some (some (.slice none 0 0), 1, 24) := by kernel_rfl
/-- Rows of texts in a row of their own, at B or beyond. -/
structure RowsOwn (B : Nat) (w : World) (v : Value) (rs : List (List ByteArray)) (us : List Value) : Prop where
  row : w.ownsRow B 24 1 v rs.length us
  its : ∀ (k : Nat) (u : Value) (r : List ByteArray), us[k]? = some u → rs[k]? = some r → StrRow B w u r
theorem RowsOwn.len {B : Nat} {w : World} {v : Value} {rs : List (List ByteArray)} {us : List Value} (h : RowsOwn B w v rs us) : us.length = rs.length := by have := h.row.1; omega
theorem RowsOwn.shape {B : Nat} {w : World} {v : Value} {rs : List (List ByteArray)} {us : List Value} (h : RowsOwn B w v rs us) : ∃ vo vc, v = .slice vo rs.length vc := by
  rcases h.row.2 with ⟨h0, h1⟩ | ⟨g, cap, cur, hv, _⟩
  · exact ⟨none, 0, by rw [h0, h1]⟩
  · exact ⟨_, _, hv⟩
theorem RowsOwn.at_ {B : Nat} {w : World} {v : Value} {rs : List (List ByteArray)} {us : List Value} (h : RowsOwn B w v rs us) : RowsAt w.heap.size w v rs := by
  rcases h.row.2 with ⟨h0, h1⟩ | ⟨g, cap, cur, hv, hb, hg, -⟩
  · refine ⟨none, 0, ?_, fun k f hk => ?_⟩
    · rw [h1, h0]
    · have := (List.getElem?_eq_some_iff.1 hk).1; omega
  · refine ⟨_, cap, hv, fun k r hk => ?_⟩
    obtain ⟨u, hu⟩ : ∃ u, us[k]? = some u := ⟨_, List.getElem?_eq_getElem (by rw [h.len]; exact (List.getElem?_eq_some_iff.1 hk).1)⟩
    exact ⟨_, u, rfl, (Array.getElem?_eq_some_iff.1 hg).1, World.ownsRow.cells h.row (g := g) (by rw [hv]; rfl) k u hu, (h.its k u r hu hk).at_⟩
theorem RowsOwn.below {B : Nat} {w w' : World} {v : Value} {rs : List (List ByteArray)} {us : List Value} (h : RowsOwn B w v rs us) (hb : Below w.heap.size w w') : RowsOwn B w' v rs us :=
  ⟨ownsRow_of_block h.row fun g hg => hb.block g (World.ownsRow.lt h.row g hg).2, fun k u r h1 h2 => (h.its k u r h1 h2).below hb (Nat.le_refl _)⟩
theorem RowsOwn.nil (B : Nat) (w : World) : RowsOwn B w (.slice none 0 0) [] [] := ⟨World.ownsRow_nil _ _ _ _, fun k u r h _ => by simp at h⟩
theorem RowsOwn.one {B : Nat} {w : World} {u : Value} {r : List ByteArray} (h : StrRow B w u r) (hB : B ≤ w.heap.size) : RowsOwn B (w.alloc (.cells #[u] 24)) (.slice (some ⟨w.heap.size, 0, none⟩) 1 1) [r] [u] := by
  refine ⟨⟨rfl, .inr ⟨w.heap.size, 1, #[u], rfl, hB, heap_alloc_new w _, Nat.le_refl _, by unfold maxLen; omega, rfl, rfl⟩⟩, fun k x y h1 h2 => ?_⟩
  have h3 : StrRow B (w.alloc (.cells #[u] 24)) u r := h.below (below_grow1 w _) (Nat.le_refl _)
  cases k with
  | zero => simp at h1 h2; rw [← h1, ← h2]; exact h3
  | succ k => simp at h1
/-- A row of texts lies elsewhere than the rows' own row. -/
theorem strRow_grown {B : Nat} {w w' : World} {u v : Value} {r : List ByteArray} {n : Nat} {us : List Value} (h : StrRow B w u r) (hv : w.ownsRow B 24 1 v n us) (hg : w.grownBy w' v.ownBlock) : StrRow B w' u r := by
  refine ownsRow_of_block h fun g hgu => hg.block g (World.ownsRow.lt h g hgu).2 fun e => ?_
  rcases h.2 with ⟨h0, _⟩ | ⟨g1, cap, cur, hu, _, hg1, _⟩
  · rw [h0] at hgu; simp [Value.ownBlock] at hgu
  · rcases hv.2 with ⟨h0, _⟩ | ⟨g2, cap2, cur2, hv2, _, hg2, _⟩
    · rw [h0] at e; simp [Value.ownBlock] at e
    · rw [hu] at hgu
      rw [hv2] at e
      have e1 : g1 = g := by simpa [Value.ownBlock] using hgu
      have e2 : g = g2 := by simpa [Value.ownBlock] using e
      rw [e1, e2, hg2] at hg1
      injection hg1 with e3
      injection e3 with _ e4
      exact absurd e4 (by decide)
theorem RowsOwn.snoc {B gg cap : Nat} {w w8 : World} {v u : Value} {rs : List (List ByteArray)} {us : List Value} {r : List ByteArray} (h : RowsOwn B w v rs us) (hu : StrRow B w u r)
    (hown : w8.ownsRow B 24 1 (.slice (some ⟨gg, 0, none⟩) (rs.length + 1) cap) (rs.length + 1) (us ++ [u])) (hg : w.grownBy w8 v.ownBlock) :
    RowsOwn B w8 (.slice (some ⟨gg, 0, none⟩) (rs.length + 1) cap) (rs ++ [r]) (us ++ [u]) := by
  refine ⟨by rw [List.length_append]; exact hown, fun k x y h1 h2 => ?_⟩
  have hl := h.len
  by_cases hk : k < rs.length
  · rw [List.getElem?_append_left (by omega)] at h1
    rw [List.getElem?_append_left hk] at h2
    exact strRow_grown (h.its k x y h1 h2) h.row hg
  · have h3 := (List.getElem?_eq_some_iff.1 h2).1
    rw [List.length_append] at h3
    have hk2 : k = rs.length := by simp at h3; omega
    subst hk2
    rw [← hl] at h1
    simp at h1 h2
    rw [← h1, ← h2]
    exact strRow_grown hu h.row hg
theorem RowsOwn.cell1 {B : Nat} {w : World} {u : Value} {r : List ByteArray} (h : StrRow B w u r) : u.oneCell' = true := by
  obtain ⟨vo, vc, hv⟩ := h.shape
  rw [hv]; rfl
/-- What is appended to the rows' own row, or is new, alone has changed: so all other rows stand. -/
theorem others_grown {B : Nat} {w w' : World} {v : Value} {n : Nat} {us : List Value} (hv : w.ownsRow B 24 1 v n us) (hg : w.grownBy w' v.ownBlock) : Lib.OthersKept 24 none w w' := by
  intro k o ho _ hne
  refine (hg.block k (Array.getElem?_eq_some_iff.1 ho).1 fun e => ?_).trans ho
  rcases hv.2 with ⟨h0, _⟩ | ⟨g2, cap2, cur2, hv2, _, hg2, _⟩
  · rw [h0] at e; simp [Value.ownBlock] at e
  · rw [hv2] at e
    have e2 : k = g2 := by simpa [Value.ownBlock] using e
    rw [e2, hg2] at ho
    injection ho with e3
    exact hne _ _ e3.symm
theorem others_below {e : TypeId} {w w' : World} (hb : Below w.heap.size w w') : Lib.OthersKept e none w w' := fun k _ ho _ _ => (hb.block k (Array.getElem?_eq_some_iff.1 ho).1).trans ho
theorem row_others {e e' : TypeId} {w w' : World} {B size n : Nat} {v : Value} {xs : List Value} (h : w.ownsRow B e size v n xs) (hk : Lib.OthersKept e' none w w') (hne : e ≠ e') : w'.ownsRow B e size v n xs := by
  refine ownsRow_of_block h fun g hg => ?_
  rcases h.2 with ⟨h0, _⟩ | ⟨g', cap, cur, hv, _, hg', _⟩
  · rw [h0] at hg; simp [Value.ownBlock] at hg
  · rw [hv] at hg
    have e1 : g' = g := by simpa [Value.ownBlock] using hg
    subst e1
    refine (hk g' _ hg' (fun e => by cases e) fun c fz e => ?_).trans hg'.symm
    injection e with _ e2
    exact hne e2
/-! ### The stanzas' rows -/
def rowsOf (ks : List ByteArray) (ss : List St) : List (List ByteArray) := ks :: ss.map fun x => rowL ks x.2
theorem rowsOf_snoc (ks : List ByteArray) (ss : List St) (x : St) : rowsOf ks (ss ++ [x]) = rowsOf ks ss ++ [rowL ks x.2] := by simp [rowsOf]
theorem rowsOf_len (ks : List ByteArray) (ss : List St) : (rowsOf ks ss).length = ss.length + 1 := by simp [rowsOf]
theorem stCells_get : ∀ (ss : List St) (us : List Value) (k : Nat) (x : St) (u : Value), ss[k]? = some x → us[k]? = some u → (stCells ss us)[k * 2]? = some (.int .i64 x.1) ∧ (stCells ss us)[k * 2 + 1]? = some u
  | [], us, k, x, u, h, _ => by simp at h
  | y :: r, [], k, x, u, _, h => by simp at h
  | y :: r, v :: t, 0, x, u, h, h' => by simp at h h'; subst h; subst h'; exact ⟨rfl, rfl⟩
  | y :: r, v :: t, k + 1, x, u, h, h' => by
    obtain ⟨h1, h2⟩ := stCells_get r t k x u (by simpa using h) (by simpa using h')
    have e1 : (k + 1) * 2 = k * 2 + 1 + 1 := by omega
    rw [e1]
    have e : stCells (y :: r) (v :: t) = .int .i64 y.1 :: v :: stCells r t := rfl
    rw [e]
    exact ⟨by simpa using h1, by simpa using h2⟩
def RRel (B : Nat) (w w2 : World) (ks : List ByteArray) (ss : List St) (v i : Value) (wr : World) : Prop :=
  ∃ (k : Nat) (us : List Value), i = .int .i64 k ∧ k ≤ ss.length ∧ Hid (RowsOwn B wr v (rowsOf ks (ss.take k)) us) ∧ Hid (Below B w wr) ∧ Hid (Lib.OthersKept 24 none w2 wr) ∧ w2.heap.size ≤ wr.heap.size
set_option maxRecDepth 20000 in
set_option maxHeartbeats 6400000 in
theorem rows_any (p : Value) (vk : Value) (ks : List ByteArray) (ss : List St) (w : World) (hk : StrsAt w.heap.size w vk ks) (hn : ks.length ≤ 1000) (hm : ss.length ≤ 1000000) (hfine : ∀ x ∈ ss, FsFine x.2) (hr : Ready w) (hp : ∃ q, p = .pointer q)
    (HS : ∀ w', Below w.heap.size w w' → Calls Tryd.prog 30 #[p] w' (StanzasPost ss w')) :
    Calls Tryd.prog 15 #[p, vk] w fun e w' => ∃ u us, e = .returned u ∧ RowsOwn w.heap.size w' u (rowsOf ks ss) us ∧ Below w.heap.size w w' := by
  obtain ⟨q, rfl⟩ := hp
  obtain ⟨i0, hi0, hz0, hz1, hz2⟩ := info_parts infoR
  have HCL := Lib.hid (cloneS_any vk ks w hk (by omega))
  have HK := Lib.hid hk
  have HSS := Lib.hid HS
  have HR := Lib.hid hr
  have HFI := Lib.hid hfine
  obtain ⟨ao, cp, hvk, -⟩ := hk
  subst hvk
  clear HS hr hfine
  go_enter Tryd.func15, Tryd.ntmps15
  obtain ⟨B, hBB⟩ : ∃ B, w.heap.size = B := ⟨_, rfl⟩
  rw [hBB] at HCL HK HSS
  go_wp2_with fail
  refine HCL.out.mono ?_
  rintro e w1 ⟨u0, rfl, hU, hb1⟩
  have hz1' := hb1.size
  rw [hBB] at hz1'
  obtain ⟨uo, uc, hus⟩ := hU.shape
  subst hus
  have hO1 := RowsOwn.one hU hz1'
  have hB1 := hb1.alloc hz1' (.cells #[.slice uo ks.length uc] 24)
  obtain ⟨N, hN⟩ : ∃ N, w1.heap.size = N := ⟨_, rfl⟩
  rw [hN] at hO1
  obtain ⟨w1', hw1'⟩ : ∃ w1', w1.alloc (.cells #[.slice uo ks.length uc] 24) = w1' := ⟨_, rfl⟩
  rw [hw1'] at hO1 hB1
  have hz2' := hB1.size
  rw [hBB] at hz2'
  have ST := Lib.hid (HSS.out w1' hB1)
  have HO1 := Lib.hid hO1
  have HB1 := Lib.hid hB1
  clear hU hb1 hO1 hB1 HCL hz1'
  go_wp2_with fail
  refine ST.out.mono ?_
  rintro e w2 ⟨v, ρ, us, rfl, hS, -, hb2⟩
  have hO2 := HO1.out.below hb2
  have hB2 := HB1.out.trans (hb2.mono hz2')
  have hz3 := hb2.size
  obtain ⟨so, sc, hsv⟩ := hS.row.shape
  subst hsv
  have HO2 := Lib.hid hO2
  have HB2 := Lib.hid hB2
  have HSA := Lib.hid hS
  have hz4 : B ≤ w2.heap.size := by omega
  have HOK := Lib.hid (Lib.OthersKept.refl 24 none w2)
  clear hO2 hB2 hS hb2 ST HO1 HB1 hw1' hN
  go_wp2
  go_loopw [5, 14] (fun v i wr => RRel B w w2 ks ss v i wr) (fun _ i _ => ss.length - (intOf i).toNat)
  case atStart => exact ⟨0, _, rfl, Nat.zero_le _, HO2, HB2, HOK, Nat.le_refl _⟩
  case round =>
    clear HO2 HB2 HOK
    obtain ⟨k, ys, rfl, hk, hO, hW, hOK, hzw⟩ := hrel
    by_cases hlt : k < ss.length
    · obtain ⟨x, hx⟩ : ∃ x, ss[k]? = some x := ⟨_, List.getElem?_eq_getElem hlt⟩
      have hul := HSA.out.len
      obtain ⟨f, hf⟩ : ∃ f, us[k]? = some f := ⟨_, List.getElem?_eq_getElem (by omega)⟩
      obtain ⟨g1, g2⟩ := stCells_get ss us k x f hx hf
      have hrow := row_others HSA.out.row.1 hOK.out (by decide)
      have hfr := row_others (HSA.out.its k f x hf hx).1 hOK.out (by decide)
      obtain ⟨g, hg, hao⟩ : ∃ g, (Value.slice so ss.length sc).ownBlock = some g ∧ so = some ⟨g, 0, none⟩ := by
        rcases hrow.2 with ⟨-, h0⟩ | ⟨g, cp', cur, hz, -⟩
        · omega
        · injection hz with z1 z2 z3
          exact ⟨g, by rw [z1]; rfl, z1⟩
      have e1 := hrow.cells hg _ _ g1
      have e2 := hrow.cells hg _ _ g2
      have hgl := (hrow.lt g hg).2
      rw [addrO] at e1 e2
      subst hao
      have hfa := FieldsAt.row hfr
      obtain ⟨fo, fc, hfv, -⟩ := FieldsAt.row hfr
      have HX : Hid (rowsOf ks (ss.take (k + 1)) = rowsOf ks (ss.take k) ++ [rowL ks x.2]) := Lib.hid (by rw [List.take_add_one, hx]; exact rowsOf_snoc ks _ x)
      have hrl : (rowsOf ks (ss.take k)).length = k + 1 := by rw [rowsOf_len, List.length_take]; omega
      have hfx := HFI.out x (List.mem_of_getElem? hx)
      have hzr : B ≤ wr.heap.size := by omega
      subst hfv
      have hO3 : RowsOwn B wr u5 (rowsOf ks (ss.take k)) ys := hO.out
      obtain ⟨rs, hrs⟩ : ∃ rs, rowsOf ks (ss.take k) = rs := ⟨_, rfl⟩
      rw [hrs] at hO3 HX hrl
      obtain ⟨vo, vc, hvs⟩ := hO3.shape
      subst hvs
      obtain ⟨W1, hW1⟩ : ∃ W1, wr.alloc (.cells #[.int .i64 x.1, .slice fo x.2.length fc] 73) = W1 := ⟨_, rfl⟩
      have hb4 : Below wr.heap.size wr W1 := by rw [← hW1]; exact below_grow1 wr _
      have hkk := (HK.out.below (hW.out) (Nat.le_refl _)).below hb4 hzr
      have hzW := hb4.size
      have RW := Lib.hid (row_any ks (.slice ao ks.length cp) (.slice fo x.2.length fc) x.2 W1 (hkk.up (by omega)) ((hfa.below hb4 (Nat.le_refl _)).up hzW) hfx (HR.out.stays ((hBB ▸ hW.out.trans (hb4.mono hzr)))) hn)
      have hE : W1.heap[wr.heap.size]? = some (.cells #[.int .i64 x.1, .slice fo x.2.length fc] 73 (0, 0)) := by rw [← hW1]; exact heap_alloc_new wr _
      have p1 : W1.cell? ⟨wr.heap.size, 1, none⟩ = some (.slice fo x.2.length fc) := by simp [World.cell?, hE]
      have HO4 := Lib.hid (hO3.below hb4)
      have HB4 := Lib.hid (hW.out.trans (hb4.mono hzr))
      have HK4 := Lib.hid (hOK.out.trans (others_below hb4))
      obtain ⟨xi, xf⟩ := x
      simp only at e1 RW HX p1
      have hrl2 : rs.length ≤ 1000001 := by omega
      have HRL := Lib.hid hrl
      clear hO hO3 hrow hfr hfa g1 g2 hx hf hg hrs hkk hb4 hE hOK hW hrl
      go_wp2_with fail
      refine RW.out.mono ?_
      rintro e w5 ⟨u, rfl, hU, hb5⟩
      have hU1 : StrRow B w5 u (rowL ks xf) := by
        refine ⟨hU.1, ?_⟩
        rcases hU.2 with h0 | ⟨g, cap, cur, hv, hB, hr⟩
        · exact .inl h0
        · exact .inr ⟨g, cap, cur, hv, by omega, hr⟩
      have hO5 := HO4.out.below hb5
      have hu1 := RowsOwn.cell1 hU1
      obtain ⟨ro, rc, hus⟩ := hU1.shape
      subst hus
      obtain ⟨u, hu⟩ : ∃ u, (Value.slice ro (rowL ks xf).length rc) = u := ⟨_, rfl⟩
      rw [hu] at hU1 hu1
      have hz5 := hb5.size
      have hB5 := HB4.out.trans (hb5.mono (by omega))
      have hK5 := HK4.out.trans (others_below hb5)
      have HO := Lib.hid (World.ownsRow.alloc hO5.row (.cells #[u] 24))
      have HU1 := Lib.hid hU1
      have HO5 := Lib.hid hO5
      have HB5 := Lib.hid hB5
      have HK5 := Lib.hid hK5
      clear hU hU1 hb5 hO5 hB5 hK5 RW HO4 HB4 HK4
      subst hu
      go_wp2_with (at_builtin; refine wpList_append_lies _ rfl _ _ _ rfl B 24 i0 _ 1 24 Tryd.underlying22 hi0 hz0 hz1 hz2 rfl (by omega) (.slice vo rs.length vc) rs.length ys rfl HO.out ⟨w5.heap.size, 0, none⟩ 1 1 [.slice ro (rowL ks xf).length rc] rfl rfl (World.news_of_block (cs := #[.slice ro (rowL ks xf).length rc]) (heap_alloc_new w5 _)) (fun y hy => by rw [List.mem_singleton.1 hy]; exact hu1) (by omega) (by unfold maxLen; omega) (by omega) (by simp; omega) _ rfl ?_; refine Hid.out ?_)
      refine Lib.hid ?_
      intro gg cap w8 hown8 hgrow hat hlt8
      have hb6 := below_grow1 w5 (.cells #[.slice ro (rowL ks xf).length rc] 24)
      have hO6 := HO5.out.below hb6
      have hU6 : StrRow B (w5.alloc (.cells #[.slice ro (rowL ks xf).length rc] 24)) (.slice ro (rowL ks xf).length rc) (rowL ks xf) := HU1.out.below hb6 (Nat.le_refl _)
      have HN8 := Lib.hid (hO6.snoc hU6 hown8 hgrow)
      have hB6 := HB5.out.alloc (by omega) (.cells #[.slice ro (rowL ks xf).length rc] 24)
      have HB8 := Lib.hid (hB6.grown hgrow (hBB ▸ hB6.size) (fun q hq => (World.ownsRow.lt HO5.out.row q hq).1))
      have HK8 := Lib.hid ((HK5.out.trans (others_below hb6)).trans (others_grown hO6.row hgrow))
      have hz8 := hgrow.size
      have hz9 := hb6.size
      clear hown8 hgrow hat hb6 hO6 hU6 hB6
      go_wp2
      refine ⟨⟨k + 1, ys ++ [.slice ro (rowL ks xf).length rc], by go_num, by omega, ?_, HB8, HK8, by omega⟩, by simp [intOf]; omega⟩
      rw [HX.out]
      exact HN8
    · have hO4 : RowsOwn B wr _ (rowsOf ks (ss.take k)) ys := hO.out
      rw [List.take_of_length_le (by omega)] at hO4
      have HO4 := Lib.hid hO4
      clear hO4 hO
      go_wp2
      go_ret
      exact ⟨_, _, rfl, hBB ▸ HO4.out, hBB ▸ hW.out⟩
end Go.Proofs.YtboiaoaephimhaaDoor.T
