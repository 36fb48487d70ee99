/- links.order, walked. links.Order, walked. slices.Clone at links. stanzakeeplaw30.same at rows that hold the same links. The closures of links.Dangling and links.others. -/
import Derived.Test.YtjbnjlkoipkpoaaGreatDoorLD
namespace Go.Proofs.YtjbnjlkoipkpoaaGreatDoor.T
open Go.RowKit Go.Shelf Go.Maps
open Go.Proofs.YtjbnjlkoipkpoaaGreatDoor.B

/-- As much of the order as there is, in at most n steps more. -/
def orderL (f : Int → List Int) (ss : List St) : Nat → List Int → List Int
  | 0, out => out
  | n + 1, out => match ss.find? (fun x => readyB f out x.1) with
    | none => out
    | some x => orderL f ss n (out ++ [(x.1 : Int)])
theorem orderL_none {f : Int → List Int} {ss : List St} {out : List Int} (h : ss.find? (fun x => readyB f out x.1) = none) (n : Nat) : orderL f ss n out = out := by
  cases n with
  | zero => rfl
  | succ n => unfold orderL; rw [h]
theorem orderL_some {f : Int → List Int} {ss : List St} {out : List Int} {x : St} (h : ss.find? (fun x => readyB f out x.1) = some x) (n : Nat) : orderL f ss (n + 1) out = orderL f ss n (out ++ [(x.1 : Int)]) := by
  rw [orderL, h]
theorem first_find {ss : List St} {p : Int → Bool} {i : Int} (h : FirstAt ss p i) : (i = -1 ∧ ss.find? (fun x => p x.1) = none) ∨ ∃ (k : Nat) (x : St), i = k ∧ ss[k]? = some x ∧ ss.find? (fun x => p x.1) = some x := by
  rcases h with ⟨h1, h2⟩ | ⟨k, x, h1, h2, h3, h4⟩
  · refine .inl ⟨h1, ?_⟩
    rw [List.find?_eq_none]
    intro x hx e
    rw [List.any_eq_false] at h2
    exact h2 x hx e
  · refine .inr ⟨k, x, h1, h2, ?_⟩
    have hl := (List.getElem?_eq_some_iff.1 h2).1
    have e : ss = ss.take k ++ x :: ss.drop (k + 1) := by
      have e2 := List.drop_eq_getElem_cons hl
      rw [List.getElem?_eq_getElem hl] at h2
      injection h2 with h2
      rw [h2] at e2
      rw [← e2, List.take_append_drop]
    rw [e, List.find?_append]
    have hn : (ss.take k).find? (fun x => p x.1) = none := by
      rw [List.find?_eq_none]
      intro y hy e
      rw [List.any_eq_false] at h4
      exact h4 y hy e
    rw [hn, List.find?_cons_of_pos (p := fun x : St => p x.1) h3]; rfl
/-- Where the loop stands. -/
structure OrI (f : Int → List Int) (ss : List St) (N mb k : Nat) (out : List Int) (v : Value) (w W : World) : Prop where
  below : Below N w W
  nb : W.heap[N]? = some (.cells #[.map (some mb)] 130 (0, 0))
  ob : W.heap[N + 1]? = some (.cells #[v] 68 (0, 0))
  row : ZRow (N + 2) W v out
  law : orderL f ss (ss.length - k) out = orderL f ss ss.length []
  len : out.length = k
theorem OrI.below2 {f : Int → List Int} {ss : List St} {N mb k : Nat} {out : List Int} {v : Value} {w W W' : World} (h : OrI f ss N mb k out v w W) (hb : Below W.heap.size W W') : OrI f ss N mb k out v w W' :=
  ⟨h.below.trans (hb.mono (by have := (Array.getElem?_eq_some_iff.1 h.nb).1; omega)), (hb.block _ (Array.getElem?_eq_some_iff.1 h.nb).1).trans h.nb, (hb.block _ (Array.getElem?_eq_some_iff.1 h.ob).1).trans h.ob, ownsRow_of_block h.row fun g hg => hb.block g (World.ownsRow.lt h.row g hg).2, h.law, h.len⟩
theorem ZRow.low {B B' : Nat} {w : World} {v : Value} {t : List Int} (h : ZRow B w v t) (hB : B' ≤ B) : ZRow B' w v t := by
  refine ⟨h.1, ?_⟩
  rcases h.2 with h0 | ⟨g, cap, cur, hv, hB2, hr⟩
  · exact .inl h0
  · exact .inr ⟨g, cap, cur, hv, by omega, hr⟩
theorem frozen_no {w : World} {k : Nat} {cs : Array Value} {T : TypeId} (h : w.heap[k]? = some (.cells cs T (0, 0))) : w.frozen? ⟨k, 0, none⟩ = false := by simp [World.frozen?, h]
theorem cell_no {w : World} {k : Nat} {v : Value} {T : TypeId} (h : w.heap[k]? = some (.cells #[v] T (0, 0))) : w.cell? ⟨k, 0, none⟩ = some v := by simp [World.cell?, h]
def OrRel (f : Int → List Int) (ss : List St) (N mb : Nat) (w : World) (i : Value) (wr : World) : Prop :=
  ∃ (k : Nat) (out : List Int) (v : Value), i = .int .i64 k ∧ k ≤ ss.length ∧ Hid (OrI f ss N mb k out v w wr)
set_option maxRecDepth 100000 in
set_option maxHeartbeats 6400000 in
theorem order_any (v0 : Value) (ρ : Col) (ss : List St) (us : List Value) (mb base n : Nat) (f : Int → List Int) (w : World) (hS : StanzasAt w ρ v0 ss us) (hm : ss.length ≤ 1000) (hids : ∀ x ∈ ss, x.1 ≤ 1000000)
    (hM : GMap w base mb n f) (hnn : n ≤ 100000000) :
    Calls Tryz.prog 80 #[v0, .map (some mb)] w fun e w' => ∃ u, e = .returned u ∧ ZRow w.heap.size w' u (orderL f ss ss.length []) ∧ Below w.heap.size w w' := by
  obtain ⟨i0, hi0, hz0, hz1, hz2⟩ := info_parts infoI
  obtain ⟨so, sc, hv0⟩ := hS.row.shape
  subst hv0
  have HSA := Lib.hid hS
  have HM := Lib.hid hM
  have HIDS := Lib.hid hids
  obtain ⟨N, hN⟩ : ∃ N, w.heap.size = N := ⟨_, rfl⟩
  have HLOW : Hid (∀ k, ρ k ≠ none → k < N) := Lib.hid fun k hk => by have := hS.fits k hk; omega
  obtain ⟨W0, hW0⟩ : ∃ W0, (w.alloc (.cells #[.map (some mb)] 130)).alloc (.cells #[.slice none 0 0] 68) = W0 := ⟨_, rfl⟩
  have g0 : W0.heap[N]? = some (.cells #[.map (some mb)] 130 (0, 0)) := by rw [← hW0, ← hN]; exact (Below.heap_alloc _ _ _ (by simp)).trans (heap_alloc_new w _)
  have g1 : W0.heap[N + 1]? = some (.cells #[.slice none 0 0] 68 (0, 0)) := by
    have h := heap_alloc_new (w.alloc (.cells #[.map (some mb)] 130)) (.cells #[.slice none 0 0] 68)
    rw [World.size_alloc, hN] at h
    rw [← hW0]; exact h
  have b0 : Below N w W0 := by rw [← hW0, ← hN]; exact (below_grow1 w _).alloc (by simp) _
  have I0 := Lib.hid (show OrI f ss N mb 0 [] (.slice none 0 0) w W0 from ⟨b0, g0, g1, World.ownsRow_nil _ _ _ _, rfl, rfl⟩)
  have HN := Lib.hid hN
  clear hS hM hids g0 g1 b0
  go_enter Tryz.func80, Tryz.ntmps80
  go_wp2_with fail
  try rw [hW0]
  clear hW0
  go_loopw [9] (fun i W => OrRel f ss N mb w i W) (fun i _ => ss.length - (intOf i).toNat)
  case atStart => exact ⟨0, [], _, rfl, Nat.zero_le _, I0⟩
  case round =>
    clear I0
    obtain ⟨k, out, v, rfl, hk, hI⟩ := hrel
    have hi := hI.out
    have c1 : wr.cell? ⟨N + 1, 0, none⟩ = some v := by simp [World.cell?, hi.ob]
    have c0 : wr.cell? ⟨N, 0, none⟩ = some (.map (some mb)) := by simp [World.cell?, hi.nb]
    obtain ⟨vo, vc, hvo⟩ := own_shape hi.row
    subst hvo
    by_cases hlt : k < ss.length
    · have hbw : Below w.heap.size w wr := HN.out.symm ▸ hi.below
      have IX := Lib.hid (ordIdx_any (.slice so ss.length sc) ρ ss us (N + 1) N mb base n f (.slice vo out.length vc) out wr (HSA.out.below hbw) hm HIDS.out c1 c0 (HM.out.keep (grown_below hbw)) hnn (ZRow.at_ hi.row) (by have := hi.len; omega))
      clear hi hbw
      go_wp2_with fail
      refine IX.out.mono ?_
      rintro e w2 ⟨⟨i, rfl, hfi⟩, hb2⟩
      have HI2 := Lib.hid (hI.out.below2 hb2)
      have d1 : w2.cell? ⟨N + 1, 0, none⟩ = some (.slice vo out.length vc) := by simp [World.cell?, HI2.out.ob]
      rcases first_find hfi with ⟨rfl, hf⟩ | ⟨q, x, rfl, hx, hf⟩
      · have HL : Hid (orderL f ss ss.length [] = out) := Lib.hid (by rw [← HI2.out.law, orderL_none hf])
        clear hb2 hfi IX hI hf
        go_wp2_with fail
        go_ret
        rw [HL.out]
        exact ⟨_, rfl, ZRow.low HI2.out.row (by have := HN.out; omega), HN.out.symm ▸ HI2.out.below⟩
      · have hql := (List.getElem?_eq_some_iff.1 hx).1
        have hs2 := HSA.out.below (HN.out.symm ▸ HI2.out.below)
        obtain ⟨u, hu⟩ : ∃ u, us[q]? = some u := ⟨_, List.getElem?_eq_getElem (by rw [hs2.len]; exact hql)⟩
        obtain ⟨g1, g2⟩ := stCells_get ss us q x u hx hu
        obtain ⟨g, hg, hao⟩ : ∃ g, (Value.slice so ss.length sc).ownBlock = some g ∧ so = some ⟨g, 0, none⟩ := by
          rcases hs2.row.1.2 with ⟨-, h0⟩ | ⟨g, cp', cur, hz, -⟩
          · omega
          · injection hz with z1 z2 z3
            exact ⟨g, by rw [z1]; rfl, z1⟩
        have hgN : g < N := HLOW.out g (by rw [hs2.row.2 g hg]; simp)
        have e1 := hs2.row.1.cells hg _ _ g1
        rw [addrO] at e1
        subst hao
        have HL : Hid (orderL f ss (ss.length - (k + 1)) (out ++ [(x.1 : Int)]) = orderL f ss ss.length []) := Lib.hid (by
          rw [← HI2.out.law, show ss.length - k = (ss.length - (k + 1)) + 1 by omega, orderL_some hf])
        have hobl : N + 1 < w2.heap.size := (Array.getElem?_eq_some_iff.1 HI2.out.ob).1
        have hol : out.length ≤ ss.length := by have := HI2.out.len; omega
        clear hb2 hfi IX hI hf hx hu g1 g2 hg hs2
        have hlow : ∀ j, (Value.slice vo out.length vc).ownBlock = some j → N + 2 ≤ j := fun j hj => (World.ownsRow.lt HI2.out.row j hj).1
        have hgw : g < w2.heap.size := by omega
        have hqz : (q : Int) < (ss.length : Int) := by omega
        have P2 : (w2.alloc (.cells #[.int .i64 x.1] 3)).cell? ⟨g, q * 2, none⟩ = some (.int .i64 x.1) := ((below_grow1 w2 _).cell (p := ⟨g, q * 2, none⟩) hgw).trans e1
        have d2 : (w2.alloc (.cells #[.int .i64 x.1] 3)).cell? ⟨N + 1, 0, none⟩ = some (.slice vo out.length vc) := ((below_grow1 w2 _).cell (p := ⟨N + 1, 0, none⟩) hobl).trans d1
        have HOA := Lib.hid (World.ownsRow.alloc HI2.out.row (.cells #[.int .i64 x.1] 3))
        have HNA : Hid (∀ j y, [Value.int .i64 x.1][j]? = some y → (w2.alloc (.cells #[.int .i64 x.1] 3)).cell? ((⟨w2.heap.size, 0, none⟩ : Addr).add j) = some y) := Lib.hid (World.news_of_block (cs := #[.int .i64 x.1]) (heap_alloc_new w2 _))
        have HBA : Hid (Below N w (w2.alloc (.cells #[.int .i64 x.1] 3))) := Lib.hid (HI2.out.below.trans ((below_grow1 w2 _).mono (by omega)))
        have hzA : (w2.alloc (.cells #[.int .i64 x.1] 3)).heap.size = w2.heap.size + 1 := World.size_alloc _ _
        have HOBA : Hid ((w2.alloc (.cells #[.int .i64 x.1] 3)).heap[N + 1]? = some (.cells #[.slice vo out.length vc] 68 (0, 0))) := Lib.hid ((Below.heap_alloc _ _ _ hobl).trans HI2.out.ob)
        have HNBA : Hid ((w2.alloc (.cells #[.int .i64 x.1] 3)).heap[N]? = some (.cells #[.map (some mb)] 130 (0, 0))) := Lib.hid ((Below.heap_alloc _ _ _ (by omega)).trans HI2.out.nb)
        go_wp2_with fail
        go_region_law
          (first
            | (refine step_append_lies _ ?_ (.tmp 17) (.tmp 23) _ ?_ (N + 2) 3 i0 _ 1 8 Tryz.underlying68 hi0 hz0 hz1 hz2 ?_ ?_ (.slice vo out.length vc) out.length (zVals out) ?_ ?_ ⟨w2.heap.size, 0, none⟩ 1 1 [.int .i64 x.1] ?_ ?_ ?_ ?_ ?_ ?_ ?_ ?_ _ rfl ?_; (any_goals (first | exact HOA.out | exact HNA.out | rfl | (simp [Value.oneCell']; done) | (unfold maxLen; omega) | (simp; omega) | omega | skip)); intro gg cap w8 hown8 hgrow hat8 hlt8; have hneO : (Value.slice vo out.length vc).ownBlock ≠ some (N + 1) := (fun e => absurd (hlow _ e) (Nat.not_succ_le_self (N + 1))); have hneN : (Value.slice vo out.length vc).ownBlock ≠ some N := (fun e => absurd (hlow _ e) (Nat.not_le.2 (Nat.lt_add_of_pos_right Nat.two_pos))); have hneG : (Value.slice vo out.length vc).ownBlock ≠ some g := (fun e => absurd (hlow _ e) (Nat.not_le.2 (Nat.lt_trans hgN (Nat.lt_add_of_pos_right Nat.two_pos)))); have h8 := (hgrow.block (N + 1) (Nat.lt_of_lt_of_le hobl (Nat.le_trans (Nat.le_succ _) (Nat.le_of_eq hzA.symm))) (Ne.symm hneO)).trans HOBA.out; have h8n := (hgrow.block N (Nat.lt_of_lt_of_le (Nat.lt_trans (Nat.lt_succ_self N) hobl) (Nat.le_trans (Nat.le_succ _) (Nat.le_of_eq hzA.symm))) (Ne.symm hneN)).trans HNBA.out; have hfr8 := frozen_no h8; have c8 := cell_no h8; have P4 := (hgrow.cell_far ⟨g, q * 2, none⟩ (Nat.lt_of_lt_of_le hgw (Nat.le_trans (Nat.le_succ _) (Nat.le_of_eq hzA.symm))) (Ne.symm hneG)).trans P2; have P5 := (World.cell?_of_block (a := ⟨g, q * 2, none⟩) (Below.heap_setCell w8 ⟨N + 1, 0, none⟩ (.slice (some ⟨gg, 0, none⟩) (out.length + 1) cap) g (Nat.ne_of_lt (Nat.lt_succ_of_lt hgN)))).trans P4; (first | have HB8 := Lib.hid (below_grown_w (X := w2.alloc (.cells #[.int .i64 x.1] 3)) hgrow HBA.out (by omega) (fun j hj => Nat.le_trans (Nat.le_add_right N 2) (hlow j hj))) | have HB8 := Lib.hid (below_grown_dw (X := w2.alloc (.cells #[.int .i64 x.1] 3)) hgrow HBA.out (by omega) (fun j hj => Nat.le_trans (Nat.le_add_right N 2) (hlow j hj)))); have H8 := Lib.hid h8; have H8n := Lib.hid h8n; have HO8 := Lib.hid hown8; clear hown8 hgrow hat8))
        all_goals
          have HW9 : Hid (OrI f ss N mb (k + 1) (out ++ [(x.1 : Int)]) (.slice (some ⟨gg, 0, none⟩) (out.length + 1) cap) w (w8.setCell ⟨N + 1, 0, none⟩ (.slice (some ⟨gg, 0, none⟩) (out.length + 1) cap))) := by
            refine Lib.hid ⟨HB8.out.setCell (p := ⟨N + 1, 0, none⟩) (Nat.le_succ N) _, (Below.heap_setCell w8 ⟨N + 1, 0, none⟩ _ N (Nat.ne_of_lt (Nat.lt_succ_self N))).trans H8n.out, ?_, ?_, HL.out, by rw [List.length_append, HI2.out.len]; rfl⟩
            · have h := setCell_block (o := 0) (.slice (some ⟨gg, 0, none⟩) (out.length + 1) cap) H8.out
              exact h
            · have h : ZRow (N + 2) w8 (.slice (some ⟨gg, 0, none⟩) (out.length + 1) cap) (out ++ [(x.1 : Int)]) := by
                unfold ZRow zVals
                rw [List.length_append, List.map_append]
                exact HO8.out
              exact ownsRow_of_block h fun g' hg' => Below.heap_setCell w8 ⟨N + 1, 0, none⟩ _ g' (by have := (World.ownsRow.lt h g' hg').1; show g' ≠ N + 1; omega)
          clear P4 P5 c8 hfr8 h8 h8n
          go_wp2_with fail
          exact ⟨⟨k + 1, _, _, by go_num, by omega, HW9⟩, by simp [intOf]; omega⟩
    · have HL : Hid (orderL f ss ss.length [] = out) := Lib.hid (by rw [← hi.law, show ss.length - k = 0 by omega]; rfl)
      clear hi
      go_wp2_with fail
      go_ret
      rw [HL.out]
      exact ⟨_, rfl, ZRow.low hI.out.row (by have := HN.out; omega), HN.out.symm ▸ hI.out.below⟩
end Go.Proofs.YtjbnjlkoipkpoaaGreatDoor.T

namespace Go.Proofs.YtjbnjlkoipkpoaaGreatDoor.T
open Go.RowKit Go.Shelf Go.Maps
open Go.Proofs.YtjbnjlkoipkpoaaGreatDoor.B

def prZ (l : Lk) : Int × Int := (l.1, l.2.1)
theorem lkC_get : ∀ (t : List Lk) (k : Nat) (l : Lk), t[k]? = some l → (t.flatMap lkC)[k * 3]? = some (.int .i64 l.1) ∧ (t.flatMap lkC)[k * 3 + 1]? = some (.int .i64 l.2.1) ∧ (t.flatMap lkC)[k * 3 + 2]? = some (.string ⟨l.2.2.toArray⟩)
  | [], k, l, h => by simp at h
  | y :: r, 0, l, h => by simp at h; subst h; exact ⟨rfl, rfl, rfl⟩
  | y :: r, k + 1, l, h => by
    have ih := lkC_get r k l (by simpa using h)
    rw [List.flatMap_cons]
    have e : ∀ i, (lkC y ++ r.flatMap lkC)[(k + 1) * 3 + i]? = (r.flatMap lkC)[k * 3 + i]? := fun i => by
      rw [List.getElem?_append_right (by simp [lkC]; omega)]
      congr 1
      simp [lkC]; omega
    exact ⟨(e 0).trans ih.1, (e 1).trans ih.2.1, (e 2).trans ih.2.2⟩
theorem LkRow.lsAt {B : Nat} {w : World} {v : Value} {t : List Lk} (h : LkRow B w v t) : LsAt w.heap.size w v (t.map prZ) := by
  rcases h.2 with ⟨h0, h1⟩ | ⟨g, cap, cur, hv, hB, hr⟩
  · exact ⟨none, 0, by rw [h0, List.length_map, h1], fun k p hp => by have := (List.getElem?_eq_some_iff.1 hp).1; rw [List.length_map] at this; omega⟩
  · refine ⟨_, cap, by rw [hv, List.length_map], fun k p hp => ?_⟩
    rw [List.getElem?_map] at hp
    obtain ⟨l, hl, rfl⟩ := Option.map_eq_some_iff.1 hp
    obtain ⟨g1, g2, g3⟩ := lkC_get t k l hl
    have hob : v.ownBlock = some g := by rw [hv]; rfl
    have e1 := World.ownsRow.cells h hob _ _ g1
    have e2 := World.ownsRow.cells h hob _ _ g2
    have e3 := World.ownsRow.cells h hob _ _ g3
    rw [addrO] at e1 e2 e3
    exact ⟨g, _, rfl, (World.ownsRow.lt h g hob).2, e1, e2, e3⟩
/-- The order by links, as much as there is. -/
def ordOf (name key : L8) (ss : List St) : List Int := orderL (nextF ((linksL name key ss).map prZ)) ss ss.length []
theorem links_wf {name key : L8} {ss : List St} (hids : ∀ x ∈ ss, x.1 ≤ 1000000) : ∀ p ∈ (linksL name key ss).map prZ, WfP p := by
  intro p hp
  obtain ⟨l, hl, rfl⟩ := List.mem_map.1 hp
  obtain ⟨x, hx, hl⟩ := List.mem_flatMap.1 hl
  obtain ⟨f, hf, hl⟩ := List.mem_flatMap.1 hl
  unfold lkF at hl
  split at hl
  · obtain ⟨wd, _, rfl⟩ := List.mem_map.1 hl
    have h1 := hids x hx
    have h2 := namedL_le (name := name) (l := wd) hids
    exact ⟨WalkArith.wf_i64 (by show _ ∧ _; simp [prZ, lkW]; omega), WalkArith.wf_i64 (by show _ ∧ _; simp [prZ, lkW]; omega)⟩
  · simp at hl
/-- What links.Order answers. -/
def OrdPost (N : Nat) (os : List Int) (n : Nat) (e : Ending) (w' : World) : Prop :=
  if os.length < n then e = .returned (.tuple #[.slice none 0 0, .iface 56 (.int .i64 13)]) else ∃ u, e = .returned (.tuple #[u, .nilIface]) ∧ ZRow N w' u os
set_option maxRecDepth 100000 in
set_option maxHeartbeats 6400000 in
theorem orderP_any (b : Nat) (name key : ByteArray) (ss : List St) (w : World) (hm : ss.length ≤ 1000) (hfine : ∀ x ∈ ss, FsFine x.2) (hids : ∀ x ∈ ss, x.1 ≤ 1000000) (hr : Ready w)
    (HS : ∀ w', Below w.heap.size w w' → Calls Tryz.prog 30 #[.pointer (some ⟨b, 0, none⟩)] w' (StanzasPost ss w')) :
    Calls Tryz.prog 39 #[.pointer (some ⟨b, 0, none⟩), .string name, .string key] w fun e w' => OrdPost w.heap.size (ordOf name.data.toList key.data.toList ss) ss.length e w' ∧ Below w.heap.size w w' := by
  have ST := Lib.hid (HS w (Below.refl _ _))
  have HSS := Lib.hid HS
  have HFI := Lib.hid hfine
  have HIDS := Lib.hid hids
  have HR := Lib.hid hr
  have HLN := Lib.hid (links_take (name := name.data.toList) (key := key.data.toList) (all := ss) hfine)
  have HWF := Lib.hid (links_wf (name := name.data.toList) (key := key.data.toList) hids)
  clear HS hfine hids hr
  go_enter Tryz.func39, Tryz.ntmps39
  go_wp2_with fail
  refine ST.out.mono ?_
  rintro e w2 ⟨v, ρ, us, rfl, hS, hρ, hb2⟩
  obtain ⟨so, sc, hsv⟩ := hS.row.shape
  subst hsv
  have HB2 := Lib.hid hb2
  have HS2 := Lib.hid hS
  have OF := Lib.hid (of_any (some ⟨b, 0, none⟩) name key ss w2 hm HFI.out HIDS.out (HR.out.stays hb2) (HSS.out w2 hb2))
  clear hS hρ hb2 ST HSS HR
  go_wp2_with fail
  refine OF.out.mono ?_
  rintro e w3 ⟨u, rfl, hL, hb3⟩
  have hll : (linksL name.data.toList key.data.toList ss).length ≤ 40040000 := by
    have h1 := HLN.out
    have h2 : ss.length * 40040 ≤ 1000 * 40040 := Nat.mul_le_mul_right _ hm
    unfold linksL
    omega
  have FR := Lib.hid (from_any u ((linksL name.data.toList key.data.toList ss).map prZ) w3 hL.lsAt (by rw [List.length_map]; omega) HWF.out)
  have HB3 := Lib.hid (HB2.out.trans (hb3.mono HB2.out.size))
  have HS3 := Lib.hid (HS2.out.below hb3)
  clear hL hb3 OF HS2
  go_wp2_with fail
  refine FR.out.mono ?_
  rintro e w4 ⟨rfl, hM, hb4⟩
  have HS4 := HS3.out.below hb4
  have OR := Lib.hid (order_any (.slice so ss.length sc) ρ ss us w3.heap.size (w3.heap.size + 1) _ (nextF ((linksL name.data.toList key.data.toList ss).map prZ)) w4 HS4 hm HIDS.out hM (by rw [List.length_map]; omega))
  have HB4 := Lib.hid (HB3.out.trans (hb4.mono HB3.out.size))
  clear hM hb4 FR HS4 HS3
  go_wp2_with fail
  refine OR.out.mono ?_
  rintro e w5 ⟨u5, rfl, hz, hb5⟩
  have HZ : Hid (ZRow w.heap.size w5 u5 (ordOf name.data.toList key.data.toList ss)) := Lib.hid (ZRow.low hz HB4.out.size)
  have HB5 := Lib.hid (HB4.out.trans (hb5.mono HB4.out.size))
  clear hz hb5 OR
  obtain ⟨os, hos⟩ : ∃ os, ordOf name.data.toList key.data.toList ss = os := ⟨_, rfl⟩
  rw [hos] at HZ
  obtain ⟨vo, vc, hv5⟩ := own_shape HZ.out
  subst hv5
  have HOS := Lib.hid hos
  clear hos
  by_cases hlt : os.length < ss.length
  · go_wp2_with fail
    go_ret2
    refine ⟨?_, HB5.out⟩
    rw [HOS.out]
    unfold OrdPost
    rw [if_pos hlt]
    rfl
  · go_wp2_with fail
    go_ret2
    refine ⟨?_, HB5.out⟩
    rw [HOS.out]
    unfold OrdPost
    rw [if_neg hlt]
    exact ⟨_, rfl, HZ.out⟩
theorem orderP_nil (name key : ByteArray) (w : World) :
    Calls Tryz.prog 39 #[.pointer none, .string name, .string key] w fun e w' => e = .returned (.tuple #[.slice none 0 0, .iface 56 (.int .i64 7)]) ∧ w = w' := by
  go_enter Tryz.func39, Tryz.ntmps39
  go_wp2_with fail
  go_ret2
  exact ⟨rfl, rfl⟩
end Go.Proofs.YtjbnjlkoipkpoaaGreatDoor.T

namespace Go.Proofs.YtjbnjlkoipkpoaaGreatDoor.T
open Go.RowKit Go.Shelf Go.Maps
open Go.Proofs.YtjbnjlkoipkpoaaGreatDoor.B

set_option maxHeartbeats 1600000 in
theorem cloneL_any (v : Value) (xs : List Value) (n : Nat) (w : World) (hown : w.ownsRow 0 66 3 v n xs) (hn : 0 < n) (hn1 : n ≤ 40040000) (h1 : ∀ u ∈ xs, u.oneCell' = true) :
    Calls Tryz.prog 56 #[v] w (CopyPost 66 3 n xs w) := by
  obtain ⟨i0, hi0, hz0, hz1, hz2⟩ := info_parts infoLk
  obtain ⟨g, c, hv, -, hg⟩ := hown.form hn
  have hcells := hown.cells (g := g) (by rw [hv]; rfl)
  have hlen := Lib.hid hown.1
  have HC := Lib.hid hcells
  have H1 := Lib.hid h1
  have hq : ∀ w, (binOp .eql 29 (.slice (some ⟨g, 0, none⟩) n c) (.slice none 0 0)).run Tryz.prog w = .ok (.bool false) w := fun w => by kernel_rfl
  subst hv
  clear hown hcells h1
  go_enter Tryz.func56, Tryz.ntmps56
  have hm := World.ownsRow_made (base := 0) (e := 66) (size := 3) w #[] 0 (Nat.zero_le _) (Nat.zero_le _) rfl
  have hb1 : Below w.heap.size w (w.alloc (.cells #[] 66)) := (Below.refl _ _).alloc (Nat.le_refl _) _
  have HM := Lib.hid hm
  have HB1 := Lib.hid hb1
  clear hm hb1
  go_wp2_with (at_builtin; refine wpList_append_lies _ rfl _ _ _ rfl 0 66 i0 _ 3 32 Tryz.underlying29 hi0 hz0 hz1 hz2 rfl (by omega) (.slice (some ⟨w.heap.size, 0, none⟩) 0 0) 0 [] rfl HM.out ⟨g, 0, none⟩ n c xs rfl hlen.out (fun j u hu => by rw [HB1.out.cell (p := (⟨g, 0, none⟩ : Addr).add j) (by rw [addr0]; exact hg)]; exact HC.out j u hu) H1.out hn (by unfold maxLen; omega) (by omega) (Nat.zero_le _) _ rfl ?_; refine Hid.out ?_)
  refine Lib.hid ?_
  intro gg cap w1 hown1 hgrow hat hlt
  have hown1 := Lib.hid hown1
  have hgrow := Lib.hid hgrow
  have hat := Lib.hid hat
  go_wp2
  go_ret
  have hat' : w.heap.size ≤ gg := by
    rcases hat.out with h | h
    · simp [Value.ownBlock] at h; omega
    · have := HB1.out.size; omega
  exact ⟨gg, cap, by simp [go_sem], hat', hlt, (by simpa using hown1.out), HB1.out.grown hgrow.out HB1.out.size (fun k hk => by cases hk; exact Nat.le_refl _)⟩
end Go.Proofs.YtjbnjlkoipkpoaaGreatDoor.T

namespace Go.Proofs.YtjbnjlkoipkpoaaGreatDoor.T
open Go.RowKit Go.Shelf Go.Maps
open Go.Proofs.YtjbnjlkoipkpoaaGreatDoor.B

set_option maxRecDepth 100000 in
set_option maxHeartbeats 3200000 in
theorem same_yes (va vb : Value) (t : List Lk) (A B : Nat) (w : World) (ha : LkRow A w va t) (hb : RlRow B w vb t) (hn : t.length ≤ 40040000) :
    Calls Tryz.prog 16 #[va, vb] w fun e w' => e = .returned (.bool true) ∧ Below w.heap.size w w' := by
  have HA := Lib.hid ha
  have HB := Lib.hid hb
  obtain ⟨ao, ac, hva⟩ := own_shape ha
  subst hva
  obtain ⟨bo, bc, hvb⟩ := own_shape hb
  subst hvb
  clear ha hb
  go_enter Tryz.func16, Tryz.ntmps16
  go_wp2_with fail
  go_loopw [13] (fun i W => ∃ k : Nat, i = .int .i64 k ∧ k ≤ t.length ∧ Hid (Below w.heap.size w W)) (fun i _ => t.length - (intOf i).toNat)
  case atStart => exact ⟨0, rfl, Nat.zero_le _, Lib.hid (Below.refl _ _)⟩
  case round =>
    obtain ⟨k, rfl, hk, hW⟩ := hrel
    by_cases hlt : k < t.length
    · obtain ⟨l, hl⟩ : ∃ l, t[k]? = some l := ⟨_, List.getElem?_eq_getElem hlt⟩
      obtain ⟨l1, l2, l3⟩ := l
      obtain ⟨g1, g2, g3⟩ := lkC_get t k _ hl
      obtain ⟨ga, hga, hao⟩ : ∃ g, (Value.slice ao t.length ac).ownBlock = some g ∧ ao = some ⟨g, 0, none⟩ := by
        rcases HA.out.2 with ⟨-, h0⟩ | ⟨g, cp', cur, hz, -⟩
        · omega
        · injection hz with z1 z2 z3
          exact ⟨g, by rw [z1]; rfl, z1⟩
      obtain ⟨gb, hgb, hbo⟩ : ∃ g, (Value.slice bo t.length bc).ownBlock = some g ∧ bo = some ⟨g, 0, none⟩ := by
        rcases HB.out.2 with ⟨-, h0⟩ | ⟨g, cp', cur, hz, -⟩
        · omega
        · injection hz with z1 z2 z3
          exact ⟨g, by rw [z1]; rfl, z1⟩
      have e1 := World.ownsRow.cells HA.out hga _ _ g1
      have e2 := World.ownsRow.cells HA.out hga _ _ g2
      have e3 := World.ownsRow.cells HA.out hga _ _ g3
      have f1 := World.ownsRow.cells HB.out hgb _ _ g1
      have f2 := World.ownsRow.cells HB.out hgb _ _ g2
      have f3 := World.ownsRow.cells HB.out hgb _ _ g3
      have hla := (World.ownsRow.lt HA.out ga hga).2
      have hlb := (World.ownsRow.lt HB.out gb hgb).2
      rw [addrO] at e1 e2 e3 f1 f2 f3
      subst hao
      subst hbo
      have e1 := (hW.out.cell (p := ⟨ga, k * 3, none⟩) hla).trans e1
      have e2 := (hW.out.cell (p := ⟨ga, k * 3 + 1, none⟩) hla).trans e2
      have e3 := (hW.out.cell (p := ⟨ga, k * 3 + 2, none⟩) hla).trans e3
      have f1 := (hW.out.cell (p := ⟨gb, k * 3, none⟩) hlb).trans f1
      have f2 := (hW.out.cell (p := ⟨gb, k * 3 + 1, none⟩) hlb).trans f2
      have f3 := (hW.out.cell (p := ⟨gb, k * 3 + 2, none⟩) hlb).trans f3
      obtain ⟨tw, htw⟩ : ∃ tw : ByteArray, (⟨l3.toArray⟩ : ByteArray) = tw := ⟨_, rfl⟩
      simp only at e1 e2 e3 f1 f2 f3
      rw [htw] at e3 f3
      have hkz : (k : Int) < (t.length : Int) := by omega
      clear hl g1 g2 g3 hga hgb htw
      go_wp2
      go_quiet (fail)
      go_wp2
      exact ⟨⟨k + 1, by go_num, by omega, Lib.hid ⟨hW.out.os, hW.out.tape, hW.out.output, hW.out.size, hW.out.block⟩⟩, by simp [intOf]; omega⟩
    · go_wp2_with fail
      go_ret
      exact ⟨rfl, hW.out⟩
end Go.Proofs.YtjbnjlkoipkpoaaGreatDoor.T

namespace Go.Proofs.YtjbnjlkoipkpoaaGreatDoor.T
open Go.RowKit Go.Shelf Go.Maps
open Go.Proofs.YtjbnjlkoipkpoaaGreatDoor.B

theorem dang1_any (a b : Int) (s : ByteArray) (w : World) :
    Calls Tryz.prog 57 #[.agg #[.int .i64 a, .int .i64 b, .string s]] w fun e w' => e = .returned (.bool (b != 0)) ∧ Below w.heap.size w w' := by
  obtain ⟨p, hp⟩ : ∃ p, (b != 0) = p := ⟨_, rfl⟩
  rw [hp]
  go_enter Tryz.func57, Tryz.ntmps57
  go_wp2_with fail
  go_ret
  exact ⟨rfl, below_grow1 _ _⟩
theorem oth1_any (a b : Int) (s : ByteArray) (w : World) :
    Calls Tryz.prog 126 #[.agg #[.int .i64 a, .int .i64 b, .string s]] w fun e w' => e = .returned (.bool (a == b)) ∧ Below w.heap.size w w' := by
  obtain ⟨p, hp⟩ : ∃ p, (a == b) = p := ⟨_, rfl⟩
  rw [hp]
  go_enter Tryz.func126, Tryz.ntmps126
  go_wp2_with fail
  go_ret
  exact ⟨rfl, below_grow1 _ _⟩
end Go.Proofs.YtjbnjlkoipkpoaaGreatDoor.T
