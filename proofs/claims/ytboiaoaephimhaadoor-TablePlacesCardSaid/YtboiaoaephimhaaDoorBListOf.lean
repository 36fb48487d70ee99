/- list.Of, walked. -/
import Derived.Test.YtboiaoaephimhaaDoorBList
import Derived.Deep.RegionLaw
import Derived.Deep.DeepCutAuto
namespace Go.Proofs.YtboiaoaephimhaaDoor.B
open Go.RowKit Go.Shelf

theorem icell_get : ∀ (xs : List It) (vs : List Value) (k : Nat) (x : It) (u : Value), xs[k]? = some x → vs[k]? = some u → (itemCells xs vs)[k * 3]? = some (.int .i64 x.kind) ∧ (itemCells xs vs)[k * 3 + 1]? = some (.string ⟨x.raw.toArray⟩) ∧ (itemCells xs vs)[k * 3 + 2]? = some u
  | [], vs, k, x, u, h, _ => by simp at h
  | y :: r, [], k, x, u, _, h => by simp at h
  | y :: r, v :: t, 0, x, u, h, h' => by simp at h h'; subst h; subst h'; exact ⟨rfl, rfl, rfl⟩
  | y :: r, v :: t, k + 1, x, u, h, h' => by
    obtain ⟨h1, h2, h3⟩ := icell_get r t k x u (by simpa using h) (by simpa using h')
    have e1 : (k + 1) * 3 = k * 3 + 1 + 1 + 1 := by omega
    rw [e1]
    have e : itemCells (y :: r) (v :: t) = .int .i64 y.kind :: .string ⟨y.raw.toArray⟩ :: v :: itemCells r t := rfl
    rw [e]
    exact ⟨by simpa using h1, by simpa using h2, by simpa using h3⟩
theorem addr0 (g k : Nat) : (⟨g, 0, none⟩ : Addr).add k = ⟨g, k, none⟩ := by cases k <;> simp [Addr.add]
/-- What list.Of answers. -/
def ListPost (s : List UInt8) (w : World) (e : Ending) (w' : World) : Prop :=
  if (parse s).err = 0 then ∃ b ρ ve vs, e = .returned (.tuple #[.pointer (some ⟨b, 0, none⟩), .nilIface]) ∧ ListAt w' ρ b (numberFrom 1 (parse s).st.items) (1 + recsOf (parse s).st.items) (recsOf (parse s).st.items) ve vs ∧ (∀ k, k < w.heap.size → ρ k = none) ∧ Below w.heap.size w w'
  else ∃ g, e = .returned (.tuple #[.pointer none, faultV g]) ∧ Below w.heap.size w w'
def OfRel (w : World) (b : Nat) (v : Value) (xs : List It) (vs : List Value) (i : Value) (wr : World) : Prop :=
  ∃ (k : Nat) (ρ : Col) (ve : Value), i = .int .i64 k ∧ k ≤ xs.length ∧ Hid (Making wr ρ b ((numberFrom 1 xs).take k) (1 + recsOf (xs.take k)) (recsOf (xs.take k)) ve (vs.take k) v xs vs) ∧ Hid (Below w.heap.size w wr) ∧ Hid (∀ j, j < w.heap.size → ρ j = none)
theorem items_bound {s : List UInt8} (hs : s.length ≤ 60000) : (parse s).st.items.length ≤ 1000000 := by
  have h1 := prefix_ok hs (List.prefix_rfl : splitL s <+: splitL s)
  unfold parse
  split
  · exact Nat.le_trans h1.items (by omega)
  · have h2 := flush_ok h1
    unfold Ps.fin
    split
    · exact Nat.le_trans h2.items (by omega)
    · have h3 := h2.items
      show (Ps.ended _).items.length ≤ _
      unfold Ps.ended
      split
      · show (Ps.flush _).st.items.length ≤ _; omega
      · show ((Ps.flush _).st.items ++ [_]).length ≤ _
        rw [List.length_append]; simp; omega
set_option maxRecDepth 100000 in
set_option maxHeartbeats 3200000 in
theorem listOf_any (s : ByteArray) (hs : s.size ≤ 60000) (w : World) : Calls Tryd.prog 13 #[.string s] w (ListPost s.data.toList w) := by
  have P1 := parse_any s hs w
  by_cases he : (parse s.data.toList).err = 0
  · have P1' : Hid (Calls Tryd.prog 25 #[.string s] w fun e w' => ∃ v ρ vs, e = .returned (.tuple #[v, .nilIface]) ∧ ItemsAt w' ρ v (parse s.data.toList).st.items vs ∧ (∀ k, k < w.heap.size → ρ k = none) ∧ Below w.heap.size w w') := Lib.hid (P1.mono fun e w' h => by
      unfold ParsePost at h
      rwa [if_pos he] at h)
    have hxl := items_bound (s := s.data.toList) (by rw [size_len]; exact hs)
    have HPO : Hid (∀ e w', (∃ b ρ ve vs, e = .returned (.tuple #[.pointer (some ⟨b, 0, none⟩), .nilIface]) ∧ ListAt w' ρ b (numberFrom 1 (parse s.data.toList).st.items) (1 + recsOf (parse s.data.toList).st.items) (recsOf (parse s.data.toList).st.items) ve vs ∧ (∀ k, k < w.heap.size → ρ k = none) ∧ Below w.heap.size w w') → ListPost s.data.toList w e w') := Lib.hid fun e w' h => by unfold ListPost; rw [if_pos he]; exact h
    obtain ⟨R, hR⟩ : ∃ R, ListPost s.data.toList w = R := ⟨_, rfl⟩
    rw [hR] at HPO ⊢
    clear P1 he hR
    generalize (parse s.data.toList).st.items = xs at *
    go_enter Tryd.func13, Tryd.ntmps13
    go_wp2_with fail
    refine P1'.out.mono ?_
    rintro e w1 ⟨v, ρ1, vs, rfl, hI, hρ1, b1⟩
    obtain ⟨ao, ca, hv⟩ := hI.row.shape
    subst hv
    obtain ⟨i0, hi0, hz0, hz1, hz2⟩ := info_parts infoEn
    have M0 : Making (w1.alloc (.cells #[.slice none 0 0, .int .i64 1, .int .i64 0] 61)) (paint ρ1 w1.heap.size 0) w1.heap.size [] 1 0 (.slice none 0 0) [] (.slice ao xs.length ca) xs vs := by
      have hb := below_grow1 w1 (.cells #[.slice none 0 0, .int .i64 1, .int .i64 0] 61)
      exact ⟨⟨heap_alloc_new w1 _, paint_here _ _ _⟩, Row.nil _ _ _ _ _, hI.keep (paint_ext ρ1 0 (Nat.le_refl _)) (σ := fun _ => none) (Kept.below hb) (fun _ _ _ _ => rfl) ((hI.fits.more hb.size).paint (by simp))⟩
    have hlv : vs.length = xs.length := hI.len
    have M0' := Lib.hid M0
    have B1 := Lib.hid (b1.alloc b1.size (.cells #[.slice none 0 0, .int .i64 1, .int .i64 0] 61))
    have R1 : Hid (∀ j, j < w.heap.size → paint ρ1 w1.heap.size 0 j = none) := Lib.hid fun j hj => by
      have := b1.size
      rw [paint_else ρ1 (by omega)]; exact hρ1 j hj
    have hzw := b1.size
    obtain ⟨b, hb⟩ : ∃ b, w1.heap.size = b := ⟨_, rfl⟩
    rw [hb] at M0' R1 hzw
    clear M0 hI b1 hρ1 P1'
    go_wp2
    go_loopw [22] (OfRel w b (.slice ao xs.length ca) xs vs) (fun i _ => xs.length - (intOf i).toNat)
    case atStart => exact ⟨0, _, _, rfl, Nat.zero_le _, M0', B1, R1⟩
    case round =>
      clear M0' B1 R1
      obtain ⟨k, ρ, ve, rfl, hk, hM, hW, HRho⟩ := hrel
      by_cases hlt : k < xs.length
      · obtain ⟨x, hx⟩ : ∃ x, xs[k]? = some x := ⟨_, List.getElem?_eq_getElem hlt⟩
        obtain ⟨u, hu⟩ : ∃ u, vs[k]? = some u := ⟨_, List.getElem?_eq_getElem (by rw [hlv]; exact hlt)⟩
        have hlk : ((numberFrom 1 xs).take k).length = k := by rw [List.length_take, number_len]; omega
        have hlk' : (vs.take k).length = ((numberFrom 1 xs).take k).length := by rw [hlk, List.length_take]; omega
        obtain ⟨lo, lc, hve⟩ := hM.out.row.shape
        rw [hlk] at hve
        subst hve
        have hnum := Lib.hid (number_get 1 k xs x hx)
        obtain ⟨g1, g2, g3⟩ := icell_get xs vs k x u hx hu
        have hrow := hM.out.items.row.1
        obtain ⟨g, hg, hao⟩ : ∃ g, (Value.slice ao xs.length ca).ownBlock = some g ∧ ao = some ⟨g, 0, none⟩ := by
          rcases hrow.2 with ⟨-, h0⟩ | ⟨g, cp', cur, hz, -⟩
          · omega
          · injection hz with z1 z2 z3
            exact ⟨g, by rw [z1]; rfl, z1⟩
        have e1 := hrow.cells hg _ _ g1
        have e2 := hrow.cells hg _ _ g2
        have e3 := hrow.cells hg _ _ g3
        have hgl := (hrow.lt g hg).2
        rw [addr0] at e1 e2 e3
        subst hao
        obtain ⟨uo, uc, hus⟩ := (hM.out.items.its k u x hu hx).shape
        have hu1 : u.oneCell' = true := by rw [hus]; rfl
        obtain ⟨tb, htb⟩ : ∃ tb : ByteArray, (⟨x.raw.toArray⟩ : ByteArray) = tb := ⟨_, rfl⟩
        rw [htb] at e2
        subst hus
        have HTB := Lib.hid htb
        have HX := Lib.hid hx
        have HU := Lib.hid hu
        have hzr := hW.out.size
        have hbr := hM.out.blk.lt
        have hrl := recs_le (xs.take k)
        rw [List.length_take] at hrl
        clear g1 g2 g3 hrow hg htb hx hu
        by_cases hkd0 : x.kind = 3
        · have hkb : ((x.kind : Int) == 3) = true := by simp [hkd0]
          have hkd := Lib.hid hkd0
          clear hkd0
          have c0 : wr.cell? ⟨b, 0, none⟩ = some (.slice lo k lc) := cell_of_row _ b 0 _ _ hM.out.blk.1
          have c1 : wr.cell? ⟨b, 1, none⟩ = some (.int .i64 (1 + recsOf (xs.take k) : Nat)) := cell_of_row _ b 1 _ _ hM.out.blk.1
          have c2 : wr.cell? ⟨b, 2, none⟩ = some (.int .i64 (recsOf (xs.take k) : Nat)) := cell_of_row _ b 2 _ _ hM.out.blk.1
          have f0 : wr.frozen? ⟨b, 0, none⟩ = false := frozen_of_row _ b 0 _ _ hM.out.blk.1
          have f1 : wr.frozen? ⟨b, 1, none⟩ = false := frozen_of_row _ b 1 _ _ hM.out.blk.1
          have f2 : wr.frozen? ⟨b, 2, none⟩ = false := frozen_of_row _ b 2 _ _ hM.out.blk.1
          generalize hr0 : recsOf (xs.take k) = r at *
          have hr := Lib.hid hr0
          clear hr0
          go_upto_region 13 with fail
          obtain ⟨w3, hw3⟩ : ∃ w3, (((wr.setCell ⟨b, 1, none⟩ (.int .i64 (1 + (r : Int) + 1))).setCell ⟨b, 2, none⟩ (.int .i64 ((r : Int) + 1))).alloc (.cells #[.int .i64 x.kind, .string tb, .slice uo x.fields.length uc] 63)).alloc (.cells #[.int .i64 x.kind, .string tb, .slice uo x.fields.length uc, .int .i64 (1 + (r : Int))] 65) = w3 := ⟨_, rfl⟩
          have hsz : ((wr.setCell ⟨b, 1, none⟩ (.int .i64 (1 + (r : Int) + 1))).setCell ⟨b, 2, none⟩ (.int .i64 ((r : Int) + 1))).heap.size = wr.heap.size := by rw [World.size_setCell, World.size_setCell]
          have b3 : Below ((wr.setCell ⟨b, 1, none⟩ (.int .i64 (1 + (r : Int) + 1))).setCell ⟨b, 2, none⟩ (.int .i64 ((r : Int) + 1))).heap.size ((wr.setCell ⟨b, 1, none⟩ (.int .i64 (1 + (r : Int) + 1))).setCell ⟨b, 2, none⟩ (.int .i64 ((r : Int) + 1))) w3 := by rw [← hw3]; exact (below_grow1 ((wr.setCell ⟨b, 1, none⟩ (.int .i64 (1 + (r : Int) + 1))).setCell ⟨b, 2, none⟩ (.int .i64 ((r : Int) + 1))) _).alloc (by simp) _
          have hE : w3.heap[wr.heap.size + 1]? = some (.cells #[.int .i64 x.kind, .string tb, .slice uo x.fields.length uc, .int .i64 (1 + (r : Int))] 65 (0, 0)) := by
            rw [← hw3, ← hsz]; have := heap_alloc_new (((wr.setCell ⟨b, 1, none⟩ (.int .i64 (1 + (r : Int) + 1))).setCell ⟨b, 2, none⟩ (.int .i64 ((r : Int) + 1))).alloc (.cells #[.int .i64 x.kind, .string tb, .slice uo x.fields.length uc] 63)) (.cells #[.int .i64 x.kind, .string tb, .slice uo x.fields.length uc, .int .i64 (1 + (r : Int))] 65); rwa [show (((wr.setCell ⟨b, 1, none⟩ (.int .i64 (1 + (r : Int) + 1))).setCell ⟨b, 2, none⟩ (.int .i64 ((r : Int) + 1))).alloc (.cells #[.int .i64 x.kind, .string tb, .slice uo x.fields.length uc] 63)).heap.size = ((wr.setCell ⟨b, 1, none⟩ (.int .i64 (1 + (r : Int) + 1))).setCell ⟨b, 2, none⟩ (.int .i64 ((r : Int) + 1))).heap.size + 1 from by simp] at this
          have hX : w3.heap[wr.heap.size]? = some (.cells #[.int .i64 x.kind, .string tb, .slice uo x.fields.length uc] 63 (0, 0)) := by
            rw [← hw3, ← hsz]; exact ((below_grow1 (((wr.setCell ⟨b, 1, none⟩ (.int .i64 (1 + (r : Int) + 1))).setCell ⟨b, 2, none⟩ (.int .i64 ((r : Int) + 1))).alloc (.cells #[.int .i64 x.kind, .string tb, .slice uo x.fields.length uc] 63)) _).block _ (by simp)).trans (heap_alloc_new ((wr.setCell ⟨b, 1, none⟩ (.int .i64 (1 + (r : Int) + 1))).setCell ⟨b, 2, none⟩ (.int .i64 ((r : Int) + 1))) _)
          have x0 : w3.cell? ⟨wr.heap.size, 0, none⟩ = some (.int .i64 x.kind) := by simp [World.cell?, hX]
          have p0 : w3.cell? ⟨wr.heap.size + 1, 0, none⟩ = some (.int .i64 x.kind) := by simp [World.cell?, hE]
          have p1 : w3.cell? ⟨wr.heap.size + 1, 1, none⟩ = some (.string tb) := by simp [World.cell?, hE]
          have p2 : w3.cell? ⟨wr.heap.size + 1, 2, none⟩ = some (.slice uo x.fields.length uc) := by simp [World.cell?, hE]
          have p3 : w3.cell? ⟨wr.heap.size + 1, 3, none⟩ = some (.int .i64 (1 + (r : Int))) := by simp [World.cell?, hE]
          have he3 : wr.heap.size + 1 < w3.heap.size := (Array.getElem?_eq_some_iff.1 hE).1
          rw [hw3]
          clear hE hX
          have hN : Making ((wr.setCell ⟨b, 1, none⟩ (.int .i64 (1 + (r : Int) + 1))).setCell ⟨b, 2, none⟩ (.int .i64 ((r : Int) + 1))) ρ b ((numberFrom 1 xs).take k) (1 + (r + 1)) (r + 1) (.slice lo k lc) (vs.take k) (.slice (some ⟨g, 0, none⟩) xs.length ca) xs vs ∧ Kept (Only 0 ρ) wr ((wr.setCell ⟨b, 1, none⟩ (.int .i64 (1 + (r : Int) + 1))).setCell ⟨b, 2, none⟩ (.int .i64 ((r : Int) + 1))) := by
            obtain ⟨s1, k1⟩ := Blk.store hM.out.blk (i := 1) (v := .int .i64 (1 + (r : Int) + 1))
            obtain ⟨s2, k2⟩ := Blk.store s1 (i := 2) (v := .int .i64 ((r : Int) + 1))
            have k3 := k1.trans (Ext.refl _ _) k2
            refine ⟨hM.out.nums k3 ?_, k3⟩
            have := s2.1
            simpa [Int.add_assoc] using this
          have bw3 : Hid (Below w.heap.size w w3) := Lib.hid ((hW.out.trans (hN.2.toBelow (B := w.heap.size) hzr fun j hj => only_none (by rw [HRho.out j hj]; simp))).trans (b3.mono (by rw [hsz]; exact hzr)))
          have HB3 := Lib.hid b3
          have Hq := Lib.hid (show Making w3 ρ b ((numberFrom 1 xs).take k) (1 + (r + 1)) (r + 1) (.slice lo k lc) (vs.take k) (.slice (some ⟨g, 0, none⟩) xs.length ca) xs vs from hN.1.below HB3.out)
          have d0 : w3.cell? ⟨b, 0, none⟩ = some (.slice lo k lc) := cell_of_row _ b 0 _ _ Hq.out.blk.1
          have d1 : w3.frozen? ⟨b, 0, none⟩ = false := frozen_of_row _ b 0 _ _ Hq.out.blk.1
          have hb4 := Hq.out.blk.lt
          have hown : w3.ownsRow 0 65 4 (.slice lo k lc) k (entCells ((numberFrom 1 xs).take k) (vs.take k)) := by have := Hq.out.row.1; rwa [hlk] at this
          have hne : (Value.slice lo k lc).ownBlock ≠ some b := fun e => by have := Hq.out.row.2 b e; rw [Hq.out.blk.2] at this; cases this
          clear b3 hw3 e1 e2 e3 hsz hN c0 c1 c2 f0 f1 f2
          go_region_law
            ((refine step_append_lies _ (by rfl) _ _ _ (by rfl) 0 65 i0 _ 4 56 Tryd.underlying59 hi0 hz0 hz1 hz2 rfl (by omega) (.slice lo k lc) k (entCells ((numberFrom 1 xs).take k) (vs.take k)) (by rfl) ((hown.alloc _).drew)
                ⟨w3.heap.size, 0, none⟩ 1 1 [.int .i64 x.kind, .string tb, .slice uo x.fields.length uc, .int .i64 (1 + (r : Int))] (by rfl) (by rfl) (World.news_of_block (cs := #[.int .i64 x.kind, .string tb, .slice uo x.fields.length uc, .int .i64 (1 + (r : Int))]) (t := 65) (fr := (0, 0)) (heap_alloc_new w3 _)) (by simp [Value.oneCell'])
                (by omega) (by unfold maxLen; omega) (by omega) (by simp) (w3.heap.size + 1) (by simp) ?_; intro gg cap w8 hown8 hgrow hat hlt8; have q0 : w8.frozen? ⟨b, 0, none⟩ = false := (hgrow.frozen_far _ (by simp; omega) (Ne.symm hne)).trans (((below_grow1 w3 _).frozen (p := ⟨b, 0, none⟩) hb4).trans d1); have n0 : w8.cell? ⟨b, 0, none⟩ = some (.slice lo k lc) := (hgrow.cell_far _ (by simp; omega) (Ne.symm hne)).trans (((below_grow1 w3 _).cell (p := ⟨b, 0, none⟩) hb4).trans d0)))
          all_goals
            go_wp2_with fail
            rw [← HTB.out] at hown8
            have A := Making.add Hq.out hlk' (Below.drew (below_grow1 w3 _)) (x, 1 + r) (.slice uo x.fields.length uc) (by rw [hlk]; exact hown8) hgrow (by rcases hat with hat | hat; exact .inl hat; exact .inr (by rw [hat]; simp)) hlt8
            rw [hlk] at A
            obtain ⟨A1, A2, A3⟩ := A
            have hbel := A3.toBelow (B := w.heap.size) (by omega) HRho.out
            refine ⟨⟨k + 1, _, .slice (some ⟨gg, 0, none⟩) (k + 1) cap, ?_, by omega, ?_, Lib.hid (bw3.out.trans hbel), Lib.hid fun j hj => (A2 j (by omega)).trans (HRho.out j hj)⟩, by simp [intOf]; omega⟩
            · go_num
            · have e1 : (numberFrom 1 xs).take (k + 1) = (numberFrom 1 xs).take k ++ [(x, 1 + r)] := by rw [List.take_add_one, hnum.out]; simp [hkd.out]
              have e2 : vs.take (k + 1) = vs.take k ++ [.slice uo x.fields.length uc] := by rw [List.take_add_one, HU.out]; rfl
              have e3 : recsOf (xs.take (k + 1)) = r + 1 := by rw [List.take_add_one, HX.out]; show recsOf (xs.take k ++ [x]) = _; rw [recs_snoc, hr.out]; simp [hkd.out]
              rw [e1, e2, e3]
              exact Lib.hid (by simpa [Nat.add_assoc] using A1)
        · have hkb : ((x.kind : Int) == 3) = false := by simp; omega
          have hkd := Lib.hid hkd0
          clear hkd0
          go_upto_region 13 with fail
          obtain ⟨w3, hw3⟩ : ∃ w3, ((wr).alloc (.cells #[.int .i64 x.kind, .string tb, .slice uo x.fields.length uc] 63)).alloc (.cells #[.int .i64 x.kind, .string tb, .slice uo x.fields.length uc, .int .i64 0] 65) = w3 := ⟨_, rfl⟩
          have hsz : (wr).heap.size = wr.heap.size := rfl
          have b3 : Below (wr).heap.size (wr) w3 := by rw [← hw3]; exact (below_grow1 (wr) _).alloc (by simp) _
          have hE : w3.heap[wr.heap.size + 1]? = some (.cells #[.int .i64 x.kind, .string tb, .slice uo x.fields.length uc, .int .i64 0] 65 (0, 0)) := by
            rw [← hw3, ← hsz]; have := heap_alloc_new ((wr).alloc (.cells #[.int .i64 x.kind, .string tb, .slice uo x.fields.length uc] 63)) (.cells #[.int .i64 x.kind, .string tb, .slice uo x.fields.length uc, .int .i64 0] 65); rwa [show ((wr).alloc (.cells #[.int .i64 x.kind, .string tb, .slice uo x.fields.length uc] 63)).heap.size = (wr).heap.size + 1 from by simp] at this
          have hX : w3.heap[wr.heap.size]? = some (.cells #[.int .i64 x.kind, .string tb, .slice uo x.fields.length uc] 63 (0, 0)) := by
            rw [← hw3, ← hsz]; exact ((below_grow1 ((wr).alloc (.cells #[.int .i64 x.kind, .string tb, .slice uo x.fields.length uc] 63)) _).block _ (by simp)).trans (heap_alloc_new (wr) _)
          have x0 : w3.cell? ⟨wr.heap.size, 0, none⟩ = some (.int .i64 x.kind) := by simp [World.cell?, hX]
          have p0 : w3.cell? ⟨wr.heap.size + 1, 0, none⟩ = some (.int .i64 x.kind) := by simp [World.cell?, hE]
          have p1 : w3.cell? ⟨wr.heap.size + 1, 1, none⟩ = some (.string tb) := by simp [World.cell?, hE]
          have p2 : w3.cell? ⟨wr.heap.size + 1, 2, none⟩ = some (.slice uo x.fields.length uc) := by simp [World.cell?, hE]
          have p3 : w3.cell? ⟨wr.heap.size + 1, 3, none⟩ = some (.int .i64 0) := by simp [World.cell?, hE]
          have he3 : wr.heap.size + 1 < w3.heap.size := (Array.getElem?_eq_some_iff.1 hE).1
          rw [hw3]
          clear hE hX
          have bw3 := Lib.hid (hW.out.trans (b3.mono hW.out.size))
          have HB3 := Lib.hid b3
          have Hq := Lib.hid (show Making w3 ρ b ((numberFrom 1 xs).take k) (1 + recsOf (xs.take k)) (recsOf (xs.take k)) (.slice lo k lc) (vs.take k) (.slice (some ⟨g, 0, none⟩) xs.length ca) xs vs from hM.out.below HB3.out)
          have d0 : w3.cell? ⟨b, 0, none⟩ = some (.slice lo k lc) := cell_of_row _ b 0 _ _ Hq.out.blk.1
          have d1 : w3.frozen? ⟨b, 0, none⟩ = false := frozen_of_row _ b 0 _ _ Hq.out.blk.1
          have hb4 := Hq.out.blk.lt
          have hown : w3.ownsRow 0 65 4 (.slice lo k lc) k (entCells ((numberFrom 1 xs).take k) (vs.take k)) := by have := Hq.out.row.1; rwa [hlk] at this
          have hne : (Value.slice lo k lc).ownBlock ≠ some b := fun e => by have := Hq.out.row.2 b e; rw [Hq.out.blk.2] at this; cases this
          clear b3 hw3 e1 e2 e3 hsz
          go_region_law
            ((refine step_append_lies _ (by rfl) _ _ _ (by rfl) 0 65 i0 _ 4 56 Tryd.underlying59 hi0 hz0 hz1 hz2 rfl (by omega) (.slice lo k lc) k (entCells ((numberFrom 1 xs).take k) (vs.take k)) (by rfl) ((hown.alloc _).drew)
                ⟨w3.heap.size, 0, none⟩ 1 1 [.int .i64 x.kind, .string tb, .slice uo x.fields.length uc, .int .i64 0] (by rfl) (by rfl) (World.news_of_block (cs := #[.int .i64 x.kind, .string tb, .slice uo x.fields.length uc, .int .i64 0]) (t := 65) (fr := (0, 0)) (heap_alloc_new w3 _)) (by simp [Value.oneCell'])
                (by omega) (by unfold maxLen; omega) (by omega) (by simp) (w3.heap.size + 1) (by simp) ?_; intro gg cap w8 hown8 hgrow hat hlt8; have q0 : w8.frozen? ⟨b, 0, none⟩ = false := (hgrow.frozen_far _ (by simp; omega) (Ne.symm hne)).trans (((below_grow1 w3 _).frozen (p := ⟨b, 0, none⟩) hb4).trans d1); have n0 : w8.cell? ⟨b, 0, none⟩ = some (.slice lo k lc) := (hgrow.cell_far _ (by simp; omega) (Ne.symm hne)).trans (((below_grow1 w3 _).cell (p := ⟨b, 0, none⟩) hb4).trans d0)))
          all_goals
            go_wp2_with fail
            rw [← HTB.out] at hown8
            have A := Making.add Hq.out hlk' (Below.drew (below_grow1 w3 _)) (x, 0) (.slice uo x.fields.length uc) (by rw [hlk]; exact hown8) hgrow (by rcases hat with hat | hat; exact .inl hat; exact .inr (by rw [hat]; simp)) hlt8
            rw [hlk] at A
            obtain ⟨A1, A2, A3⟩ := A
            have hbel := A3.toBelow (B := w.heap.size) (by omega) HRho.out
            refine ⟨⟨k + 1, _, .slice (some ⟨gg, 0, none⟩) (k + 1) cap, ?_, by omega, ?_, Lib.hid (bw3.out.trans hbel), Lib.hid fun j hj => (A2 j (by omega)).trans (HRho.out j hj)⟩, by simp [intOf]; omega⟩
            · go_num
            · have e1 : (numberFrom 1 xs).take (k + 1) = (numberFrom 1 xs).take k ++ [(x, 0)] := by rw [List.take_add_one, hnum.out]; simp [hkd.out]
              have e2 : vs.take (k + 1) = vs.take k ++ [.slice uo x.fields.length uc] := by rw [List.take_add_one, HU.out]; rfl
              have e3 : recsOf (xs.take (k + 1)) = recsOf (xs.take k) := by rw [List.take_add_one, HX.out]; show recsOf (xs.take k ++ [x]) = _; rw [recs_snoc]; simp [hkd.out]
              rw [e1, e2, e3]
              exact Lib.hid (by simpa [Nat.add_assoc] using A1)
      · have hkk : k = xs.length := by omega
        have hmk := hM.out
        have q1 : (numberFrom 1 xs).take k = numberFrom 1 xs := List.take_of_length_le (by rw [number_len]; omega)
        have q2 : vs.take k = vs := List.take_of_length_le (by omega)
        have q3 : xs.take k = xs := List.take_of_length_le (by omega)
        rw [q1, q2, q3] at hmk
        have HL : Hid (ListAt wr ρ b (numberFrom 1 xs) (1 + recsOf xs) (recsOf xs) ve vs) := Lib.hid ⟨hmk.blk, hmk.row, by rw [hlv, number_len], fun i u e h1 h2 => by
          have hil : i < xs.length := by rw [← number_len 1 xs]; exact (List.getElem?_eq_some_iff.1 h2).1
          have h3 := number_get 1 i xs _ (List.getElem?_eq_getElem hil)
          rw [h3] at h2
          injection h2 with h2
          rw [← h2]
          exact hmk.items.its i u _ h1 (List.getElem?_eq_getElem hil), hmk.items.fits⟩
        clear hmk q1 q2 q3 hkk
        go_wp2
        exact HPO.out _ _ ⟨b, ρ, ve, vs, rfl, HL.out, HRho.out, hW.out⟩
  · have P1' : Hid (Calls Tryd.prog 25 #[.string s] w fun e w' => ∃ g, e = .returned (.tuple #[.slice none 0 0, faultV g]) ∧ Below w.heap.size w w') := Lib.hid (P1.mono fun e w' h => by
      unfold ParsePost at h
      rw [if_neg he] at h
      obtain ⟨g, h1, -, -, h2⟩ := h
      exact ⟨g, h1, h2⟩)
    have HPO : Hid (∀ g w', Below w.heap.size w w' → ListPost s.data.toList w (.returned (.tuple #[.pointer none, faultV g])) w') := Lib.hid fun g w' h => by unfold ListPost; rw [if_neg he]; exact ⟨g, rfl, h⟩
    obtain ⟨R, hR⟩ : ∃ R, ListPost s.data.toList w = R := ⟨_, rfl⟩
    rw [hR] at HPO ⊢
    clear P1 he hR
    unfold faultV at P1' HPO
    go_enter Tryd.func13, Tryd.ntmps13
    go_wp2_with fail
    refine P1'.out.mono ?_
    rintro e w1 ⟨g, rfl, b1⟩
    have b1 := Lib.hid b1
    go_wp2
    exact HPO.out _ _ b1.out
end Go.Proofs.YtboiaoaephimhaaDoor.B
