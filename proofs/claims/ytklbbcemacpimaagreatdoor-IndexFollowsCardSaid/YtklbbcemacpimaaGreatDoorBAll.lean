/- list.Of, walked. Going through a list's stanzas: all, and the iterator that it makes. Copies of a row of fields, of a row of strings. -/
import Derived.Test.YtklbbcemacpimaaGreatDoorBList
import Derived.Deep.RegionLaw
import Derived.Deep.DeepCutAuto
import Derived.Test.YtklbbcemacpimaaGreatDoorBSplit
namespace Go.Proofs.YtklbbcemacpimaaGreatDoor.B
open Go.RowKit Go.Shelf

theorem icell_get : ∀ (xs : List It) (vs : List Value) (k : Nat) (x : It) (u : Value), xs[k]? = some x → vs[k]? = some u → (itemCells xs vs)[k * 3]? = some (.int .i64 x.kind) ∧ (itemCells xs vs)[k * 3 + 1]? = some (.string ⟨x.raw.toArray⟩) ∧ (itemCells xs vs)[k * 3 + 2]? = some u
  | [], vs, k, x, u, h, _ => by simp at h
  | y :: r, [], k, x, u, _, h => by simp at h
  | y :: r, v :: t, 0, x, u, h, h' => by simp at h h'; subst h; subst h'; exact ⟨rfl, rfl, rfl⟩
  | y :: r, v :: t, k + 1, x, u, h, h' => by
    obtain ⟨h1, h2, h3⟩ := icell_get r t k x u (by simpa using h) (by simpa using h')
    have e1 : (k + 1) * 3 = k * 3 + 1 + 1 + 1 := by omega
    rw [e1]
    have e : itemCells (y :: r) (v :: t) = .int .i64 y.kind :: .string ⟨y.raw.toArray⟩ :: v :: itemCells r t := rfl
    rw [e]
    exact ⟨by simpa using h1, by simpa using h2, by simpa using h3⟩
theorem addr0 (g k : Nat) : (⟨g, 0, none⟩ : Addr).add k = ⟨g, k, none⟩ := by cases k <;> simp [Addr.add]
/-- What list.Of answers. -/
def ListPost (s : List UInt8) (w : World) (e : Ending) (w' : World) : Prop :=
  if (parse s).err = 0 then ∃ b ρ ve vs, e = .returned (.tuple #[.pointer (some ⟨b, 0, none⟩), .nilIface]) ∧ ListAt w' ρ b (numberFrom 1 (parse s).st.items) (1 + recsOf (parse s).st.items) (recsOf (parse s).st.items) ve vs ∧ (∀ k, k < w.heap.size → ρ k = none) ∧ Below w.heap.size w w'
  else ∃ g, e = .returned (.tuple #[.pointer none, faultV g]) ∧ Below w.heap.size w w'
def OfRel (w : World) (b : Nat) (v : Value) (xs : List It) (vs : List Value) (i : Value) (wr : World) : Prop :=
  ∃ (k : Nat) (ρ : Col) (ve : Value), i = .int .i64 k ∧ k ≤ xs.length ∧ Hid (Making wr ρ b ((numberFrom 1 xs).take k) (1 + recsOf (xs.take k)) (recsOf (xs.take k)) ve (vs.take k) v xs vs) ∧ Hid (Below w.heap.size w wr) ∧ Hid (∀ j, j < w.heap.size → ρ j = none)
theorem items_bound {s : List UInt8} (hs : s.length ≤ 60000) : (parse s).st.items.length ≤ 1000000 := by
  have h1 := prefix_ok hs (List.prefix_rfl : splitL s <+: splitL s)
  unfold parse
  split
  · exact Nat.le_trans h1.items (by omega)
  · have h2 := flush_ok h1
    unfold Ps.fin
    split
    · exact Nat.le_trans h2.items (by omega)
    · have h3 := h2.items
      show (Ps.ended _).items.length ≤ _
      unfold Ps.ended
      split
      · show (Ps.flush _).st.items.length ≤ _; omega
      · show ((Ps.flush _).st.items ++ [_]).length ≤ _
        rw [List.length_append]; simp; omega
set_option maxRecDepth 100000 in
set_option maxHeartbeats 3200000 in
theorem listOf_any (s : ByteArray) (hs : s.size ≤ 60000) (w : World) : Calls Tryz.prog 6 #[.string s] w (ListPost s.data.toList w) := by
  have P1 := parse_any s hs w
  by_cases he : (parse s.data.toList).err = 0
  · have P1' : Hid (Calls Tryz.prog 26 #[.string s] w fun e w' => ∃ v ρ vs, e = .returned (.tuple #[v, .nilIface]) ∧ ItemsAt w' ρ v (parse s.data.toList).st.items vs ∧ (∀ k, k < w.heap.size → ρ k = none) ∧ Below w.heap.size w w') := Lib.hid (P1.mono fun e w' h => by
      unfold ParsePost at h
      rwa [if_pos he] at h)
    have hxl := items_bound (s := s.data.toList) (by rw [size_len]; exact hs)
    have HPO : Hid (∀ e w', (∃ b ρ ve vs, e = .returned (.tuple #[.pointer (some ⟨b, 0, none⟩), .nilIface]) ∧ ListAt w' ρ b (numberFrom 1 (parse s.data.toList).st.items) (1 + recsOf (parse s.data.toList).st.items) (recsOf (parse s.data.toList).st.items) ve vs ∧ (∀ k, k < w.heap.size → ρ k = none) ∧ Below w.heap.size w w') → ListPost s.data.toList w e w') := Lib.hid fun e w' h => by unfold ListPost; rw [if_pos he]; exact h
    obtain ⟨R, hR⟩ : ∃ R, ListPost s.data.toList w = R := ⟨_, rfl⟩
    rw [hR] at HPO ⊢
    clear P1 he hR
    generalize (parse s.data.toList).st.items = xs at *
    go_enter Tryz.func6, Tryz.ntmps6
    go_wp2_with fail
    refine P1'.out.mono ?_
    rintro e w1 ⟨v, ρ1, vs, rfl, hI, hρ1, b1⟩
    obtain ⟨ao, ca, hv⟩ := hI.row.shape
    subst hv
    obtain ⟨i0, hi0, hz0, hz1, hz2⟩ := info_parts infoEn
    have M0 : Making (w1.alloc (.cells #[.slice none 0 0, .int .i64 1, .int .i64 0] 63)) (paint ρ1 w1.heap.size 0) w1.heap.size [] 1 0 (.slice none 0 0) [] (.slice ao xs.length ca) xs vs := by
      have hb := below_grow1 w1 (.cells #[.slice none 0 0, .int .i64 1, .int .i64 0] 63)
      exact ⟨⟨heap_alloc_new w1 _, paint_here _ _ _⟩, Row.nil _ _ _ _ _, hI.keep (paint_ext ρ1 0 (Nat.le_refl _)) (σ := fun _ => none) (Kept.below hb) (fun _ _ _ _ => rfl) ((hI.fits.more hb.size).paint (by simp))⟩
    have hlv : vs.length = xs.length := hI.len
    have M0' := Lib.hid M0
    have B1 := Lib.hid (b1.alloc b1.size (.cells #[.slice none 0 0, .int .i64 1, .int .i64 0] 63))
    have R1 : Hid (∀ j, j < w.heap.size → paint ρ1 w1.heap.size 0 j = none) := Lib.hid fun j hj => by
      have := b1.size
      rw [paint_else ρ1 (by omega)]; exact hρ1 j hj
    have hzw := b1.size
    obtain ⟨b, hb⟩ : ∃ b, w1.heap.size = b := ⟨_, rfl⟩
    rw [hb] at M0' R1 hzw
    clear M0 hI b1 hρ1 P1'
    go_wp2
    go_loopw [22] (OfRel w b (.slice ao xs.length ca) xs vs) (fun i _ => xs.length - (intOf i).toNat)
    case atStart => exact ⟨0, _, _, rfl, Nat.zero_le _, M0', B1, R1⟩
    case round =>
      clear M0' B1 R1
      obtain ⟨k, ρ, ve, rfl, hk, hM, hW, HRho⟩ := hrel
      by_cases hlt : k < xs.length
      · obtain ⟨x, hx⟩ : ∃ x, xs[k]? = some x := ⟨_, List.getElem?_eq_getElem hlt⟩
        obtain ⟨u, hu⟩ : ∃ u, vs[k]? = some u := ⟨_, List.getElem?_eq_getElem (by rw [hlv]; exact hlt)⟩
        have hlk : ((numberFrom 1 xs).take k).length = k := by rw [List.length_take, number_len]; omega
        have hlk' : (vs.take k).length = ((numberFrom 1 xs).take k).length := by rw [hlk, List.length_take]; omega
        obtain ⟨lo, lc, hve⟩ := hM.out.row.shape
        rw [hlk] at hve
        subst hve
        have hnum := Lib.hid (number_get 1 k xs x hx)
        obtain ⟨g1, g2, g3⟩ := icell_get xs vs k x u hx hu
        have hrow := hM.out.items.row.1
        obtain ⟨g, hg, hao⟩ : ∃ g, (Value.slice ao xs.length ca).ownBlock = some g ∧ ao = some ⟨g, 0, none⟩ := by
          rcases hrow.2 with ⟨-, h0⟩ | ⟨g, cp', cur, hz, -⟩
          · omega
          · injection hz with z1 z2 z3
            exact ⟨g, by rw [z1]; rfl, z1⟩
        have e1 := hrow.cells hg _ _ g1
        have e2 := hrow.cells hg _ _ g2
        have e3 := hrow.cells hg _ _ g3
        have hgl := (hrow.lt g hg).2
        rw [addr0] at e1 e2 e3
        subst hao
        obtain ⟨uo, uc, hus⟩ := (hM.out.items.its k u x hu hx).shape
        have hu1 : u.oneCell' = true := by rw [hus]; rfl
        obtain ⟨tb, htb⟩ : ∃ tb : ByteArray, (⟨x.raw.toArray⟩ : ByteArray) = tb := ⟨_, rfl⟩
        rw [htb] at e2
        subst hus
        have HTB := Lib.hid htb
        have HX := Lib.hid hx
        have HU := Lib.hid hu
        have hzr := hW.out.size
        have hbr := hM.out.blk.lt
        have hrl := recs_le (xs.take k)
        rw [List.length_take] at hrl
        clear g1 g2 g3 hrow hg htb hx hu
        by_cases hkd0 : x.kind = 3
        · have hkb : ((x.kind : Int) == 3) = true := by simp [hkd0]
          have hkd := Lib.hid hkd0
          clear hkd0
          have c0 : wr.cell? ⟨b, 0, none⟩ = some (.slice lo k lc) := cell_of_row _ b 0 _ _ hM.out.blk.1
          have c1 : wr.cell? ⟨b, 1, none⟩ = some (.int .i64 (1 + recsOf (xs.take k) : Nat)) := cell_of_row _ b 1 _ _ hM.out.blk.1
          have c2 : wr.cell? ⟨b, 2, none⟩ = some (.int .i64 (recsOf (xs.take k) : Nat)) := cell_of_row _ b 2 _ _ hM.out.blk.1
          have f0 : wr.frozen? ⟨b, 0, none⟩ = false := frozen_of_row _ b 0 _ _ hM.out.blk.1
          have f1 : wr.frozen? ⟨b, 1, none⟩ = false := frozen_of_row _ b 1 _ _ hM.out.blk.1
          have f2 : wr.frozen? ⟨b, 2, none⟩ = false := frozen_of_row _ b 2 _ _ hM.out.blk.1
          generalize hr0 : recsOf (xs.take k) = r at *
          have hr := Lib.hid hr0
          clear hr0
          go_upto_region 13 with fail
          obtain ⟨w3, hw3⟩ : ∃ w3, (((wr.setCell ⟨b, 1, none⟩ (.int .i64 (1 + (r : Int) + 1))).setCell ⟨b, 2, none⟩ (.int .i64 ((r : Int) + 1))).alloc (.cells #[.int .i64 x.kind, .string tb, .slice uo x.fields.length uc] 65)).alloc (.cells #[.int .i64 x.kind, .string tb, .slice uo x.fields.length uc, .int .i64 (1 + (r : Int))] 67) = w3 := ⟨_, rfl⟩
          have hsz : ((wr.setCell ⟨b, 1, none⟩ (.int .i64 (1 + (r : Int) + 1))).setCell ⟨b, 2, none⟩ (.int .i64 ((r : Int) + 1))).heap.size = wr.heap.size := by rw [World.size_setCell, World.size_setCell]
          have b3 : Below ((wr.setCell ⟨b, 1, none⟩ (.int .i64 (1 + (r : Int) + 1))).setCell ⟨b, 2, none⟩ (.int .i64 ((r : Int) + 1))).heap.size ((wr.setCell ⟨b, 1, none⟩ (.int .i64 (1 + (r : Int) + 1))).setCell ⟨b, 2, none⟩ (.int .i64 ((r : Int) + 1))) w3 := by rw [← hw3]; exact (below_grow1 ((wr.setCell ⟨b, 1, none⟩ (.int .i64 (1 + (r : Int) + 1))).setCell ⟨b, 2, none⟩ (.int .i64 ((r : Int) + 1))) _).alloc (by simp) _
          have hE : w3.heap[wr.heap.size + 1]? = some (.cells #[.int .i64 x.kind, .string tb, .slice uo x.fields.length uc, .int .i64 (1 + (r : Int))] 67 (0, 0)) := by
            rw [← hw3, ← hsz]; have := heap_alloc_new (((wr.setCell ⟨b, 1, none⟩ (.int .i64 (1 + (r : Int) + 1))).setCell ⟨b, 2, none⟩ (.int .i64 ((r : Int) + 1))).alloc (.cells #[.int .i64 x.kind, .string tb, .slice uo x.fields.length uc] 65)) (.cells #[.int .i64 x.kind, .string tb, .slice uo x.fields.length uc, .int .i64 (1 + (r : Int))] 67); rwa [show (((wr.setCell ⟨b, 1, none⟩ (.int .i64 (1 + (r : Int) + 1))).setCell ⟨b, 2, none⟩ (.int .i64 ((r : Int) + 1))).alloc (.cells #[.int .i64 x.kind, .string tb, .slice uo x.fields.length uc] 65)).heap.size = ((wr.setCell ⟨b, 1, none⟩ (.int .i64 (1 + (r : Int) + 1))).setCell ⟨b, 2, none⟩ (.int .i64 ((r : Int) + 1))).heap.size + 1 from by simp] at this
          have hX : w3.heap[wr.heap.size]? = some (.cells #[.int .i64 x.kind, .string tb, .slice uo x.fields.length uc] 65 (0, 0)) := by
            rw [← hw3, ← hsz]; exact ((below_grow1 (((wr.setCell ⟨b, 1, none⟩ (.int .i64 (1 + (r : Int) + 1))).setCell ⟨b, 2, none⟩ (.int .i64 ((r : Int) + 1))).alloc (.cells #[.int .i64 x.kind, .string tb, .slice uo x.fields.length uc] 65)) _).block _ (by simp)).trans (heap_alloc_new ((wr.setCell ⟨b, 1, none⟩ (.int .i64 (1 + (r : Int) + 1))).setCell ⟨b, 2, none⟩ (.int .i64 ((r : Int) + 1))) _)
          have x0 : w3.cell? ⟨wr.heap.size, 0, none⟩ = some (.int .i64 x.kind) := by simp [World.cell?, hX]
          have p0 : w3.cell? ⟨wr.heap.size + 1, 0, none⟩ = some (.int .i64 x.kind) := by simp [World.cell?, hE]
          have p1 : w3.cell? ⟨wr.heap.size + 1, 1, none⟩ = some (.string tb) := by simp [World.cell?, hE]
          have p2 : w3.cell? ⟨wr.heap.size + 1, 2, none⟩ = some (.slice uo x.fields.length uc) := by simp [World.cell?, hE]
          have p3 : w3.cell? ⟨wr.heap.size + 1, 3, none⟩ = some (.int .i64 (1 + (r : Int))) := by simp [World.cell?, hE]
          have he3 : wr.heap.size + 1 < w3.heap.size := (Array.getElem?_eq_some_iff.1 hE).1
          rw [hw3]
          clear hE hX
          have hN : Making ((wr.setCell ⟨b, 1, none⟩ (.int .i64 (1 + (r : Int) + 1))).setCell ⟨b, 2, none⟩ (.int .i64 ((r : Int) + 1))) ρ b ((numberFrom 1 xs).take k) (1 + (r + 1)) (r + 1) (.slice lo k lc) (vs.take k) (.slice (some ⟨g, 0, none⟩) xs.length ca) xs vs ∧ Kept (Only 0 ρ) wr ((wr.setCell ⟨b, 1, none⟩ (.int .i64 (1 + (r : Int) + 1))).setCell ⟨b, 2, none⟩ (.int .i64 ((r : Int) + 1))) := by
            obtain ⟨s1, k1⟩ := Blk.store hM.out.blk (i := 1) (v := .int .i64 (1 + (r : Int) + 1))
            obtain ⟨s2, k2⟩ := Blk.store s1 (i := 2) (v := .int .i64 ((r : Int) + 1))
            have k3 := k1.trans (Ext.refl _ _) k2
            refine ⟨hM.out.nums k3 ?_, k3⟩
            have := s2.1
            simpa [Int.add_assoc] using this
          have bw3 : Hid (Below w.heap.size w w3) := Lib.hid ((hW.out.trans (hN.2.toBelow (B := w.heap.size) hzr fun j hj => only_none (by rw [HRho.out j hj]; simp))).trans (b3.mono (by rw [hsz]; exact hzr)))
          have HB3 := Lib.hid b3
          have Hq := Lib.hid (show Making w3 ρ b ((numberFrom 1 xs).take k) (1 + (r + 1)) (r + 1) (.slice lo k lc) (vs.take k) (.slice (some ⟨g, 0, none⟩) xs.length ca) xs vs from hN.1.below HB3.out)
          have d0 : w3.cell? ⟨b, 0, none⟩ = some (.slice lo k lc) := cell_of_row _ b 0 _ _ Hq.out.blk.1
          have d1 : w3.frozen? ⟨b, 0, none⟩ = false := frozen_of_row _ b 0 _ _ Hq.out.blk.1
          have hb4 := Hq.out.blk.lt
          have hown : w3.ownsRow 0 67 4 (.slice lo k lc) k (entCells ((numberFrom 1 xs).take k) (vs.take k)) := by have := Hq.out.row.1; rwa [hlk] at this
          have hne : (Value.slice lo k lc).ownBlock ≠ some b := fun e => by have := Hq.out.row.2 b e; rw [Hq.out.blk.2] at this; cases this
          clear b3 hw3 e1 e2 e3 hsz hN c0 c1 c2 f0 f1 f2
          go_region_law
            ((refine step_append_lies _ (by rfl) _ _ _ (by rfl) 0 67 i0 _ 4 56 Tryz.underlying61 hi0 hz0 hz1 hz2 rfl (by omega) (.slice lo k lc) k (entCells ((numberFrom 1 xs).take k) (vs.take k)) (by rfl) ((hown.alloc _).drew)
                ⟨w3.heap.size, 0, none⟩ 1 1 [.int .i64 x.kind, .string tb, .slice uo x.fields.length uc, .int .i64 (1 + (r : Int))] (by rfl) (by rfl) (World.news_of_block (cs := #[.int .i64 x.kind, .string tb, .slice uo x.fields.length uc, .int .i64 (1 + (r : Int))]) (t := 67) (fr := (0, 0)) (heap_alloc_new w3 _)) (by simp [Value.oneCell'])
                (by omega) (by unfold maxLen; omega) (by omega) (by simp) (w3.heap.size + 1) (by simp) ?_; intro gg cap w8 hown8 hgrow hat hlt8; have q0 : w8.frozen? ⟨b, 0, none⟩ = false := (hgrow.frozen_far _ (by simp; omega) (Ne.symm hne)).trans (((below_grow1 w3 _).frozen (p := ⟨b, 0, none⟩) hb4).trans d1); have n0 : w8.cell? ⟨b, 0, none⟩ = some (.slice lo k lc) := (hgrow.cell_far _ (by simp; omega) (Ne.symm hne)).trans (((below_grow1 w3 _).cell (p := ⟨b, 0, none⟩) hb4).trans d0)))
          all_goals
            go_wp2_with fail
            rw [← HTB.out] at hown8
            have A := Making.add Hq.out hlk' (Below.drew (below_grow1 w3 _)) (x, 1 + r) (.slice uo x.fields.length uc) (by rw [hlk]; exact hown8) hgrow (by rcases hat with hat | hat; exact .inl hat; exact .inr (by rw [hat]; simp)) hlt8
            rw [hlk] at A
            obtain ⟨A1, A2, A3⟩ := A
            have hbel := A3.toBelow (B := w.heap.size) (by omega) HRho.out
            refine ⟨⟨k + 1, _, .slice (some ⟨gg, 0, none⟩) (k + 1) cap, ?_, by omega, ?_, Lib.hid (bw3.out.trans hbel), Lib.hid fun j hj => (A2 j (by omega)).trans (HRho.out j hj)⟩, by simp [intOf]; omega⟩
            · go_num
            · have e1 : (numberFrom 1 xs).take (k + 1) = (numberFrom 1 xs).take k ++ [(x, 1 + r)] := by rw [List.take_add_one, hnum.out]; simp [hkd.out]
              have e2 : vs.take (k + 1) = vs.take k ++ [.slice uo x.fields.length uc] := by rw [List.take_add_one, HU.out]; rfl
              have e3 : recsOf (xs.take (k + 1)) = r + 1 := by rw [List.take_add_one, HX.out]; show recsOf (xs.take k ++ [x]) = _; rw [recs_snoc, hr.out]; simp [hkd.out]
              rw [e1, e2, e3]
              exact Lib.hid (by simpa [Nat.add_assoc] using A1)
        · have hkb : ((x.kind : Int) == 3) = false := by simp; omega
          have hkd := Lib.hid hkd0
          clear hkd0
          go_upto_region 13 with fail
          obtain ⟨w3, hw3⟩ : ∃ w3, ((wr).alloc (.cells #[.int .i64 x.kind, .string tb, .slice uo x.fields.length uc] 65)).alloc (.cells #[.int .i64 x.kind, .string tb, .slice uo x.fields.length uc, .int .i64 0] 67) = w3 := ⟨_, rfl⟩
          have hsz : (wr).heap.size = wr.heap.size := rfl
          have b3 : Below (wr).heap.size (wr) w3 := by rw [← hw3]; exact (below_grow1 (wr) _).alloc (by simp) _
          have hE : w3.heap[wr.heap.size + 1]? = some (.cells #[.int .i64 x.kind, .string tb, .slice uo x.fields.length uc, .int .i64 0] 67 (0, 0)) := by
            rw [← hw3, ← hsz]; have := heap_alloc_new ((wr).alloc (.cells #[.int .i64 x.kind, .string tb, .slice uo x.fields.length uc] 65)) (.cells #[.int .i64 x.kind, .string tb, .slice uo x.fields.length uc, .int .i64 0] 67); rwa [show ((wr).alloc (.cells #[.int .i64 x.kind, .string tb, .slice uo x.fields.length uc] 65)).heap.size = (wr).heap.size + 1 from by simp] at this
          have hX : w3.heap[wr.heap.size]? = some (.cells #[.int .i64 x.kind, .string tb, .slice uo x.fields.length uc] 65 (0, 0)) := by
            rw [← hw3, ← hsz]; exact ((below_grow1 ((wr).alloc (.cells #[.int .i64 x.kind, .string tb, .slice uo x.fields.length uc] 65)) _).block _ (by simp)).trans (heap_alloc_new (wr) _)
          have x0 : w3.cell? ⟨wr.heap.size, 0, none⟩ = some (.int .i64 x.kind) := by simp [World.cell?, hX]
          have p0 : w3.cell? ⟨wr.heap.size + 1, 0, none⟩ = some (.int .i64 x.kind) := by simp [World.cell?, hE]
          have p1 : w3.cell? ⟨wr.heap.size + 1, 1, none⟩ = some (.string tb) := by simp [World.cell?, hE]
          have p2 : w3.cell? ⟨wr.heap.size + 1, 2, none⟩ = some (.slice uo x.fields.length uc) := by simp [World.cell?, hE]
          have p3 : w3.cell? ⟨wr.heap.size + 1, 3, none⟩ = some (.int .i64 0) := by simp [World.cell?, hE]
          have he3 : wr.heap.size + 1 < w3.heap.size := (Array.getElem?_eq_some_iff.1 hE).1
          rw [hw3]
          clear hE hX
          have bw3 := Lib.hid (hW.out.trans (b3.mono hW.out.size))
          have HB3 := Lib.hid b3
          have Hq := Lib.hid (show Making w3 ρ b ((numberFrom 1 xs).take k) (1 + recsOf (xs.take k)) (recsOf (xs.take k)) (.slice lo k lc) (vs.take k) (.slice (some ⟨g, 0, none⟩) xs.length ca) xs vs from hM.out.below HB3.out)
          have d0 : w3.cell? ⟨b, 0, none⟩ = some (.slice lo k lc) := cell_of_row _ b 0 _ _ Hq.out.blk.1
          have d1 : w3.frozen? ⟨b, 0, none⟩ = false := frozen_of_row _ b 0 _ _ Hq.out.blk.1
          have hb4 := Hq.out.blk.lt
          have hown : w3.ownsRow 0 67 4 (.slice lo k lc) k (entCells ((numberFrom 1 xs).take k) (vs.take k)) := by have := Hq.out.row.1; rwa [hlk] at this
          have hne : (Value.slice lo k lc).ownBlock ≠ some b := fun e => by have := Hq.out.row.2 b e; rw [Hq.out.blk.2] at this; cases this
          clear b3 hw3 e1 e2 e3 hsz
          go_region_law
            ((refine step_append_lies _ (by rfl) _ _ _ (by rfl) 0 67 i0 _ 4 56 Tryz.underlying61 hi0 hz0 hz1 hz2 rfl (by omega) (.slice lo k lc) k (entCells ((numberFrom 1 xs).take k) (vs.take k)) (by rfl) ((hown.alloc _).drew)
                ⟨w3.heap.size, 0, none⟩ 1 1 [.int .i64 x.kind, .string tb, .slice uo x.fields.length uc, .int .i64 0] (by rfl) (by rfl) (World.news_of_block (cs := #[.int .i64 x.kind, .string tb, .slice uo x.fields.length uc, .int .i64 0]) (t := 67) (fr := (0, 0)) (heap_alloc_new w3 _)) (by simp [Value.oneCell'])
                (by omega) (by unfold maxLen; omega) (by omega) (by simp) (w3.heap.size + 1) (by simp) ?_; intro gg cap w8 hown8 hgrow hat hlt8; have q0 : w8.frozen? ⟨b, 0, none⟩ = false := (hgrow.frozen_far _ (by simp; omega) (Ne.symm hne)).trans (((below_grow1 w3 _).frozen (p := ⟨b, 0, none⟩) hb4).trans d1); have n0 : w8.cell? ⟨b, 0, none⟩ = some (.slice lo k lc) := (hgrow.cell_far _ (by simp; omega) (Ne.symm hne)).trans (((below_grow1 w3 _).cell (p := ⟨b, 0, none⟩) hb4).trans d0)))
          all_goals
            go_wp2_with fail
            rw [← HTB.out] at hown8
            have A := Making.add Hq.out hlk' (Below.drew (below_grow1 w3 _)) (x, 0) (.slice uo x.fields.length uc) (by rw [hlk]; exact hown8) hgrow (by rcases hat with hat | hat; exact .inl hat; exact .inr (by rw [hat]; simp)) hlt8
            rw [hlk] at A
            obtain ⟨A1, A2, A3⟩ := A
            have hbel := A3.toBelow (B := w.heap.size) (by omega) HRho.out
            refine ⟨⟨k + 1, _, .slice (some ⟨gg, 0, none⟩) (k + 1) cap, ?_, by omega, ?_, Lib.hid (bw3.out.trans hbel), Lib.hid fun j hj => (A2 j (by omega)).trans (HRho.out j hj)⟩, by simp [intOf]; omega⟩
            · go_num
            · have e1 : (numberFrom 1 xs).take (k + 1) = (numberFrom 1 xs).take k ++ [(x, 0)] := by rw [List.take_add_one, hnum.out]; simp [hkd.out]
              have e2 : vs.take (k + 1) = vs.take k ++ [.slice uo x.fields.length uc] := by rw [List.take_add_one, HU.out]; rfl
              have e3 : recsOf (xs.take (k + 1)) = recsOf (xs.take k) := by rw [List.take_add_one, HX.out]; show recsOf (xs.take k ++ [x]) = _; rw [recs_snoc]; simp [hkd.out]
              rw [e1, e2, e3]
              exact Lib.hid (by simpa [Nat.add_assoc] using A1)
      · have hkk : k = xs.length := by omega
        have hmk := hM.out
        have q1 : (numberFrom 1 xs).take k = numberFrom 1 xs := List.take_of_length_le (by rw [number_len]; omega)
        have q2 : vs.take k = vs := List.take_of_length_le (by omega)
        have q3 : xs.take k = xs := List.take_of_length_le (by omega)
        rw [q1, q2, q3] at hmk
        have HL : Hid (ListAt wr ρ b (numberFrom 1 xs) (1 + recsOf xs) (recsOf xs) ve vs) := Lib.hid ⟨hmk.blk, hmk.row, by rw [hlv, number_len], fun i u e h1 h2 => by
          have hil : i < xs.length := by rw [← number_len 1 xs]; exact (List.getElem?_eq_some_iff.1 h2).1
          have h3 := number_get 1 i xs _ (List.getElem?_eq_getElem hil)
          rw [h3] at h2
          injection h2 with h2
          rw [← h2]
          exact hmk.items.its i u _ h1 (List.getElem?_eq_getElem hil), hmk.items.fits⟩
        clear hmk q1 q2 q3 hkk
        go_wp2
        exact HPO.out _ _ ⟨b, ρ, ve, vs, rfl, HL.out, HRho.out, hW.out⟩
  · have P1' : Hid (Calls Tryz.prog 26 #[.string s] w fun e w' => ∃ g, e = .returned (.tuple #[.slice none 0 0, faultV g]) ∧ Below w.heap.size w w') := Lib.hid (P1.mono fun e w' h => by
      unfold ParsePost at h
      rw [if_neg he] at h
      obtain ⟨g, h1, -, -, h2⟩ := h
      exact ⟨g, h1, h2⟩)
    have HPO : Hid (∀ g w', Below w.heap.size w w' → ListPost s.data.toList w (.returned (.tuple #[.pointer none, faultV g])) w') := Lib.hid fun g w' h => by unfold ListPost; rw [if_neg he]; exact ⟨g, rfl, h⟩
    obtain ⟨R, hR⟩ : ∃ R, ListPost s.data.toList w = R := ⟨_, rfl⟩
    rw [hR] at HPO ⊢
    clear P1 he hR
    unfold faultV at P1' HPO
    go_enter Tryz.func6, Tryz.ntmps6
    go_wp2_with fail
    refine P1'.out.mono ?_
    rintro e w1 ⟨g, rfl, b1⟩
    have b1 := Lib.hid b1
    go_wp2
    exact HPO.out _ _ b1.out
end Go.Proofs.YtklbbcemacpimaaGreatDoor.B

namespace Go.Proofs.YtklbbcemacpimaaGreatDoor.B
open Go.RowKit Go.Shelf
attribute [local go_sem] Oper.semAt_some

theorem all_any (p : Option Addr) (w : World) : Calls Tryz.prog 45 #[.pointer p] w fun e w' => e = .returned (.func (.func 69) #[] #[.pointer (some ⟨w.heap.size, 0, none⟩)]) ∧ w' = w.alloc (.cells #[.pointer p] 23) := by
  go_enter Tryz.func45, Tryz.ntmps45
  go_wp2
  go_ret
  exact ⟨rfl, rfl⟩
theorem entCells_get : ∀ (es : List (It × Nat)) (vs : List Value) (k : Nat) (e : It × Nat) (u : Value), es[k]? = some e → vs[k]? = some u → (entCells es vs)[k * 4]? = some (.int .i64 e.1.kind) ∧ (entCells es vs)[k * 4 + 1]? = some (.string ⟨e.1.raw.toArray⟩) ∧ (entCells es vs)[k * 4 + 2]? = some u ∧ (entCells es vs)[k * 4 + 3]? = some (.int .i64 e.2)
  | [], vs, k, x, u, h, _ => by simp at h
  | y :: r, [], k, x, u, _, h => by simp at h
  | y :: r, v :: t, 0, x, u, h, h' => by simp at h h'; subst h; subst h'; exact ⟨rfl, rfl, rfl, rfl⟩
  | y :: r, v :: t, k + 1, x, u, h, h' => by
    obtain ⟨h1, h2, h3, h4⟩ := entCells_get r t k x u (by simpa using h) (by simpa using h')
    have e1 : (k + 1) * 4 = k * 4 + 1 + 1 + 1 + 1 := by omega
    rw [e1]
    have e : entCells (y :: r) (v :: t) = .int .i64 y.1.kind :: .string ⟨y.1.raw.toArray⟩ :: v :: .int .i64 y.2 :: entCells r t := rfl
    rw [e]
    exact ⟨by simpa using h1, by simpa using h2, by simpa using h3, by simpa using h4⟩
/-- What the iterator needs: the list's box (tb), and the list; all of it below N. -/
structure AllCtx (N tb : Nat) (ρ : Col) (b : Nat) (es : List (It × Nat)) (next many : Nat) (ve : Value) (vs : List Value) (W : World) : Prop where
  box : W.heap[tb]? = some (.cells #[.pointer (some ⟨b, 0, none⟩)] 23 (0, 0))
  tb : tb < N
  low : ∀ k, ρ k ≠ none → k < N
  at_ : ListAt W ρ b es next many ve vs
theorem AllCtx.keep {N tb : Nat} {ρ σ : Col} {b next many : Nat} {es : List (It × Nat)} {ve : Value} {vs : List Value} {W W' : World} (h : AllCtx N tb ρ b es next many ve vs W) (hk : Kept σ W W') (hσ : ∀ k, k < N → σ k = none) : AllCtx N tb ρ b es next many ve vs W' where
  box := (hk.block tb (Array.getElem?_eq_some_iff.1 h.box).1 (hσ _ h.tb)).trans h.box
  tb := h.tb
  low := h.low
  at_ := h.at_.keep (Ext.refl _ _) hk (fun g hg => hσ g (h.low g hg)) (h.at_.fits.more hk.size)
theorem AllCtx.below {N tb : Nat} {ρ : Col} {b next many : Nat} {es : List (It × Nat)} {ve : Value} {vs : List Value} {W W' : World} (h : AllCtx N tb ρ b es next many ve vs W) (hb : Below W.heap.size W W') : AllCtx N tb ρ b es next many ve vs W' :=
  h.keep (σ := fun _ => none) (Kept.below hb) fun _ _ => rfl
theorem AllCtx.touch {N tb : Nat} {ρ : Col} {b next many : Nat} {es : List (It × Nat)} {ve : Value} {vs : List Value} {W W' : World} (h : AllCtx N tb ρ b es next many ve vs W) (hb : Touch2 N W W') : AllCtx N tb ρ b es next many ve vs W' :=
  h.keep (σ := fun k => if k < N then none else some 0) ⟨hb.os, hb.tape, hb.output, hb.size, fun k hk hn => hb.block k hk (fun e => by rw [if_neg (by omega)] at hn; cases hn) (fun e => by rw [if_neg (by omega)] at hn; cases hn)⟩ fun k hk => if_pos hk
/-- The stanzas: the entries that have a number, and where their fields lie. -/
def stanzaPairs (es : List (It × Nat)) (vs : List Value) : List ((It × Nat) × Value) := (es.zip vs).filter fun p => decide (0 < p.1.2)
def pairVal (p : (It × Nat) × Value) : Value := .agg (entC p.1 p.2).toArray
theorem zip_get {α β : Type} (xs : List α) (ys : List β) (k : Nat) (x : α) (y : β) (hx : xs[k]? = some x) (hy : ys[k]? = some y) : (xs.zip ys)[k]? = some (x, y) := by
  rw [List.getElem?_zip_eq_some]; exact ⟨hx, hy⟩
theorem pairs_snoc (es : List (It × Nat)) (vs : List Value) (k : Nat) (e : It × Nat) (u : Value) (he : es[k]? = some e) (hu : vs[k]? = some u) :
    ((es.zip vs).take (k + 1)).filter (fun p => decide (0 < p.1.2)) = ((es.zip vs).take k).filter (fun p => decide (0 < p.1.2)) ++ (if 0 < e.2 then [(e, u)] else []) := by
  rw [List.take_add_one, zip_get es vs k e u he hu, List.filter_append]
  congr 1
  simp only [Option.toList]
  by_cases h : 0 < e.2 <;> simp [h]
theorem take_prefix_filter {α : Type} (p : α → Bool) (l : List α) (k : Nat) : (l.take k).filter p <+: l.filter p := by
  refine ⟨(l.drop k).filter p, ?_⟩
  rw [← List.filter_append, List.take_append_drop]
set_option maxHeartbeats 1600000 in
theorem all_iter (n N tb : Nat) (ρ : Col) (b next many : Nat) (es : List (It × Nat)) (ve : Value) (vs : List Value) (hlen : es.length ≤ 1000000) :
    Iters 69 #[.pointer (some ⟨tb, 0, none⟩)] pairVal (stanzaPairs es vs) (AllCtx N tb ρ b es next many ve vs) n := by
  intro l J Jx W hc hJ hY h0
  have hcb : W.cell? ⟨tb, 0, none⟩ = some (.pointer (some ⟨b, 0, none⟩)) := by simp [World.cell?, hc.box]
  have hvl := hc.at_.len
  obtain ⟨ao, ca, hv⟩ := hc.at_.row.shape
  subst hv
  have hc0 : W.cell? ⟨b, 0, none⟩ = some (.slice ao es.length ca) := cell_of_row _ b 0 _ _ hc.at_.blk.1
  have hbl := hc.at_.blk.lt
  refine callsIn_of_wp Tryz.func69 rfl trivial ?_ rfl
  simp only [Tryz.ntmps69, List.size_toArray, List.length_cons, List.length_nil, Nat.reduceAdd, Nat.reduceSub, Array.replicate_succ, Array.replicate_zero, List.push_toArray, List.append_toArray, List.nil_append, List.cons_append]
  have HJ := Lib.hid hJ
  have HY := Lib.hid hY
  have H0 := Lib.hid h0
  have HC := Lib.hid hc
  clear hJ hY h0 hc
  gi_wp2
  gi_loopw [12] (fun v wr => ∃ k : Nat, v = .int .i64 k ∧ k ≤ es.length ∧ Hid (AllCtx N tb ρ b es next many (.slice ao es.length ca) vs wr) ∧ Hid (J (((es.zip vs).take k).filter fun p => decide (0 < p.1.2)) wr))
    (fun v _ => es.length - (intOf v).toNat)
  case atStart => exact ⟨0, rfl, Nat.zero_le _, HC, by simpa using H0⟩
  case round =>
    obtain ⟨k, rfl, hk, hC, hj⟩ := hrel
    by_cases hlt : k < es.length
    · obtain ⟨e, he⟩ : ∃ e, es[k]? = some e := ⟨_, List.getElem?_eq_getElem hlt⟩
      obtain ⟨u, hu⟩ : ∃ u, vs[k]? = some u := ⟨_, List.getElem?_eq_getElem (by omega)⟩
      obtain ⟨g1, g2, g3, g4⟩ := entCells_get es vs k e u he hu
      have hrow := hC.out.at_.row.1
      obtain ⟨g, hg, hao⟩ : ∃ g, (Value.slice ao es.length ca).ownBlock = some g ∧ ao = some ⟨g, 0, none⟩ := by
        rcases hrow.2 with ⟨-, h0⟩ | ⟨g, cp', cur, hz, -⟩
        · omega
        · injection hz with z1 z2 z3
          exact ⟨g, by rw [z1]; rfl, z1⟩
      have e1 := hrow.cells hg _ _ g1
      have e2 := hrow.cells hg _ _ g2
      have e3 := hrow.cells hg _ _ g3
      have e4 := hrow.cells hg _ _ g4
      have hgl := (hrow.lt g hg).2
      rw [addr0] at e1 e2 e3 e4
      subst hao
      obtain ⟨uo, uc, hus⟩ := (hC.out.at_.its k u e hu he).shape
      have hsn := Lib.hid (pairs_snoc es vs k e u he hu)
      have hpf := Lib.hid (take_prefix_filter (fun p : (It × Nat) × Value => decide (0 < p.1.2)) (es.zip vs) (k + 1))
      clear g1 g2 g3 g4 hrow hg he hu
      subst hus
      obtain ⟨W1, hW1⟩ : ∃ W1, wr.alloc (.cells #[.int .i64 e.1.kind, .string ⟨e.1.raw.toArray⟩, (.slice uo e.1.fields.length uc), .int .i64 e.2] 67) = W1 := ⟨_, rfl⟩
      have hb1 : Below wr.heap.size wr W1 := by rw [← hW1]; exact below_grow1 wr _
      have hE : W1.heap[wr.heap.size]? = some (.cells #[.int .i64 e.1.kind, .string ⟨e.1.raw.toArray⟩, (.slice uo e.1.fields.length uc), .int .i64 e.2] 67 (0, 0)) := by rw [← hW1]; exact heap_alloc_new wr _
      have hj1 := Lib.hid (HJ.out _ _ _ hj.out hb1)
      have hC1 := Lib.hid (hC.out.below hb1)
      by_cases h0 : e.2 = 0
      · have p3 : ((e.2 : Int) > 0) = False := by simp; omega
        have hz : Hid (e.2 = 0) := Lib.hid h0
        have q3 : wr.cell? ⟨g, k * 4 + 3, none⟩ = some (.int .i64 0) := by rw [e4, h0]; rfl
        have hW1' : wr.alloc (.cells #[.int .i64 e.1.kind, .string ⟨e.1.raw.toArray⟩, (.slice uo e.1.fields.length uc), .int .i64 0] 67) = W1 := by rw [← hW1, h0]; rfl
        have HW1 := Lib.hid hW1'
        clear hb1 hE p3 e4 h0 hW1 hW1'
        gi_wp2
        refine ⟨(fun _ h => nomatch h), ?_⟩
        gi_wp2
        have h2 := hsn.out
        rw [if_neg (by have := hz.out; omega), List.append_nil] at h2
        rw [HW1.out]
        exact ⟨⟨k + 1, by go_num, by omega, hC1, by rw [h2]; exact hj1⟩, by simp [intOf]; omega⟩
      · have hz : 0 < e.2 := by omega
        have p0 : W1.cell? ⟨wr.heap.size, 0, none⟩ = some (.int .i64 e.1.kind) := by simp [World.cell?, hE]
        have p1 : W1.cell? ⟨wr.heap.size, 1, none⟩ = some (.string ⟨e.1.raw.toArray⟩) := by simp [World.cell?, hE]
        have p2 : W1.cell? ⟨wr.heap.size, 2, none⟩ = some (.slice uo e.1.fields.length uc) := by simp [World.cell?, hE]
        have p3 : W1.cell? ⟨wr.heap.size, 3, none⟩ = some (.int .i64 e.2) := by simp [World.cell?, hE]
        have hpf2 : Hid (((es.zip vs).take k).filter (fun p => decide (0 < p.1.2)) ++ [(e, Value.slice uo e.1.fields.length uc)] <+: stanzaPairs es vs) := Lib.hid (by
          have h2 := hsn.out
          rw [if_pos hz] at h2
          have h3 := hpf.out
          rw [h2] at h3
          exact h3)
        have Y := HY.out _ (e, .slice uo e.1.fields.length uc) W1 hj1.out hC1.out hpf2.out
        have hpv : pairVal (e, .slice uo e.1.fields.length uc) = .agg #[.int .i64 e.1.kind, .string ⟨e.1.raw.toArray⟩, .slice uo e.1.fields.length uc, .int .i64 e.2] := rfl
        rw [hpv] at Y
        obtain ⟨fn, tmps, assign, body, hy, hR⟩ := Y
        have HR := Lib.hid hR
        clear hE hb1 hR hpv
        have hgt : ((e.2 : Int) > 0) = True := by simp; omega
        gi_wp2
        refine ⟨wideOk, HR.out.mono ?_⟩
        clear HR
        rintro e' W3 (⟨rfl, hJ3, hk3⟩ | ⟨rfl, hJx3⟩)
        · have HJ3 := Lib.hid hJ3
          have HC3 := Lib.hid hk3
          clear hJ3 hk3
          gi_wp2
          go_roundw
          case rel =>
            refine ⟨k + 1, by go_num, by omega, HC3, ?_⟩
            have h2 := hsn.out
            rw [if_pos hz] at h2
            rw [h2]
            exact HJ3
          case measure => simp [intOf]; omega
        · gi_wp2
          refine bodyPost_ret (results_none rfl _ _ _) rfl ?_
          exact ⟨⟨_, rfl⟩, .inr ⟨_, hpf2.out, hJx3⟩⟩
    · gi_wp2
      go_end0
      have hkk : k = es.length := by omega
      refine ⟨⟨_, rfl⟩, .inl ?_⟩
      have := hj.out
      rw [List.take_of_length_le (by rw [List.length_zip]; omega)] at this
      exact this
end Go.Proofs.YtklbbcemacpimaaGreatDoor.B

namespace Go.Proofs.YtklbbcemacpimaaGreatDoor.B
open Go.RowKit Go.Shelf

theorem fdCells_one (fs : List Fd) : ∀ u ∈ fs.flatMap Fd.cells, u.oneCell' = true := by
  intro u hu
  obtain ⟨a, _, ha⟩ := List.mem_flatMap.1 hu
  unfold Fd.cells at ha
  simp at ha
  rcases ha with rfl | rfl <;> rfl
/-- A copy of a row: as long, in a new block. -/
def CopyPost (e0 : TypeId) (size n : Nat) (xs : List Value) (w : World) (e : Ending) (w' : World) : Prop :=
  ∃ g cp, e = .returned (.slice (some ⟨g, 0, none⟩) n cp) ∧ w.heap.size ≤ g ∧ g < w'.heap.size ∧ w'.ownsRow 0 e0 size (.slice (some ⟨g, 0, none⟩) n cp) n xs ∧ Below w.heap.size w w'
set_option maxHeartbeats 800000 in
set_option maxRecDepth 20000 in
theorem cloneF_any (v : Value) (xs : List Value) (n : Nat) (w : World) (hown : w.ownsRow 0 57 2 v n xs) (hn : 0 < n) (hn1 : n ≤ 1000000) (h1 : ∀ u ∈ xs, u.oneCell' = true) :
    Calls Tryz.prog 38 #[v] w (CopyPost 57 2 n xs w) := by
  obtain ⟨i0, hi0, hz0, hz1, hz2⟩ := info_parts infoFd
  obtain ⟨g, c, hv, -, hg⟩ := hown.form hn
  have hcells := hown.cells (g := g) (by rw [hv]; rfl)
  have hlen := Lib.hid hown.1
  have HC := Lib.hid hcells
  have H1 := Lib.hid h1
  have hq : ∀ w, (binOp .eql 44 (.slice (some ⟨g, 0, none⟩) n c) (.slice none 0 0)).run Tryz.prog w = .ok (.bool false) w := fun w => by kernel_rfl
  subst hv
  clear hown hcells h1
  go_enter Tryz.func38, Tryz.ntmps38
  have hm := World.ownsRow_made (base := 0) (e := 57) (size := 2) w #[] 0 (Nat.zero_le _) (Nat.zero_le _) rfl
  have hb1 : Below w.heap.size w (w.alloc (.cells #[] 57)) := (Below.refl _ _).alloc (Nat.le_refl _) _
  have HM := Lib.hid hm
  have HB1 := Lib.hid hb1
  clear hm hb1
  go_wp2_with (at_builtin; refine wpList_append_lies _ rfl _ _ _ rfl 0 57 i0 _ 2 32 Tryz.underlying44 hi0 hz0 hz1 hz2 rfl (by omega) (.slice (some ⟨w.heap.size, 0, none⟩) 0 0) 0 [] rfl HM.out ⟨g, 0, none⟩ n c xs rfl hlen.out (fun j u hu => by rw [HB1.out.cell (p := (⟨g, 0, none⟩ : Addr).add j) (by rw [addr0]; exact hg)]; exact HC.out j u hu) H1.out hn (by unfold maxLen; omega) (by omega) (Nat.zero_le _) _ rfl ?_; refine Hid.out ?_)
  refine Lib.hid ?_
  intro gg cap w1 hown1 hgrow hat hlt
  have hown1 := Lib.hid hown1
  have hgrow := Lib.hid hgrow
  have hat := Lib.hid hat
  go_wp2
  go_ret
  have hat' : w.heap.size ≤ gg := by
    rcases hat.out with h | h
    · simp [Value.ownBlock] at h; omega
    · have := HB1.out.size; omega
  exact ⟨gg, cap, by simp [go_sem], hat', hlt, (by simpa using hown1.out), HB1.out.grown hgrow.out HB1.out.size (fun k hk => by cases hk; exact Nat.le_refl _)⟩
end Go.Proofs.YtklbbcemacpimaaGreatDoor.B
