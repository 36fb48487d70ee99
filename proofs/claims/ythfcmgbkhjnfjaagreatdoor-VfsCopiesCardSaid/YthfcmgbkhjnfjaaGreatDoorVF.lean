/- The reference's change of the names: move. The reference's directory that is seen: Dir; the file of a name: asked. The reference's unit of power: unit. The reference's unit of power, at a disk that stands as D. -/
import Derived.Test.YthfcmgbkhjnfjaaGreatDoorVE
import Derived.Deep.AppendLies
import Derived.BigQuiet
namespace Go.Proofs.YthfcmgbkhjnfjaaGreatDoor
open Go.RowKit Go.Maps

theorem gtr_s (t : TypeId) (a b : ByteArray) : binOp .gtr t (.string a) (.string b) = pure (.bool (!(Op.bytesLess a.toList b.toList || a.toList == b.toList))) := by simp [binOp, Op.stringOp]
attribute [local go_sem] gtr_s
theorem infoEnt : (Tryz.prog.info? 82).map (fun i => (i.zero, i.size, i.bytes)) = some (some (.agg #[.string ⟨#[]⟩, .int .i64 0]), 2, 24) := by kernel_rfl
theorem own_lowN {N N' : Nat} {e : TypeId} {size n : Nat} {xs : List Value} {w : World} {v : Value} (h : w.ownsRow N e size v n xs) (hN : N' ≤ N) : w.ownsRow N' e size v n xs := by
  refine ⟨h.1, ?_⟩
  rcases h.2 with h0 | ⟨g, cap, cur, hv, hB2, hr⟩
  · exact .inl h0
  · exact .inr ⟨g, cap, cur, hv, by omega, hr⟩
theorem entC_snoc (l : List Ent) (e : Ent) : (l ++ [e]).flatMap entC = l.flatMap entC ++ entC e := by simp
theorem moveR_nil (m : En) (d : Bool) : moveR m d [] = if d then [] else [(m.put, m.file)] := by unfold moveR; rfl
theorem moveR_skip (m : En) (d : Bool) (e : Ent) (r : List Ent) (h : e.1 = m.take ∨ e.1 = m.put) : moveR m d (e :: r) = moveR m d r := by
  rw [moveR, if_pos h]
theorem moveR_put (m : En) (e : Ent) (r : List Ent) (h : ¬ (e.1 = m.take ∨ e.1 = m.put)) (h2 : nameLt m.put e.1 = true) : moveR m false (e :: r) = (m.put, m.file) :: e :: moveR m true r := by
  rw [moveR, if_neg h, if_pos ⟨rfl, h2⟩]
theorem moveR_go (m : En) (d : Bool) (e : Ent) (r : List Ent) (h : ¬ (e.1 = m.take ∨ e.1 = m.put)) (h2 : ¬ (d = false ∧ nameLt m.put e.1 = true)) : moveR m d (e :: r) = e :: moveR m d r := by
  rw [moveR, if_neg h, if_neg h2]
abbrev mvBox (m : En) : Obj := .cells #[.string m.put, .string m.take, .int .i64 m.file] 128 (0, 0)
theorem mv_cells {w : World} {N : Nat} {m : En} (h : w.heap[N]? = some (mvBox m)) : w.cell? ⟨N, 0, none⟩ = some (.string m.put) ∧ w.cell? ⟨N, 1, none⟩ = some (.string m.take) ∧ w.cell? ⟨N, 2, none⟩ = some (.int .i64 m.file) :=
  ⟨by simp [World.cell?, h], by simp [World.cell?, h], by simp [World.cell?, h]⟩
theorem below_dn {B : Nat} {a w : World} (h : Below B a w) (n : Nat) : Below B a (w.drewN n) := h.trans ⟨rfl, rfl, rfl, Nat.le_refl _, fun _ _ => rfl⟩
theorem dn_heap (w : World) (n : Nat) : (w.drewN n).heap = w.heap := by
  induction n generalizing w with
  | zero => rfl
  | succ n ih => exact ih w.drew
theorem own_dn {w : World} {N : Nat} {e : TypeId} {size n : Nat} {v : Value} {xs : List Value} (h : w.ownsRow N e size v n xs) (q : Nat) : (w.drewN q).ownsRow N e size v n xs := by
  unfold World.ownsRow
  rw [dn_heap]
  exact h
theorem blk_dn {w : World} {N : Nat} {o : Obj} (h : w.heap[N]? = some o) (q : Nat) : (w.drewN q).heap[N]? = some o := by rw [dn_heap]; exact h
theorem size_dn {w : World} {N : Nat} (h : N ≤ w.heap.size) (q : Nat) : N ≤ (w.drewN q).heap.size := by rw [dn_heap]; exact h
theorem cell_dn {w : World} {a : Addr} {v : Value} (h : w.cell? a = some v) (q : Nat) : (w.drewN q).cell? a = some v := by
  unfold World.cell?
  rw [dn_heap]
  exact h
/-- What the loop's round stands on. -/
structure MvW (w : World) (N : Nat) (m : En) (v : Value) (out : List Ent) (W : World) : Prop where
  own : W.ownsRow (N + 1) 82 2 v out.length (out.flatMap entC)
  below : Below N w W
  box : W.heap[N]? = some (mvBox m)
  size : N + 1 ≤ W.heap.size
theorem MvW.dn {w : World} {N : Nat} {m : En} {v : Value} {out : List Ent} {W W' : World} (h : MvW w N m v out W) (q : Nat) (e : W.drewN q = W') : MvW w N m v out W' := by
  subst e
  exact ⟨own_dn h.own q, below_dn h.below q, blk_dn h.box q, size_dn h.size q⟩
/-- One name more. -/
theorem MvW.push {w : World} {N : Nat} {m : En} {v : Value} {out : List Ent} {W W' : World} (h : MvW w N m v out W) (e : Ent) {o : Obj} {u : Value} (ho : W'.ownsRow (N + 1) 82 2 u (out.length + 1) (out.flatMap entC ++ entC e)) (hg : (W.alloc o).grownBy W' v.ownBlock) : MvW w N m u (out ++ [e]) W' := by
  have hb : Below (N + 1) W W' := Below.grown ((Below.refl _ _).alloc h.size o) hg (by have := h.size; simp; omega) (fun j hj => (h.own.lt _ hj).1)
  refine ⟨?_, h.below.trans (hb.mono (by omega)), (hb.block N (by omega)).trans h.box, Nat.le_trans h.size hb.size⟩
  rw [List.length_append, List.length_singleton, entC_snoc]
  exact ho
/-- Where the loop stands. -/
def RM (w : World) (N : Nat) (m : En) (l : List Ent) (v dn i : Value) (wr : World) : Prop :=
  ∃ (k : Nat) (out : List Ent) (d : Bool), i = .int .i64 k ∧ dn = .bool d ∧ k ≤ l.length ∧ out.length ≤ 2 * k ∧ Hid (MvW w N m v out wr) ∧ Hid (out ++ moveR m d (l.drop k) = moveL l m)
theorem own_shape0 {w : World} {base : Nat} {e : TypeId} {size n : Nat} {v : Value} {xs : List Value} (h : w.ownsRow base e size v n xs) : ∃ ao c, v = .slice ao n c := by
  rcases h.2 with ⟨h1, h2⟩ | ⟨g, c, cur, h1, _⟩
  · exact ⟨none, 0, by rw [h1, h2]⟩
  · exact ⟨_, _, h1⟩
set_option maxRecDepth 20000 in
set_option maxHeartbeats 3200000 in
theorem move_ref (v : Value) (l : List Ent) (m : En) (w : World) (h : EntsAt w v l) (hl : l.length ≤ 10000000) :
    Calls Tryz.prog 65 #[v, .agg #[.string m.put, .string m.take, .int .i64 m.file]] w fun e w' => ∃ u, e = .returned u ∧ EntsAt w' u (moveL l m) ∧ Below w.heap.size w w' := by
  obtain ⟨ao, cp, rfl, hc⟩ := ents_cells h
  obtain ⟨i0, hi0, hz0, hz1, hz2⟩ := info_parts infoEnt
  have HE := Lib.hid h
  have HC := Lib.hid hc
  obtain ⟨W0, hW0⟩ : ∃ W0, w.alloc (.cells #[.string m.put, .string m.take, .int .i64 m.file] 128) = W0 := ⟨_, rfl⟩
  obtain ⟨N, hN⟩ : ∃ N, w.heap.size = N := ⟨_, rfl⟩
  have HB0 : Hid (Below N w W0) := Lib.hid (by rw [← hW0, ← hN]; exact (Below.refl _ _).alloc (Nat.le_refl _) _)
  have g0 : W0.heap[N]? = some (mvBox m) := by rw [← hW0, ← hN]; exact heap_alloc_new w _
  have HG0 := Lib.hid g0
  obtain ⟨p0, p1, p2⟩ := mv_cells g0
  have hNs : N + 1 ≤ W0.heap.size := (Array.getElem?_eq_some_iff.1 g0).1
  have HW0 := Lib.hid hW0
  have HN := Lib.hid hN
  obtain ⟨bz, hbz⟩ : ∃ bz, m.put.toList.isEmpty = bz := ⟨_, rfl⟩
  have hbz2 : Hid (bz = decide (m.put.size = 0)) := Lib.hid (by
    rw [← hbz, Lib.toList_data, Bool.eq_iff_iff, List.isEmpty_iff, decide_eq_true_iff, ← List.length_eq_zero_iff, list_size])
  clear hc h g0
  go_enter Tryz.func65, Tryz.ntmps65
  go_wp2_with fail
  go_loopw [5, 6, 7] (fun v dn i W => RM w N m l v dn i W) (fun _ _ i _ => l.length - (intOf i).toNat)
  case atStart => exact ⟨0, [], bz, rfl, rfl, Nat.zero_le _, Nat.zero_le _, Lib.hid ⟨World.ownsRow_nil _ _ _ _, HB0.out, HG0.out, hNs⟩, Lib.hid (by rw [hbz2.out]; rfl)⟩
  case round =>
    obtain ⟨k, out, d, rfl, rfl, hk, hol, hM, hmv⟩ := hrel
    clear p0 p1 p2 hbz2 HB0 HG0 hNs
    obtain ⟨oo, oc, rfl⟩ := own_shape0 hM.out.own
    obtain ⟨p0, p1, p2⟩ := mv_cells hM.out.box
    have hsz := hM.out.size
    by_cases hlt : k < l.length
    · have hkz : (k : Int) < (l.length : Int) := by omega
      obtain ⟨⟨nm, fi⟩, he⟩ : ∃ e, l[k]? = some e := ⟨_, List.getElem?_eq_getElem hlt⟩
      obtain ⟨g, rfl, hgl, hcc⟩ := HC.out k _ he
      have HCC : Hid (∀ W, MvW w N m (.slice oo out.length oc) out W → W.cell? ⟨g, k * 2, none⟩ = some (.string nm) ∧ W.cell? ⟨g, k * 2 + 1, none⟩ = some (.int .i64 fi)) := Lib.hid fun W h => hcc W (h.below.block g (by rw [← HN.out]; exact hgl))
      have HCD : Hid (∀ W u, MvW w N m u (out ++ [(m.put, m.file)]) W → W.cell? ⟨g, k * 2, none⟩ = some (.string nm) ∧ W.cell? ⟨g, k * 2 + 1, none⟩ = some (.int .i64 fi)) := Lib.hid fun W u h => hcc W (h.below.block g (by rw [← HN.out]; exact hgl))
      obtain ⟨c0, c1⟩ := HCC.out wr hM.out
      have HMV : Hid (out ++ moveR m d ((nm, fi) :: l.drop (k + 1)) = moveL l m) := Lib.hid (by rw [← drop_get he]; exact hmv.out)
      clear hcc he hmv
      by_cases h1 : nm = m.take
      · have hr : Hid (out ++ moveR m d (l.drop (k + 1)) = moveL l m) := Lib.hid (by rw [← moveR_skip m d (nm, fi) _ (.inl h1)]; exact HMV.out)
        subst h1
        have t1 := eq_test m.take
        go_wp2_with fail
        go_quiet (fail)
        go_wp2_with fail
        exact ⟨⟨k + 1, out, d, by go_num, rfl, by omega, by omega, Lib.hid (hM.out.dn nq rfl), hr⟩, by simp [intOf]; omega⟩
      · have t1 := ne_test h1
        by_cases h2 : nm = m.put
        · have hr : Hid (out ++ moveR m d (l.drop (k + 1)) = moveL l m) := Lib.hid (by rw [← moveR_skip m d (nm, fi) _ (.inr h2)]; exact HMV.out)
          subst h2
          have t2 := eq_test m.put
          go_wp2_with fail
          go_quiet (fail)
          go_wp2_with fail
          exact ⟨⟨k + 1, out, d, by go_num, rfl, by omega, by omega, Lib.hid (hM.out.dn nq rfl), hr⟩, by simp [intOf]; omega⟩
        · have t2 := ne_test h2
          have hno : ¬ ((nm, fi).1 = m.take ∨ (nm, fi).1 = m.put) := fun h => h.elim h1 h2
          have t3 := gt_test nm m.put
          rw [t2, Bool.or_false] at t3
          go_wp2_with fail
          go_quiet (fail)
          obtain ⟨W1, hW1⟩ : ∃ W1, wr.drewN nq = W1 := ⟨_, rfl⟩
          rw [hW1]
          have hM1 := Lib.hid (hM.out.dn nq hW1)
          clear p0 p1 p2 c0 c1 hM hW1 hsz
          obtain ⟨p0, p1, p2⟩ := mv_cells hM1.out.box
          obtain ⟨c0, c1⟩ := HCC.out W1 hM1.out
          by_cases h3 : d = false ∧ nameLt m.put nm = true
          · obtain ⟨h3, h4⟩ := h3
            subst h3
            rw [h4, Bool.not_true] at t3
            have hr : Hid ((out ++ [(m.put, m.file)] ++ [(nm, fi)]) ++ moveR m true (l.drop (k + 1)) = moveL l m) := Lib.hid (by
              have := HMV.out
              rw [moveR_put m (nm, fi) _ hno h4] at this
              rw [List.append_assoc, List.append_assoc]
              exact this)
            go_wp2_with fail
            go_quiet (fail)
            obtain ⟨W2, hW2⟩ : ∃ W2, W1.drewN nq = W2 := ⟨_, rfl⟩
            rw [hW2]
            have hM2 := Lib.hid (hM1.out.dn nq hW2)
            clear p0 p1 p2 c0 c1 hM1 hW2
            obtain ⟨p0, p1, p2⟩ := mv_cells hM2.out.box
            obtain ⟨c0, c1⟩ := HCC.out W2 hM2.out
            go_wp2_with (at_builtin; (refine wpList_append_lies _ rfl _ _ _ rfl (N + 1) 82 i0 _ 2 24 Tryz.underlying33 hi0 hz0 hz1 hz2 rfl (by omega) _ (out.length) _ rfl (hM2.out.own.alloc _) ⟨W2.heap.size, 0, none⟩ 1 1 [.string m.put, .int .i64 m.file] rfl rfl (World.news_of_block (cs := #[.string m.put, .int .i64 m.file]) (t := 82) (fr := (0, 0)) (heap_alloc_new W2 _)) (by simp [Value.oneCell']) (by omega) (by unfold maxLen; omega) (by omega) (by have := hM2.out.size; simp; omega) (W2.heap.size + 1) (by simp) ?_; intro gg capW3 W3 hownW3 hgrowW3 hatW3 hltW3; refine Hid.out ?_))
            refine Lib.hid ?_
            have hW3 := Lib.hid (hM2.out.push (m.put, m.file) hownW3 hgrowW3)
            clear hownW3 hgrowW3 hatW3 hltW3
            clear p0 p1 p2 c0 c1
            obtain ⟨c0, c1⟩ := HCD.out W3 _ hW3.out
            have ho3 : Hid (W3.ownsRow (N + 1) 82 2 (.slice (some ⟨gg, 0, none⟩) (out.length + 1) capW3) (out.length + 1) ((out ++ [(m.put, m.file)]).flatMap entC)) := Lib.hid (by have := hW3.out.own; rwa [List.length_append, List.length_singleton] at this)
            go_wp2_with (at_builtin; (refine wpList_append_lies _ rfl _ _ _ rfl (N + 1) 82 i0 _ 2 24 Tryz.underlying33 hi0 hz0 hz1 hz2 rfl (by omega) _ (out.length + 1) _ rfl (ho3.out.alloc _) ⟨W3.heap.size, 0, none⟩ 1 1 [.string nm, .int .i64 fi] rfl rfl (World.news_of_block (cs := #[.string nm, .int .i64 fi]) (t := 82) (fr := (0, 0)) (heap_alloc_new W3 _)) (by simp [Value.oneCell']) (by omega) (by unfold maxLen; omega) (by omega) (by have := hW3.out.size; simp; omega) (W3.heap.size + 1) (by simp) ?_; intro gh capW4 W4 hownW4 hgrowW4 hatW4 hltW4; refine Hid.out ?_))
            refine Lib.hid ?_
            have hW4 := Lib.hid (hW3.out.push (nm, fi) (by rw [List.length_append, List.length_singleton]; exact hownW4) hgrowW4)
            clear hownW4 hgrowW4 hatW4 hltW4
            go_wp2_with fail
            exact ⟨⟨k + 1, _, true, by go_num, rfl, by omega, by simp; omega, hW4, hr⟩, by simp [intOf]; omega⟩
          · have hr : Hid ((out ++ [(nm, fi)]) ++ moveR m d (l.drop (k + 1)) = moveL l m) := Lib.hid (by
              have := HMV.out
              rw [moveR_go m d (nm, fi) _ hno h3] at this
              rw [List.append_assoc]
              exact this)
            cases d with
            | true =>
              clear t3
              go_wp2_with fail
              go_quiet (fail)
              obtain ⟨W2, hW2⟩ : ∃ W2, W1.drewN nq = W2 := ⟨_, rfl⟩
              rw [hW2]
              have hM2 := Lib.hid (hM1.out.dn nq hW2)
              clear p0 p1 p2 c0 c1 hM1 hW2
              obtain ⟨c0, c1⟩ := HCC.out W2 hM2.out
              go_wp2_with (at_builtin; (refine wpList_append_lies _ rfl _ _ _ rfl (N + 1) 82 i0 _ 2 24 Tryz.underlying33 hi0 hz0 hz1 hz2 rfl (by omega) _ (out.length) _ rfl (hM2.out.own.alloc _) ⟨W2.heap.size, 0, none⟩ 1 1 [.string nm, .int .i64 fi] rfl rfl (World.news_of_block (cs := #[.string nm, .int .i64 fi]) (t := 82) (fr := (0, 0)) (heap_alloc_new W2 _)) (by simp [Value.oneCell']) (by omega) (by unfold maxLen; omega) (by omega) (by have := hM2.out.size; simp; omega) (W2.heap.size + 1) (by simp) ?_; intro gg capW3 W3 hownW3 hgrowW3 hatW3 hltW3; refine Hid.out ?_))
              refine Lib.hid ?_
              have hW3 := Lib.hid (hM2.out.push (nm, fi) hownW3 hgrowW3)
              clear hownW3 hgrowW3 hatW3 hltW3
              go_wp2_with fail
              exact ⟨⟨k + 1, _, true, by go_num, rfl, by omega, by simp; omega, hW3, hr⟩, by simp [intOf]; omega⟩
            | false =>
              rw [show nameLt m.put nm = false from by cases h : nameLt m.put nm with | false => rfl | true => exact absurd ⟨rfl, h⟩ h3, Bool.not_false] at t3
              go_wp2_with fail
              go_quiet (fail)
              obtain ⟨W2, hW2⟩ : ∃ W2, W1.drewN nq = W2 := ⟨_, rfl⟩
              rw [hW2]
              have hM2 := Lib.hid (hM1.out.dn nq hW2)
              clear p0 p1 p2 c0 c1 hM1 hW2
              obtain ⟨c0, c1⟩ := HCC.out W2 hM2.out
              go_wp2_with (at_builtin; (refine wpList_append_lies _ rfl _ _ _ rfl (N + 1) 82 i0 _ 2 24 Tryz.underlying33 hi0 hz0 hz1 hz2 rfl (by omega) _ (out.length) _ rfl (hM2.out.own.alloc _) ⟨W2.heap.size, 0, none⟩ 1 1 [.string nm, .int .i64 fi] rfl rfl (World.news_of_block (cs := #[.string nm, .int .i64 fi]) (t := 82) (fr := (0, 0)) (heap_alloc_new W2 _)) (by simp [Value.oneCell']) (by omega) (by unfold maxLen; omega) (by omega) (by have := hM2.out.size; simp; omega) (W2.heap.size + 1) (by simp) ?_; intro gg capW3 W3 hownW3 hgrowW3 hatW3 hltW3; refine Hid.out ?_))
              refine Lib.hid ?_
              have hW3 := Lib.hid (hM2.out.push (nm, fi) hownW3 hgrowW3)
              clear hownW3 hgrowW3 hatW3 hltW3
              go_wp2_with fail
              exact ⟨⟨k + 1, _, false, by go_num, rfl, by omega, by simp; omega, hW3, hr⟩, by simp [intOf]; omega⟩
    · have hlk : k = l.length := by omega
      cases d with
      | true =>
        have hr : Hid (out = moveL l m) := Lib.hid (by
          have := hmv.out
          rwa [List.drop_of_length_le (by omega), moveR_nil, if_pos rfl, List.append_nil] at this)
        go_wp2_with fail
        go_ret
        exact ⟨_, rfl, by rw [← hr.out]; exact own_to0 hM.out.own, by rw [HN.out]; exact hM.out.below⟩
      | false =>
        have hr : Hid (out ++ [(m.put, m.file)] = moveL l m) := Lib.hid (by
          have := hmv.out
          rwa [List.drop_of_length_le (by omega), moveR_nil, if_neg (by simp)] at this)
        go_wp2_with (at_builtin; (refine wpList_append_lies _ rfl _ _ _ rfl (N + 1) 82 i0 _ 2 24 Tryz.underlying33 hi0 hz0 hz1 hz2 rfl (by omega) _ (out.length) _ rfl (hM.out.own.alloc _) ⟨wr.heap.size, 0, none⟩ 1 1 [.string m.put, .int .i64 m.file] rfl rfl (World.news_of_block (cs := #[.string m.put, .int .i64 m.file]) (t := 82) (fr := (0, 0)) (heap_alloc_new wr _)) (by simp [Value.oneCell']) (by omega) (by unfold maxLen; omega) (by omega) (by have := hM.out.size; simp; omega) (wr.heap.size + 1) (by simp) ?_; intro gg capW3 W3 hownW3 hgrowW3 hatW3 hltW3; refine Hid.out ?_))
        refine Lib.hid ?_
        have hW3 := Lib.hid (hM.out.push (m.put, m.file) hownW3 hgrowW3)
        clear hownW3 hgrowW3 hatW3 hltW3
        go_wp2_with fail
        go_ret
        exact ⟨_, rfl, by rw [← hr.out]; exact own_to0 hW3.out.own, by rw [HN.out]; exact hW3.out.below⟩
end Go.Proofs.YthfcmgbkhjnfjaaGreatDoor

namespace Go.Proofs.YthfcmgbkhjnfjaaGreatDoor
open Go.RowKit Go.Maps

theorem dirD_size (l : List Ent) : Maps.size (dirD l) = l.length := by
  unfold dirD
  rw [Maps.size_eq, List.length_map]
theorem RAt.ls_few {w : World} {D : Dk} {R : RL} (h : RAt w D R) (ok : D.Ok) : R.ls.length ≤ 1000000 := by
  have := ok.names
  rwa [h.dir, dirD_size] at this
abbrev dBox (R : RL) (D : Dk) : Obj := .cells #[.int .i64 D.room, R.vf, R.vs, R.vw, .int .i64 D.units, .int .i64 D.left, .bool D.armed, .bool D.gone, R.va] 37 (0, 0)
structure DC (w : World) (N : Nat) (R : RL) (D : Dk) : Prop where
  c0 : w.cell? ⟨N, 0, none⟩ = some (.int .i64 D.room)
  c1 : w.cell? ⟨N, 1, none⟩ = some R.vf
  c2 : w.cell? ⟨N, 2, none⟩ = some R.vs
  c3 : w.cell? ⟨N, 3, none⟩ = some R.vw
  c4 : w.cell? ⟨N, 4, none⟩ = some (.int .i64 D.units)
  c5 : w.cell? ⟨N, 5, none⟩ = some (.int .i64 D.left)
  c6 : w.cell? ⟨N, 6, none⟩ = some (.bool D.armed)
  c7 : w.cell? ⟨N, 7, none⟩ = some (.bool D.gone)
  c8 : w.cell? ⟨N, 8, none⟩ = some R.va
theorem d_cells {w : World} {N : Nat} {R : RL} {D : Dk} (h : w.heap[N]? = some (dBox R D)) : DC w N R D :=
  ⟨by simp [World.cell?, h], by simp [World.cell?, h], by simp [World.cell?, h], by simp [World.cell?, h], by simp [World.cell?, h], by simp [World.cell?, h], by simp [World.cell?, h], by simp [World.cell?, h], by simp [World.cell?, h]⟩
/-- A move's cells in the row of what waits. -/
theorem moves_cells {w : World} {v : Value} {l : List En} (h : MovesAt w v l) : ∃ ao cp, v = .slice ao l.length cp ∧ ∀ k e, l[k]? = some e → ∃ g, ao = some ⟨g, 0, none⟩ ∧ g < w.heap.size ∧ ∀ wr : World, wr.heap[g]? = w.heap[g]? → wr.cell? ⟨g, k * 3, none⟩ = some (.string e.put) ∧ wr.cell? ⟨g, k * 3 + 1, none⟩ = some (.string e.take) ∧ wr.cell? ⟨g, k * 3 + 2, none⟩ = some (.int .i64 e.file) := by
  obtain ⟨ao, cp, hv, hc⟩ := rec_cells (c := En.cells) (n := 3) (fun _ => rfl) h
  exact ⟨ao, cp, hv, fun k e he => let ⟨g, h1, h2, h3⟩ := hc k e he; ⟨g, h1, h2, fun wr hw => ⟨h3 wr hw 0 (by omega), h3 wr hw 1 (by omega), h3 wr hw 2 (by omega)⟩⟩⟩
/-- Where the loop stands. -/
def RD (w : World) (N : Nat) (R : RL) (D : Dk) (v i : Value) (wr : World) : Prop :=
  ∃ k : Nat, i = .int .i64 k ∧ k ≤ D.waits.length ∧ Hid (EntsAt wr v (playL R.ls (D.waits.take k))) ∧ Hid (Below N w wr) ∧ Hid (wr.heap[N]? = some (dBox R D))
set_option maxRecDepth 20000 in
set_option maxHeartbeats 1600000 in
theorem dir_ref (D : Dk) (R : RL) (w : World) (h : RAt w D R) (ok : D.Ok) :
    Calls Tryz.prog 38 #[.agg #[.int .i64 D.room, R.vf, R.vs, R.vw, .int .i64 D.units, .int .i64 D.left, .bool D.armed, .bool D.gone, R.va]] w fun e w' => ∃ u, e = .returned u ∧ EntsAt w' u (playL R.ls D.waits) ∧ Below w.heap.size w w' := by
  have hls := h.ls_few ok
  have hwl := ok.many
  obtain ⟨W0, hW0⟩ : ∃ W0, w.alloc (.cells #[.int .i64 D.room, R.vf, R.vs, R.vw, .int .i64 D.units, .int .i64 D.left, .bool D.armed, .bool D.gone, R.va] 37) = W0 := ⟨_, rfl⟩
  obtain ⟨N, hN⟩ : ∃ N, w.heap.size = N := ⟨_, rfl⟩
  have hb0 : Below N w W0 := by rw [← hW0, ← hN]; exact (Below.refl _ _).alloc (Nat.le_refl _) _
  have HB0 := Lib.hid hb0
  have g0 : W0.heap[N]? = some (dBox R D) := by rw [← hW0, ← hN]; exact heap_alloc_new w _
  have HG0 := Lib.hid g0
  have HN := Lib.hid hN
  obtain ⟨ao, cp, hvw, hmc⟩ := moves_cells h.ww
  have HMC := Lib.hid hmc
  have HS0 : Hid (EntsAt W0 R.vs R.ls) := Lib.hid (own0_below h.ss (by rw [hN]; exact hb0))
  have HVW := Lib.hid hvw
  have hc := d_cells g0
  have q2 := hc.c2
  have q3 := hc.c3
  rw [hvw] at q3
  clear hmc h ok g0 hb0 hc hvw
  go_enter Tryz.func38, Tryz.ntmps38
  go_wp2_with fail
  go_loopw [3, 4] (fun v i W => RD w N R D v i W) (fun _ i _ => D.waits.length - (intOf i).toNat)
  case atStart => exact ⟨0, rfl, Nat.zero_le _, HS0, HB0, HG0⟩
  case round =>
    obtain ⟨k, rfl, hk, hS, hB, hG⟩ := hrel
    clear q2 q3 HS0 HB0 HG0
    have q3 := (d_cells hG.out).c3
    rw [HVW.out] at q3
    by_cases hlt : k < D.waits.length
    · have hkz : (k : Int) < (D.waits.length : Int) := by omega
      obtain ⟨m, hm⟩ : ∃ m, D.waits[k]? = some m := ⟨_, List.getElem?_eq_getElem hlt⟩
      obtain ⟨g, rfl, hgl, hcc⟩ := HMC.out k m hm
      obtain ⟨c0, c1, c2⟩ := hcc wr (hB.out.block g (by rw [← HN.out]; exact hgl))
      have hpl := playL_len (D.waits.take k) R.ls
      rw [List.length_take] at hpl
      have MV := Lib.hid (move_ref _ _ m wr hS.out (by omega))
      have HP : Hid (moveL (playL R.ls (D.waits.take k)) m = playL R.ls (D.waits.take (k + 1))) := Lib.hid (playL_succ R.ls hm).symm
      clear hcc hm hpl
      go_wp2_with fail
      refine MV.out.mono ?_
      rintro e w1 ⟨u, rfl, hu, hb1⟩
      have hsz : N < wr.heap.size := (Array.getElem?_eq_some_iff.1 hG.out).1
      have HU : Hid (EntsAt w1 u (playL R.ls (D.waits.take (k + 1)))) := Lib.hid (by rw [← HP.out]; exact hu)
      have HB1 := Lib.hid (hB.out.trans (hb1.mono (by omega)))
      have HG1 := Lib.hid ((hb1.block N hsz).trans hG.out)
      clear hu hb1
      go_wp2_with fail
      exact ⟨⟨k + 1, by go_num, by omega, HU, HB1, HG1⟩, by simp [intOf]; omega⟩
    · have HS : Hid (EntsAt wr u3 (playL R.ls D.waits)) := Lib.hid (by have := hS.out; rwa [List.take_of_length_le (by omega)] at this)
      go_wp2_with fail
      go_ret
      exact ⟨_, rfl, HS.out, by rw [HN.out]; exact hB.out⟩
end Go.Proofs.YthfcmgbkhjnfjaaGreatDoor

namespace Go.Proofs.YthfcmgbkhjnfjaaGreatDoor
open Go.RowKit Go.Maps

section
variable (room units left : Int) (gone : Bool) (fo so wo ao : Option Addr) (fn fc sn sc wn wc an ac : Nat) (w : World)
set_option maxRecDepth 20000 in
set_option maxHeartbeats 3200000 in
theorem unit_free (hu0 : 0 ≤ units) (hu1 : units ≤ 1000000000) :
    Calls Tryz.prog 58 #[.agg #[.int .i64 room, .slice fo fn fc, .slice so sn sc, .slice wo wn wc, .int .i64 units, .int .i64 left, .bool false, .bool gone, .slice ao an ac]] w fun e w' =>
      e = .returned (.tuple #[.agg #[.int .i64 room, .slice fo fn fc, .slice so sn sc, .slice wo wn wc, .int .i64 (units + 1), .int .i64 left, .bool false, .bool gone, .slice ao an ac], .bool true]) ∧ Below w.heap.size w w' := by
  go_enter Tryz.func58, Tryz.ntmps58
  go_wp2_with fail
  refine bodyPost_ret (v := .tuple #[.agg #[.int .i64 room, .slice fo fn fc, .slice so sn sc, .slice wo wn wc, .int .i64 (units + 1), .int .i64 left, .bool false, .bool gone, .slice ao an ac], .bool true]) (by simp [results, Tryz.results58, go_sem]) rfl ⟨rfl, ?_⟩
  repeat first | exact Below.refl _ _ | refine Below.drew ?_ | refine Below.alloc ?_ (by simp <;> omega) _ | refine Below.setCell ?_ (by simp <;> omega) _
set_option maxRecDepth 20000 in
set_option maxHeartbeats 3200000 in
theorem unit_less (hu0 : 0 ≤ units) (hu1 : units ≤ 1000000000) (hl0 : 0 < left) (hl1 : left ≤ 9223372036854775807) :
    Calls Tryz.prog 58 #[.agg #[.int .i64 room, .slice fo fn fc, .slice so sn sc, .slice wo wn wc, .int .i64 units, .int .i64 left, .bool true, .bool gone, .slice ao an ac]] w fun e w' =>
      e = .returned (.tuple #[.agg #[.int .i64 room, .slice fo fn fc, .slice so sn sc, .slice wo wn wc, .int .i64 (units + 1), .int .i64 (left - 1), .bool true, .bool gone, .slice ao an ac], .bool true]) ∧ Below w.heap.size w w' := by
  have hq : (left == 0) = false := by simp; omega
  go_enter Tryz.func58, Tryz.ntmps58
  go_wp2_with fail
  refine bodyPost_ret (v := .tuple #[.agg #[.int .i64 room, .slice fo fn fc, .slice so sn sc, .slice wo wn wc, .int .i64 (units + 1), .int .i64 (left - 1), .bool true, .bool gone, .slice ao an ac], .bool true]) (by simp [results, Tryz.results58, go_sem]) rfl ⟨rfl, ?_⟩
  repeat first | exact Below.refl _ _ | refine Below.drew ?_ | refine Below.alloc ?_ (by simp <;> omega) _ | refine Below.setCell ?_ (by simp <;> omega) _
set_option maxRecDepth 20000 in
set_option maxHeartbeats 3200000 in
theorem unit_none  :
    Calls Tryz.prog 58 #[.agg #[.int .i64 room, .slice fo fn fc, .slice so sn sc, .slice wo wn wc, .int .i64 units, .int .i64 0, .bool true, .bool gone, .slice ao an ac]] w fun e w' =>
      e = .returned (.tuple #[.agg #[.int .i64 room, .slice fo fn fc, .slice so sn sc, .slice wo wn wc, .int .i64 units, .int .i64 0, .bool true, .bool true, .slice ao an ac], .bool false]) ∧ Below w.heap.size w w' := by
  go_enter Tryz.func58, Tryz.ntmps58
  go_wp2_with fail
  refine bodyPost_ret (v := .tuple #[.agg #[.int .i64 room, .slice fo fn fc, .slice so sn sc, .slice wo wn wc, .int .i64 units, .int .i64 0, .bool true, .bool true, .slice ao an ac], .bool false]) (by simp [results, Tryz.results58, go_sem]) rfl ⟨rfl, ?_⟩
  repeat first | exact Below.refl _ _ | refine Below.drew ?_ | refine Below.alloc ?_ (by simp <;> omega) _ | refine Below.setCell ?_ (by simp <;> omega) _
end
end Go.Proofs.YthfcmgbkhjnfjaaGreatDoor

namespace Go.Proofs.YthfcmgbkhjnfjaaGreatDoor
open Go.RowKit Go.Maps

/-- The values of the rows are slices. -/
structure RSh (R : RL) (fo so wo ao : Option Addr) (fn fc sn sc wn wc an ac : Nat) : Prop where
  f : R.vf = .slice fo fn fc
  s : R.vs = .slice so sn sc
  w : R.vw = .slice wo wn wc
  a : R.va = .slice ao an ac
theorem RAt.shapes {w : World} {D : Dk} {R : RL} (h : RAt w D R) : ∃ fo so wo ao fn fc sn sc wn wc an ac, RSh R fo so wo ao fn fc sn sc wn wc an ac ∧ fn = D.files.length ∧ wn = D.waits.length ∧ an = D.acts.length ∧ sn = R.ls.length := by
  obtain ⟨fo, fc, h1⟩ := own_shape0 h.ff
  obtain ⟨so, sc, h2⟩ := own_shape0 h.ss
  obtain ⟨wo, wc, h3⟩ := own_shape0 h.ww
  obtain ⟨ao, ac, h4⟩ := own_shape0 h.aa
  exact ⟨fo, so, wo, ao, _, fc, _, sc, _, wc, _, ac, ⟨h1, h2, h3, h4⟩, h.len, rfl, rfl, rfl⟩
/-- The disk's value, its slices written out. -/
abbrev dval (D : Dk) (fo so wo ao : Option Addr) (fn fc sn sc wn wc an ac : Nat) : Value := .agg #[.int .i64 D.room, .slice fo fn fc, .slice so sn sc, .slice wo wn wc, .int .i64 D.units, .int .i64 D.left, .bool D.armed, .bool D.gone, .slice ao an ac]
theorem RSh.val {R : RL} {fo so wo ao : Option Addr} {fn fc sn sc wn wc an ac : Nat} (h : RSh R fo so wo ao fn fc sn sc wn wc an ac) (D : Dk) : R.val D = dval D fo so wo ao fn fc sn sc wn wc an ac := by
  unfold RL.val dval
  rw [h.f, h.s, h.w, h.a]
theorem disk_cells {w : World} {N : Nat} {x0 x1 x2 x3 x4 x5 x6 x7 x8 : Value} (h : w.heap[N]? = some (.cells #[x0, x1, x2, x3, x4, x5, x6, x7, x8] 37 (0, 0))) :
    (w.cell? ⟨N, 0, none⟩ = some x0 ∧ w.cell? ⟨N, 1, none⟩ = some x1 ∧ w.cell? ⟨N, 2, none⟩ = some x2 ∧ w.cell? ⟨N, 3, none⟩ = some x3 ∧ w.cell? ⟨N, 4, none⟩ = some x4 ∧ w.cell? ⟨N, 5, none⟩ = some x5 ∧ w.cell? ⟨N, 6, none⟩ = some x6 ∧ w.cell? ⟨N, 7, none⟩ = some x7 ∧ w.cell? ⟨N, 8, none⟩ = some x8) ∧ (∀ j, w.frozen? ⟨N, j, none⟩ = false) ∧ N < w.heap.size :=
  ⟨⟨by simp [World.cell?, h], by simp [World.cell?, h], by simp [World.cell?, h], by simp [World.cell?, h], by simp [World.cell?, h], by simp [World.cell?, h], by simp [World.cell?, h], by simp [World.cell?, h], by simp [World.cell?, h]⟩, fun j => by simp [World.frozen?, h], (Array.getElem?_eq_some_iff.1 h).1⟩
theorem unit_ref (D : Dk) (fo so wo ao : Option Addr) (fn fc sn sc wn wc an ac : Nat) (w : World) (hu0 : 0 ≤ D.units) (hu1 : D.units ≤ 1000000000) (hl0 : 0 ≤ D.left) (hl1 : D.left ≤ 9223372036854775807) :
    Calls Tryz.prog 58 #[dval D fo so wo ao fn fc sn sc wn wc an ac] w fun e w' =>
      e = .returned (.tuple #[dval (D.spend 1) fo so wo ao fn fc sn sc wn wc an ac, .bool (!decide (D.spent 1 < 1))]) ∧ Below w.heap.size w w' := by
  cases ha : D.armed with
  | false =>
    have hsp : D.spent 1 = 1 := by unfold Dk.spent; rw [if_neg (by rw [ha]; simp)]
    have e1 : dval (D.spend 1) fo so wo ao fn fc sn sc wn wc an ac = .agg #[.int .i64 D.room, .slice fo fn fc, .slice so sn sc, .slice wo wn wc, .int .i64 (D.units + 1), .int .i64 D.left, .bool false, .bool D.gone, .slice ao an ac] := by
      unfold dval Dk.spend
      simp only [hsp, ha, Bool.false_and, Bool.or_false, Bool.false_eq_true, if_false]
    have e0 : dval D fo so wo ao fn fc sn sc wn wc an ac = .agg #[.int .i64 D.room, .slice fo fn fc, .slice so sn sc, .slice wo wn wc, .int .i64 D.units, .int .i64 D.left, .bool false, .bool D.gone, .slice ao an ac] := by unfold dval; rw [ha]
    rw [e1, e0, hsp]
    exact unit_free D.room D.units D.left D.gone fo so wo ao fn fc sn sc wn wc an ac w hu0 hu1
  | true =>
    have e0 : dval D fo so wo ao fn fc sn sc wn wc an ac = .agg #[.int .i64 D.room, .slice fo fn fc, .slice so sn sc, .slice wo wn wc, .int .i64 D.units, .int .i64 D.left, .bool true, .bool D.gone, .slice ao an ac] := by unfold dval; rw [ha]
    by_cases hl : D.left = 0
    · have hsp : D.spent 1 = 0 := by unfold Dk.spent; rw [if_pos ⟨ha, by omega⟩, hl]
      have e1 : dval (D.spend 1) fo so wo ao fn fc sn sc wn wc an ac = .agg #[.int .i64 D.room, .slice fo fn fc, .slice so sn sc, .slice wo wn wc, .int .i64 D.units, .int .i64 0, .bool true, .bool true, .slice ao an ac] := by
        unfold dval Dk.spend
        simp [hsp, ha, hl]
      rw [e1, e0, hsp, hl]
      exact unit_none D.room D.units D.gone fo so wo ao fn fc sn sc wn wc an ac w
    · have hsp : D.spent 1 = 1 := by unfold Dk.spent; rw [if_neg (by omega)]
      have e1 : dval (D.spend 1) fo so wo ao fn fc sn sc wn wc an ac = .agg #[.int .i64 D.room, .slice fo fn fc, .slice so sn sc, .slice wo wn wc, .int .i64 (D.units + 1), .int .i64 (D.left - 1), .bool true, .bool D.gone, .slice ao an ac] := by
        unfold dval Dk.spend
        have : decide (D.left < 1) = false := decide_eq_false (by omega)
        simp [hsp, ha, this]
      rw [e1, e0, hsp]
      exact unit_less D.room D.units D.left D.gone fo so wo ao fn fc sn sc wn wc an ac w hu0 hu1 (by omega) hl1
end Go.Proofs.YthfcmgbkhjnfjaaGreatDoor
