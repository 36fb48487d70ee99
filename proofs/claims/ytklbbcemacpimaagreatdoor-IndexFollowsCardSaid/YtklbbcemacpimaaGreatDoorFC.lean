/- An edited list: list.Replace. An edited list: list.Delete. An edited list: list.Insert. -/
import Derived.Test.YtklbbcemacpimaaGreatDoorFB
namespace Go.Proofs.YtklbbcemacpimaaGreatDoor.I
open Go Go.Maps Go.Proofs Go.RowKit

/-- The row where an entry's item is another one. -/
theorem repl_row {w w' : World} {g cp i : Nat} {es : Es} {vs : List Value} (h : w.ownsRow 0 67 4 (.slice (some ⟨g, 0, none⟩) es.length cp) es.length (B.entCells es vs)) (hl : vs.length = es.length) {x : B.It × Nat} (hx : es[i]? = some x) (it : B.It) (u : Value)
    (hw : w'.heap[g]? = (w.setCells g (i * 4) [.int .i64 it.kind, .string ⟨it.raw.toArray⟩, u]).heap[g]?) :
    w'.ownsRow 0 67 4 (.slice (some ⟨g, 0, none⟩) es.length cp) (spl es i (i + 1) [(it, x.2)]).length (B.entCells (spl es i (i + 1) [(it, x.2)]) (spl vs i (i + 1) [u])) := by
  have hi := (List.getElem?_eq_some_iff.1 hx).1
  have hsl : (spl es i (i + 1) [(it, x.2)]).length = es.length := by rw [spl_len _ _ _ _ (by omega) (by omega)]; simp; omega
  have hXl := ent_len hl
  rcases h.2 with ⟨h0, -⟩ | ⟨g', cap, cur, h0, h1, h2, h3, h4, h5, h6⟩
  · cases h0
  injection h0 with e1 e2 e3
  injection e1 with e1
  injection e1 with e1
  subst e1
  subst e3
  obtain ⟨cur', k1, k2, k3⟩ := setCells_blk [.int .i64 it.kind, .string ⟨it.raw.toArray⟩, u] w g (i * 4) cur 67 h2 (by simp; omega)
  rw [hsl]
  refine ⟨by rw [ent_len (by rw [hsl]; unfold spl; simp [hl]; omega), hsl], .inr ⟨g, cp, cur', rfl, Nat.zero_le _, hw.trans k1, h3, h4, by omega, ?_⟩⟩
  rw [ent_spl hl rfl]
  have hXg : ∀ t, t < es.length * 4 → (B.entCells es vs)[t]? = cur[t]? := fun t ht => by rw [← h6, List.getElem?_take, if_pos ht, Array.getElem?_toList]
  obtain ⟨v0, hv0⟩ : ∃ v, vs[i]? = some v := ⟨_, List.getElem?_eq_getElem (by omega)⟩
  have h3x := (B.entCells_get es vs i x v0 hx hv0).2.2.2
  obtain ⟨X, hX⟩ : ∃ X, B.entCells es vs = X := ⟨_, rfl⟩
  rw [hX] at hXl hXg h3x ⊢
  apply List.ext_getElem?
  intro t
  by_cases ht : t < es.length * 4
  · rw [List.getElem?_take, if_pos ht, Array.getElem?_toList, k3]
    by_cases t1 : t < i * 4
    · rw [if_neg (by omega), List.getElem?_append_left (by rw [List.length_take]; omega), List.getElem?_take, if_pos t1, hXg _ ht]
    · rw [List.getElem?_append_right (by rw [List.length_take]; omega), List.length_take, Nat.min_eq_left (by omega)]
      by_cases t2 : t < i * 4 + 4
      · rw [List.getElem?_append_left (by show t - i * 4 < 4; omega)]
        obtain ⟨q, rfl⟩ : ∃ q, t = i * 4 + q := ⟨t - i * 4, by omega⟩
        rw [show i * 4 + q - i * 4 = q by omega]
        by_cases t3 : q = 3
        · subst t3
          rw [if_neg (by simp), ← hXg _ ht, h3x]
          rfl
        · rw [if_pos (by simp; omega)]
          have : q < 3 := by omega
          match q, this with
          | 0, _ => rfl
          | 1, _ => rfl
          | 2, _ => rfl
      · rw [if_neg (by simp; omega), List.getElem?_append_right (by show 4 ≤ t - i * 4; omega), List.getElem?_drop, ← hXg _ ht]
        congr 1
        show t = (i + 1) * 4 + (t - i * 4 - 4)
        omega
  · rw [List.getElem?_eq_none (by rw [List.length_take]; omega), List.getElem?_eq_none (by
      rw [List.length_append, List.length_append, List.length_take, List.length_drop]
      have : (B.entCells [(it, x.2)] [u]).length = 4 := rfl
      omega)]
/-- What list.Replace leaves. -/
def ReplP (own : Nat → Prop) (b next many : Nat) (es : Es) (id : Int) (fs : List Fld) (w : World) (e : Ending) (w' : World) : Prop :=
  ((∃ u, e = .returned u ∧ IsErr u) ∧ Below w.heap.size w w') ∨
  (e = .returned .nilIface ∧ fs ≠ [] ∧ Upd own w w' ∧ ∃ i x raw ve vs, es[i]? = some x ∧ (x.2 : Int) = id ∧ 0 < x.2 ∧
    LIn (fun k => own k ∨ (w.heap.size ≤ k ∧ k < w'.heap.size)) w' b next many (spl es i (i + 1) [(⟨3, raw, ofFs fs⟩, x.2)]) ve vs)
set_option maxRecDepth 100000 in
set_option maxHeartbeats 6400000 in
theorem repl_any (own : Nat → Prop) (w : World) (b next many : Nat) (es : Es) (ve : Value) (vs : List Value) (h : LIn own w b next many es ve vs) (hlen : es.length ≤ 1000000) (id : Int) (v : Value) (fs : List Fld) (hF : FldsAt w v fs) (hn : fs.length ≤ 100) (hr : Rdy w) :
    Calls Tryz.prog 16 #[.pointer (some ⟨b, 0, none⟩), .int .i64 id, v] w (ReplP own b next many es id fs w) := by
  have CA := Lib.hid (at_any own w b next many es ve vs h hlen id)
  have HL := Lib.hid h
  have HF := Lib.hid hF
  have HR := Lib.hid hr
  clear h hF hr
  go_enter Tryz.func16, Tryz.ntmps16
  go_wp2_with fail
  refine CA.out.mono ?_
  rintro e w1 ⟨hp, hb1⟩
  have HB1 := Lib.hid hb1
  clear hb1 CA
  rcases hp with ⟨i, x, hx, hxi, hx0, rfl⟩ | ⟨hno, rfl⟩
  · have HX := Lib.hid (And.intro hx (And.intro hxi hx0))
    have hi : i < es.length := (List.getElem?_eq_some_iff.1 hx).1
    have IT := Lib.hid (item_any v fs w1 (flds_below HF.out HB1.out) hn (HR.out.stays HB1.out))
    clear hx hxi hx0
    go_wp2_with fail
    refine IT.out.mono ?_
    rintro e w2 ⟨hp, hb2⟩
    have HB2 := Lib.hid (HB1.out.trans (hb2.mono HB1.out.size))
    have hz1 := HB1.out.size
    clear IT
    rcases hp with ⟨x1, u, rfl, rfl, hu⟩ | ⟨s, g, fc, rfl, ho, hg1, hg2, hne⟩
    · have HU := Lib.hid hu
      clear hb2
      rcases hu with ⟨c, rfl⟩ | ⟨g2, rfl⟩
      all_goals
        go_wp2_with fail
        go_ret
        exact .inl ⟨⟨_, rfl, HU.out⟩, HB2.out.alloc HB2.out.size _⟩
    · obtain ⟨N, hN⟩ : ∃ N, w2.heap.size = N := ⟨_, rfl⟩
      obtain ⟨w3, hw3⟩ : ∃ w3, w2.alloc (.cells #[.int .i64 3, .string s, .slice (some ⟨g, 0, none⟩) fs.length fc] 65) = w3 := ⟨_, rfl⟩
      have hb3 : Below w2.heap.size w2 w3 := by rw [← hw3]; exact below_grow1 w2 _
      have g3 : w3.heap[N]? = some (.cells #[.int .i64 3, .string s, .slice (some ⟨g, 0, none⟩) fs.length fc] 65 (0, 0)) := by rw [← hw3, ← hN]; exact heap_alloc_new w2 _
      have hL3 := HL.out.below (HB2.out.trans (hb3.mono HB2.out.size))
      obtain ⟨ao, cp, hve⟩ := own_shape HL.out.row
      subst hve
      obtain ⟨ge, uo, uc, rfl, hu, d0, d1, d2, d3⟩ := hL3.get HX.out.1
      have hbc : w3.drew.cell? ⟨b, 0, none⟩ = some (.slice (some ⟨ge, 0, none⟩) es.length cp) := by simp [World.cell?, show w3.drew.heap[b]? = _ from hL3.blk]
      obtain ⟨q0, q1, q2⟩ : w3.drew.cell? ⟨N, 0, none⟩ = some (.int .i64 3) ∧ w3.drew.cell? ⟨N, 1, none⟩ = some (.string s) ∧ w3.drew.cell? ⟨N, 2, none⟩ = some (.slice (some ⟨g, 0, none⟩) fs.length fc) := cells3' g3
      have d0' : w3.drew.cell? ⟨ge, i * 4, none⟩ = some (.int .i64 x.1.kind) := d0
      have d1' : w3.drew.cell? ⟨ge, i * 4 + 1, none⟩ = some (.string ⟨x.1.raw.toArray⟩) := d1
      have d2' : w3.drew.cell? ⟨ge, i * 4 + 2, none⟩ = some (.slice uo x.1.fields.length uc) := d2
      obtain ⟨cur, hge⟩ : ∃ cur, w3.heap[ge]? = some (.cells cur 67 (0, 0)) := by
        rcases hL3.row.2 with ⟨h0, -⟩ | ⟨g', cap, cur, h0, h1, h2, -⟩
        · cases h0
        · injection h0 with e1
          injection e1 with e1
          injection e1 with e1
          subst e1
          exact ⟨cur, h2⟩
      have f0 : ∀ o, w3.drew.frozen? ⟨ge, o, none⟩ = false := fun o => by simp [World.frozen?, show w3.drew.heap[ge]? = _ from hge]
      have f00 := f0 (i * 4)
      have f01 := f0 (i * 4 + 1)
      have f02 := f0 (i * 4 + 2)
      have f1 : ∀ o, w3.frozen? ⟨ge, o, none⟩ = false := fun o => by simp [World.frozen?, hge]
      have f10 := f1 (i * 4)
      have f11 := f1 (i * 4 + 1)
      have f12 := f1 (i * 4 + 2)
      have HB3 := Lib.hid (HB2.out.trans (hb3.mono HB2.out.size))
      have HL3 := Lib.hid hL3
      have HGE := Lib.hid hge
      have HO := Lib.hid (And.intro ho (And.intro hg1 (And.intro hg2 hne)))
      have HW3 := Lib.hid hw3
      have HN := Lib.hid hN
      have hi2 : (i : Int) < (es.length : Int) := by omega
      clear hb2 hb3 hL3 hu hge ho hg1 hg2 hne f0 f1 hw3 hN d3 g3
      go_wp2_with fail
      rw [HW3.out]
      try rw [HN.out]
      go_region
      go_wp2_with fail
      obtain ⟨W, hW⟩ : ∃ W, (((w3.setCell ⟨ge, i * 4, none⟩ (.int .i64 3)).setCell ⟨ge, i * 4 + 1, none⟩ (.string s)).setCell ⟨ge, i * 4 + 2, none⟩ (.slice (some ⟨g, 0, none⟩) fs.length fc)).drew = W := ⟨_, rfl⟩
      rw [hW]
      refine bodyPost_ret (v := .nilIface) (by simp [results, Tryz.results16, go_sem]) rfl ?_
      have hL := HL.out
      have hL3 := HL3.out
      obtain ⟨hx, hxi, hx0⟩ := HX.out
      obtain ⟨ho, hg1, hg2, hne⟩ := HO.out
      have hob : own ge := hL.orow ge rfl
      have hgl := hL.low ge hob
      have hz1 := HB1.out.size
      have hz2 := HB2.out.size
      have hz3 := HB3.out.size
      have hWk : ∀ k, k ≠ ge → W.heap[k]? = w3.heap[k]? := fun k hk => by
        rw [← hW]
        exact (Below.heap_setCell _ _ _ _ hk).trans ((Below.heap_setCell _ _ _ _ hk).trans (Below.heap_setCell _ _ _ _ hk))
      have hWz : W.heap.size = w3.heap.size := by rw [← hW]; simp
      have hUp : Upd own w W := by
        have u0 : Upd own w w3 := ⟨HB3.out.os, HB3.out.tape, HB3.out.output, HB3.out.size, fun k hk _ => HB3.out.block k hk⟩
        have u1 := setCells_upd [.int .i64 3, .string s, .slice (some ⟨g, 0, none⟩) fs.length fc] (i * 4) u0 hob
        rw [← hW]
        exact ⟨u1.os, u1.tape, u1.output, u1.size, u1.block⟩
      have hlt2 : w2.heap.size < w3.heap.size := by rw [← HW3.out]; simp
      have hbne : b ≠ ge := fun e => ty_ne_b hL.row hL.blk (by decide) (by rw [e]; rfl)
      have hWB : ∀ k, k < w.heap.size → k ≠ ge → W.heap[k]? = w.heap[k]? := fun k hk hk2 => (hWk k hk2).trans (HB3.out.block k hk)
      refine .inr ⟨rfl, hne, hUp, i, x, s.data.toList, .slice (some ⟨ge, 0, none⟩) es.length cp, spl vs i (i + 1) [.slice (some ⟨g, 0, none⟩) fs.length fc], hx, hxi, hx0, ?_⟩
      refine hL.splice (own' := fun k => own k ∨ (w.heap.size ≤ k ∧ k < W.heap.size)) (Nat.le_succ i) rfl (fun u hu q hq => ?_) ?_ ?_ (fun p hp => ?_) (List.pairwise_singleton _ _) (fun u hu q hq => ?_) (fun k hk => .inl hk) (fun q hq => ?_) (fun u hu q hq => ?_) (fun k hk => ?_)
      · obtain ⟨j, hj⟩ := List.mem_iff_getElem?.1 hu
        have hjo := hL.ofs j u q hj hq
        obtain ⟨y, hy⟩ : ∃ y, es[j]? = some y := ⟨_, List.getElem?_eq_getElem (by rw [← hL.len]; exact (List.getElem?_eq_some_iff.1 hj).1)⟩
        refine hWB q (hL.low q hjo) fun e => ?_
        exact ty_ne hL.row (hL.its j u y hj hy) (by decide) (g := ge) rfl (by rw [← e]; exact hq)
      · exact (hWB b (hL.low b hL.ob) hbne).trans hL.blk
      · refine repl_row hL3.row hL.len hx ⟨3, s.data.toList, ofFs fs⟩ (.slice (some ⟨g, 0, none⟩) fs.length fc) ?_
        rw [← hW, show (⟨(⟨3, s.data.toList, ofFs fs⟩ : B.It).raw.toArray⟩ : ByteArray) = s from Lib.mk_data s]
        rfl
      · simp only [List.zip_cons_cons, List.zip_nil_right, List.mem_singleton] at hp
        subst hp
        show W.ownsRow 0 _ 2 _ (ofFs fs).length ((ofFs fs).flatMap B.Fd.cells)
        rw [ofFs_len, ofFs_cells]
        refine own_zero ho ?_ (Nat.zero_le _)
        rw [hWk g (by omega), ← HW3.out]
        exact (below_grow1 w2 _).block g hg2
      · rw [List.mem_singleton.1 hu] at hq
        injection hq with hq
        simp only at hq
        omega
      · injection hq with hq
        exact .inl (by rw [← hq]; exact hob)
      · rw [List.mem_singleton.1 hu] at hq
        injection hq with hq
        simp only at hq
        exact .inr ⟨by omega, by omega⟩
      · rcases hk with hk | hk
        · have := hL.low k hk; omega
        · exact hk.2
  · go_wp2_with fail
    go_ret
    exact .inl ⟨⟨_, rfl, .inl ⟨_, rfl⟩⟩, HB1.out⟩
end Go.Proofs.YtklbbcemacpimaaGreatDoor.I

namespace Go.Proofs.YtklbbcemacpimaaGreatDoor.I
open Go Go.Maps Go.Proofs Go.RowKit

/-- The list's own row. -/
theorem LIn.cur {own : Nat → Prop} {w : World} {b next many n cp : Nat} {es : Es} {ao : Option Addr} {vs : List Value} (h : LIn own w b next many es (.slice ao n cp) vs) (h0 : es ≠ []) :
    ∃ g cur, ao = some ⟨g, 0, none⟩ ∧ n = es.length ∧ w.heap[g]? = some (.cells cur 67 (0, 0)) ∧ n ≤ cp ∧ cp ≤ maxLen ∧ cur.size = cp * 4 ∧ cur.toList.take (n * 4) = B.entCells es vs := by
  have hl : 0 < es.length := List.length_pos_iff.2 h0
  rcases h.row.2 with ⟨-, h1⟩ | ⟨g, cap, cur, h1, h2, h3, h4, h5, h6, h7⟩
  · omega
  · injection h1 with e1 e2 e3
    subst e1
    subst e2
    subst e3
    exact ⟨g, cur, rfl, rfl, h3, h4, h5, h6, h7⟩
/-- What list.Delete leaves. -/
def DeleP (own : Nat → Prop) (b next many : Nat) (es : Es) (id : Int) (w : World) (e : Ending) (w' : World) : Prop :=
  (e = .returned (.iface 94 (.int .i64 7)) ∧ (id < 1 ∨ ∀ x ∈ es, (x.2 : Int) ≠ id) ∧ Below w.heap.size w w') ∨
  (e = .returned .nilIface ∧ Upd own w w' ∧ ∃ i x ve vs, es[i]? = some x ∧ (x.2 : Int) = id ∧ 0 < x.2 ∧ LIn own w' b next (many - 1) (spl es i (i + 1) []) ve vs)
set_option maxRecDepth 100000 in
set_option maxHeartbeats 6400000 in
theorem dele_any (own : Nat → Prop) (w : World) (b next many : Nat) (es : Es) (ve : Value) (vs : List Value) (h : LIn own w b next many es ve vs) (hlen : es.length ≤ 1000000) (hm1 : ∀ x ∈ es, 0 < x.2 → 1 ≤ many) (hm2 : many ≤ 1000000) (id : Int) :
    Calls Tryz.prog 18 #[.pointer (some ⟨b, 0, none⟩), .int .i64 id] w (DeleP own b next many es id w) := by
  have CA := Lib.hid (at_any own w b next many es ve vs h hlen id)
  have HL := Lib.hid h
  have HM := Lib.hid hm1
  clear h hm1
  go_enter Tryz.func18, Tryz.ntmps18
  go_wp2_with fail
  refine CA.out.mono ?_
  rintro e w1 ⟨hp, hb1⟩
  have HB1 := Lib.hid hb1
  clear hb1 CA
  rcases hp with ⟨i, x, hx, hxi, hx0, rfl⟩ | ⟨hno, rfl⟩
  · have HX := Lib.hid (And.intro hx (And.intro hxi hx0))
    have hi : i < es.length := (List.getElem?_eq_some_iff.1 hx).1
    have hmp : 1 ≤ many := HM.out x (List.mem_iff_getElem?.2 ⟨i, hx⟩) hx0
    obtain ⟨m', rfl⟩ : ∃ m', many = m' + 1 := ⟨many - 1, by omega⟩
    have hL1 := HL.out.below HB1.out
    obtain ⟨ao, cp, hve⟩ := own_shape HL.out.row
    subst hve
    obtain ⟨ge, cur, rfl, -, k3, k4, k5, k6, k7⟩ := hL1.cur (fun e => by rw [e] at hi; exact absurd hi (Nat.not_lt_zero _))
    have DA := Lib.hid (del_any ge es.length cp i cur w1 k3 hi k4 k6 (by rw [k7]; exact hL1.one))
    rw [k7] at DA
    have hbl : w1.heap[b]? = some (.cells #[.slice (some ⟨ge, 0, none⟩) es.length cp, .int .i64 next, .int .i64 ((m' + 1 : Nat) : Int)] 63 (0, 0)) := hL1.blk
    obtain ⟨c0, c1, c2⟩ := cells3' hbl
    have hbne : b ≠ ge := fun e => ty_ne_b hL1.row hL1.blk (by decide) (by rw [e]; rfl)
    have hw1 : IntKind.i64.wrap ((i : Int) + 1) = (i : Int) + 1 := by rw [IntKind.wrap_i64]; omega
    have HL1 := Lib.hid hL1
    clear hx hxi hx0 k3 k7 k6 k4 k5 hL1 hmp
    go_wp2_with fail
    refine DA.out.mono ?_
    rintro e w2 ⟨rfl, ⟨cur', j1, j2, j3⟩, hu⟩
    have hbl2 : w2.heap[b]? = some (.cells #[.slice (some ⟨ge, 0, none⟩) es.length cp, .int .i64 next, .int .i64 ((m' + 1 : Nat) : Int)] 63 (0, 0)) := (hu.block b (Array.getElem?_eq_some_iff.1 hbl).1 hbne).trans hbl
    obtain ⟨p0, p1, p2⟩ := cells3' hbl2
    obtain ⟨f0, f2⟩ : w2.frozen? ⟨b, 0, none⟩ = false ∧ w2.frozen? ⟨b, 2, none⟩ = false := ⟨by simp [World.frozen?, hbl2], by simp [World.frozen?, hbl2]⟩
    have hbl3 : b < w2.heap.size := (Array.getElem?_eq_some_iff.1 hbl2).1
    have HBL := Lib.hid hbl2
    have HU := Lib.hid hu
    have HJ := Lib.hid (And.intro j1 (And.intro j2 j3))
    clear DA hbl hbl2 hu j1 j2 j3 c0 c1 c2
    go_wp2_with fail
    obtain ⟨W, hW⟩ : ∃ W, (w2.setCell ⟨b, 0, none⟩ (.slice (some ⟨ge, 0, none⟩) (es.length - 1) cp)).setCell ⟨b, 2, none⟩ (.int .i64 m') = W := ⟨_, rfl⟩
    rw [hW]
    refine bodyPost_ret (v := .nilIface) (by simp [results, Tryz.results18, go_sem]) rfl ?_
    have hL := HL.out
    obtain ⟨hx, hxi, hx0⟩ := HX.out
    obtain ⟨j1, j2, j3⟩ := HJ.out
    have hob : own ge := hL.orow ge rfl
    have hgl := hL.low ge hob
    have hU := HU.out
    have hz1 := HB1.out.size
    have hz2 := hU.size
    have hWk : ∀ k, k ≠ b → W.heap[k]? = w2.heap[k]? := fun k hk => by
      rw [← hW]
      exact (Below.heap_setCell _ _ _ _ hk).trans (Below.heap_setCell _ _ _ _ hk)
    have hWz : W.heap.size = w2.heap.size := by rw [← hW]; simp
    have hWb : W.heap[b]? = some (.cells #[.slice (some ⟨ge, 0, none⟩) (es.length - 1) cp, .int .i64 next, .int .i64 m'] 63 (0, 0)) := by
      rw [← hW]
      have := blk_set (o := 2) (x := .int .i64 m') (blk_set (o := 0) (x := .slice (some ⟨ge, 0, none⟩) (es.length - 1) cp) HBL.out)
      simpa using this
    have hWB : ∀ k, k < w.heap.size → k ≠ ge → k ≠ b → W.heap[k]? = w.heap[k]? := fun k hk hk2 hk3 => (hWk k hk3).trans ((hU.block k (by omega) hk2).trans (HB1.out.block k hk))
    have hUp : Upd own w W := by
      refine ⟨?_, ?_, ?_, by omega, fun k hk hk2 => hWB k hk (fun e => hk2 (by rw [e]; exact hob)) (fun e => hk2 (by rw [e]; exact hL.ob))⟩
      · rw [← hW]; exact hU.os.trans HB1.out.os
      · rw [← hW]; exact hU.tape.trans HB1.out.tape
      · rw [← hW]; exact hU.output.trans HB1.out.output
    have hl1 : (spl es i (i + 1) ([] : Es)).length = es.length - 1 := by rw [spl_len _ _ _ _ (by omega) (by omega)]; simp only [List.length_nil]; omega
    refine .inr ⟨rfl, hUp, i, x, .slice (some ⟨ge, 0, none⟩) (es.length - 1) cp, spl vs i (i + 1) [], hx, hxi, hx0, ?_⟩
    refine hL.splice (own' := own) (Nat.le_succ i) rfl (fun u hu q hq => ?_) hWb ?_ (fun p hp => by simp at hp) List.Pairwise.nil (fun u hu => by simp at hu) (fun k hk => hk) (fun q hq => ?_) (fun u hu => by simp at hu) (fun k hk => ?_)
    · obtain ⟨j, hj⟩ := List.mem_iff_getElem?.1 hu
      have hjo := hL.ofs j u q hj hq
      obtain ⟨y, hy⟩ : ∃ y, es[j]? = some y := ⟨_, List.getElem?_eq_getElem (by rw [← hL.len]; exact (List.getElem?_eq_some_iff.1 hj).1)⟩
      refine hWB q (hL.low q hjo) (fun e => ?_) (fun e => ?_)
      · exact ty_ne hL.row (hL.its j u y hj hy) (by decide) (g := ge) rfl (by rw [← e]; exact hq)
      · exact ty_ne_b (hL.its j u y hj hy) hL.blk (by decide) (by rw [← e]; exact hq)
    · rw [hl1]
      refine ⟨by rw [ent_len (by rw [hl1]; unfold spl; simp [hL.len]; omega), hl1], .inr ⟨ge, cp, cur', rfl, Nat.zero_le _, (hWk ge (fun e => hbne e.symm)).trans j1, ?_, ?_, j2, ?_⟩⟩
      · have := hL.row.2
        rcases this with ⟨h0, -⟩ | ⟨g', cap, cu, h0, -, -, h3, -⟩
        · cases h0
        · injection h0 with e1 e2 e3
          omega
      · have := hL.row.2
        rcases this with ⟨h0, -⟩ | ⟨g', cap, cu, h0, -, -, h3, h4, -⟩
        · cases h0
        · injection h0 with e1 e2 e3
          omega
      · rw [j3, ent_spl hL.len rfl]
        rfl
    · injection hq with hq
      rw [← hq]; exact hob
    · have := hL.low k hk; omega
  · go_wp2_with fail
    go_ret
    exact .inl ⟨rfl, hno, HB1.out⟩
end Go.Proofs.YtklbbcemacpimaaGreatDoor.I

namespace Go.Proofs.YtklbbcemacpimaaGreatDoor.I
open Go Go.Maps Go.Proofs Go.RowKit

/-- What list.Insert leaves. -/
def InseP (own : Nat → Prop) (b next many : Nat) (es : Es) (fs : List Fld) (w : World) (e : Ending) (w' : World) : Prop :=
  ((∃ u, e = .returned (.tuple #[.int .i64 0, u]) ∧ IsErr u) ∧ Below w.heap.size w w') ∨
  (e = .returned (.tuple #[.int .i64 next, .nilIface]) ∧ fs ≠ [] ∧ Upd own w w' ∧ ∃ j raw ve vs, j ≤ es.length ∧
    LIn (fun k => own k ∨ (w.heap.size ≤ k ∧ k < w'.heap.size)) w' b (next + 1) (many + 1) (spl es j j [(⟨3, raw, ofFs fs⟩, next)]) ve vs)
theorem inse_end {own : Nat → Prop} {w w1 w2 w3 w4 w5 W : World} {b next many cp N g fc g' cp' j : Nat} {es : Es} {ao : Option Addr} {vs : List Value} {s : ByteArray} {fs : List Fld} (hL : LIn own w b next many es (.slice ao es.length cp) vs) (hz1 : w.heap.size ≤ w1.heap.size) (HB3 : Below w.heap.size w w3) (hb4 : Below w3.heap.size w3 w4)
    (hw3 : w2.alloc (.cells #[.int .i64 3, .string s, .slice (some ⟨g, 0, none⟩) fs.length fc] 65) = w3) (hN : w2.heap.size = N) (hL4 : LIn own w4 b next many es (.slice ao es.length cp) vs) (ho : w2.ownsRow w1.heap.size 57 2 (.slice (some ⟨g, 0, none⟩) fs.length fc) fs.length (fs.flatMap fdc)) (hg1 : w1.heap.size ≤ g) (hg2 : g < w2.heap.size) (hne : fs ≠ [])
    (hi : InsP (.slice ao es.length cp) es.length 1 j (B.entCells es vs) [.int .i64 3, .string s, .slice (some ⟨g, 0, none⟩) fs.length fc, .int .i64 next] w4 (.returned (.slice (some ⟨g', 0, none⟩) (es.length + 1) cp')) w5)
    (hb5 : w5.heap[b]? = some (.cells #[.slice ao es.length cp, .int .i64 next, .int .i64 many] 63 (0, 0))) (hjl : j ≤ es.length)
    (hW : ((w5.setCell ⟨b, 0, none⟩ (.slice (some ⟨g', 0, none⟩) (es.length + 1) cp')).setCell ⟨b, 1, none⟩ (.int .i64 ((next : Int) + 1))).setCell ⟨b, 2, none⟩ (.int .i64 ((many : Int) + 1)) = W) :
    InseP own b next many es fs w (.returned (.tuple #[.int .i64 next, .nilIface])) W := by
  obtain ⟨g0, cp0, e0, hrow, hgr, hat⟩ := hi
  injection e0 with e0
  injection e0 with e1 e2 e3
  injection e1 with e1
  injection e1 with e1
  subst e1
  subst e3
  clear e2
  have hz3 := HB3.size
  have hz4 := hb4.size
  have hz5 := hgr.size
  have hWz : W.heap.size = w5.heap.size := by rw [← hW]; simp
  have hlt2 : w2.heap.size < w3.heap.size := by rw [← hw3]; simp
  have hWk : ∀ k, k ≠ b → W.heap[k]? = w5.heap[k]? := fun k hk => by
    rw [← hW]
    exact (Below.heap_setCell _ _ _ _ hk).trans ((Below.heap_setCell _ _ _ _ hk).trans (Below.heap_setCell _ _ _ _ hk))
  have hWb : W.heap[b]? = some (.cells #[.slice (some ⟨g', 0, none⟩) (es.length + 1) cp', .int .i64 ((next + 1 : Nat) : Int), .int .i64 ((many + 1 : Nat) : Int)] 63 (0, 0)) := by
    rw [← hW]
    exact set3 hb5
  have hB4 : ∀ k, k < w.heap.size → w4.heap[k]? = w.heap[k]? := fun k hk => (hb4.block k (by omega)).trans (HB3.block k hk)
  have hWB : ∀ k, k < w.heap.size → (Value.slice ao es.length cp).ownBlock ≠ some k → k ≠ b → W.heap[k]? = w.heap[k]? := fun k hk hk3 hkb => (hWk k hkb).trans ((hgr.block k (by omega) (fun e => hk3 e.symm)).trans (hB4 k hk))
  have hUp : Upd own w W := by
    refine ⟨?_, ?_, ?_, by omega, fun k hk hk2 => hWB k hk (fun e => hk2 (hL.orow k e)) (fun e => hk2 (by rw [e]; exact hL.ob))⟩
    · rw [← hW]; exact hgr.os.trans (hb4.os.trans HB3.os)
    · rw [← hW]; exact hgr.tape.trans (hb4.tape.trans HB3.tape)
    · rw [← hW]; exact hgr.output.trans (hb4.output.trans HB3.output)
  have hgnb : g' ≠ b := fun e => by
    rcases hat with h | h
    · exact ty_ne_b hL.row hL.blk (by decide) (by rw [← e]; exact h)
    · have := hL4.low b hL4.ob; omega
  have hg5 : g' < w5.heap.size := by
    exact (World.ownsRow.lt hrow g' rfl).2
  have hl1 : (spl es j j [((⟨3, s.data.toList, ofFs fs⟩ : B.It), next)]).length = es.length + 1 := by rw [spl_len _ _ _ _ hjl hjl]; simp only [List.length_cons, List.length_nil]; omega
  refine .inr ⟨rfl, hne, hUp, j, s.data.toList, .slice (some ⟨g', 0, none⟩) (es.length + 1) cp', spl vs j j [.slice (some ⟨g, 0, none⟩) fs.length fc], hjl, ?_⟩
  refine hL.splice (own' := fun k => own k ∨ (w.heap.size ≤ k ∧ k < W.heap.size)) (Nat.le_refl j) rfl (fun u hu q hq => ?_) hWb ?_ (fun p hp => ?_) (List.pairwise_singleton _ _) (fun u hu q hq => ?_) (fun k hk => .inl hk) (fun q hq => ?_) (fun u hu q hq => ?_) (fun k hk => ?_)
  · obtain ⟨i, hi⟩ := List.mem_iff_getElem?.1 hu
    have hjo := hL.ofs i u q hi hq
    obtain ⟨y, hy⟩ : ∃ y, es[i]? = some y := ⟨_, List.getElem?_eq_getElem (by rw [← hL.len]; exact (List.getElem?_eq_some_iff.1 hi).1)⟩
    exact hWB q (hL.low q hjo) (fun e => ty_ne hL.row (hL.its i u y hi hy) (by decide) e hq) (fun e => ty_ne_b (hL.its i u y hi hy) hL.blk (by decide) (by rw [← e]; exact hq))
  · rw [hl1, ent_spl hL.len rfl]
    have h6 : B.entCells [((⟨3, s.data.toList, ofFs fs⟩ : B.It), next)] [Value.slice (some ⟨g, 0, none⟩) fs.length fc] = [.int .i64 3, .string s, .slice (some ⟨g, 0, none⟩) fs.length fc, .int .i64 next] := by
      show [Value.int .i64 3, .string ⟨s.data.toList.toArray⟩, .slice (some ⟨g, 0, none⟩) fs.length fc, .int .i64 next] = _
      rw [show (⟨s.data.toList.toArray⟩ : ByteArray) = s from Lib.mk_data s]
    rw [h6, ← List.append_assoc]
    exact own_zero hrow (hWk g' hgnb) (Nat.zero_le _)
  · simp only [List.zip_cons_cons, List.zip_nil_right, List.mem_singleton] at hp
    subst hp
    show W.ownsRow 0 _ 2 _ (ofFs fs).length ((ofFs fs).flatMap B.Fd.cells)
    rw [ofFs_len, ofFs_cells]
    refine own_zero ho ?_ (Nat.zero_le _)
    have hbl := hL.low b hL.ob
    rw [hWk g (by omega), hgr.block g (by omega) (fun e => ?_), hb4.block g (by omega), ← hw3]
    · exact (below_grow1 w2 _).block g hg2
    · have := hL.low g (hL.orow g e.symm)
      omega
  · rw [List.mem_singleton.1 hu] at hq
    injection hq with hq
    simp only at hq
    omega
  · injection hq with hq
    simp only at hq
    subst hq
    rcases hat with h | h
    · exact .inl (hL.orow g' h)
    · exact .inr ⟨by omega, by omega⟩
  · rw [List.mem_singleton.1 hu] at hq
    injection hq with hq
    simp only at hq
    exact .inr ⟨by omega, by omega⟩
  · rcases hk with hk | hk
    · have := hL.low k hk; omega
    · exact hk.2
set_option maxRecDepth 100000 in
set_option maxHeartbeats 6400000 in
theorem inse_any (own : Nat → Prop) (w : World) (b next many : Nat) (es : Es) (ve : Value) (vs : List Value) (h : LIn own w b next many es ve vs) (hlen : es.length ≤ 999999) (hm : many ≤ 1000000) (hnx : next ≤ 1000000) (behind : Int) (v : Value) (fs : List Fld) (hF : FldsAt w v fs) (hn : fs.length ≤ 100) (hr : Rdy w) :
    Calls Tryz.prog 20 #[.pointer (some ⟨b, 0, none⟩), .int .i64 behind, v] w (InseP own b next many es fs w) := by
  have CA := Lib.hid (at_any own w b next many es ve vs h (by omega) behind)
  have HL := Lib.hid h
  have HF := Lib.hid hF
  have HR := Lib.hid hr
  clear h hF hr
  go_enter Tryz.func20, Tryz.ntmps20
  go_wp2_with fail
  refine CA.out.mono ?_
  rintro e w1 ⟨hp, hb1⟩
  have HB1 := Lib.hid hb1
  have IT := Lib.hid (item_any v fs w1 (flds_below HF.out hb1) hn (HR.out.stays hb1))
  clear hb1 CA
  have hp' : (∃ (p : Int) (j : Nat), e = .returned (.int .i64 p) ∧ p + 1 = (j : Int) ∧ j ≤ es.length ∧ p < 1000000 ∧ ((¬ p < 0) ∨ (p < 0 ∧ behind = 0))) ∨ (e = .returned (.int .i64 (-1)) ∧ ¬ behind = 0) := by
    rcases hp with ⟨i, x, hx, hxi, hx0, rfl⟩ | ⟨hno, rfl⟩
    · have := (List.getElem?_eq_some_iff.1 hx).1
      exact .inl ⟨i, i + 1, rfl, by omega, by omega, by omega, .inl (by omega)⟩
    · by_cases h0 : behind = 0
      · exact .inl ⟨-1, 0, rfl, rfl, Nat.zero_le _, by omega, .inr ⟨by omega, h0⟩⟩
      · exact .inr ⟨rfl, h0⟩
  clear hp
  rcases hp' with ⟨p, j, rfl, hpj, hjl, hp1, hcase⟩ | ⟨rfl, h0⟩
  · have hp2 : -1 ≤ p := by omega
    rcases hcase with hp0 | ⟨hp0, h0⟩
    all_goals
      go_wp2_with fail
      refine IT.out.mono ?_
      rintro e w2 ⟨hp, hb2⟩
      have HB2 := Lib.hid (HB1.out.trans (hb2.mono HB1.out.size))
      have hz1 := HB1.out.size
      clear IT
      rcases hp with ⟨x1, u, rfl, rfl, hu⟩ | ⟨s, g, fc, rfl, ho, hg1, hg2, hne⟩
      · have HU := Lib.hid hu
        clear hb2
        rcases hu with ⟨c, rfl⟩ | ⟨g2, rfl⟩
        all_goals
          go_wp2_with fail
          exact bodyPost_ret (v := .tuple #[.int .i64 0, _]) (by simp [results, Tryz.results20, go_sem]) rfl (.inl ⟨⟨_, rfl, HU.out⟩, HB2.out.alloc HB2.out.size _⟩)
      · obtain ⟨N, hN⟩ : ∃ N, w2.heap.size = N := ⟨_, rfl⟩
        obtain ⟨w3, hw3⟩ : ∃ w3, w2.alloc (.cells #[.int .i64 3, .string s, .slice (some ⟨g, 0, none⟩) fs.length fc] 65) = w3 := ⟨_, rfl⟩
        have hb3 : Below w2.heap.size w2 w3 := by rw [← hw3]; exact below_grow1 w2 _
        have hL3 := HL.out.below (HB2.out.trans (hb3.mono HB2.out.size))
        obtain ⟨c0, c1, c2⟩ := cells3' hL3.blk
        by_cases hfull : (400 : Int) ≤ (many : Int)
        · clear hb2 hL3 ho hg1 hg2 hb3
          go_wp2_with fail
          exact bodyPost_ret (v := .tuple #[.int .i64 0, .iface 94 (.int .i64 11)]) (by simp [results, Tryz.results20, go_sem]) rfl (.inl ⟨⟨_, rfl, .inl ⟨11, rfl⟩⟩, by rw [← hw3]; exact HB2.out.alloc HB2.out.size _⟩)
        · obtain ⟨ao, cp, hve⟩ := own_shape HL.out.row
          subst hve
          have g3 : w3.heap[N]? = some (.cells #[.int .i64 3, .string s, .slice (some ⟨g, 0, none⟩) fs.length fc] 65 (0, 0)) := by rw [← hw3, ← hN]; exact heap_alloc_new w2 _
          obtain ⟨q0, q1, q2⟩ := cells3' g3
          obtain ⟨p0, p1, p2⟩ := cells3' (show w3.drew.heap[N]? = _ from g3)
          have c0' : w3.drew.cell? ⟨b, 0, none⟩ = some (.slice ao es.length cp) := c0
          have hpw : IntKind.i64.wrap (j : Int) = (j : Int) := by rw [IntKind.wrap_i64]; omega
          obtain ⟨w4, hw4⟩ : ∃ w4, (w3.alloc (.cells #[.int .i64 3, .string s, .slice (some ⟨g, 0, none⟩) fs.length fc, .int .i64 next] 67)).drew = w4 := ⟨_, rfl⟩
          obtain ⟨M, hM⟩ : ∃ M, w3.heap.size = M := ⟨_, rfl⟩
          have hb4 : Below w3.heap.size w3 w4 := by rw [← hw4]; exact (below_grow1 w3 _).drew
          have g4 : w4.heap[M]? = some (.cells #[.int .i64 3, .string s, .slice (some ⟨g, 0, none⟩) fs.length fc, .int .i64 next] 67 (0, 0)) := by rw [← hw4, ← hM]; exact heap_alloc_new w3 _
          have hL4 := hL3.below hb4
          have c0'' : w4.cell? ⟨b, 0, none⟩ = some (.slice ao es.length cp) := (cells3' hL4.blk).1
          have hMo : (Value.slice ao es.length cp).ownBlock ≠ some M := fun e => by
            have := hL3.low M (hL3.orow M e)
            omega
          have INS : Hid (Calls Tryz.prog 40 #[.slice ao es.length cp, .int .i64 j, .slice (some ⟨M, 0, none⟩) 1 1] w4 fun e w5 => ∃ g' cp', e = .returned (.slice (some ⟨g', 0, none⟩) (es.length + 1) cp') ∧ Hid (InsP (.slice ao es.length cp) es.length 1 j (B.entCells es vs) [.int .i64 3, .string s, .slice (some ⟨g, 0, none⟩) fs.length fc, .int .i64 next] w4 (.returned (.slice (some ⟨g', 0, none⟩) (es.length + 1) cp')) w5) ∧ Hid (w5.heap[b]? = some (.cells #[.slice ao es.length cp, .int .i64 next, .int .i64 many] 63 (0, 0))) ∧ w5.cell? ⟨b, 0, none⟩ = some (.slice ao es.length cp) ∧ w5.cell? ⟨b, 1, none⟩ = some (.int .i64 next) ∧ w5.cell? ⟨b, 2, none⟩ = some (.int .i64 many) ∧ w5.frozen? ⟨b, 0, none⟩ = false ∧ w5.frozen? ⟨b, 1, none⟩ = false ∧ w5.frozen? ⟨b, 2, none⟩ = false ∧ b < w5.heap.size) := Lib.hid (by
            refine (ins_any (.slice ao es.length cp) es.length j M 1 (B.entCells es vs) [.int .i64 3, .string s, .slice (some ⟨g, 0, none⟩) fs.length fc, .int .i64 next] _ w4 hL4.row hL4.one hjl (by omega) g4 hMo rfl rfl (by
              intro u hu
              simp only [List.mem_cons, List.mem_nil_iff, or_false] at hu
              rcases hu with rfl | rfl | rfl | rfl <;> rfl)).mono ?_
            rintro e w5 ⟨g', cp', rfl, h1, h2, h3⟩
            have hbl : b < w4.heap.size := hL4.low b hL4.ob
            have hb5 := (h2.block b hbl (fun e => ty_ne_b hL4.row hL4.blk (by decide) e.symm)).trans hL4.blk
            refine ⟨g', cp', rfl, Lib.hid ⟨g', cp', rfl, h1, h2, h3⟩, Lib.hid hb5, (cells3' hb5).1, (cells3' hb5).2.1, (cells3' hb5).2.2, by simp [World.frozen?, hb5], by simp [World.frozen?, hb5], by simp [World.frozen?, hb5], Nat.lt_of_lt_of_le hbl h2.size⟩)
          have HL4 := Lib.hid hL4
          have HB3 := Lib.hid (HB2.out.trans (hb3.mono HB2.out.size))
          have HB4 := Lib.hid hb4
          have HO := Lib.hid (And.intro ho (And.intro hg1 (And.intro hg2 hne)))
          have HG4 := Lib.hid g4
          clear hb2 hL3 ho hg1 hg2 hb3 hne g3 hL4 hb4 hMo g4
          go_wp2_with fail
          go_region_with (go_at_call 40; refine INS.out.mono ?_; rintro e w5 ⟨g', cp', rfl, hi5, hb5, s0, s1, s2, s3, s4, s5, s6⟩)
          all_goals
            go_wp2_with fail
            obtain ⟨W, hW⟩ : ∃ W, ((w5.setCell ⟨b, 0, none⟩ (.slice (some ⟨g', 0, none⟩) (es.length + 1) cp')).setCell ⟨b, 1, none⟩ (.int .i64 ((next : Int) + 1))).setCell ⟨b, 2, none⟩ (.int .i64 ((many : Int) + 1)) = W := ⟨_, rfl⟩
            rw [hW]
            refine bodyPost_ret (v := .tuple #[.int .i64 next, .nilIface]) (by simp [results, Tryz.results20, go_sem]) rfl ?_
            exact inse_end (w1 := w1) (w2 := w2) (w3 := w3) (w4 := w4) (w5 := w5) (W := W) HL.out HB1.out.size HB3.out HB4.out hw3 hN HL4.out HO.out.1 HO.out.2.1 HO.out.2.2.1 HO.out.2.2.2 hi5.out hb5.out hjl hW
  · go_wp2_with fail
    exact bodyPost_ret (v := .tuple #[.int .i64 0, .iface 94 (.int .i64 7)]) (by simp [results, Tryz.results20, go_sem]) rfl (.inl ⟨⟨_, rfl, .inl ⟨7, rfl⟩⟩, HB1.out⟩)
end Go.Proofs.YtklbbcemacpimaaGreatDoor.I
