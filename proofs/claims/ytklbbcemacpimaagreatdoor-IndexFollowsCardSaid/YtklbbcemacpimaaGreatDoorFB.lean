/- A list in memory that is edited; where a stanza stands: list.at. slices.Delete of one entry of a list. slices.Insert of entries of a list. An edited list: entries are put between, or taken out. -/
import Derived.Test.YtklbbcemacpimaaGreatDoorFA
import Derived.Test.YtklbbcemacpimaaGreatDoorIOf
import Derived.BigQuiet
import Derived.Deep.RegionLaw
import Derived.Lib.SliceRun
import Derived.Lib.Overlaps
import Derived.Lib.AppendZerosOnto
import Derived.Laws.NewBlocks
namespace Go.Proofs.YtklbbcemacpimaaGreatDoor.I
open Go Go.Maps Go.Proofs Go.RowKit

abbrev Es := List (B.It × Nat)
/-- A list in memory: its block, its entries' row, their fields' rows; all of it own. -/
structure LIn (own : Nat → Prop) (w : World) (b next many : Nat) (es : Es) (ve : Value) (vs : List Value) : Prop where
  blk : w.heap[b]? = some (.cells #[ve, .int .i64 next, .int .i64 many] 63 (0, 0))
  row : w.ownsRow 0 67 4 ve es.length (B.entCells es vs)
  len : vs.length = es.length
  its : ∀ (i : Nat) u e, vs[i]? = some u → es[i]? = some e → w.ownsRow 0 57 2 u e.1.fields.length (e.1.fields.flatMap B.Fd.cells)
  inj : ∀ (i j : Nat) u u' g, vs[i]? = some u → vs[j]? = some u' → u.ownBlock = some g → u'.ownBlock = some g → i = j
  ob : own b
  orow : ∀ g, ve.ownBlock = some g → own g
  ofs : ∀ (i : Nat) u g, vs[i]? = some u → u.ownBlock = some g → own g
  low : ∀ k, own k → k < w.heap.size
theorem LIn.keep {own : Nat → Prop} {w w' : World} {b next many : Nat} {es : Es} {ve : Value} {vs : List Value} (h : LIn own w b next many es ve vs) (hk : ∀ k, own k → w'.heap[k]? = w.heap[k]?) (hs : w.heap.size ≤ w'.heap.size) : LIn own w' b next many es ve vs where
  blk := (hk b h.ob).trans h.blk
  row := B.ownsRow_of_block h.row fun g hg => hk g (h.orow g hg)
  len := h.len
  its := fun i u e hu he => B.ownsRow_of_block (h.its i u e hu he) fun g hg => hk g (h.ofs i u g hu hg)
  inj := h.inj
  ob := h.ob
  orow := h.orow
  ofs := h.ofs
  low := fun k hk' => Nat.lt_of_lt_of_le (h.low k hk') hs
theorem LIn.below {own : Nat → Prop} {w w' : World} {b next many : Nat} {es : Es} {ve : Value} {vs : List Value} (h : LIn own w b next many es ve vs) (hb : Below w.heap.size w w') : LIn own w' b next many es ve vs := h.keep (fun k hk => hb.block k (h.low k hk)) hb.size
/-- A list that Of has made. -/
theorem LIn.of {w : World} {ρ : B.Col} {b next many : Nat} {es : Es} {ve : Value} {vs : List Value} (h : B.ListAt w ρ b es next many ve vs) : LIn (fun k => ρ k ≠ none) w b next many es ve vs where
  blk := h.blk.1
  row := h.row.1
  len := h.len
  its := fun i u e hu he => (h.its i u e hu he).1
  inj := fun i j u u' g hu hu' e e' => by
    obtain ⟨x, hx⟩ : ∃ x, es[i]? = some x := ⟨_, List.getElem?_eq_getElem (by rw [← h.len]; exact (List.getElem?_eq_some_iff.1 hu).1)⟩
    obtain ⟨x', hx'⟩ : ∃ x, es[j]? = some x := ⟨_, List.getElem?_eq_getElem (by rw [← h.len]; exact (List.getElem?_eq_some_iff.1 hu').1)⟩
    have h1 := (h.its i u x hu hx).2 g e
    have h2 := (h.its j u' x' hu' hx').2 g e'
    rw [h1] at h2
    injection h2 with h2
    omega
  ob := by rw [h.blk.2]; simp
  orow := fun g hg => by rw [h.row.2 g hg]; simp
  ofs := fun i u g hu hg => by
    obtain ⟨x, hx⟩ : ∃ x, es[i]? = some x := ⟨_, List.getElem?_eq_getElem (by rw [← h.len]; exact (List.getElem?_eq_some_iff.1 hu).1)⟩
    rw [(h.its i u x hu hx).2 g hg]; simp
  low := h.fits
theorem ty_ne {w : World} {base base' : Nat} {T T' : TypeId} {sz sz' n n' : Nat} {u u' : Value} {xs xs' : List Value} (h : w.ownsRow base T sz u n xs) (h' : w.ownsRow base' T' sz' u' n' xs') (hT : T ≠ T') {g : Nat} (e : u.ownBlock = some g) (e' : u'.ownBlock = some g) : False := by
  rcases h.2 with ⟨h0, _⟩ | ⟨g1, c1, cur1, hv1, _, hg1, _⟩
  · rw [h0] at e; cases e
  · rcases h'.2 with ⟨h0, _⟩ | ⟨g2, c2, cur2, hv2, _, hg2, _⟩
    · rw [h0] at e'; cases e'
    · rw [hv1] at e
      rw [hv2] at e'
      have q1 : g1 = g := by simpa [Value.ownBlock] using e
      have q2 : g2 = g := by simpa [Value.ownBlock] using e'
      subst q1
      subst q2
      rw [hg1] at hg2
      injection hg2 with k1
      injection k1 with _ k2 _
      exact hT k2
theorem ty_ne_b {w : World} {base : Nat} {T T' : TypeId} {sz n b : Nat} {u : Value} {xs : List Value} {cs : Array Value} (h : w.ownsRow base T sz u n xs) (h' : w.heap[b]? = some (.cells cs T' (0, 0))) (hT : T ≠ T') : u.ownBlock ≠ some b := by
  intro e
  rcases h.2 with ⟨h0, _⟩ | ⟨g1, c1, cur1, hv1, _, hg1, _⟩
  · rw [h0] at e; cases e
  · rw [hv1] at e
    have q1 : g1 = b := by simpa [Value.ownBlock] using e
    subst q1
    rw [hg1] at h'
    injection h' with k1
    injection k1 with _ k2 _
    exact hT k2
open Classical in
/-- As the base has it. -/
theorem LIn.listAt {own : Nat → Prop} {w : World} {b next many : Nat} {es : Es} {ve : Value} {vs : List Value} (h : LIn own w b next many es ve vs) : ∃ ρ, B.ListAt w ρ b es next many ve vs ∧ ∀ k, ρ k ≠ none → own k := by
  obtain ⟨ρ, hρ⟩ : ∃ ρ : B.Col, ∀ g : Nat, ρ g = (if g = b then some 0 else if ve.ownBlock = some g then some 1 else if hx : ∃ (i : Nat) (u : Value), vs[i]? = some u ∧ u.ownBlock = some g then some (5 + hx.choose) else none) := ⟨fun g => _, fun _ => rfl⟩
  have hget : ∀ (i : Nat) u, vs[i]? = some u → ∃ e, es[i]? = some e := fun i u hu => ⟨_, List.getElem?_eq_getElem (by rw [← h.len]; exact (List.getElem?_eq_some_iff.1 hu).1)⟩
  have hnb : ∀ (i : Nat) u, vs[i]? = some u → u.ownBlock ≠ some b := fun i u hu => by
    obtain ⟨e, he⟩ := hget i u hu
    exact ty_ne_b (h.its i u e hu he) h.blk (by decide)
  have hnr : ve.ownBlock ≠ some b := ty_ne_b h.row h.blk (by decide)
  have hown : ∀ k, ρ k ≠ none → own k := fun k hk => by
    rw [hρ] at hk
    split at hk
    · rename_i e; rw [e]; exact h.ob
    split at hk
    · rename_i e; exact h.orow k e
    split at hk
    · rename_i e
      obtain ⟨i, u, hu, hg⟩ := e
      exact h.ofs i u k hu hg
    · exact absurd rfl hk
  refine ⟨ρ, ⟨⟨h.blk, by rw [hρ, if_pos rfl]⟩, ⟨h.row, fun g hg => ?_⟩, h.len, fun i u e hu he => ⟨h.its i u e hu he, fun g hg => ?_⟩, fun k hk => h.low k (hown k hk)⟩, hown⟩
  · rw [hρ, if_neg (fun e => hnr (by rw [← e]; exact hg)), if_pos hg]
  · have hx : ∃ (i : Nat) (u : Value), vs[i]? = some u ∧ u.ownBlock = some g := ⟨i, u, hu, hg⟩
    rw [hρ, if_neg (fun e' => hnb i u hu (by rw [← e']; exact hg)), if_neg (fun e' => ty_ne h.row (h.its i u e hu he) (by decide) e' hg), dif_pos hx]
    obtain ⟨u', hu', hg'⟩ := hx.choose_spec
    rw [h.inj hx.choose i u' u g hu' hu hg' hg]
/-- One entry's cells. -/
theorem LIn.get {own : Nat → Prop} {w : World} {b next many n cp : Nat} {es : Es} {ao : Option Addr} {vs : List Value} (h : LIn own w b next many es (.slice ao n cp) vs) {k : Nat} {e : B.It × Nat} (he : es[k]? = some e) :
    ∃ g uo uc, ao = some ⟨g, 0, none⟩ ∧ vs[k]? = some (.slice uo e.1.fields.length uc) ∧ w.cell? ⟨g, k * 4, none⟩ = some (.int .i64 e.1.kind) ∧ w.cell? ⟨g, k * 4 + 1, none⟩ = some (.string ⟨e.1.raw.toArray⟩) ∧ w.cell? ⟨g, k * 4 + 2, none⟩ = some (.slice uo e.1.fields.length uc) ∧ w.cell? ⟨g, k * 4 + 3, none⟩ = some (.int .i64 e.2) := by
  have hlt := (List.getElem?_eq_some_iff.1 he).1
  obtain ⟨u, hu⟩ : ∃ u, vs[k]? = some u := ⟨_, List.getElem?_eq_getElem (by rw [h.len]; exact hlt)⟩
  obtain ⟨g1, g2, g3, g4⟩ := B.entCells_get es vs k e u he hu
  obtain ⟨uo, uc, hus⟩ := own_shape (h.its k u e hu he)
  subst hus
  rcases h.row.2 with ⟨-, h0⟩ | ⟨g, cp', cur, hz, -⟩
  · omega
  · injection hz with z1 z2 z3
    subst z1
    have e1 := h.row.cells (g := g) rfl _ _ g1
    have e2 := h.row.cells (g := g) rfl _ _ g2
    have e3 := h.row.cells (g := g) rfl _ _ g3
    have e4 := h.row.cells (g := g) rfl _ _ g4
    rw [addr_add, Nat.zero_add] at e1 e2 e3 e4
    exact ⟨g, uo, uc, rfl, hu, e1, e2, e3, e4⟩
/-- What list.at answers. -/
def AtP (es : Es) (id : Int) (w : World) (e : Ending) (w' : World) : Prop :=
  ((∃ (i : Nat) (x : B.It × Nat), es[i]? = some x ∧ (x.2 : Int) = id ∧ 0 < x.2 ∧ e = .returned (.int .i64 i)) ∨ ((id < 1 ∨ ∀ x ∈ es, (x.2 : Int) ≠ id) ∧ e = .returned (.int .i64 (-1)))) ∧ Below w.heap.size w w'
set_option maxHeartbeats 1600000 in
theorem at1_any (k : Int) (s : ByteArray) (uo : Option Addr) (ul uc : Nat) (id : Nat) (n : Int) (kb : Nat) (W : World) (hk : W.cell? ⟨kb, 0, none⟩ = some (.int .i64 n)) :
    Calls Tryz.prog 56 #[.agg #[.int .i64 k, .string s, .slice uo ul uc, .int .i64 id], .pointer (some ⟨kb, 0, none⟩)] W fun e w' => e = .returned (.bool ((id : Int) == n)) ∧ Below W.heap.size W w' := by
  have hkl := World.block_lt_of_cell? _ _ hk
  have hkl' : kb < W.heap.size := hkl
  have k2 : (W.alloc (.cells #[.int .i64 k, .string s, .slice uo ul uc, .int .i64 id] 67)).cell? ⟨kb, 0, none⟩ = some (.int .i64 n) := ((below_grow1 W _).cell (p := ⟨kb, 0, none⟩) hkl).trans hk
  go_enter Tryz.func56, Tryz.ntmps56
  go_wp2
  go_ret
  exact ⟨rfl, below_grow1 _ _⟩
def IdxP (es : Es) (id : Int) (w : World) (e : Ending) (w' : World) : Prop :=
  ((∃ (i : Nat) (x : B.It × Nat), es[i]? = some x ∧ (x.2 : Int) = id ∧ e = .returned (.int .i64 i)) ∨ ((∀ x ∈ es, (x.2 : Int) ≠ id) ∧ e = .returned (.int .i64 (-1)))) ∧ Below w.heap.size w w'
set_option maxRecDepth 20000 in
set_option maxHeartbeats 3200000 in
theorem entIdx_any (own : Nat → Prop) (w : World) (b next many n0 : Nat) (es : Es) (vs : List Value) (ao : Option Addr) (cp : Nat) (h : LIn own w b next many es (.slice ao n0 cp) vs) (hn0 : n0 = es.length) (hlen : es.length ≤ 1000000) (n : Int) (kb : Nat) (hk : w.cell? ⟨kb, 0, none⟩ = some (.int .i64 n)) :
    Calls Tryz.prog 55 #[.slice ao n0 cp, .func (.func 56) #[] #[.pointer (some ⟨kb, 0, none⟩)]] w (IdxP es n w) := by
  have HL := Lib.hid h
  have HK := Lib.hid hk
  have HN0 := Lib.hid hn0
  have hlen0 : n0 ≤ 1000000 := by omega
  clear h hk hn0
  go_enter Tryz.func55, Tryz.ntmps55
  go_wp2
  go_loopw [8] (fun s W => ∃ k : Nat, s = .int .i64 k ∧ k ≤ n0 ∧ Hid (∀ q x, q < k → es[q]? = some x → (x.2 : Int) ≠ n) ∧ Hid (Below w.heap.size w W)) (fun s _ => n0 - (iOf s).toNat)
  case atStart => exact ⟨0, rfl, Nat.zero_le _, Lib.hid (fun q x h _ => by omega), Lib.hid (Below.refl _ _)⟩
  case round =>
    obtain ⟨k, rfl, hki, hNo, hW⟩ := hrel
    by_cases hkl : k < n0
    · obtain ⟨e, he⟩ : ∃ e, es[k]? = some e := ⟨_, List.getElem?_eq_getElem (by have := HN0.out; omega)⟩
      obtain ⟨g, uo, uc, rfl, -, e1, e2, e3, e4⟩ := (HL.out.below hW.out).get he
      have hkw := (hW.out.cell (p := ⟨kb, 0, none⟩) (World.block_lt_of_cell? _ _ HK.out)).trans HK.out
      have C := Lib.hid (at1_any e.1.kind ⟨e.1.raw.toArray⟩ uo e.1.fields.length uc e.2 n kb wr hkw)
      obtain ⟨id, hid⟩ : ∃ id, e.2 = id := ⟨_, rfl⟩
      rw [hid] at e4 C
      have HE := Lib.hid he
      have HID := Lib.hid hid
      have hzr := hW.out.size
      clear he hkw hid
      by_cases hn : (id : Int) = n
      · rw [show ((id : Int) == n) = true by rw [hn]; simp] at C
        have HNE := Lib.hid hn
        clear hn
        go_wp2_with fail
        refine C.out.mono ?_
        rintro e' w' ⟨rfl, hb⟩
        have HB := Lib.hid (hW.out.trans (hb.mono hzr))
        clear hb hW C
        go_wp2
        go_ret
        exact ⟨.inl ⟨k, e, HE.out, by rw [HID.out]; exact HNE.out, rfl⟩, HB.out⟩
      · rw [show ((id : Int) == n) = false by rw [beq_eq_false_iff_ne]; exact hn] at C
        have HNN : Hid (∀ q x, q < k + 1 → es[q]? = some x → (x.2 : Int) ≠ n) := Lib.hid fun q x hq hx => by
          rcases Nat.lt_or_ge q k with c | c
          · exact hNo.out q x c hx
          · have : q = k := by omega
            subst this
            have := HE.out
            rw [hx] at this
            injection this with this
            subst this
            rw [HID.out]; exact hn
        clear hn hNo
        go_wp2_with fail
        refine C.out.mono ?_
        rintro e' w' ⟨rfl, hb⟩
        have HB := Lib.hid (hW.out.trans (hb.mono hzr))
        clear hb hW C
        go_wp2
        exact ⟨⟨k + 1, by go_num, by omega, HNN, HB⟩, by simp [iOf]; omega⟩
    · have HNN : Hid (∀ x ∈ es, (x.2 : Int) ≠ n) := Lib.hid fun x hx => by
        obtain ⟨q, hq⟩ := List.mem_iff_getElem?.1 hx
        exact hNo.out q x (by have := (List.getElem?_eq_some_iff.1 hq).1; have := HN0.out; omega) hq
      clear hNo
      go_wp2
      go_ret
      exact ⟨.inr ⟨HNN.out, rfl⟩, hW.out⟩
set_option maxRecDepth 20000 in
set_option maxHeartbeats 3200000 in
theorem at_any (own : Nat → Prop) (w : World) (b next many : Nat) (es : Es) (ve : Value) (vs : List Value) (h : LIn own w b next many es ve vs) (hlen : es.length ≤ 1000000) (id : Int) :
    Calls Tryz.prog 36 #[.pointer (some ⟨b, 0, none⟩), .int .i64 id] w (AtP es id w) := by
  obtain ⟨ao, cp, hve⟩ := own_shape h.row
  subst hve
  obtain ⟨w1, hw1⟩ : ∃ w1, w.alloc (.cells #[.int .i64 id] 3) = w1 := ⟨_, rfl⟩
  have hb1 : Below w.heap.size w w1 := hw1 ▸ below_grow1 w _
  have hE1 : w1.heap[w.heap.size]? = some (.cells #[.int .i64 id] 3 (0, 0)) := hw1 ▸ heap_alloc_new w _
  have hl1 := h.below hb1
  have c0 : w1.cell? ⟨b, 0, none⟩ = some (.slice ao es.length cp) := by simp [World.cell?, hl1.blk]
  have k0 : w1.cell? ⟨w.heap.size, 0, none⟩ = some (.int .i64 id) := by simp [World.cell?, hE1]
  have C := Lib.hid (entIdx_any own w1 b next many es.length es vs ao cp hl1 rfl hlen id w.heap.size k0)
  have HW1 := Lib.hid hw1
  have HB1 := Lib.hid hb1
  have hz := hb1.size
  by_cases hid : id < 1
  · have hn1 : decide (id < 1) = true := decide_eq_true hid
    clear h hw1 hb1 hE1 hl1
    go_enter Tryz.func36, Tryz.ntmps36
    go_upto_region 1 with fail
    rw [HW1.out]
    go_wp2_with fail
    go_ret
    exact ⟨.inr ⟨.inl hid, rfl⟩, HB1.out⟩
  · have hn1 : decide (id < 1) = false := decide_eq_false hid
    clear h hw1 hb1 hE1 hl1
    go_enter Tryz.func36, Tryz.ntmps36
    go_upto_region 1 with fail
    rw [HW1.out]
    go_wp2_with fail
    refine C.out.mono ?_
    rintro e' w' ⟨hp, hb⟩
    have HB := Lib.hid (HB1.out.trans (hb.mono hz))
    clear hb C
    rcases hp with ⟨i, x, hx, hxi, rfl⟩ | ⟨hno, rfl⟩
    · have HX := Lib.hid (And.intro hx hxi)
      clear hx hxi
      go_wp2
      go_ret
      exact ⟨.inl ⟨i, x, HX.out.1, HX.out.2, by have := HX.out.2; omega, rfl⟩, HB.out⟩
    · have HX := Lib.hid hno
      clear hno
      go_wp2
      go_ret
      exact ⟨.inr ⟨.inr HX.out, rfl⟩, HB.out⟩
end Go.Proofs.YtklbbcemacpimaaGreatDoor.I

namespace Go.Proofs.YtklbbcemacpimaaGreatDoor.I
open Go Go.Maps Go.Proofs Go.RowKit

/-- Cells that are written over, from a place on. -/
theorem setCells_blk : ∀ (vs : List Value) (w : World) (g o : Nat) (cur : Array Value) (T : TypeId), w.heap[g]? = some (.cells cur T (0, 0)) → o + vs.length ≤ cur.size →
    ∃ cur' : Array Value, (w.setCells g o vs).heap[g]? = some (.cells cur' T (0, 0)) ∧ cur'.size = cur.size ∧ ∀ t, cur'[t]? = if o ≤ t ∧ t < o + vs.length then vs[t - o]? else cur[t]?
  | [], w, g, o, cur, T, h, _ => ⟨cur, h, rfl, fun t => by rw [if_neg (by simp only [List.length_nil]; omega)]⟩
  | v :: r, w, g, o, cur, T, h, hl => by
    simp only [List.length_cons] at hl
    obtain ⟨cur', h1, h2, h3⟩ := setCells_blk r (w.setCell ⟨g, o, none⟩ v) g (o + 1) (cur.setIfInBounds o v) T (blk_set h) (by simp; omega)
    refine ⟨cur', h1, by rw [h2]; simp, fun t => ?_⟩
    rw [h3]
    simp only [List.length_cons]
    by_cases ht : t = o
    · subst ht
      rw [if_neg (by omega), if_pos (by omega), Nat.sub_self, Array.getElem?_setIfInBounds]
      simp
      omega
    · by_cases h4 : o + 1 ≤ t ∧ t < o + 1 + r.length
      · rw [if_pos h4, if_pos (by omega)]
        obtain ⟨k, rfl⟩ : ∃ k, t = o + 1 + k := ⟨t - (o + 1), by omega⟩
        rw [show o + 1 + k - (o + 1) = k by omega, show o + 1 + k - o = k + 1 by omega, List.getElem?_cons_succ]
      · rw [if_neg h4, if_neg (by omega), Array.getElem?_setIfInBounds, if_neg (fun e => ht e.symm)]
theorem setCells_upd {own : Nat → Prop} : ∀ (vs : List Value) {w W : World} {g : Nat} (o : Nat), Upd own w W → own g → Upd own w (W.setCells g o vs)
  | [], _, _, _, _, h, _ => h
  | v :: r, w, W, g, o, h, hg => setCells_upd r (o + 1) (w := w) (W := W.setCell ⟨g, o, none⟩ v) ⟨h.os, h.tape, h.output, by simpa using h.size, fun b h1 h2 => (Below.heap_setCell _ _ _ _ (fun e => h2 (by rw [e]; exact hg))).trans (h.block b h1 h2)⟩ hg
theorem infoE : (Tryz.prog.info? 67).map (fun i => (i.zero, i.size, i.bytes)) = some (some (.agg #[.int .i64 0, .string ⟨#[]⟩, .slice none 0 0, .int .i64 0]), 4, 56) := by kernel_rfl
theorem zeroE (w : World) : ∃ z, (zeroValue 67).run Tryz.prog w = .ok z w ∧ (Builtin.zeroCells z.cells 1).toList = [.int .i64 0, .string ⟨#[]⟩, .slice none 0 0, .int .i64 0] := ⟨.agg #[.int .i64 0, .string ⟨#[]⟩, .slice none 0 0, .int .i64 0], by kernel_rfl, by kernel_rfl⟩
theorem clearE (w : World) (ty : TypeId) (g o n c : Nat) (cur : Array Value) (hn : n = 1) (hg : w.heap[g]? = some (.cells cur 67 (0, 0))) (ho : o + 4 ≤ cur.size) :
    (Builtin.clear_ #[61] ty #[.slice (some ⟨g, o, none⟩) n c]).run Tryz.prog w = .ok (.tuple #[]) (w.setCells g o [.int .i64 0, .string ⟨#[]⟩, .slice none 0 0, .int .i64 0]) := by
  subst hn
  obtain ⟨z, hz, hzc⟩ := zeroE w
  have hst := run_storeCells_cells (P := Tryz.prog) g o [.int .i64 0, .string ⟨#[]⟩, .slice none 0 0, .int .i64 0] 0 w (fun j hj => by
      simp only [List.length_cons, List.length_nil] at hj
      have : o + j < cur.size := by omega
      simp [World.cell?, hg, this]) (fun j hj => by simp [World.frozen?, hg]) (by simp [Value.oneCell'])
  simp only [Nat.add_zero] at hst
  simp [Builtin.clear_, run_underlying Tryz.underlying61, hz, hzc, hst]
/-- What slices.Delete leaves. -/
def DelP (g n cap i : Nat) (X : List Value) (w : World) (e : Ending) (w' : World) : Prop :=
  e = .returned (.slice (some ⟨g, 0, none⟩) (n - 1) cap) ∧ (∃ cur' : Array Value, w'.heap[g]? = some (.cells cur' 67 (0, 0)) ∧ cur'.size = cap * 4 ∧ cur'.toList.take ((n - 1) * 4) = X.take (i * 4) ++ X.drop ((i + 1) * 4)) ∧ Upd (fun k => k = g) w w'
set_option maxRecDepth 100000 in
set_option maxHeartbeats 6400000 in
theorem del_any (g n cap i : Nat) (cur : Array Value) (w : World) (hg : w.heap[g]? = some (.cells cur 67 (0, 0))) (hi : i < n) (hn : n ≤ cap) (hz : cur.size = cap * 4) (h1 : ∀ u ∈ cur.toList.take (n * 4), u.oneCell' = true) :
    Calls Tryz.prog 39 #[.slice (some ⟨g, 0, none⟩) n cap, .int .i64 i, .int .i64 ((i : Int) + 1)] w (DelP g n cap i (cur.toList.take (n * 4)) w) := by
  obtain ⟨i0, hi0, hz0, hz1, hz2⟩ := info_parts infoE
  obtain ⟨X, hX⟩ : ∃ X, cur.toList.take (n * 4) = X := ⟨_, rfl⟩
  have hXl : X.length = n * 4 := by rw [← hX, List.length_take, Array.length_toList, hz]; omega
  have hXg : ∀ t, t < n * 4 → X[t]? = cur[t]? := fun t ht => by rw [← hX, List.getElem?_take, if_pos ht, Array.getElem?_toList]
  obtain ⟨j, hj⟩ : ∃ j, i + 1 = j := ⟨_, rfl⟩
  obtain ⟨news, hnews⟩ : ∃ news, X.drop (j * 4) = news := ⟨_, rfl⟩
  have hnl : news.length = (n - j) * 4 := by rw [← hnews, List.length_drop, hXl]; omega
  have hng : ∀ t, t < (n - j) * 4 → news[t]? = cur[j * 4 + t]? := fun t ht => by rw [← hnews, List.getElem?_drop, hXg _ (by omega)]
  have hcell : ∀ t, t < cap * 4 → ∀ W : World, W.heap[g]? = some (.cells cur 67 (0, 0)) → W.cell? ⟨g, t, none⟩ = cur[t]? := fun t _ W hW => by simp [World.cell?, hW]
  obtain ⟨A, hA, hsrc⟩ : ∃ A : Addr, (if cap = j then some (⟨g, 0, none⟩ : Addr) else some ⟨g, j * 4, none⟩) = some A ∧ Hid (∀ t u, news[t]? = some u → w.drew.cell? (A.add t) = some u) := by
    by_cases h : cap = j
    · refine ⟨⟨g, 0, none⟩, by simp [h], Lib.hid fun t u hu => ?_⟩
      have h0 : news.length = 0 := by rw [hnl]; omega
      rw [List.length_eq_zero_iff.1 h0] at hu
      simp at hu
    · refine ⟨⟨g, j * 4, none⟩, by simp [h], Lib.hid fun t u hu => ?_⟩
      have ht : t < (n - j) * 4 := by have := (List.getElem?_eq_some_iff.1 hu).1; rwa [hnl] at this
      rw [hng t ht] at hu
      rw [addr_add]
      exact (hcell _ (by omega) w.drew hg).trans hu
  have s1 : Hid (news.length = (n - j) * 4) := Lib.hid hnl
  have s2 : Hid (∀ u ∈ news, u.oneCell' = true) := Lib.hid fun u hu => h1 u (by rw [hX]; rw [← hnews] at hu; exact List.mem_of_mem_drop hu)
  have s3 : Hid (∀ t, t < news.length → (w.drew.cell? ⟨g, 0 + i * 4 + t, none⟩).isSome = true ∧ w.drew.frozen? ⟨g, 0 + i * 4 + t, none⟩ = false) := Lib.hid fun t ht => by
    rw [hnl] at ht
    refine ⟨?_, by simp [World.frozen?, show w.drew.heap[g]? = _ from hg]⟩
    rw [Nat.zero_add, hcell _ (by omega) w.drew hg, Array.getElem?_eq_getElem (by omega)]
    rfl
  obtain ⟨W1, hW1⟩ : ∃ W1, w.drew.setCells g (0 + i * 4) news = W1 := ⟨_, rfl⟩
  obtain ⟨cur1, g1, hz1', hc1⟩ := setCells_blk news w.drew g (0 + i * 4) cur 67 hg (by rw [hnl, hz]; omega)
  rw [hW1] at g1
  have hcl : ∀ ty, (Builtin.clear_ #[61] ty #[.slice (some ⟨g, (i + (n - j)) * 4, none⟩) (n - (i + (n - j))) (cap - (i + (n - j)))]).run Tryz.prog W1 = .ok (.tuple #[]) (W1.setCells g ((n - 1) * 4) [.int .i64 0, .string ⟨#[]⟩, .slice none 0 0, .int .i64 0]) := fun ty => by
    rw [show i + (n - j) = n - 1 by omega]
    exact clearE W1 ty g ((n - 1) * 4) (n - (n - 1)) (cap - (n - 1)) cur1 (by omega) g1 (by rw [hz1', hz]; omega)
  obtain ⟨cur2, g2, hz2', hc2⟩ := setCells_blk [.int .i64 0, .string ⟨#[]⟩, .slice none 0 0, .int .i64 0] W1 g ((n - 1) * 4) cur1 67 g1 (by rw [hz1', hz]; simp; omega)
  have HW : Hid (w.drew.setCells g (0 + i * 4) news = W1) := Lib.hid hW1
  have HU : Hid (Upd (fun k => k = g) w (W1.setCells g ((n - 1) * 4) [.int .i64 0, .string ⟨#[]⟩, .slice none 0 0, .int .i64 0])) := Lib.hid (by
    rw [← hW1]
    exact setCells_upd _ _ (setCells_upd _ _ ⟨rfl, rfl, rfl, Nat.le_refl _, fun _ _ _ => rfl⟩ rfl) rfl)
  have HF : Hid (∃ cur' : Array Value, (W1.setCells g ((n - 1) * 4) [.int .i64 0, .string ⟨#[]⟩, .slice none 0 0, .int .i64 0]).heap[g]? = some (.cells cur' 67 (0, 0)) ∧ cur'.size = cap * 4 ∧ cur'.toList.take ((n - 1) * 4) = X.take (i * 4) ++ X.drop (j * 4)) := Lib.hid ⟨cur2, g2, by rw [hz2', hz1', hz], by
    apply List.ext_getElem?
    intro t
    by_cases ht : t < (n - 1) * 4
    · rw [List.getElem?_take, if_pos ht, Array.getElem?_toList, hc2, if_neg (by omega), hc1, hnews]
      by_cases ht2 : t < i * 4
      · rw [if_neg (by omega), List.getElem?_append_left (by rw [List.length_take, hXl]; omega), List.getElem?_take, if_pos ht2, hXg _ (by omega)]
      · rw [if_pos (by rw [hnl]; omega), List.getElem?_append_right (by rw [List.length_take, hXl]; omega), List.length_take, hXl, Nat.zero_add, Nat.min_eq_left (by omega)]
    · rw [List.getElem?_eq_none (by rw [List.length_take, Array.length_toList, hz2', hz1', hz]; omega), List.getElem?_eq_none (by rw [List.length_append, List.length_take, List.length_drop, hXl]; omega)]⟩
  have hne : ¬ i = i + 1 := by omega
  have hne2 : ¬ (i : Int) = (i : Int) + 1 := by omega
  have hjn : j ≤ n := by omega
  have hnn : i + (n - j) = n - 1 := by omega
  have hn1 : n - (n - 1) = 1 := by omega
  have HNN := Lib.hid hnn
  have HN1 := Lib.hid hn1
  have hij : ((i : Int) + 1) = (j : Int) := by omega
  have hlt : i < j := by omega
  rw [hX]
  rw [hij]
  have HJ := Lib.hid hj
  have hic : i ≤ cap := by omega
  have hjc : j ≤ cap := by omega
  clear hW1 g1 hc1 g2 hc2 hX hXl hXg hnews hng hcell hnl hg h1 hz hz1' hz2' hij hj hnn hn1 hne hne2
  go_enter Tryz.func39, Tryz.ntmps39
  go_wp2_with fail
  go_region_law (refine step_append_room rfl (.tmp 22) (.tmp 25) 61 rfl 67 i0 4 Tryz.underlying61 hi0 hz1 g 0 i cap (by simp [Act.eval, Act.put]) A (n - j) (cap - j) news (by simp [Act.eval, Act.put]) s1.out hsrc.out s2.out (by omega) s3.out ?_; rw [HW.out])
  all_goals
    go_wp2_with fail
    go_ret
    exact ⟨by rw [HNN.out]; rfl, by rw [HJ.out]; exact HF.out, HU.out⟩
end Go.Proofs.YtklbbcemacpimaaGreatDoor.I

namespace Go.Proofs.YtklbbcemacpimaaGreatDoor.I
open Go Go.Maps Go.Proofs Go.RowKit

/-- copy's run at entries. -/
theorem copyE (w : World) (ty : TypeId) (b o dLen dCap : Nat) (a : Addr) (sLen sCap : Nat) (cs : List Value) (hn : cs.length = Nat.min sLen dLen * 4)
    (hsrc : ∀ j v, cs[j]? = some v → w.cell? (a.add j) = some v) (hc : ∀ j, j < cs.length → (w.cell? ⟨b, o + j, none⟩).isSome = true) (hf : ∀ j, j < cs.length → w.frozen? ⟨b, o + j, none⟩ = false) (h1 : ∀ v ∈ cs, v.oneCell' = true) :
    (Builtin.copy_ #[61, 61] ty #[.slice (some ⟨b, o, none⟩) dLen dCap, .slice (some a) sLen sCap]).run Tryz.prog w = .ok (goInt (Nat.min sLen dLen)) (w.setCells b o cs) := by
  have hl := run_loadCells_list (P := Tryz.prog) w a cs hsrc
  have hst := run_storeCells_cells (P := Tryz.prog) b o cs 0 w (by simpa using hc) (by simpa using hf) h1
  obtain ⟨i0, hi0, hz0, hz1, hz2⟩ := info_parts infoE
  simp [Builtin.copy_, run_underlying Tryz.underlying61, Builtin.lenOf, Builtin.firstCells, sizeOf, typeInfo, hi0, hz1, ← hn, hl, hst]
theorem wpList_copyE (w : World) {ops : Array Oper} {rest : List Oper} {o : Oper} {a : Act} {Q : Exit → Act → World → Prop} (hgd : o.guard = none) (d s : Operand)
    (ho : o.op = .call { callee := .builtin .copy, args := #[d, s], argTypes := #[61, 61] }) (v u : Value) (hd : a.eval d = v) (hs : a.eval s = u) {v' : Value} {w' : World}
    (hr : (Builtin.copy_ #[61, 61] o.type #[v, u]).run Tryz.prog w = .ok v' w') (h : wpList Tryz.prog ops Q rest (a.put o.dst v') w') : wpList Tryz.prog ops Q (o :: rest) a w :=
  wpList_plain hgd fun _ hK => by
    unfold Oper.wp execOp
    simp only [ho, resolve, invoke, builtin, Sem.run_bind, Sem.run_pure, Result.andThen_ok, List.map_toArray, List.map_cons, List.map_nil, hd, hs, hr]
    exact hK _ _ h
theorem step_copyE {ops : Array Oper} {o : Oper} {a : Act} {w : World} {K : Act → World → Prop} {Q : Exit → Act → World → Prop} {E : Prop}
    (hg : o.guard = none) (d x : Operand) (hop : o.op = Op.call { callee := Callee.builtin Builtin.copy, args := #[d, x], argTypes := #[61, 61] })
    (v u : Value) (hd : a.eval d = v) (hx : a.eval x = u) {v' : Value} {w' : World} (hr : (Builtin.copy_ #[61, 61] o.type #[v, u]).run Tryz.prog w = .ok v' w') (hK : K (a.put o.dst v') w') :
    if Region.wanted o (yielded ops a.tmps) = true then Oper.wp Tryz.prog o a w K Q else E := by
  have hw : Region.wanted o (yielded ops a.tmps) = true := by simp [Region.wanted, hg]
  rw [if_pos hw]
  unfold Oper.wp
  simp [execOp, hop, resolve, invoke, builtin, hd, hx, hr, Result.andThen]
  exact hK
/-- What slices.Insert leaves. -/
def InsP (v : Value) (n m i : Nat) (X news : List Value) (w : World) (e : Ending) (w' : World) : Prop :=
  ∃ g cap, e = .returned (.slice (some ⟨g, 0, none⟩) (n + m) cap) ∧ w'.ownsRow 0 67 4 (.slice (some ⟨g, 0, none⟩) (n + m) cap) (n + m) (X.take (i * 4) ++ news ++ X.drop (i * 4)) ∧ w.grownBy w' v.ownBlock ∧ (v.ownBlock = some g ∨ w.heap.size ≤ g)
set_option maxRecDepth 100000 in
set_option maxHeartbeats 6400000 in
/-- At the end. -/
theorem insEnd_any (v : Value) (n m vb vc : Nat) (X news : List Value) (w : World) (h : w.ownsRow 0 67 4 v n X) (hm : 0 < m) (hn : n + m ≤ 1000000) (hnl : news.length = m * 4)
    (hnews : ∀ j u, news[j]? = some u → w.cell? ⟨vb, j, none⟩ = some u) (h1 : ∀ u ∈ news, u.oneCell' = true) :
    Calls Tryz.prog 40 #[v, .int .i64 n, .slice (some ⟨vb, 0, none⟩) m vc] w (InsP v n m n X news w) := by
  obtain ⟨i0, hi0, hz0, hz1, hz2⟩ := info_parts infoE
  have hX := h.1
  have e1 : X.take (n * 4) = X := List.take_of_length_le (by omega)
  have e2 : X.drop (n * 4) = [] := List.drop_eq_nil_of_le (by omega)
  unfold InsP
  rw [e1, e2, List.append_nil]
  obtain ⟨vo, cp, hv⟩ := own_shape h
  have hv0 : vo = none → n = 0 ∧ cp = 0 := fun e => by
    rcases h.2 with ⟨h0, h1⟩ | ⟨g, c, cur, h0, -⟩
    · rw [hv] at h0; injection h0 with a b c; exact ⟨b, c⟩
    · rw [hv] at h0; injection h0 with a; rw [e] at a; cases a
  have hvr : ∀ a, vo = some a → a.off = 0 ∧ a.spot = none := fun a e => by
    rcases h.2 with ⟨h0, h1⟩ | ⟨g, c, cur, h0, -⟩
    · rw [hv] at h0; injection h0 with a b c; rw [e] at a; cases a
    · rw [hv] at h0; injection h0 with a; rw [e] at a; injection a with a; rw [a]; exact ⟨rfl, rfl⟩
  have hcap : cp ≤ maxLen ∧ n ≤ cp := by
    rcases h.2 with ⟨h0, h1⟩ | ⟨g, c, cur, h0, _, _, h2, h3, _⟩
    · rw [hv] at h0; injection h0 with a b c; rw [b, c]; exact ⟨by decide, Nat.le_refl _⟩
    · rw [hv] at h0; injection h0 with a b c; rw [c]; exact ⟨h3, h2⟩
  subst hv
  have H := Lib.hid h
  have HN := Lib.hid hnews
  have H1 := Lib.hid h1
  have HL := Lib.hid hnl
  have hz : ¬ ((m : Int) = 0) := by omega
  have hnc := hcap.2
  clear h hnews h1 hnl hX e1 e2 hcap
  cases vo with
  | none =>
    obtain ⟨rfl, rfl⟩ := hv0 rfl
    go_enter Tryz.func40, Tryz.ntmps40
    go_wp2_with (at_builtin; refine wpList_append_lies _ rfl _ _ _ rfl 0 67 i0 _ 4 56 Tryz.underlying61 hi0 hz0 hz1 hz2 rfl (by omega) (.slice none 0 0) 0 X rfl H.out ⟨vb, 0, none⟩ m vc news rfl HL.out (fun j u hu => by rw [addr_add, Nat.zero_add]; exact HN.out j u hu) H1.out hm (by unfold maxLen; omega) (by omega) (Nat.zero_le _) _ rfl ?_; refine Hid.out ?_)
    refine Lib.hid ?_
    intro gg cap w1 hown1 hgrow hat hlt
    have hown1 := Lib.hid hown1
    have hgrow := Lib.hid hgrow
    have hat := Lib.hid hat
    go_wp2_with fail
    go_ret
    refine ⟨gg, cap, by rw [Nat.zero_add]; rfl, by rw [Nat.zero_add]; exact hown1.out, hgrow.out, ?_⟩
    rcases hat.out with h | h
    · exact .inl h
    · exact .inr (Nat.le_of_eq h.symm)
  | some a =>
    obtain ⟨e1, e2⟩ := hvr a rfl
    obtain ⟨g, o, s⟩ := a
    simp only at e1 e2
    subst e1
    subst e2
    go_enter Tryz.func40, Tryz.ntmps40
    go_wp2_with (at_builtin; refine wpList_append_lies _ rfl _ _ _ rfl 0 67 i0 _ 4 56 Tryz.underlying61 hi0 hz0 hz1 hz2 rfl (by omega) (.slice (some ⟨g, 0, none⟩) n cp) n X rfl H.out ⟨vb, 0, none⟩ m vc news rfl HL.out (fun j u hu => by rw [addr_add, Nat.zero_add]; exact HN.out j u hu) H1.out hm (by unfold maxLen; omega) (by omega) (Nat.zero_le _) _ rfl ?_; refine Hid.out ?_)
    all_goals
      refine Lib.hid ?_
      intro gg cap w1 hown1 hgrow hat hlt
      have hown1 := Lib.hid hown1
      have hgrow := Lib.hid hgrow
      have hat := Lib.hid hat
      go_wp2_with fail
      go_ret
      refine ⟨gg, cap, rfl, hown1.out, hgrow.out, ?_⟩
      rcases hat.out with h | h
      · exact .inl h
      · exact .inr (Nat.le_of_eq h.symm)
theorem isSome_setE (b : Nat) (vs : List Value) (o : Nat) (w : World) (h : ∀ j, j < vs.length → (w.cell? ⟨b, o + j, none⟩).isSome = true) (k : Nat) (hk : (w.cell? ⟨b, k, none⟩).isSome = true) : ((w.setCells b o vs).cell? ⟨b, k, none⟩).isSome = true := by
  by_cases hin : o ≤ k ∧ k < o + vs.length
  · have := World.cell?_setCells_in b vs o w h (k - o) (by omega)
    rw [show o + (k - o) = k by omega] at this
    rw [this]; rfl
  · rw [World.cell?_setCells_out b vs o w ⟨b, k, none⟩ (fun _ _ => by show k < o ∨ o + vs.length ≤ k; omega)]
    exact hk
theorem upd_grown {w w' : World} {g : Nat} (h : Upd (fun k => k = g) w w') : w.grownBy w' (some g) := ⟨h.os, h.tape, h.output, h.size, fun k h1 h2 => h.block k h1 (fun e => h2 (by rw [e]))⟩
set_option maxRecDepth 100000 in
set_option maxHeartbeats 6400000 in
/-- There is room. -/
theorem insShift_any (g n c i m vb vc : Nat) (cur cv : Array Value) (news : List Value) (w : World) (hg : w.heap[g]? = some (.cells cur 67 (0, 0))) (hvb : w.heap[vb]? = some (.cells cv 67 (0, 0))) (hne : vb ≠ g) (hi : i < n) (hm : 0 < m) (hroom : n + m ≤ c) (hc63 : c ≤ maxLen) (hz : cur.size = c * 4)
    (hnl : news.length = m * 4) (hcv : cv.toList.take (m * 4) = news) (h1c : ∀ u ∈ cur.toList.take (n * 4), u.oneCell' = true) (h1v : ∀ u ∈ news, u.oneCell' = true) :
    Calls Tryz.prog 40 #[.slice (some ⟨g, 0, none⟩) n c, .int .i64 i, .slice (some ⟨vb, 0, none⟩) m vc] w (InsP (.slice (some ⟨g, 0, none⟩) n c) n m i (cur.toList.take (n * 4)) news w) := by
  obtain ⟨X, hX⟩ : ∃ X, cur.toList.take (n * 4) = X := ⟨_, rfl⟩
  have hXl : X.length = n * 4 := by rw [← hX, List.length_take, Array.length_toList, hz]; omega
  have hXg : ∀ t, t < n * 4 → X[t]? = cur[t]? := fun t ht => by rw [← hX, List.getElem?_take, if_pos ht, Array.getElem?_toList]
  unfold maxLen at hc63
  have hz1 : ¬ ((m : Int) = 0) := by omega
  have hz2 : ¬ ((i : Int) = (n : Int)) := by omega
  have hvs : ∀ j u, news[j]? = some u → w.cell? ⟨vb, j, none⟩ = some u := fun j u hj => by
    have hj' := (List.getElem?_eq_some_iff.1 hj).1
    rw [← hcv, List.getElem?_take, if_pos (by omega), Array.getElem?_toList] at hj
    simp [World.cell?, hvb, hj]
  have hsa : w.shape? vb = some (67, cv.size) := by simp [World.shape?, hvb]
  have hsb : w.shape? g = some (67, cur.size) := by simp [World.shape?, hg]
  have hov : ∀ lb cb, (callFunc 58 #[.slice (some ⟨vb, 0, none⟩) m vc, .slice (some ⟨g, (i + m) * 4, none⟩) lb cb]).run Tryz.prog w = .ok (.value (.bool false)) w := fun lb cb => by
    rw [run_callFunc_extern Tryz.func58 (by kernel_rfl) (by kernel_rfl) (by kernel_rfl) (e := Extern.SlicesOverlaps.overlaps #[61, 61] #[4]) (by kernel_rfl),
      Lib.run_overlaps_apart w 61 4 67 Tryz.underlying61 4 (by obtain ⟨i0, hi0, hz0, hz1, hz2⟩ := info_parts infoE; intro w; simp [sizeOf, typeInfo, hi0, hz1]) ⟨vb, 0, none⟩ ⟨g, (i + m) * 4, none⟩ m vc lb cb hne _ _ _ _ hsa hsb (by omega) (by simp [World.frozen?, hvb]) (by simp [World.frozen?, hvb])]
    rfl
  obtain ⟨mid, hmid⟩ : ∃ mid, X.drop (i * 4) = mid := ⟨_, rfl⟩
  have hdl : mid.length = (n - i) * 4 := by rw [← hmid, List.length_drop, hXl]; omega
  have hmg : ∀ j, j < (n - i) * 4 → mid[j]? = cur[i * 4 + j]? := fun j hj => by rw [← hmid, List.getElem?_drop]; exact hXg _ (by omega)
  have hw1 : IntKind.i64.wrap ((i : Int) + (m : Int)) = (i : Int) + (m : Int) := by rw [IntKind.wrap_i64]; omega
  have hb1 : (0 : Int) ≤ (i : Int) + (m : Int) := by omega
  have hin : i ≤ n := by omega
  have htn : ((i : Int) + (m : Int)).toNat = i + m := by omega
  have hb2 : ¬ (c = i + m) := by omega
  have hb3 : (i : Int) ≤ (n : Int) + (m : Int) := by omega
  have hb4 : ¬ (c = i) := by omega
  have hsp : ∀ t, t < (n + m) * 4 → (w.cell? ⟨g, t, none⟩).isSome = true := fun t ht => by
    simp [World.cell?, hg, show t < cur.size by omega]
  have hfz : ∀ t, w.frozen? ⟨g, t, none⟩ = false := fun t => by simp [World.frozen?, hg]
  have h1m : ∀ u ∈ mid, u.oneCell' = true := fun u hu => by rw [← hmid, ← hX] at hu; exact h1c u (List.mem_of_mem_drop hu)
  have hcp1 : ∀ ty dc sc, (Builtin.copy_ #[61, 61] ty #[.slice (some ⟨g, (i + m) * 4, none⟩) (n + m - (i + m)) dc, .slice (some ⟨g, i * 4, none⟩) (n + m - i) sc]).run Tryz.prog w.drew = .ok (goInt (Nat.min (n + m - i) (n + m - (i + m)))) (w.drew.setCells g ((i + m) * 4) mid) := fun ty dc sc =>
    copyE w.drew ty g ((i + m) * 4) (n + m - (i + m)) dc ⟨g, i * 4, none⟩ (n + m - i) sc mid (by rw [hdl]; simp only [Nat.min_def]; split <;> omega)
      (fun j v hj => by
        have hj' := (List.getElem?_eq_some_iff.1 hj).1
        rw [hmg j (by omega)] at hj
        rw [addr_add]
        simpa [World.cell?, show w.drew.heap[g]? = _ from hg] using hj)
      (fun j hj => hsp _ (by omega)) (fun j hj => hfz _) h1m
  obtain ⟨W1, hW1⟩ : ∃ W1, W1 = w.drew.setCells g ((i + m) * 4) mid := ⟨_, rfl⟩
  obtain ⟨cur1, g1, hz1', hc1⟩ := setCells_blk mid w.drew g ((i + m) * 4) cur 67 hg (by omega)
  rw [← hW1] at g1
  have hvb1 : ∀ x : Nat, W1.cell? ⟨vb, x, none⟩ = w.cell? ⟨vb, x, none⟩ := fun x => by
    rw [hW1, World.cell?_setCells_out g _ _ _ _ (fun h _ => absurd h hne)]; rfl
  have hcp2 : ∀ (W : World), (∀ x, W.cell? x = W1.cell? x) → (∀ x, W.frozen? x = W1.frozen? x) → ∀ ty dc, (Builtin.copy_ #[61, 61] ty #[.slice (some ⟨g, i * 4, none⟩) (n + m - i) dc, .slice (some ⟨vb, 0, none⟩) m vc]).run Tryz.prog W = .ok (goInt (Nat.min m (n + m - i))) (W.setCells g (i * 4) news) := fun W hWc hWf ty dc =>
    copyE W ty g (i * 4) (n + m - i) dc ⟨vb, 0, none⟩ m vc news (by rw [hnl]; simp only [Nat.min_def]; split <;> omega)
      (fun j v hj => by
        rw [addr_add, hWc, hvb1, Nat.zero_add]
        exact hvs j v hj)
      (fun j hj => by rw [hWc]; simp [World.cell?, g1, show i * 4 + j < cur1.size by omega]) (fun j hj => by rw [hWf]; simp [World.frozen?, g1]) h1v
  rw [← hW1] at hcp1
  obtain ⟨cur2, g2, hz2', hc2⟩ := setCells_blk news W1 g (i * 4) cur1 67 g1 (by omega)
  have HF : Hid (InsP (.slice (some ⟨g, 0, none⟩) n c) n m i X news w (.returned (.slice (some ⟨g, 0, none⟩) (n + m) c)) (W1.setCells g (i * 4) news)) := Lib.hid ⟨g, c, rfl, ⟨by simp only [List.length_append, List.length_take, List.length_drop, hXl, hnl]; omega, .inr ⟨g, c, cur2, rfl, Nat.zero_le _, g2, hroom, by unfold maxLen; omega, by omega, by
      apply List.ext_getElem?
      intro t
      by_cases ht : t < (n + m) * 4
      · rw [List.getElem?_take, if_pos ht, Array.getElem?_toList, hc2]
        by_cases ht1 : t < i * 4
        · rw [if_neg (by omega), hc1, if_neg (by omega), List.append_assoc, List.getElem?_append_left (by rw [List.length_take, hXl]; omega), List.getElem?_take, if_pos ht1, hXg _ (by omega)]
        · by_cases ht2 : t < i * 4 + news.length
          · rw [if_pos (by omega), List.append_assoc, List.getElem?_append_right (by rw [List.length_take, hXl]; omega), List.length_take, hXl, Nat.min_eq_left (by omega), List.getElem?_append_left (by omega)]
          · rw [if_neg (by omega), hc1, if_pos (by omega), List.append_assoc, List.getElem?_append_right (by rw [List.length_take, hXl]; omega), List.length_take, hXl, Nat.min_eq_left (by omega), List.getElem?_append_right (by omega), hmid]
            congr 1
            omega
      · rw [List.getElem?_eq_none (by rw [List.length_take, Array.length_toList]; omega), List.getElem?_eq_none (by simp only [List.length_append, List.length_take, List.length_drop, hXl, hnl]; omega)]⟩⟩, upd_grown (by
      rw [hW1]
      exact setCells_upd _ _ (setCells_upd _ _ ⟨rfl, rfl, rfl, Nat.le_refl _, fun _ _ _ => rfl⟩ rfl) rfl), .inl rfl⟩
  rw [hX]
  have HW1 := Lib.hid hW1
  clear hc1 hc2 g1 g2 hz1' hz2' hW1 hvb1 hsp hfz h1m hmg hdl hmid hXg hXl hX hcv hvs hsa hsb h1c h1v hg hvb hz hnl
  go_enter Tryz.func40, Tryz.ntmps40
  go_wp2_with (simp only [hov])
  go_region_law (refine step_copyE rfl _ _ rfl _ _ (by simp [Act.eval, Act.put]) (by simp [Act.eval, Act.put]) (hcp1 _ _ _) ?_)
  all_goals
    go_wp2_with (at_builtin; refine wpList_copyE _ rfl _ _ rfl _ _ rfl rfl (hcp2 _ (fun _ => rfl) (fun _ => rfl) _ _) ?_)
    go_ret
    exact HF.out
set_option maxRecDepth 100000 in
set_option maxHeartbeats 6400000 in
/-- There is none. -/
theorem insGrow_any (g n c i m vb vc : Nat) (cur cv : Array Value) (news : List Value) (w : World) (hg : w.heap[g]? = some (.cells cur 67 (0, 0))) (hvb : w.heap[vb]? = some (.cells cv 67 (0, 0))) (hi : i < n) (hm : 0 < m) (hnc : n ≤ c) (hroom : c < n + m) (hbig : n + m ≤ 1000000) (hz : cur.size = c * 4)
    (hnl : news.length = m * 4) (hcv : cv.toList.take (m * 4) = news) (h1c : ∀ u ∈ cur.toList.take (n * 4), u.oneCell' = true) (h1v : ∀ u ∈ news, u.oneCell' = true) :
    Calls Tryz.prog 40 #[.slice (some ⟨g, 0, none⟩) n c, .int .i64 i, .slice (some ⟨vb, 0, none⟩) m vc] w (InsP (.slice (some ⟨g, 0, none⟩) n c) n m i (cur.toList.take (n * 4)) news w) := by
  obtain ⟨X, hX⟩ : ∃ X, cur.toList.take (n * 4) = X := ⟨_, rfl⟩
  have hXl : X.length = n * 4 := by rw [← hX, List.length_take, Array.length_toList, hz]; omega
  have hXg : ∀ t, t < n * 4 → X[t]? = cur[t]? := fun t ht => by rw [← hX, List.getElem?_take, if_pos ht, Array.getElem?_toList]
  have hz1 : ¬ ((m : Int) = 0) := by omega
  have hz2 : ¬ ((i : Int) = (n : Int)) := by omega
  have hz3 : (c : Int) < (n : Int) + (m : Int) := by omega
  obtain ⟨i0, hi0, hz0, hzs, hzb⟩ := info_parts infoE
  have hgl : g < w.heap.size := (Array.getElem?_eq_some_iff.1 hg).1
  have hvl : vb < w.heap.size := (Array.getElem?_eq_some_iff.1 hvb).1
  have hcell : ∀ t, t < n * 4 → w.cell? ⟨g, t, none⟩ = X[t]? := fun t ht => by rw [hXg t ht]; simp [World.cell?, hg]
  have hvs : ∀ j u, news[j]? = some u → w.cell? ⟨vb, j, none⟩ = some u := fun j u hj => by
    have hj' := (List.getElem?_eq_some_iff.1 hj).1
    rw [← hcv, List.getElem?_take, if_pos (by omega), Array.getElem?_toList] at hj
    simp [World.cell?, hvb, hj]
  obtain ⟨fore, hfore⟩ : ∃ fore, X.take (i * 4) = fore := ⟨_, rfl⟩
  have hfl : fore.length = i * 4 := by rw [← hfore, List.length_take, hXl]; omega
  obtain ⟨mid, hmid⟩ : ∃ mid, X.drop (i * 4) = mid := ⟨_, rfl⟩
  have hdl : mid.length = (n - i) * 4 := by rw [← hmid, List.length_drop, hXl]; omega
  have hmg : ∀ j, j < (n - i) * 4 → mid[j]? = X[i * 4 + j]? := fun j hj => by rw [← hmid, List.getElem?_drop]
  have h1m : ∀ u ∈ mid, u.oneCell' = true := fun u hu => by rw [← hmid, ← hX] at hu; exact h1c u (List.mem_of_mem_drop hu)
  have hkk : (n : Int) + (m : Int) - (i : Int) = ((n + m - i : Nat) : Int) := by omega
  have hik : i + (n + m - i) = n + m := by omega
  have hold : (Builtin.firstCells i0.size i (.slice (some ⟨g, 0, none⟩) i c)).run Tryz.prog w.drew = .ok fore.toArray w.drew := by
    rw [hzs]
    exact run_firstCells_some w.drew 4 i ⟨g, 0, none⟩ i c fore hfl (fun j v hj => by
      rw [addr_add, Nat.zero_add]
      have hj' := (List.getElem?_eq_some_iff.1 hj).1
      rw [← hfore, List.getElem?_take, if_pos (by omega)] at hj
      exact (hcell j (by omega)).trans hj)
  have hrz : ∀ ty, (Builtin.append_ #[61, 3] ty #[.slice (some ⟨g, 0, none⟩) i c, .int .i64 ((n : Int) + (m : Int) - (i : Int))]).run Tryz.prog w =
      .ok (.slice (some ⟨w.heap.size, 0, none⟩) (n + m) (grownCap w (n + m) c 67)) (w.drew.alloc (.cells (fore.toArray ++ Builtin.zeroCells (Value.agg #[.int .i64 0, .string ⟨#[]⟩, .slice none 0 0, .int .i64 0]).cells (n + m - i) ++ Builtin.zeroCells (Value.agg #[.int .i64 0, .string ⟨#[]⟩, .slice none 0 0, .int .i64 0]).cells (grownCap w (n + m) c 67 - (n + m))) 67)) := fun ty => by
    have h := Lib.run_append_grow_zeros w 61 3 ty 67 i0 _ .i64 .i64 Tryz.underlying61 Tryz.underlying3 hi0 hz0 (some ⟨g, 0, none⟩) i c fore hold (n + m - i) (by omega) (by omega) (by omega) (by omega) (by rw [hzb]; omega) (by rw [hzb, hik]; exact growslice_fits hroom (by omega))
    rw [hik] at h
    rw [hkk]
    exact h
  obtain ⟨G, hG⟩ : ∃ G, G = grownCap w (n + m) c 67 := ⟨_, rfl⟩
  have hGn : n + m ≤ G := by rw [hG]; exact grownCap_ge w _ _ _
  have hGm : G ≤ maxLen := by rw [hG]; exact grownCap_le_maxLen w (n + m) c 67 (by unfold maxLen; omega)
  obtain ⟨ROW, hROW⟩ : ∃ ROW : Array Value, ROW = fore.toArray ++ Builtin.zeroCells (Value.agg #[.int .i64 0, .string ⟨#[]⟩, .slice none 0 0, .int .i64 0]).cells (n + m - i) ++ Builtin.zeroCells (Value.agg #[.int .i64 0, .string ⟨#[]⟩, .slice none 0 0, .int .i64 0]).cells (G - (n + m)) := ⟨_, rfl⟩
  rw [← hG] at hrz
  rw [← hROW] at hrz
  have zl : ∀ k, (Builtin.zeroCells (Value.agg #[.int .i64 0, .string ⟨#[]⟩, .slice none 0 0, .int .i64 0]).cells k).size = k * 4 := fun k => by simp [Builtin.zeroCells, Value.cells]
  have hRl : ROW.size = G * 4 := by
    rw [hROW, Array.size_append, Array.size_append, zl, zl, List.size_toArray, hfl]
    omega
  have hRf : ∀ t, t < i * 4 → ROW[t]? = fore[t]? := fun t ht => by
    rw [hROW, Array.append_assoc, Array.getElem?_append_left (by simp; omega)]
    simp
  clear hROW
  obtain ⟨W1, hW1⟩ : ∃ W1, W1 = w.drew.alloc (.cells ROW 67) := ⟨_, rfl⟩
  rw [← hW1] at hrz
  obtain ⟨N, hNe⟩ : ∃ N, w.heap.size = N := ⟨_, rfl⟩
  rw [hNe] at hrz hgl hvl
  have hN1 : W1.heap[N]? = some (.cells ROW 67 (0, 0)) := by rw [hW1, ← hNe]; exact heap_alloc_new w.drew _
  have hO : ∀ b, b < N → ∀ j, W1.cell? ⟨b, j, none⟩ = w.cell? ⟨b, j, none⟩ := fun b hb j => by rw [hW1, World.cell?_alloc_past (w := w.drew) _ b j (by show b < w.heap.size; omega)]; rfl
  have hcpA : ∀ (W : World), (∀ x, W.cell? x = W1.cell? x) → (∀ x, W.frozen? x = W1.frozen? x) → ∀ ty dc, (Builtin.copy_ #[61, 61] ty #[.slice (some ⟨N, i * 4, none⟩) (n + m - i) dc, .slice (some ⟨vb, 0, none⟩) m vc]).run Tryz.prog W = .ok (goInt (Nat.min m (n + m - i))) (W.setCells N (i * 4) news) := fun W hWc hWf ty dc =>
    copyE W ty N (i * 4) (n + m - i) dc ⟨vb, 0, none⟩ m vc news (by rw [hnl]; simp only [Nat.min_def]; split <;> omega)
      (fun j v hj => by rw [addr_add, Nat.zero_add, hWc, hO _ hvl]; exact hvs j v hj)
      (fun j hj => by rw [hWc]; simp [World.cell?, hN1, show i * 4 + j < ROW.size by omega]) (fun j hj => by rw [hWf]; simp [World.frozen?, hN1]) h1v
  obtain ⟨cur1, g1, hz1', hc1⟩ := setCells_blk news W1 N (i * 4) ROW 67 hN1 (by omega)
  have hGi : ¬ (G = i) := by omega
  have hGim : ¬ (G = i + m) := by omega
  have hci : ¬ (c = i) := by omega
  have hgN : g ≠ N := by omega
  have hcpB : ∀ (W : World), (∀ x, W.cell? x = (W1.setCells N (i * 4) news).cell? x) → (∀ x, W.frozen? x = (W1.setCells N (i * 4) news).frozen? x) → ∀ ty dc sc, (Builtin.copy_ #[61, 61] ty #[.slice (some ⟨N, (i + m) * 4, none⟩) (n + m - (i + m)) dc, .slice (some ⟨g, i * 4, none⟩) (n - i) sc]).run Tryz.prog W = .ok (goInt (Nat.min (n - i) (n + m - (i + m)))) (W.setCells N ((i + m) * 4) mid) := fun W hWc hWf ty dc sc =>
    copyE W ty N ((i + m) * 4) (n + m - (i + m)) dc ⟨g, i * 4, none⟩ (n - i) sc mid (by rw [hdl]; simp only [Nat.min_def]; split <;> omega)
      (fun j v hj => by
        have hj' := (List.getElem?_eq_some_iff.1 hj).1
        rw [addr_add, hWc, World.cell?_setCells_out _ _ _ _ _ (fun h _ => absurd h hgN)]
        show W1.cell? ⟨g, i * 4 + j, none⟩ = some v
        rw [hO _ hgl, hcell _ (by omega), ← hmg j (by omega)]
        exact hj)
      (fun j hj => by rw [hWc]; simp [World.cell?, g1, show (i + m) * 4 + j < cur1.size by omega]) (fun j hj => by rw [hWf]; simp [World.frozen?, g1]) h1m
  have g1d : (W1.setCells N (i * 4) news).drew.heap[N]? = some (.cells cur1 67 (0, 0)) := g1
  obtain ⟨cur2, g2, hz2', hc2⟩ := setCells_blk mid (W1.setCells N (i * 4) news).drew N ((i + m) * 4) cur1 67 g1d (by omega)
  have HF : ∀ ww : World, ww = ((W1.setCells N (i * 4) news).drew).setCells N ((i + m) * 4) mid → Hid (InsP (.slice (some ⟨g, 0, none⟩) n c) n m i X news w (.returned (.slice (some ⟨N, 0, none⟩) (n + m) G)) ww) := fun ww hww => Lib.hid (by
    refine ⟨N, G, rfl, ⟨by simp only [List.length_append, List.length_take, List.length_drop, hXl, hnl]; omega, .inr ⟨N, G, cur2, rfl, Nat.zero_le _, by rw [hww]; exact g2, hGn, hGm, by omega, ?_⟩⟩, upd_grown ?_, .inr (Nat.le_of_eq hNe)⟩
    · apply List.ext_getElem?
      intro t
      by_cases ht : t < (n + m) * 4
      · rw [List.getElem?_take, if_pos ht, Array.getElem?_toList, hc2, hfore, hmid, List.append_assoc]
        by_cases ht1 : t < i * 4
        · rw [if_neg (by omega), hc1, if_neg (by omega), hRf t ht1, List.getElem?_append_left (by omega)]
        · rw [List.getElem?_append_right (by omega), hfl]
          by_cases ht2 : t < i * 4 + news.length
          · rw [if_neg (by omega), hc1, if_pos (by omega), List.getElem?_append_left (by omega)]
          · rw [if_pos (by omega), List.getElem?_append_right (by omega)]
            congr 1
            omega
      · rw [List.getElem?_eq_none (by rw [List.length_take, Array.length_toList]; omega), List.getElem?_eq_none (by simp only [List.length_append, List.length_take, List.length_drop, hXl, hnl]; omega)]
    · have b0 : Below w.heap.size w w.drew := (Below.refl _ _).drew
      have b1 : Below w.heap.size w W1 := by rw [hW1]; exact b0.alloc (Nat.le_refl _) _
      have u1 : Upd (fun k => k = N) w W1 := ⟨b1.os, b1.tape, b1.output, b1.size, fun k hk _ => b1.block k hk⟩
      have u2 := setCells_upd (own := fun k => k = N) news (i * 4) u1 rfl
      have u3 : Upd (fun k => k = N) w (W1.setCells N (i * 4) news).drew := ⟨u2.os, u2.tape, u2.output, u2.size, u2.block⟩
      have u4 := setCells_upd (own := fun k => k = N) mid ((i + m) * 4) u3 rfl
      rw [hww]
      exact ⟨u4.os, u4.tape, u4.output, u4.size, fun k hk _ => u4.block k hk (by omega)⟩)
  have hG63 : G ≤ 9223372036854775807 := by unfold maxLen at hGm; omega
  have hw1 : IntKind.i64.wrap ((i : Int) + (m : Int)) = (i : Int) + (m : Int) := by rw [IntKind.wrap_i64]; omega
  have hb1 : (0 : Int) ≤ (i : Int) + (m : Int) := by omega
  have hin : i ≤ n := by omega
  have htn : ((i : Int) + (m : Int)).toNat = i + m := by omega
  have hb3 : (i : Int) ≤ (n : Int) := by omega
  subst hW1
  have hE1 : ∀ x, ((w.alloc (.cells ROW 67)).drew).cell? x = (w.drew.alloc (.cells ROW 67)).cell? x := fun x => rfl
  have hE2 : ∀ x, ((w.alloc (.cells ROW 67)).drew).frozen? x = (w.drew.alloc (.cells ROW 67)).frozen? x := fun x => rfl
  have hF1 : ∀ x, (((w.alloc (.cells ROW 67)).drew.setCells N (i * 4) news).drew).cell? x = ((w.drew.alloc (.cells ROW 67)).setCells N (i * 4) news).cell? x := fun x => rfl
  have hF2 : ∀ x, (((w.alloc (.cells ROW 67)).drew.setCells N (i * 4) news).drew).frozen? x = ((w.drew.alloc (.cells ROW 67)).setCells N (i * 4) news).frozen? x := fun x => rfl
  rw [hX]
  clear hc1 hc2 g1 g2 g1d hz1' hz2' h1m hmg hdl hmid hXg hXl hX hcv hvs h1c h1v hg hvb hz hnl hO hN1 hRf hRl hG hGm hold hkk hik hcell hfl hfore hi0 hz0 hzs hzb hroom hbig zl hNe hgl hvl
  go_enter Tryz.func40, Tryz.ntmps40
  go_wp2_with (first
    | (at_builtin; refine Lib.wpList_append_run _ rfl _ _ _ _ rfl _ _ rfl rfl _ _ (hrz _) ?_)
    | (at_builtin; refine wpList_copyE _ rfl _ _ rfl _ _ rfl rfl (hcpA _ hE1 hE2 _ _) ?_))
  go_region_law (refine step_copyE rfl _ _ rfl (.slice (some ⟨N, (i + m) * 4, none⟩) (n + m - (i + m)) (G - (i + m))) (.slice (some ⟨g, i * 4, none⟩) (n - i) (c - i)) (by simp [Act.eval, Act.put]) (by simp [Act.eval, Act.put]) (hcpB _ hF1 hF2 _ (G - (i + m)) (c - i)) ?_)
  all_goals
    go_wp2
    go_ret
    exact (HF _ rfl).out
theorem ins_any (v : Value) (n i vb vc : Nat) (X news : List Value) (cv : Array Value) (w : World) (h : w.ownsRow 0 67 4 v n X) (h1 : ∀ u ∈ X, u.oneCell' = true) (hi : i ≤ n) (hn : n + 1 ≤ 1000000) (hvb : w.heap[vb]? = some (.cells cv 67 (0, 0))) (hne : v.ownBlock ≠ some vb) (hnl : news.length = 4) (hcv : cv.toList.take 4 = news) (h1v : ∀ u ∈ news, u.oneCell' = true) :
    Calls Tryz.prog 40 #[v, .int .i64 i, .slice (some ⟨vb, 0, none⟩) 1 vc] w (InsP v n 1 i X news w) := by
  by_cases hin : i = n
  · subst hin
    refine insEnd_any v i 1 vb vc X news w h (by omega) hn hnl (fun j u hj => ?_) h1v
    have hj' := (List.getElem?_eq_some_iff.1 hj).1
    rw [← hcv, List.getElem?_take, if_pos (by omega), Array.getElem?_toList] at hj
    simp [World.cell?, hvb, hj]
  · rcases h.2 with ⟨-, h0⟩ | ⟨g, cap, cur, rfl, k1, k2, k3, k4, k5, k6⟩
    · omega
    · have hne' : vb ≠ g := fun e => hne (by rw [e]; rfl)
      subst k6
      by_cases hr : n + 1 ≤ cap
      · exact insShift_any g n cap i 1 vb vc cur cv news w k2 hvb hne' (by omega) (by omega) hr k4 k5 hnl hcv h1 h1v
      · exact insGrow_any g n cap i 1 vb vc cur cv news w k2 hvb (by omega) (by omega) k3 (by omega) hn k5 hnl hcv h1 h1v
end Go.Proofs.YtklbbcemacpimaaGreatDoor.I

namespace Go.Proofs.YtklbbcemacpimaaGreatDoor.I
open Go Go.Maps Go.Proofs Go.RowKit

theorem flds_below {w w' : World} {v : Value} {fs : List Fld} (h : FldsAt w v fs) (hb : Below w.heap.size w w') : FldsAt w' v fs := by
  obtain ⟨ao, cp, e1, e2, e3⟩ := h
  exact ⟨ao, cp, e1, e2, fun k f hk => by
    obtain ⟨g, o, e, c1, c2⟩ := e3 k f hk
    exact ⟨g, o, e, (hb.cell (World.block_lt_of_cell? _ _ c1)).trans c1, (hb.cell (World.block_lt_of_cell? _ _ c2)).trans c2⟩⟩
/-- Two rows do not share a block. -/
def Apart (u u' : Value) : Prop := ∀ g, u.ownBlock = some g → u'.ownBlock ≠ some g
theorem apart_of {vs : List Value} (h : ∀ (i j : Nat) u u' g, vs[i]? = some u → vs[j]? = some u' → u.ownBlock = some g → u'.ownBlock = some g → i = j) : vs.Pairwise Apart := by
  rw [List.pairwise_iff_getElem]
  intro i j hi hj hij g h1 h2
  have := h i j _ _ g (List.getElem?_eq_getElem hi) (List.getElem?_eq_getElem hj) h1 h2
  omega
theorem inj_of {vs : List Value} (h : vs.Pairwise Apart) : ∀ (i j : Nat) u u' g, vs[i]? = some u → vs[j]? = some u' → u.ownBlock = some g → u'.ownBlock = some g → i = j := by
  rw [List.pairwise_iff_getElem] at h
  intro i j u u' g hu hu' h1 h2
  obtain ⟨hi, e1⟩ := List.getElem?_eq_some_iff.1 hu
  obtain ⟨hj, e2⟩ := List.getElem?_eq_some_iff.1 hu'
  rcases Nat.lt_trichotomy i j with c | c | c
  · exact absurd (by rw [e2]; exact h2) (h i j hi hj c g (by rw [e1]; exact h1))
  · exact c
  · exact absurd (by rw [e1]; exact h1) (h j i hj hi c g (by rw [e2]; exact h2))
theorem flat4_take {α : Type} (f : α → List Value) (hf : ∀ x, (f x).length = 4) : ∀ (l : List α) (i : Nat), (l.flatMap f).take (i * 4) = (l.take i).flatMap f
  | [], i => by simp
  | a :: r, 0 => by simp
  | a :: r, i + 1 => by
    rw [List.flatMap_cons, List.take_succ_cons, List.flatMap_cons, ← flat4_take f hf r i, List.take_append, hf, List.take_of_length_le (by rw [hf]; omega), show (i + 1) * 4 - 4 = i * 4 by omega]
theorem flat4_drop {α : Type} (f : α → List Value) (hf : ∀ x, (f x).length = 4) : ∀ (l : List α) (i : Nat), (l.flatMap f).drop (i * 4) = (l.drop i).flatMap f
  | [], i => by simp
  | a :: r, 0 => by simp
  | a :: r, i + 1 => by
    rw [List.flatMap_cons, List.drop_succ_cons, ← flat4_drop f hf r i, List.drop_append, hf, List.drop_eq_nil_of_le (by rw [hf]; omega), show (i + 1) * 4 - 4 = i * 4 by omega, List.nil_append]
theorem entC_len (p : (B.It × Nat) × Value) : (B.entC p.1 p.2).length = 4 := rfl
theorem ent_take (es : Es) (vs : List Value) (i : Nat) : (B.entCells es vs).take (i * 4) = B.entCells (es.take i) (vs.take i) := by
  unfold B.entCells
  rw [flat4_take _ entC_len, List.zip_eq_zipWith, List.take_zipWith, ← List.zip_eq_zipWith]
theorem ent_drop (es : Es) (vs : List Value) (i : Nat) : (B.entCells es vs).drop (i * 4) = B.entCells (es.drop i) (vs.drop i) := by
  unfold B.entCells
  rw [flat4_drop _ entC_len, List.zip_eq_zipWith, List.drop_zipWith, ← List.zip_eq_zipWith]
theorem ent_app {es es' : Es} {vs vs' : List Value} (h : vs.length = es.length) : B.entCells (es ++ es') (vs ++ vs') = B.entCells es vs ++ B.entCells es' vs' := by
  unfold B.entCells
  rw [List.zip_append h.symm, List.flatMap_append]
/-- The entries from i to j make way for others. -/
def spl {α : Type} (l : List α) (i j : Nat) (xs : List α) : List α := l.take i ++ (xs ++ l.drop j)
theorem ent_spl {es xs : Es} {vs us : List Value} (h : vs.length = es.length) (hx : us.length = xs.length) (i j : Nat) : B.entCells (spl es i j xs) (spl vs i j us) = (B.entCells es vs).take (i * 4) ++ (B.entCells xs us ++ (B.entCells es vs).drop (j * 4)) := by
  unfold spl
  rw [ent_app (by simp [h]), ent_app hx, ent_take, ent_drop]
theorem spl_len {α : Type} (l : List α) (i j : Nat) (xs : List α) (hi : i ≤ l.length) (hj : j ≤ l.length) : (spl l i j xs).length = i + xs.length + (l.length - j) := by
  unfold spl
  simp only [List.length_append, List.length_take, List.length_drop]
  omega
theorem spl_mem {α : Type} {l : List α} {i j : Nat} {xs : List α} {a : α} (h : a ∈ spl l i j xs) : a ∈ l ∨ a ∈ xs := by
  unfold spl at h
  rcases List.mem_append.1 h with h | h
  · exact .inl (List.mem_of_mem_take h)
  · rcases List.mem_append.1 h with h | h
    · exact .inr h
    · exact .inl (List.mem_of_mem_drop h)
theorem take_drop_sub {α : Type} (l : List α) {i j : Nat} (hij : i ≤ j) : (l.take i ++ l.drop j).Sublist l := by
  have h : (l.drop j).Sublist (l.drop i) := by
    rw [show j = i + (j - i) by omega, ← List.drop_drop]
    exact List.drop_sublist _ _
  exact (List.Sublist.append (List.Sublist.refl (l.take i)) h).trans (by rw [List.take_append_drop]; exact List.Sublist.refl _)
theorem zip_spl {es xs : Es} {vs us : List Value} (h : vs.length = es.length) (hx : us.length = xs.length) (i j : Nat) : (spl es i j xs).zip (spl vs i j us) = spl (es.zip vs) i j (xs.zip us) := by
  unfold spl
  rw [List.zip_append (by simp [h]), List.zip_append hx.symm, List.zip_eq_zipWith, List.zip_eq_zipWith, List.zip_eq_zipWith, List.zip_eq_zipWith, List.take_zipWith, List.drop_zipWith]
def RowOf (w : World) (p : (B.It × Nat) × Value) : Prop := w.ownsRow 0 57 2 p.2 p.1.1.fields.length (p.1.1.fields.flatMap B.Fd.cells)
theorem its_zip {w : World} {es : Es} {vs : List Value} : (∀ (i : Nat) u e, vs[i]? = some u → es[i]? = some e → w.ownsRow 0 57 2 u e.1.fields.length (e.1.fields.flatMap B.Fd.cells)) ↔ ∀ p ∈ es.zip vs, RowOf w p := by
  constructor
  · intro h p hp
    obtain ⟨k, hk⟩ := List.mem_iff_getElem?.1 hp
    rw [List.getElem?_zip_eq_some] at hk
    exact h k p.2 p.1 hk.2 hk.1
  · intro h i u e hu he
    exact h (e, u) (List.mem_iff_getElem?.2 ⟨i, by rw [List.getElem?_zip_eq_some]; exact ⟨he, hu⟩⟩)
theorem LIn.splice {own : Nat → Prop} {w : World} {b next many : Nat} {es : Es} {ve : Value} {vs : List Value} (h : LIn own w b next many es ve vs) {w' : World} {own' : Nat → Prop} {i j next' many' : Nat} (hij : i ≤ j) {xs : Es} {us : List Value} {ve' : Value} (hxu : us.length = xs.length)
    (hkeep : ∀ u ∈ vs, ∀ g, u.ownBlock = some g → w'.heap[g]? = w.heap[g]?)
    (hblk : w'.heap[b]? = some (.cells #[ve', .int .i64 next', .int .i64 many'] 63 (0, 0)))
    (hrow : w'.ownsRow 0 67 4 ve' (spl es i j xs).length (B.entCells (spl es i j xs) (spl vs i j us)))
    (hnew : ∀ p ∈ xs.zip us, RowOf w' p) (hap : us.Pairwise Apart) (hfresh : ∀ u ∈ us, ∀ g, u.ownBlock = some g → w.heap.size ≤ g)
    (hsub : ∀ k, own k → own' k) (horow : ∀ g, ve'.ownBlock = some g → own' g) (hofs : ∀ u ∈ us, ∀ g, u.ownBlock = some g → own' g) (hlow : ∀ k, own' k → k < w'.heap.size) :
    LIn own' w' b next' many' (spl es i j xs) ve' (spl vs i j us) where
  blk := hblk
  row := hrow
  len := by unfold spl; simp [h.len, hxu]
  its := its_zip.2 fun p hp => by
    rw [zip_spl h.len hxu] at hp
    rcases spl_mem hp with hp | hp
    · have h1 := its_zip.1 h.its p hp
      exact B.ownsRow_of_block h1 fun g hg => hkeep p.2 (List.of_mem_zip hp).2 g hg
    · exact hnew p hp
  inj := inj_of (by
    have hv := apart_of h.inj
    have hold : ∀ u ∈ vs, ∀ g, u.ownBlock = some g → g < w.heap.size := fun u hu g hg => by
      obtain ⟨k, hk⟩ := List.mem_iff_getElem?.1 hu
      exact h.low g (h.ofs k u g hk hg)
    have h1 : (vs.take i ++ vs.drop j).Pairwise Apart := hv.sublist (take_drop_sub vs hij)
    obtain ⟨h2, h3, h4⟩ := List.pairwise_append.1 h1
    unfold spl
    refine List.pairwise_append.2 ⟨h2, List.pairwise_append.2 ⟨hap, h3, fun u hu u' hu' g hg hg' => ?_⟩, fun u hu u' hu' g hg hg' => ?_⟩
    · have := hfresh u hu g hg
      have := hold u' (List.mem_of_mem_drop hu') g hg'
      omega
    · rcases List.mem_append.1 hu' with hu' | hu'
      · have := hfresh u' hu' g hg'
        have := hold u (List.mem_of_mem_take hu) g hg
        omega
      · exact h4 u hu u' hu' g hg hg')
  ob := hsub _ h.ob
  orow := horow
  ofs := fun k u g hu hg => by
    rcases spl_mem (List.mem_iff_getElem?.2 ⟨k, hu⟩) with hu | hu
    · obtain ⟨q, hq⟩ := List.mem_iff_getElem?.1 hu
      exact hsub _ (h.ofs q u g hq hg)
    · exact hofs u hu g hg
  low := hlow
def ofFs (fs : List Fld) : List B.Fd := fs.map fun f => ⟨f.key, f.val⟩
theorem toFs_ofFs (fs : List Fld) : toFs (ofFs fs) = fs := by
  unfold toFs ofFs
  rw [List.map_map]
  exact (List.map_congr_left fun f _ => rfl).trans (List.map_id _)
theorem ofFs_cells (fs : List Fld) : (ofFs fs).flatMap B.Fd.cells = fs.flatMap fdc := by rw [cells_fdc, toFs_ofFs]
theorem ofFs_len (fs : List Fld) : (ofFs fs).length = fs.length := by simp [ofFs]
theorem sum4 {α : Type} : ∀ l : List α, (l.map fun _ => 4).sum = l.length * 4
  | [] => rfl
  | a :: r => by rw [List.map_cons, List.sum_cons, sum4 r, List.length_cons]; omega
theorem ent_len {es : Es} {vs : List Value} (h : vs.length = es.length) : (B.entCells es vs).length = es.length * 4 := by
  unfold B.entCells
  rw [List.length_flatMap]
  have := sum4 (es.zip vs)
  rw [List.length_zip, h, Nat.min_self] at this
  exact this
theorem entC_one (e : B.It × Nat) (uo : Option Addr) (a c : Nat) : ∀ x ∈ B.entC e (.slice uo a c), x.oneCell' = true := by
  intro x hx
  unfold B.entC at hx
  simp only [List.mem_cons, List.mem_nil_iff, or_false] at hx
  rcases hx with rfl | rfl | rfl | rfl <;> rfl
theorem LIn.one {own : Nat → Prop} {w : World} {b next many : Nat} {es : Es} {ve : Value} {vs : List Value} (h : LIn own w b next many es ve vs) : ∀ x ∈ B.entCells es vs, x.oneCell' = true := by
  intro x hx
  unfold B.entCells at hx
  obtain ⟨p, hp, hx⟩ := List.mem_flatMap.1 hx
  have h1 := its_zip.1 h.its p hp
  obtain ⟨uo, uc, hu⟩ := own_shape h1
  rw [hu] at hx
  exact entC_one p.1 uo _ uc x hx
theorem own_zero {w w' : World} {base base' : Nat} {e : TypeId} {size n g c : Nat} {xs : List Value} (h : w.ownsRow base e size (.slice (some ⟨g, 0, none⟩) n c) n xs) (hb : w'.heap[g]? = w.heap[g]?) (hg : base' ≤ g) : w'.ownsRow base' e size (.slice (some ⟨g, 0, none⟩) n c) n xs := by
  refine ⟨h.1, ?_⟩
  rcases h.2 with ⟨h1, -⟩ | ⟨g', c', cur', h1, h2, h3, h4⟩
  · cases h1
  · have : g' = g := by
      injection h1 with h1
      injection h1 with h1
      injection h1 with h1
      exact h1.symm
    subst this
    exact .inr ⟨g', c', cur', h1, hg, hb.trans h3, h4⟩
end Go.Proofs.YtklbbcemacpimaaGreatDoor.I
