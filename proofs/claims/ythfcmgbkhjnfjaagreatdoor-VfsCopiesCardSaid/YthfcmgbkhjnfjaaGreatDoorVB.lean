/- A file's text: what is sure, and what waits played onto it. Rows of the reference's disk: names, what waits of a file, files, moves, acts. -/
import Derived.Test.YthfcmgbkhjnfjaaGreatDoorVA
namespace Go.Proofs.YthfcmgbkhjnfjaaGreatDoor
open Go.RowKit

theorem rets {a b : ByteArray} (h : a = b) : Ending.returned (.string a) = .returned (.string b) := by rw [h]
theorem units_any (x : Wt) (w : World) :
    Calls Tryz.prog 69 #[.agg #[.string x.text, .int .i64 x.place, .bool x.cut]] w fun e w' => e = .returned (.int .i64 x.units) ∧ Below w.heap.size w w' := by
  obtain ⟨t, p, c⟩ := x
  cases c with
  | false =>
    go_enter Tryz.func69, Tryz.ntmps69
    go_wp2
    go_ret
    exact ⟨rfl, (Below.refl _ _).alloc (Nat.le_refl _) _⟩
  | true =>
    go_enter Tryz.func69, Tryz.ntmps69
    go_wp2
    go_ret
    exact ⟨rfl, (Below.refl _ _).alloc (Nat.le_refl _) _⟩
set_option maxHeartbeats 400000 in
theorem onto_any (x : Wt) (s : ByteArray) (n : Int) (w : World) (hp : x.cut = true → 0 ≤ x.place) (hn0 : 0 ≤ n) (hn : x.cut = false → n ≤ x.text.size) (hs : s.size ≤ 1000000000) (ht : x.text.size ≤ 1000000000) :
    Calls Tryz.prog 70 #[.agg #[.string x.text, .int .i64 x.place, .bool x.cut], .string s, .int .i64 n] w fun e w' => e = .returned (.string (x.onto s n)) ∧ Below w.heap.size w w' := by
  obtain ⟨t, p, c⟩ := x
  simp only at *
  cases c with
  | false =>
    have hn' := hn rfl
    clear hn hp
    have hz : (t.extract 0 n.toNat).size ≤ 1000000000 := by rw [ByteArray.size_extract]; omega
    go_enter Tryz.func70, Tryz.ntmps70
    go_wp2
    go_ret
    exact ⟨rfl, (Below.refl _ _).alloc (Nat.le_refl _) _⟩
  | true =>
    have hp' := hp rfl
    clear hn hp
    by_cases hm : p ≤ s.size
    · have E : Hid (min p (s.size : Int) = p) := Lib.hid (by omega)
      go_enter Tryz.func70, Tryz.ntmps70
      go_wp2
      go_ret
      exact ⟨rets (by unfold Wt.onto; simp only [if_true]; rw [E.out]), (Below.refl _ _).alloc (Nat.le_refl _) _⟩
    · have E : Hid (min p (s.size : Int) = s.size) := Lib.hid (by omega)
      go_enter Tryz.func70, Tryz.ntmps70
      go_wp2
      go_ret
      exact ⟨rets (by unfold Wt.onto; simp only [if_true]; rw [E.out, Int.toNat_natCast]; simp), (Below.refl _ _).alloc (Nat.le_refl _) _⟩
theorem flat_get {α : Type} {c : α → List Value} {n : Nat} (hc : ∀ x, (c x).length = n) : ∀ (l : List α) (k : Nat) (x : α), l[k]? = some x → ∀ j, j < n → (l.flatMap c)[k * n + j]? = (c x)[j]?
  | [], k, x, h, _, _ => by simp at h
  | y :: t, 0, x, h, j, hj => by
    simp at h
    subst h
    rw [List.flatMap_cons, Nat.zero_mul, Nat.zero_add, List.getElem?_append_left (by rw [hc]; omega)]
  | y :: t, k + 1, x, h, j, hj => by
    rw [List.flatMap_cons, List.getElem?_append_right (by rw [hc, Nat.add_mul]; omega), hc]
    rw [show (k + 1) * n + j - n = k * n + j by rw [Nat.add_mul]; omega]
    exact flat_get hc t k x (by simpa using h) j hj
theorem flat_len {α : Type} {c : α → List Value} {n : Nat} (hc : ∀ x, (c x).length = n) (l : List α) : (l.flatMap c).length = l.length * n := by
  induction l with
  | nil => simp
  | cons y t ih => rw [List.flatMap_cons, List.length_append, ih, hc, List.length_cons, Nat.add_mul]; omega
/-- What a row of records looks like, and its cells, as long as its block stands. -/
theorem rec_cells {α : Type} {c : α → List Value} {n : Nat} (hc : ∀ x, (c x).length = n) {w : World} {e : TypeId} {v : Value} {l : List α} (h : w.ownsRow 0 e n v l.length (l.flatMap c)) :
    ∃ ao cp, v = .slice ao l.length cp ∧ ∀ k x, l[k]? = some x → ∃ g, ao = some ⟨g, 0, none⟩ ∧ g < w.heap.size ∧ ∀ wr : World, wr.heap[g]? = w.heap[g]? → ∀ j, j < n → wr.cell? ⟨g, k * n + j, none⟩ = (c x)[j]? := by
  rcases h.2 with ⟨rfl, h0⟩ | ⟨g, cp, cur, rfl, h1, h2, h3, h4, h5, h6⟩
  · have : l = [] := List.length_eq_zero_iff.1 h0
    subst this
    exact ⟨none, 0, rfl, fun k x hx => by simp at hx⟩
  · refine ⟨some ⟨g, 0, none⟩, cp, rfl, fun k x hx => ⟨g, rfl, (Array.getElem?_eq_some_iff.1 h2).1, fun wr hw j hj => ?_⟩⟩
    have hk : k < l.length := by
      rcases Nat.lt_or_ge k l.length with h | h
      · exact h
      · rw [List.getElem?_eq_none h] at hx; cases hx
    have e1 := flat_get hc l k x hx j hj
    have hlt : k * n + j < l.length * n := by
      have : (k + 1) * n ≤ l.length * n := Nat.mul_le_mul_right _ hk
      rw [Nat.add_mul] at this
      omega
    rw [← h6, List.getElem?_take, if_pos hlt] at e1
    rw [← e1]
    simp [World.cell?, hw, h2]
/-- What the walks ask of a file. -/
structure Fl.Ok (F : Fl) : Prop where
  cuts : ∀ x ∈ F.waits, x.cut = true → 0 ≤ x.place
  mass : F.mass ≤ 10000000
  many : F.waits.length ≤ 10000000
theorem units_nn (x : Wt) : 0 ≤ x.units := by unfold Wt.units; split <;> omega
theorem units_le {F : Fl} (h : F.Ok) {x : Wt} (hx : x ∈ F.waits) : x.units ≤ 10000001 := by
  have := Fl.text_le hx
  have := h.mass
  unfold Wt.units; split <;> omega
/-- A new block's cell, behind a call. -/
theorem new_cell {wr w2 : World} {cs : Array Value} {T : TypeId} {j : Nat} {v : Value} (h : Below (wr.alloc (.cells cs T)).heap.size (wr.alloc (.cells cs T)) w2) (hv : cs[j]? = some v) : w2.cell? ⟨wr.heap.size, j, none⟩ = some v := by
  rw [h.cell (p := ⟨wr.heap.size, j, none⟩) (by simp), World.cell?_alloc_new]
  exact hv
/-- The loop's relation. -/
def BehRel (F : Fl) (u : Int) (w : World) (un o i : Value) (wr : World) : Prop :=
  ∃ (k : Nat) (s : ByteArray) (q : Int), un = .int .i64 q ∧ o = .string s ∧ i = .int .i64 k ∧ k ≤ F.waits.length ∧ -1 ≤ q ∧ q ≤ 9223372036854775807 ∧ Hid (F.upto u k = (s, q)) ∧ Hid (Below w.heap.size w wr)
theorem BehRel.next {F : Fl} {u : Int} {w : World} {k : Nat} {s : ByteArray} {q : Int} {x : Wt} {s' : ByteArray} {q' : Int} {wr : World} (hx : F.waits[k]? = some x) (h : F.upto u k = (s, q)) (hs : stepW (s, q) x = (s', q')) (h0 : -1 ≤ q') (h1 : q' ≤ 9223372036854775807) (hb : Below w.heap.size w wr) :
    BehRel F u w (.int .i64 q') (.string s') (.int .i64 ((k : Int) + 1)) wr := by
  have hk : k < F.waits.length := by
    rcases Nat.lt_or_ge k F.waits.length with h | h
    · exact h
    · rw [List.getElem?_eq_none h] at hx; cases hx
  exact ⟨k + 1, s', q', rfl, rfl, by go_num, hk, h0, h1, by show _ = _; rw [Fl.upto_succ F u hx, h, hs], hb⟩
set_option maxHeartbeats 1600000 in
theorem behind_any (u : Int) (w : World) (ρ : Col) (i : Nat) (f : Nat × Value) (F : Fl) (h : FileAt w ρ i f F) (ok : F.Ok) (hu0 : -1 ≤ u) (hu1 : u ≤ 9223372036854775807) :
    Calls Tryz.prog 47 #[.pointer (some ⟨f.1, 0, none⟩), .int .i64 u] w fun e w' => e = .returned (.string (F.behind u)) ∧ Below w.heap.size w w' := by
  have c0 : w.cell? ⟨f.1, 0, none⟩ = some (.string F.sure) := cell_of_row w f.1 0 _ _ _ h.1.1
  have c1 : w.cell? ⟨f.1, 1, none⟩ = some f.2 := cell_of_row w f.1 1 _ _ _ h.1.1
  obtain ⟨ao, cp, hv, hc⟩ := rec_cells (c := Wt.cells) (n := 3) (fun _ => rfl) h.2.1
  obtain ⟨fb, fv⟩ := f
  simp only at c0 c1 hv
  subst hv
  have HC := Lib.hid hc
  have OK := Lib.hid ok
  have hmany := ok.many
  clear hc h ok
  go_enter Tryz.func47, Tryz.ntmps47
  go_wp2_with fail
  go_loopw [1, 5, 18] (BehRel F u w) (fun _ _ i _ => F.waits.length - (intOf i).toNat)
  case atStart => exact ⟨0, F.sure, u, rfl, rfl, rfl, Nat.zero_le _, hu0, hu1, rfl, Below.refl _ _⟩
  case round =>
    obtain ⟨k, s, q, rfl, rfl, rfl, hk, hq0, hq1, hup, hb⟩ := hrel
    by_cases hlt : k < F.waits.length
    · obtain ⟨x, hx⟩ : ∃ x, F.waits[k]? = some x := ⟨_, List.getElem?_eq_getElem hlt⟩
      obtain ⟨g, rfl, hg, hcell⟩ := HC.out k x hx
      have hcell' := hcell wr (hb.out.block g hg)
      have n0 : wr.cell? ⟨g, k * 3, none⟩ = some (.string x.text) := hcell' 0 (by omega)
      have n1 : wr.cell? ⟨g, k * 3 + 1, none⟩ = some (.int .i64 x.place) := hcell' 1 (by omega)
      have n2 : wr.cell? ⟨g, k * 3 + 2, none⟩ = some (.bool x.cut) := hcell' 2 (by omega)
      have hmem : x ∈ F.waits := List.mem_of_getElem? hx
      have hss := Fl.upto_size F u k
      rw [hup.out] at hss
      have hss' : s.size ≤ 10000000 := Nat.le_trans hss OK.out.mass
      have hts : x.text.size ≤ 10000000 := Nat.le_trans (Fl.text_le hmem) OK.out.mass
      have U := fun w => units_any x w
      have hn0 := units_nn x
      have hn1 := units_le OK.out hmem
      have O := fun (m : Int) (w : World) (h0 : 0 ≤ m) (h1 : m ≤ x.units) => onto_any x s m w (OK.out.cuts x hmem) h0 (fun hc => by unfold Wt.units at h1; rw [hc] at h1; simpa using h1) (by omega) (by omega)
      have S : stepW (s, q) x = stepW (s, q) x := rfl
      conv at S => rhs; unfold stepW
      simp only at S
      generalize x.units = m at *
      have U' := Lib.hid U
      have O' := Lib.hid O
      have HX := Lib.hid hx
      have S' := Lib.hid S
      clear U O hx hcell hcell' hmem hss S
      by_cases hq : 0 ≤ q
      · by_cases hmq : m ≤ q
        · have e1 : Hid (min m q = m) := Lib.hid (by omega)
          by_cases hm : 0 < m
          · have hm1 : 1 ≤ m := hm
            go_wp2_with fail
            refine (U'.out _).mono ?_
            rintro e w2 ⟨rfl, b2⟩
            have v0 := new_cell (j := 0) b2 rfl
            have v1 := new_cell (j := 1) b2 rfl
            have v2 := new_cell (j := 2) b2 rfl
            have hb2 : Hid (Below w.heap.size w w2) := Lib.hid ((hb.out.alloc hb.out.size _).trans (b2.mono (by have := hb.out.size; simp; omega)))
            have B2 := Lib.hid b2
            clear b2
            go_wp2_with fail
            refine (O'.out m _ (by omega) (by omega)).mono ?_
            rintro e w3 ⟨rfl, b3⟩
            have hb3 : Hid (Below w.heap.size w w3) := Lib.hid (hb2.out.trans (b3.mono hb2.out.size))
            clear b3
            go_wp2_with fail
            go_roundw
            case rel => exact BehRel.next HX.out hup.out (by rw [S'.out]; rw [if_pos hq, e1.out, if_pos hm] <;> simp) (by omega) (by omega) hb3.out
            case measure => simp [intOf]; omega
          · obtain rfl : m = 0 := by omega
            go_wp2_with fail
            refine (U'.out _).mono ?_
            rintro e w2 ⟨rfl, b2⟩
            have v0 := new_cell (j := 0) b2 rfl
            have v1 := new_cell (j := 1) b2 rfl
            have v2 := new_cell (j := 2) b2 rfl
            have hb2 : Hid (Below w.heap.size w w2) := Lib.hid ((hb.out.alloc hb.out.size _).trans (b2.mono (by have := hb.out.size; simp; omega)))
            have B2 := Lib.hid b2
            clear b2
            go_wp2_with fail
            go_roundw
            case rel => exact BehRel.next HX.out hup.out (by rw [S'.out]; rw [if_pos hq, e1.out, if_neg (Int.lt_irrefl 0)] <;> simp) (by omega) (by omega) hb2.out
            case measure => simp [intOf]; omega
        · have e1 : Hid (min m q = q) := Lib.hid (by omega)
          by_cases hm : 0 < q
          · have hm1 : 1 ≤ q := hm
            go_wp2_with fail
            refine (U'.out _).mono ?_
            rintro e w2 ⟨rfl, b2⟩
            have v0 := new_cell (j := 0) b2 rfl
            have v1 := new_cell (j := 1) b2 rfl
            have v2 := new_cell (j := 2) b2 rfl
            have hb2 : Hid (Below w.heap.size w w2) := Lib.hid ((hb.out.alloc hb.out.size _).trans (b2.mono (by have := hb.out.size; simp; omega)))
            have B2 := Lib.hid b2
            clear b2
            go_wp2_with fail
            refine (O'.out q _ (by omega) (by omega)).mono ?_
            rintro e w3 ⟨rfl, b3⟩
            have hb3 : Hid (Below w.heap.size w w3) := Lib.hid (hb2.out.trans (b3.mono hb2.out.size))
            clear b3
            go_wp2_with fail
            go_roundw
            case rel => exact BehRel.next HX.out hup.out (by rw [S'.out]; rw [if_pos hq, e1.out, if_pos hm] <;> simp) (by omega) (by omega) hb3.out
            case measure => simp [intOf]; omega
          · obtain rfl : q = 0 := by omega
            go_wp2_with fail
            refine (U'.out _).mono ?_
            rintro e w2 ⟨rfl, b2⟩
            have v0 := new_cell (j := 0) b2 rfl
            have v1 := new_cell (j := 1) b2 rfl
            have v2 := new_cell (j := 2) b2 rfl
            have hb2 : Hid (Below w.heap.size w w2) := Lib.hid ((hb.out.alloc hb.out.size _).trans (b2.mono (by have := hb.out.size; simp; omega)))
            have B2 := Lib.hid b2
            clear b2
            go_wp2_with fail
            go_roundw
            case rel => exact BehRel.next HX.out hup.out (by rw [S'.out]; rw [if_pos hq, e1.out, if_neg (Int.lt_irrefl 0)] <;> simp) (by omega) (by omega) hb2.out
            case measure => simp [intOf]; omega
      · by_cases hm : 0 < m
        · have hm1 : 1 ≤ m := hm
          go_wp2_with fail
          refine (U'.out _).mono ?_
          rintro e w2 ⟨rfl, b2⟩
          have v0 := new_cell (j := 0) b2 rfl
          have v1 := new_cell (j := 1) b2 rfl
          have v2 := new_cell (j := 2) b2 rfl
          have hb2 : Hid (Below w.heap.size w w2) := Lib.hid ((hb.out.alloc hb.out.size _).trans (b2.mono (by have := hb.out.size; simp; omega)))
          have B2 := Lib.hid b2
          clear b2
          go_wp2_with fail
          refine (O'.out m _ (by omega) (by omega)).mono ?_
          rintro e w3 ⟨rfl, b3⟩
          have hb3 : Hid (Below w.heap.size w w3) := Lib.hid (hb2.out.trans (b3.mono hb2.out.size))
          clear b3
          go_wp2_with fail
          go_roundw
          case rel => exact BehRel.next HX.out hup.out (by rw [S'.out]; rw [if_neg (show ¬ 0 ≤ q by omega), if_pos hm] <;> simp) (by omega) (by omega) hb3.out
          case measure => simp [intOf]; omega
        · obtain rfl : m = 0 := by omega
          go_wp2_with fail
          refine (U'.out _).mono ?_
          rintro e w2 ⟨rfl, b2⟩
          have v0 := new_cell (j := 0) b2 rfl
          have v1 := new_cell (j := 1) b2 rfl
          have v2 := new_cell (j := 2) b2 rfl
          have hb2 : Hid (Below w.heap.size w w2) := Lib.hid ((hb.out.alloc hb.out.size _).trans (b2.mono (by have := hb.out.size; simp; omega)))
          have B2 := Lib.hid b2
          clear b2
          go_wp2_with fail
          go_roundw
          case rel => exact BehRel.next HX.out hup.out (by rw [S'.out]; rw [if_neg (show ¬ 0 ≤ q by omega), if_neg (Int.lt_irrefl 0)] <;> simp) (by omega) (by omega) hb2.out
          case measure => simp [intOf]; omega
    · go_wp2_with fail
      go_ret
      refine ⟨rets ?_, hb.out⟩
      have := Fl.upto_all F u (k := k) (by omega)
      rw [hup.out] at this
      exact this
theorem seen_any (w : World) (ρ : Col) (i : Nat) (f : Nat × Value) (F : Fl) (h : FileAt w ρ i f F) (ok : F.Ok) :
    Calls Tryz.prog 49 #[.pointer (some ⟨f.1, 0, none⟩)] w fun e w' => e = .returned (.string F.seen) ∧ Below w.heap.size w w' := by
  have B := Lib.hid (behind_any (-1) w ρ i f F h ok (by decide) (by decide))
  clear h ok
  go_enter Tryz.func49, Tryz.ntmps49
  go_wp2_with fail
  refine B.out.mono ?_
  rintro e w' ⟨rfl, hb⟩
  go_wp2_with fail
  go_ret
  exact ⟨rfl, hb⟩
end Go.Proofs.YthfcmgbkhjnfjaaGreatDoor

namespace Go.Proofs.YthfcmgbkhjnfjaaGreatDoor
open Go.RowKit Go.Maps

def Bit.cells (b : Bit) : List Value := [.int .u8 b.byte.toNat, .int .i64 b.place, .bool b.cut]
def entC (e : Ent) : List Value := [.string e.1, .int .i64 e.2]
def filC (p : ByteArray × Value) : List Value := [.string p.1, p.2]
/-- Names in a row. -/
def EntsAt (w : World) (v : Value) (l : List Ent) : Prop := w.ownsRow 0 82 2 v l.length (l.flatMap entC)
/-- What waits of a file, in a row. -/
def BitsAt (w : World) (v : Value) (l : List Bit) : Prop := w.ownsRow 0 131 3 v l.length (l.flatMap Bit.cells)
def FilesAt (w : World) (v : Value) (l : List (ByteArray × Value)) : Prop := w.ownsRow 0 86 2 v l.length (l.flatMap filC)
def MovesAt (w : World) (v : Value) (l : List En) : Prop := w.ownsRow 0 128 3 v l.length (l.flatMap En.cells)
def ActsAt (w : World) (v : Value) (l : List Ac) : Prop := w.ownsRow 0 89 5 v l.length (l.flatMap Ac.cells)
theorem own0_below {w w' : World} {e : TypeId} {size : Nat} {v : Value} {n : Nat} {xs : List Value} (h : w.ownsRow 0 e size v n xs) (hb : Below w.heap.size w w') : w'.ownsRow 0 e size v n xs :=
  ownsRow_of_block h fun g hg => hb.block g (h.lt g hg).2
theorem own_to0 {N : Nat} {e : TypeId} {size n : Nat} {xs : List Value} {w : World} {v : Value} (h : w.ownsRow N e size v n xs) : w.ownsRow 0 e size v n xs := by
  refine ⟨h.1, ?_⟩
  rcases h.2 with h0 | ⟨g, cap, cur, hv, hB2, hr⟩
  · exact .inl h0
  · exact .inr ⟨g, cap, cur, hv, Nat.zero_le _, hr⟩
theorem bits_few {l : List Wt} : (l.flatMap Wt.bits).length ≤ (l.map fun w => w.text.size).sum + l.length := by
  induction l with
  | nil => simp
  | cons x r ih =>
    rw [List.flatMap_cons, List.length_append, List.map_cons, List.sum_cons, List.length_cons]
    have : x.bits.length ≤ x.text.size + 1 := by
      have := x.bits_len
      unfold Wt.units at this
      split at this <;> omega
    omega
theorem Fl.bits_le {F : Fl} (h : F.Ok) : F.bits.length ≤ 20000000 := by
  have h1 := bits_few (l := F.waits)
  have h2 := h.mass
  have h3 := h.many
  unfold Fl.mass at h2
  unfold Fl.bits
  omega
theorem onto_le (b : Bit) (s : ByteArray) : (b.onto s).size ≤ s.size + 1 := by
  unfold Bit.onto
  split
  · split
    · rw [ByteArray.size_extract]; omega
    · omega
  · rw [ByteArray.size_append]; exact Nat.le_refl _
theorem bitsOn_le : ∀ (l : List Bit) (s : ByteArray), (bitsOn s l).size ≤ s.size + l.length
  | [], s => Nat.le_refl _
  | b :: r, s => by
    have h1 := bitsOn_le r (b.onto s)
    have h2 := onto_le b s
    show (bitsOn (b.onto s) r).size ≤ _
    rw [List.length_cons]
    omega
end Go.Proofs.YthfcmgbkhjnfjaaGreatDoor
