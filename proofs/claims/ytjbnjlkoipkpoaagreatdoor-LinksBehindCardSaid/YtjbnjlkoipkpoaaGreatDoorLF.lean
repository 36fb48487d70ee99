/- A row of links from which some are struck: where it stands in memory. slices.IndexFunc at links, with a predicate that turns nothing. slices.DeleteFunc at links, with a predicate that turns nothing. links.Dangling and links.others, walked. -/
import Derived.Test.YtjbnjlkoipkpoaaGreatDoorLE
namespace Go.Proofs.YtjbnjlkoipkpoaaGreatDoor.T
open Go.RowKit Go.Shelf Go.Maps
open Go.Proofs.YtjbnjlkoipkpoaaGreatDoor.B

/-- Link E p stands at place p of the block g; nothing else is turned. -/
structure DlW (w0 : World) (g n cap : Nat) (E : Nat → Lk) (W : World) : Prop where
  keep : KeepBut w0 g W
  lt : g < w0.heap.size
  blk : ∃ cur : Array Value, W.heap[g]? = some (.cells cur 66 (0, 0)) ∧ cur.size = cap * 3 ∧ n ≤ cap ∧ cap ≤ maxLen ∧ ∀ p, p < n → cur[p * 3]? = some (.int .i64 (E p).1) ∧ cur[p * 3 + 1]? = some (.int .i64 (E p).2.1) ∧ cur[p * 3 + 2]? = some (.string ⟨(E p).2.2.toArray⟩)
theorem DlW.below {w0 W W' : World} {g n cap : Nat} {E : Nat → Lk} (h : DlW w0 g n cap E W) (hb : Below W.heap.size W W') : DlW w0 g n cap E W' :=
  ⟨h.keep.below hb, h.lt, let ⟨cur, h1, h2⟩ := h.blk; ⟨cur, (hb.block g (Nat.lt_of_lt_of_le h.lt h.keep.size)).trans h1, h2⟩⟩
theorem DlW.cells {w0 W : World} {g n cap : Nat} {E : Nat → Lk} (h : DlW w0 g n cap E W) (p : Nat) (hp : p < n) :
    W.cell? ⟨g, p * 3, none⟩ = some (.int .i64 (E p).1) ∧ W.cell? ⟨g, p * 3 + 1, none⟩ = some (.int .i64 (E p).2.1) ∧ W.cell? ⟨g, p * 3 + 2, none⟩ = some (.string ⟨(E p).2.2.toArray⟩) := by
  obtain ⟨cur, h1, _, _, _, h2⟩ := h.blk
  obtain ⟨a, b, c⟩ := h2 p hp
  exact ⟨(_root_.Go.Proofs.YtjbnjlkoipkpoaaGreatDoor.B.cell_of_row _ _ _ _ _ h1).trans a, (_root_.Go.Proofs.YtjbnjlkoipkpoaaGreatDoor.B.cell_of_row _ _ _ _ _ h1).trans b, (_root_.Go.Proofs.YtjbnjlkoipkpoaaGreatDoor.B.cell_of_row _ _ _ _ _ h1).trans c⟩
theorem DlW.froz {w0 W : World} {g n cap : Nat} {E : Nat → Lk} (h : DlW w0 g n cap E W) (o : Nat) : W.frozen? ⟨g, o, none⟩ = false := by
  obtain ⟨cur, h1, _⟩ := h.blk
  simp [World.frozen?, h1]
theorem DlW.put {w0 W : World} {g n cap : Nat} {E : Nat → Lk} (h : DlW w0 g n cap E W) {i : Nat} (hi : i < n) {l : Lk} :
    DlW w0 g n cap (fun p => if p = i then l else E p) (((W.setCell ⟨g, i * 3, none⟩ (.int .i64 l.1)).setCell ⟨g, i * 3 + 1, none⟩ (.int .i64 l.2.1)).setCell ⟨g, i * 3 + 2, none⟩ (.string ⟨l.2.2.toArray⟩)) := by
  obtain ⟨cur, h1, h2, h3, h4, h5⟩ := h.blk
  refine ⟨((h.keep.setCell _ _).setCell _ _).setCell _ _, h.lt, _, heap_setCell_same _ _ _ _ _ _ (heap_setCell_same _ _ _ _ _ _ (heap_setCell_same _ _ _ _ _ _ h1)), by simpa using h2, h3, h4, fun p hp => ?_⟩
  have hl : i * 3 + 2 < cur.size := by omega
  obtain ⟨a, b, c⟩ := h5 p hp
  by_cases e : p = i
  · subst e
    simp only [if_pos, Array.getElem?_setIfInBounds, Array.size_setIfInBounds]
    refine ⟨?_, ?_, ?_⟩
    · rw [if_neg (by omega), if_neg (by omega), if_pos (by omega)]
    · rw [if_neg (by omega), if_pos (by omega)]
    · rw [if_pos (by omega)]
  · simp only [if_neg e, Array.getElem?_setIfInBounds, Array.size_setIfInBounds]
    refine ⟨?_, ?_, ?_⟩
    · rw [if_neg (by omega), if_neg (by omega), if_neg (by omega)]; exact a
    · rw [if_neg (by omega), if_neg (by omega), if_neg (by omega)]; exact b
    · rw [if_neg (by omega), if_neg (by omega), if_neg (by omega)]; exact c
theorem flat_lk_len (t : List Lk) : (t.flatMap lkC).length = t.length * 3 := by
  induction t with
  | nil => rfl
  | cons x r ih => rw [List.flatMap_cons, List.length_append, ih, List.length_cons]; simp [lkC]; omega
theorem DlW.row {w0 W : World} {g n cap i B : Nat} {E : Nat → Lk} (h : DlW w0 g n cap E W) (hB : B ≤ g) (hi : i ≤ n) {t : List Lk} (ht : t.length = i) (hE : ∀ p, p < i → t[p]? = some (E p)) :
    LkRow B W (.slice (some ⟨g, 0, none⟩) i cap) t := by
  obtain ⟨cur, h1, h2, h3, h4, h5⟩ := h.blk
  subst ht
  refine ⟨flat_lk_len t, .inr ⟨g, cap, cur, rfl, hB, h1, by omega, h4, h2, ?_⟩⟩
  apply List.ext_getElem?
  intro m
  rw [List.getElem?_take]
  by_cases hm : m < t.length * 3
  · rw [if_pos hm]
    have hq : m / 3 < t.length := by omega
    obtain ⟨a, b, c⟩ := h5 (m / 3) (by omega)
    obtain ⟨x, y, z⟩ := lkC_get t (m / 3) _ (hE (m / 3) hq)
    obtain ⟨q, hqm⟩ : ∃ q, m / 3 = q := ⟨_, rfl⟩
    rw [hqm] at a b c x y z
    rw [Array.getElem?_toList]
    rcases (by omega : m = q * 3 ∨ m = q * 3 + 1 ∨ m = q * 3 + 2) with e | e | e
    · rw [e, a, x]
    · rw [e, b, y]
    · rw [e, c, z]
  · rw [if_neg hm, List.getElem?_eq_none]
    rw [flat_lk_len]; omega
theorem LkRow.dlw {B : Nat} {w : World} {g cap : Nat} {t : List Lk} (h : LkRow B w (.slice (some ⟨g, 0, none⟩) t.length cap) t) : ∃ E : Nat → Lk, DlW w g t.length cap E w ∧ ∀ p, p < t.length → t[p]? = some (E p) := by
  rcases h.2 with ⟨h0, _⟩ | ⟨g', cap', cur, hv, hb, hg, hle, hm, hs, htk⟩
  · cases h0
  · injection hv with z1 z2 z3
    injection z1 with z1
    injection z1 with z1 _ _
    subst z1 z3
    refine ⟨fun p => t.getD p (0, 0, []), ⟨KeepBut.refl _ _, (Array.getElem?_eq_some_iff.1 hg).1, cur, hg, hs, hle, hm, fun p hp => ?_⟩, fun p hp => ?_⟩
    · have e : t[p]? = some (t.getD p (0, 0, [])) := by rw [List.getD_eq_getElem?_getD, List.getElem?_eq_getElem hp]; rfl
      obtain ⟨x, y, z⟩ := lkC_get t p _ e
      have aux : ∀ m, m < t.length * 3 → cur[m]? = (t.flatMap lkC)[m]? := fun m hm => by
        rw [← htk, List.getElem?_take, if_pos hm, Array.getElem?_toList]
      exact ⟨(aux _ (by omega)).trans x, (aux _ (by omega)).trans y, (aux _ (by omega)).trans z⟩
    · show t[p]? = some (t.getD p (0, 0, []))
      rw [List.getD_eq_getElem?_getD, List.getElem?_eq_getElem hp]; rfl
/-- What clear does to the row's end. -/
theorem DlW.clear {w0 W : World} {g n cap : Nat} {E : Nat → Lk} (h : DlW w0 g n cap E W) {i c : Nat} (hi : i < n) :
    ∃ W', (∀ ty : TypeId, (Builtin.clear_ #[29] ty #[.slice (some ⟨g, i * 3, none⟩) (n - i) c]).run Tryz.prog W = .ok (.tuple #[]) W') ∧ DlW w0 g i cap E W' := by
  obtain ⟨cur, h1, h2, h3, h4, h5⟩ := h.blk
  have hz : ∀ w : World, (zeroValue 66).run Tryz.prog w = .ok (.agg #[.int .i64 0, .int .i64 0, .string ⟨#[]⟩]) w := fun w => by kernel_rfl
  obtain ⟨vs, hvs⟩ : ∃ vs, (Builtin.zeroCells (Value.agg #[.int .i64 0, .int .i64 0, .string ⟨#[]⟩]).cells (n - i)).toList = vs := ⟨_, rfl⟩
  have hlen : vs.length = (n - i) * 3 := by rw [← hvs, Array.length_toList, size_zeroCells]; rfl
  have hone : ∀ v ∈ vs, v.oneCell' = true := fun v hv => by
    rw [← hvs] at hv
    simp only [Builtin.zeroCells, Array.toList_map, List.mem_map, Array.mem_toList_iff] at hv
    obtain ⟨m, _, rfl⟩ := hv
    have : m % 3 = 0 ∨ m % 3 = 1 ∨ m % 3 = 2 := by omega
    rcases this with e | e | e <;> simp [Value.cells, e, Value.oneCell']
  have hst := run_storeCells_at Tryz.prog g (i * 3) 66 vs 0 cur W h1 (by rw [hlen, h2]; omega) hone
  obtain ⟨m, hm⟩ : ∃ m, n - i = m + 1 := ⟨n - i - 1, by omega⟩
  refine ⟨W.setRow g (cur.toList.take (i * 3 + 0) ++ vs ++ cur.toList.drop (i * 3 + 0 + vs.length)).toArray, fun ty => ?_, ⟨h.keep.os, h.keep.tape, h.keep.output, ?_, fun k hk hn => ?_⟩, h.lt, _, setRow_heap W g cur _ _ _ h1, ?_, by omega, h4, fun p hp => ?_⟩
  · rw [hm] at hvs ⊢
    simp [Builtin.clear_, run_underlying Tryz.underlying29, hz, hvs, hst]
  · simpa using h.keep.size
  · exact (setRow_other W g k _ hn).trans (h.keep.block k hk hn)
  · simp only [List.size_toArray, List.length_append, List.length_take, List.length_drop, Array.length_toList]
    omega
  · obtain ⟨a, b, c'⟩ := h5 p (by omega)
    have aux : ∀ m, m < i * 3 → (cur.toList.take (i * 3 + 0) ++ vs ++ cur.toList.drop (i * 3 + 0 + vs.length)).toArray[m]? = cur[m]? := fun m hm => by
      rw [List.getElem?_toArray, List.append_assoc, List.getElem?_append_left (by rw [List.length_take, Array.length_toList]; omega), List.getElem?_take, if_pos (by omega), Array.getElem?_toList]
    exact ⟨(aux _ (by omega)).trans a, (aux _ (by omega)).trans b, (aux _ (by omega)).trans c'⟩
end Go.Proofs.YtjbnjlkoipkpoaaGreatDoor.T

namespace Go.Proofs.YtjbnjlkoipkpoaaGreatDoor.T
open Go.RowKit Go.Shelf Go.Maps
open Go.Proofs.YtjbnjlkoipkpoaaGreatDoor.B

/-- The place of the first link that is so; -1: none. -/
def LkAt (t : List Lk) (p : Lk → Bool) (i : Int) : Prop :=
  (i = -1 ∧ t.any p = false) ∨ ∃ (k : Nat) (l : Lk), i = k ∧ t[k]? = some l ∧ p l = true ∧ (t.take k).any p = false
theorem lfind_take {t : List Lk} {p : Lk → Bool} {k : Nat} {x : Lk} (h : (t.take k).any p = false) (hx : t[k]? = some x) (hp : p x = false) : (t.take (k + 1)).any p = false := by
  rw [List.take_add_one, hx]; simp only [Option.toList_some, List.any_append, h, List.any_cons, hp, List.any_nil, Bool.or_self]
/-- A function that is a predicate of links. -/
def LkPred (F : Nat) (del : Lk → Bool) : Prop := ∀ (l : Lk) (w : World), Calls Tryz.prog F #[.agg #[.int .i64 l.1, .int .i64 l.2.1, .string ⟨l.2.2.toArray⟩]] w fun e w' => e = .returned (.bool (del l)) ∧ Below w.heap.size w w'
set_option maxRecDepth 100000 in
set_option maxHeartbeats 3200000 in
theorem lkIdx_any (F : Nat) (eg : ∀ args w, (callFunc F args).run Tryz.prog w = .ok (.enter F args) w) (del : Lk → Bool) (hF : LkPred F del) (B : Nat) (va : Value) (t : List Lk) (w : World) (h : LkRow B w va t) (hn : t.length ≤ 40040000) :
    Calls Tryz.prog 90 #[va, .func (.func F) #[] #[]] w fun e w' => (∃ i : Int, e = .returned (.int .i64 i) ∧ LkAt t del i) ∧ Below w.heap.size w w' := by
  have HF := Lib.hid hF
  have HA := Lib.hid h
  obtain ⟨ao, ac, hva⟩ := own_shape h
  subst hva
  clear h hF
  go_enter Tryz.func90, Tryz.ntmps90
  go_wp2_with fail
  go_loopw [8] (fun i W => ∃ k : Nat, i = .int .i64 k ∧ k ≤ t.length ∧ Hid ((t.take k).any del = false) ∧ Hid (Below w.heap.size w W)) (fun i _ => t.length - (intOf i).toNat)
  case atStart => exact ⟨0, rfl, Nat.zero_le _, Lib.hid rfl, Lib.hid (Below.refl _ _)⟩
  case round =>
    obtain ⟨k, rfl, hk, ha, hW⟩ := hrel
    by_cases hlt : k < t.length
    · obtain ⟨l, hl⟩ : ∃ l, t[k]? = some l := ⟨_, List.getElem?_eq_getElem hlt⟩
      obtain ⟨g1, g2, g3⟩ := lkC_get t k _ hl
      obtain ⟨ga, hga, hao⟩ : ∃ g, (Value.slice ao t.length ac).ownBlock = some g ∧ ao = some ⟨g, 0, none⟩ := by
        rcases HA.out.2 with ⟨-, h0⟩ | ⟨g, cp', cur, hz, -⟩
        · omega
        · injection hz with z1 z2 z3
          exact ⟨g, by rw [z1]; rfl, z1⟩
      have hsa := HA.out.below hW.out
      have e1 := World.ownsRow.cells hsa hga _ _ g1
      have e2 := World.ownsRow.cells hsa hga _ _ g2
      have e3 := World.ownsRow.cells hsa hga _ _ g3
      rw [addrO] at e1 e2 e3
      subst hao
      have B0 := Lib.hid (HF.out l wr)
      obtain ⟨b, hb⟩ : ∃ b, del l = b := ⟨_, rfl⟩
      rw [hb] at B0
      have HX := Lib.hid hl
      have HB := Lib.hid hb
      obtain ⟨l1, l2, l3⟩ := l
      simp only at e1 e2 e3 B0
      obtain ⟨tw, htw⟩ : ∃ tw : ByteArray, (⟨l3.toArray⟩ : ByteArray) = tw := ⟨_, rfl⟩
      rw [htw] at e3 B0
      have hkz : (k : Int) < (t.length : Int) := by omega
      clear hb g1 g2 g3 hga hl hsa htw
      cases b with
      | false =>
        have HT := Lib.hid (lfind_take ha.out HX.out HB.out)
        go_wp2_with (go_at_fn F; refine B0.out.mono ?_; rintro e w2 ⟨rfl, hb2⟩; have HW2 := Lib.hid (hW.out.trans (hb2.mono hW.out.size)); clear hb2 hW)
        exact ⟨⟨k + 1, by go_num, by omega, HT, HW2⟩, by simp [intOf]; omega⟩
      | true =>
        have HF : Hid (LkAt t del k) := Lib.hid (.inr ⟨k, _, rfl, HX.out, HB.out, ha.out⟩)
        go_wp2_with (go_at_fn F; refine B0.out.mono ?_; rintro e w2 ⟨rfl, hb2⟩; have HW2 := Lib.hid (hW.out.trans (hb2.mono hW.out.size)); clear hb2 hW)
        go_ret
        exact ⟨⟨_, rfl, HF.out⟩, HW2.out⟩
    · have h1 := ha.out
      rw [List.take_of_length_le (by omega)] at h1
      have HH : Hid (LkAt t del (-1)) := Lib.hid (.inl ⟨rfl, h1⟩)
      clear ha h1
      go_wp2_with fail
      go_ret
      exact ⟨⟨_, rfl, HH.out⟩, hW.out⟩
end Go.Proofs.YtjbnjlkoipkpoaaGreatDoor.T

namespace Go.Proofs.YtjbnjlkoipkpoaaGreatDoor.T
open Go.RowKit Go.Shelf Go.Maps
open Go.Proofs.YtjbnjlkoipkpoaaGreatDoor.B

/-- What stands in the row within the loop: ahead of place i those that stay; from place j on what was there. -/
structure DlI (t : List Lk) (del : Lk → Bool) (E : Nat → Lk) (i j : Nat) : Prop where
  lt : i < j
  le : j ≤ t.length
  len : ((t.take j).filter fun l => !del l).length = i
  low : ∀ p, p < i → ((t.take j).filter fun l => !del l)[p]? = some (E p)
  high : ∀ p, i ≤ p → p < t.length → t[p]? = some (E p)
theorem take_filter {t : List Lk} {q : Lk → Bool} {j : Nat} {l : Lk} (hl : t[j]? = some l) : (t.take (j + 1)).filter q = (t.take j).filter q ++ (if q l then [l] else []) := by
  rw [List.take_add_one, hl, List.filter_append]
  simp only [Option.toList_some, List.filter_cons, List.filter_nil]
theorem DlI.start {t : List Lk} {del : Lk → Bool} {E : Nat → Lk} {k : Nat} {l : Lk} (hE : ∀ p, p < t.length → t[p]? = some (E p)) (hl : t[k]? = some l) (hd : del l = true) (ha : (t.take k).any del = false) : DlI t del E k (k + 1) := by
  have hlt := (List.getElem?_eq_some_iff.1 hl).1
  have e : (t.take (k + 1)).filter (fun l => !del l) = t.take k := by
    rw [take_filter hl, hd, if_neg (by simp), List.append_nil, List.filter_eq_self]
    intro x hx
    rw [List.any_eq_false] at ha
    have := ha x hx
    simpa using this
  refine ⟨by omega, by omega, ?_, fun p hp => ?_, fun p _ hp => hE p hp⟩
  · rw [e, List.length_take]; omega
  · rw [e, List.getElem?_take, if_pos hp]; exact hE p (by omega)
theorem DlI.keep {t : List Lk} {del : Lk → Bool} {E : Nat → Lk} {i j : Nat} {l : Lk} (h : DlI t del E i j) (hl : t[j]? = some l) (hd : del l = false) : DlI t del (fun p => if p = i then l else E p) (i + 1) (j + 1) := by
  have hlt := (List.getElem?_eq_some_iff.1 hl).1
  have e : (t.take (j + 1)).filter (fun l => !del l) = (t.take j).filter (fun l => !del l) ++ [l] := by rw [take_filter hl, hd, if_pos (by simp)]
  have hij := h.lt
  refine ⟨by omega, by omega, by rw [e, List.length_append, h.len]; rfl, fun p hp => ?_, fun p h1 h2 => ?_⟩
  · rw [e]
    by_cases c : p = i
    · subst c
      rw [List.getElem?_append_right (by rw [h.len]; exact Nat.le_refl _), h.len, Nat.sub_self, if_pos rfl]; rfl
    · rw [List.getElem?_append_left (by rw [h.len]; omega), if_neg c]; exact h.low p (by omega)
  · rw [if_neg (by omega)]; exact h.high p (by omega) h2
theorem DlI.skip {t : List Lk} {del : Lk → Bool} {E : Nat → Lk} {i j : Nat} {l : Lk} (h : DlI t del E i j) (hl : t[j]? = some l) (hd : del l = true) : DlI t del E i (j + 1) := by
  have hlt := (List.getElem?_eq_some_iff.1 hl).1
  have e : (t.take (j + 1)).filter (fun l => !del l) = (t.take j).filter (fun l => !del l) := by rw [take_filter hl, hd, if_neg (by simp), List.append_nil]
  have hij := h.lt
  exact ⟨by omega, by omega, by rw [e]; exact h.len, fun p hp => by rw [e]; exact h.low p hp, h.high⟩
/-- What DeleteFunc answers. -/
def DelPost (B : Nat) (kept : List Lk) (w : World) (e : Ending) (w' : World) : Prop := ∃ u, e = .returned u ∧ LkRow B w' u kept ∧ Below B w w'
set_option maxRecDepth 100000 in
set_option maxHeartbeats 3200000 in
theorem delNil_any (F : Nat) (ao : Option Addr) (c : Nat) (w : World) : Calls Tryz.prog 55 #[.slice ao 0 c, .func (.func F) #[] #[]] w fun e w' => e = .returned (.slice ao 0 c) ∧ w' = w := by
  have HI : Hid (Calls Tryz.prog 90 #[.slice ao 0 c, .func (.func F) #[] #[]] w fun e w' => e = .returned (.int .i64 (-1)) ∧ w' = w) := Lib.hid (by
    go_enter Tryz.func90, Tryz.ntmps90
    go_wp2
    go_loopg [5, 8] 0 (fun _ _ s8 wr => s8 = .int .i64 0 ∧ wr = w)
    case atStart => exact ⟨rfl, rfl⟩
    case round =>
      obtain ⟨rfl, rfl⟩ := hrel
      go_wp2
      go_ret
      exact ⟨rfl, rfl⟩)
  go_enter Tryz.func55, Tryz.ntmps55
  go_wp2_with fail
  refine HI.out.mono ?_
  rintro e w' ⟨rfl, rfl⟩
  go_wp2_with fail
  go_ret
  exact ⟨rfl, rfl⟩
set_option maxRecDepth 100000 in
set_option maxHeartbeats 6400000 in
theorem del_any (F : Nat) (eg : ∀ args w, (callFunc F args).run Tryz.prog w = .ok (.enter F args) w) (del : Lk → Bool) (hF : LkPred F del) (g cap : Nat) (t : List Lk) (w : World) (h : LkRow g w (.slice (some ⟨g, 0, none⟩) t.length cap) t) (hn : t.length ≤ 40040000) :
    Calls Tryz.prog 55 #[.slice (some ⟨g, 0, none⟩) t.length cap, .func (.func F) #[] #[]] w (DelPost g (t.filter fun l => !del l) w) := by
  have IX := Lib.hid (lkIdx_any F eg del hF g _ t w h hn)
  have HF := Lib.hid hF
  obtain ⟨E0, hD0, hE0⟩ := h.dlw
  have hcap : t.length ≤ cap := by obtain ⟨cur, _, _, h3, _⟩ := hD0.blk; exact h3
  have hcm : cap ≤ maxLen := by obtain ⟨cur, _, _, _, h4, _⟩ := hD0.blk; exact h4
  have HD0 := Lib.hid hD0
  have HE0 := Lib.hid hE0
  have HROW := Lib.hid h
  obtain ⟨kept, hkept⟩ : ∃ kept, (t.filter fun l => !del l) = kept := ⟨_, rfl⟩
  rw [hkept]
  have HKE := Lib.hid hkept
  clear hF h hD0 hE0 hkept
  go_enter Tryz.func55, Tryz.ntmps55
  go_wp2_with fail
  refine IX.out.mono ?_
  rintro e w1 ⟨⟨i, rfl, hi⟩, hb1⟩
  rcases hi with ⟨rfl, hno⟩ | ⟨k, l, rfl, hl, hd, ha⟩
  · have HT : Hid (LkRow g w1 (.slice (some ⟨g, 0, none⟩) t.length cap) kept) := Lib.hid (by
      have e : kept = t := by
        rw [← HKE.out, List.filter_eq_self]
        intro x hx
        rw [List.any_eq_false] at hno
        have := hno x hx
        simpa using this
      rw [e]; exact HROW.out.below hb1)
    have HB := Lib.hid (hb1.mono (Nat.le_of_lt HD0.out.lt))
    clear hno hb1
    go_wp2_with fail
    go_ret
    exact ⟨_, rfl, HT.out, HB.out⟩
  · have hlt := (List.getElem?_eq_some_iff.1 hl).1
    have HD1 := Lib.hid (HD0.out.below hb1)
    have HI1 := Lib.hid (DlI.start HE0.out hl hd ha)
    have hne : ((k : Int) == -1) = false := beq_eq_false_iff_ne.2 (by omega)
    clear hl hd ha hb1 HD0 HE0 HROW IX
    go_wp2_with fail
    go_loopg [5, 6, 7] t.length (fun gg s5 s6 _ wr => ∃ (i j : Nat) (E : Nat → Lk), s5 = .int .i64 i ∧ s6 = .int .i64 j ∧ j ≤ t.length ∧ t.length - j ≤ gg ∧ Hid (DlI t del E i j) ∧ Hid (DlW w g t.length cap E wr))
    case atStart => exact ⟨k, k + 1, E0, rfl, by go_num, by omega, by omega, HI1, HD1⟩
    case round =>
      clear HI1 HD1
      obtain ⟨i, j, E, rfl, rfl, hjn, hgg, hI, hD⟩ := hrel
      have hij := hI.out.lt
      have hgl : g < wr.heap.size := Nat.lt_of_lt_of_le hD.out.lt hD.out.keep.size
      by_cases hjl : j < t.length
      · obtain ⟨l, hl⟩ : ∃ l, t[j]? = some l := ⟨_, List.getElem?_eq_getElem hjl⟩
        have hEj : E j = l := by have := hI.out.high j (by omega) hjl; rw [hl] at this; injection this with this; exact this.symm
        obtain ⟨c1, c2, c3⟩ := hD.out.cells j hjl
        obtain ⟨d1, d2, d3⟩ := hD.out.cells i (by omega)
        rw [hEj] at c1 c2 c3
        obtain ⟨wa, hwa⟩ : ∃ wa, wr.alloc (.cells #[.int .i64 l.1, .int .i64 l.2.1, .string ⟨l.2.2.toArray⟩] 66) = wa := ⟨_, rfl⟩
        have hba : Below wr.heap.size wr wa := by rw [← hwa]; exact below_grow1 wr _
        have hEa : wa.heap[wr.heap.size]? = some (.cells #[.int .i64 l.1, .int .i64 l.2.1, .string ⟨l.2.2.toArray⟩] 66 (0, 0)) := by rw [← hwa]; exact heap_alloc_new wr _
        have hla := (Array.getElem?_eq_some_iff.1 hEa).1
        have HC := Lib.hid (HF.out l wa)
        obtain ⟨b, hb⟩ : ∃ b, del l = b := ⟨_, rfl⟩
        rw [hb] at HC
        have HX := Lib.hid hl
        have HBd := Lib.hid hb
        have HDA := Lib.hid (hD.out.below hba)
        have HWA := Lib.hid hwa
        have HEA := Lib.hid hEa
        obtain ⟨l1, l2, l3⟩ := l
        simp only at c1 c2 c3 HC HEA HWA
        obtain ⟨tw, htw⟩ : ∃ tw : ByteArray, (⟨l3.toArray⟩ : ByteArray) = tw := ⟨_, rfl⟩
        rw [htw] at c3 HC HEA HWA
        have HTW := Lib.hid htw
        have hjz : (j : Int) < (t.length : Int) := by omega
        clear hb hl hEj htw hwa hba hEa
        cases b with
        | true =>
          have HI2 := Lib.hid (hI.out.skip HX.out HBd.out)
          clear d1 d2 d3
          go_wp2_with fail
          rw [HWA.out]
          go_wp2_with (go_at_fn F; refine HC.out.mono ?_; rintro e w2 ⟨rfl, hb2⟩; have HD2 := Lib.hid (HDA.out.below hb2); clear hb2 HC)
          go_roundg (t.length - (j + 1))
          case measure => omega
          case rel => exact ⟨i, j + 1, E, rfl, by go_num, by omega, Nat.le_refl _, HI2, HD2⟩
        | false =>
          have HI2 := Lib.hid (hI.out.keep HX.out HBd.out)
          clear d1 d2 d3
          go_wp2_with fail
          rw [HWA.out]
          go_wp2_with (go_at_fn F; refine HC.out.mono ?_; rintro e w2 ⟨rfl, hb2⟩; have HD2 := Lib.hid (HDA.out.below hb2); have hE2 := (hb2.block _ hla).trans HEA.out; have q0 : w2.cell? ⟨wr.heap.size, 0, none⟩ = some (.int .i64 l1) := _root_.Go.Proofs.YtjbnjlkoipkpoaaGreatDoor.B.cell_of_row _ _ 0 _ _ hE2; have q1 : w2.cell? ⟨wr.heap.size, 1, none⟩ = some (.int .i64 l2) := _root_.Go.Proofs.YtjbnjlkoipkpoaaGreatDoor.B.cell_of_row _ _ 1 _ _ hE2; have q2 : w2.cell? ⟨wr.heap.size, 2, none⟩ = some (.string tw) := _root_.Go.Proofs.YtjbnjlkoipkpoaaGreatDoor.B.cell_of_row _ _ 2 _ _ hE2; obtain ⟨d1, d2, d3⟩ := HD2.out.cells i (by omega); have f1 := HD2.out.froz (i * 3); have f2 := HD2.out.froz (i * 3 + 1); have f3 := HD2.out.froz (i * 3 + 2); clear hb2 HC hE2)
          have HD3 : Hid (DlW w g t.length cap (fun p => if p = i then (l1, l2, l3) else E p) (((w2.setCell ⟨g, i * 3, none⟩ (.int .i64 l1)).setCell ⟨g, i * 3 + 1, none⟩ (.int .i64 l2)).setCell ⟨g, i * 3 + 2, none⟩ (.string tw))) := Lib.hid (by rw [← HTW.out]; exact HD2.out.put (l := (l1, l2, l3)) (by omega))
          go_roundg (t.length - (j + 1))
          case measure => omega
          case rel => exact ⟨i + 1, j + 1, _, by go_num, by go_num, by omega, Nat.le_refl _, HI2, HD3⟩
      · have hje : ¬ (j : Int) < (t.length : Int) := by omega
        have hi1 : i < t.length := by omega
        have hfull : (t.take j).filter (fun l => !del l) = kept := by rw [← HKE.out, List.take_of_length_le (by omega)]
        obtain ⟨W', hcl, hD'⟩ := hD.out.clear (c := cap - i) hi1
        have hlen : kept.length = i := by rw [← hfull]; exact hI.out.len
        have HR : Hid (LkRow g W' (.slice (some ⟨g, 0, none⟩) i cap) kept) := Lib.hid (hD'.row (Nat.le_refl _) (Nat.le_refl _) hlen (fun p hp => by rw [← hfull]; exact hI.out.low p hp))
        have HB : Hid (Below g w W') := Lib.hid (hD'.keep.toBelow (Nat.le_of_lt hD'.lt))
        have hic : ¬ cap = i := by omega
        have hiz : (i : Int) ≤ (t.length : Int) := by omega
        have hiz2 : (i : Int) ≤ (cap : Int) := by omega
        have hci : ¬ cap = 0 := by omega
        have hsl1 : ∀ W : World, (Instr.slice 29 (.slice (some ⟨g, 0, none⟩) t.length cap) (some (.int .i64 i)) none none).run Tryz.prog W = .ok (.slice (some ⟨g, i * 3, none⟩) (t.length - i) (cap - i)) W := fun W => by
          simp [go_sem, hic, hiz]
        have hsl2 : ∀ W : World, (Instr.slice 29 (.slice (some ⟨g, 0, none⟩) t.length cap) none (some (.int .i64 i)) none).run Tryz.prog W = .ok (.slice (some ⟨g, 0, none⟩) i cap) W := fun W => by
          simp [go_sem, hiz2, hci]
        clear hfull hlen hD hI hD' hic hiz hiz2 hci
        go_wp2_with fail
        go_ret
        exact ⟨_, rfl, HR.out, HB.out⟩
end Go.Proofs.YtjbnjlkoipkpoaaGreatDoor.T

namespace Go.Proofs.YtjbnjlkoipkpoaaGreatDoor.T
open Go.RowKit Go.Shelf Go.Maps
open Go.Proofs.YtjbnjlkoipkpoaaGreatDoor.B

theorem dang1_pred : LkPred 57 (fun l => (l.2.1 : Int) != 0) := fun l w => dang1_any l.1 l.2.1 _ w
theorem oth1_pred : LkPred 126 (fun l => (l.1 : Int) == (l.2.1 : Int)) := fun l w => oth1_any l.1 l.2.1 _ w
set_option maxHeartbeats 1600000 in
theorem cloneL_none (ao : Option Addr) (c : Nat) (w : World) : Calls Tryz.prog 56 #[.slice ao 0 c] w fun e w' => (∃ bo cb, e = .returned (.slice bo 0 cb) ∧ LkRow w.heap.size w' (.slice bo 0 cb) []) ∧ Below w.heap.size w w' := by
  obtain ⟨i0, hi0, hz0, hz1, hz2⟩ := info_parts infoLk
  cases ao with
  | none =>
    have hq : ∀ w, (binOp .eql 29 (.slice none 0 c) (.slice none 0 0)).run Tryz.prog w = .ok (.bool true) w := fun w => by kernel_rfl
    go_enter Tryz.func56, Tryz.ntmps56
    go_wp2_with fail
    go_ret
    exact ⟨⟨_, _, rfl, World.ownsRow_nil _ _ _ _⟩, Below.refl _ _⟩
  | some a =>
    have hq : ∀ w, (binOp .eql 29 (.slice (some a) 0 c) (.slice none 0 0)).run Tryz.prog w = .ok (.bool false) w := fun w => by kernel_rfl
    have hap : ∀ W ty, (Builtin.append_ #[29, 29] ty #[.slice (some ⟨w.heap.size, 0, none⟩) 0 0, .slice (some a) 0 c]).run Tryz.prog W = .ok (.slice (some ⟨w.heap.size, 0, none⟩) 0 0) W := fun W ty => by
      have hf : (Builtin.firstCells i0.size 0 (.slice (some a) 0 c)).run Tryz.prog W = .ok #[] W := run_firstCells_some W i0.size 0 a 0 c [] (by simp) (fun j v hv => by simp at hv)
      simp [Builtin.append_, run_underlying Tryz.underlying29, sizeOf, typeInfo, hi0, Builtin.lenOf, hf, storeCells]
    have hb1 := Lib.hid (below_grow1 w (.cells #[] 66))
    have hm : Hid (LkRow w.heap.size (w.alloc (.cells #[] 66)) (.slice (some ⟨w.heap.size, 0, none⟩) 0 0) []) := Lib.hid (World.ownsRow_made (base := w.heap.size) (e := 66) (size := 3) w #[] 0 (Nat.le_refl _) (Nat.zero_le _) rfl)
    go_enter Tryz.func56, Tryz.ntmps56
    go_wp2_with fail
    go_ret
    exact ⟨⟨_, _, rfl, hm.out⟩, hb1.out⟩
theorem lk_base {w : World} {g n cap : Nat} {xs : List Value} (h : w.ownsRow 0 66 3 (.slice (some ⟨g, 0, none⟩) n cap) n xs) : w.ownsRow g 66 3 (.slice (some ⟨g, 0, none⟩) n cap) n xs := by
  refine ⟨h.1, ?_⟩
  rcases h.2 with ⟨h0, _⟩ | ⟨g', cap', cur, hv, _, hr⟩
  · cases h0
  · have hv' := hv
    injection hv' with z1 _ _
    injection z1 with z1
    injection z1 with z1 _ _
    exact .inr ⟨g', cap', cur, hv, by omega, hr⟩
theorem lk_ones (t : List Lk) : ∀ u ∈ t.flatMap lkC, u.oneCell' = true := fun u hu => by
  obtain ⟨l, _, hl⟩ := List.mem_flatMap.1 hu
  simp only [lkC, List.mem_cons, List.not_mem_nil, or_false] at hl
  rcases hl with rfl | rfl | rfl <;> rfl
set_option maxRecDepth 100000 in
set_option maxHeartbeats 1600000 in
theorem dangling_any (v : Value) (t : List Lk) (B : Nat) (w : World) (h : LkRow B w v t) (hn : t.length ≤ 40040000) :
    Calls Tryz.prog 17 #[v] w fun e w' => ∃ u, e = .returned u ∧ LkRow w.heap.size w' u (t.filter fun l => !((l.2.1 : Int) != 0)) ∧ Below w.heap.size w w' := by
  have eg : ∀ args w, (callFunc 57 args).run Tryz.prog w = .ok (.enter 57 args) w := enters_of Tryz.func57 (by kernel_rfl) rfl
  by_cases he : t = []
  · obtain ⟨ao, c, hv⟩ := own_shape h
    subst he
    simp only [List.length_nil] at hv
    subst hv
    have CN := Lib.hid (cloneL_none ao c w)
    have DN := Lib.hid (delNil_any 57)
    clear h eg
    go_enter Tryz.func17, Tryz.ntmps17
    go_wp2_with fail
    refine CN.out.mono ?_
    rintro e w1 ⟨⟨bo, cb, rfl, hr⟩, hb1⟩
    have HB1 := Lib.hid hb1
    have HR := Lib.hid hr
    clear hb1 hr CN
    go_wp2_with fail
    refine (DN.out bo cb w1).mono ?_
    rintro e w' ⟨rfl, rfl⟩
    clear DN
    go_wp2_with fail
    go_ret
    exact ⟨_, rfl, HR.out, HB1.out⟩
  · have hl : 0 < t.length := List.length_pos_iff.2 he
    have CL := Lib.hid (cloneL_any v _ t.length w (h.low (Nat.zero_le _)) hl (by omega) (lk_ones t))
    have DL := Lib.hid (fun g cap W h => del_any 57 eg _ dang1_pred g cap t W h hn)
    obtain ⟨kept, hk⟩ : ∃ kept, (t.filter fun l => !((l.2.1 : Int) != 0)) = kept := ⟨_, rfl⟩
    rw [hk] at DL ⊢
    clear h eg he hk
    go_enter Tryz.func17, Tryz.ntmps17
    go_wp2_with fail
    refine CL.out.mono ?_
    rintro e w1 ⟨g, cp, rfl, hg, -, hrow, hb1⟩
    have HB1 := Lib.hid hb1
    have D1 := Lib.hid (DL.out g cp w1 (lk_base hrow))
    have hgw := Lib.hid hg
    clear hrow hb1 CL DL hg
    go_wp2_with fail
    refine D1.out.mono ?_
    rintro e w2 ⟨u, rfl, hu, hb2⟩
    have HB2 := Lib.hid (hb2.mono hgw.out)
    have HU := Lib.hid (hu.low hgw.out)
    clear hb2 hu D1
    go_wp2_with fail
    go_ret
    exact ⟨_, rfl, HU.out, HB1.out.trans HB2.out⟩
set_option maxRecDepth 100000 in
set_option maxHeartbeats 1600000 in
theorem others_any (v : Value) (t : List Lk) (B : Nat) (w : World) (h : LkRow B w v t) (hn : t.length ≤ 40040000) :
    Calls Tryz.prog 81 #[v] w fun e w' => ∃ u, e = .returned u ∧ LkRow w.heap.size w' u (t.filter fun l => !((l.1 : Int) == (l.2.1 : Int))) ∧ Below w.heap.size w w' := by
  have eg : ∀ args w, (callFunc 126 args).run Tryz.prog w = .ok (.enter 126 args) w := enters_of Tryz.func126 (by kernel_rfl) rfl
  by_cases he : t = []
  · obtain ⟨ao, c, hv⟩ := own_shape h
    subst he
    simp only [List.length_nil] at hv
    subst hv
    have CN := Lib.hid (cloneL_none ao c w)
    have DN := Lib.hid (delNil_any 126)
    clear h eg
    go_enter Tryz.func81, Tryz.ntmps81
    go_wp2_with fail
    refine CN.out.mono ?_
    rintro e w1 ⟨⟨bo, cb, rfl, hr⟩, hb1⟩
    have HB1 := Lib.hid hb1
    have HR := Lib.hid hr
    clear hb1 hr CN
    go_wp2_with fail
    refine (DN.out bo cb w1).mono ?_
    rintro e w' ⟨rfl, rfl⟩
    clear DN
    go_wp2_with fail
    go_ret
    exact ⟨_, rfl, HR.out, HB1.out⟩
  · have hl : 0 < t.length := List.length_pos_iff.2 he
    have CL := Lib.hid (cloneL_any v _ t.length w (h.low (Nat.zero_le _)) hl (by omega) (lk_ones t))
    have DL := Lib.hid (fun g cap W h => del_any 126 eg _ oth1_pred g cap t W h hn)
    obtain ⟨kept, hk⟩ : ∃ kept, (t.filter fun l => !((l.1 : Int) == (l.2.1 : Int))) = kept := ⟨_, rfl⟩
    rw [hk] at DL ⊢
    clear h eg he hk
    go_enter Tryz.func81, Tryz.ntmps81
    go_wp2_with fail
    refine CL.out.mono ?_
    rintro e w1 ⟨g, cp, rfl, hg, -, hrow, hb1⟩
    have HB1 := Lib.hid hb1
    have D1 := Lib.hid (DL.out g cp w1 (lk_base hrow))
    have hgw := Lib.hid hg
    clear hrow hb1 CL DL hg
    go_wp2_with fail
    refine D1.out.mono ?_
    rintro e w2 ⟨u, rfl, hu, hb2⟩
    have HB2 := Lib.hid (hb2.mono hgw.out)
    have HU := Lib.hid (hu.low hgw.out)
    clear hb2 hu D1
    go_wp2_with fail
    go_ret
    exact ⟨_, rfl, HU.out, HB1.out.trans HB2.out⟩
end Go.Proofs.YtjbnjlkoipkpoaaGreatDoor.T
