/- Rows of texts in memory, and the plain law of their columns' widths. table.Widths, walked. Rows of texts that came in. Texts, numbers, rows side by side, where they are the same. -/
import Derived.Test.YtjbnjlkoipkpoaaGreatDoorBMoves
import Derived.Deep.RegionLaw
import Derived.Deep.QuietTactic
import Derived.BigQuiet
namespace Go.Proofs.YtjbnjlkoipkpoaaGreatDoor.T
open Go.RowKit Go.Shelf
open Go.Proofs.YtjbnjlkoipkpoaaGreatDoor.B

theorem addrO (g k : Nat) : (⟨g, 0, none⟩ : Addr).add k = ⟨g, k, none⟩ := by cases k <;> simp [Addr.add]
theorem add_block (a : Addr) (n : Nat) : (a.add n).block = a.block := by unfold Addr.add; split <;> rfl
/-- Texts lie in memory below block B. -/
def StrsAt (B : Nat) (w : World) (v : Value) (ss : List ByteArray) : Prop :=
  ∃ (ao : Option Addr) (cp : Nat), v = .slice ao ss.length cp ∧ ∀ (k : Nat) (s : ByteArray), ss[k]? = some s → ∃ a, ao = some a ∧ a.block < B ∧ w.cell? (a.add k) = some (.string s)
theorem StrsAt.below {B C : Nat} {w w' : World} {v : Value} {ss : List ByteArray} (h : StrsAt B w v ss) (hb : Below C w w') (hB : B ≤ C) : StrsAt B w' v ss :=
  let ⟨ao, cp, h1, h2⟩ := h
  ⟨ao, cp, h1, fun k s hk => let ⟨a, h3, h4, h5⟩ := h2 k s hk; ⟨a, h3, h4, (hb.cell (by rw [add_block]; omega)).trans h5⟩⟩
theorem StrsAt.up {B C : Nat} {w : World} {v : Value} {ss : List ByteArray} (h : StrsAt B w v ss) (hB : B ≤ C) : StrsAt C w v ss :=
  let ⟨ao, cp, h1, h2⟩ := h
  ⟨ao, cp, h1, fun k s hk => let ⟨a, h3, h4, h5⟩ := h2 k s hk; ⟨a, h3, by omega, h5⟩⟩
/-- Rows of texts lie in memory below block B. -/
def RowsAt (B : Nat) (w : World) (v : Value) (rs : List (List ByteArray)) : Prop :=
  ∃ (ao : Option Addr) (cp : Nat), v = .slice ao rs.length cp ∧ ∀ (k : Nat) (r : List ByteArray), rs[k]? = some r → ∃ a u, ao = some a ∧ a.block < B ∧ w.cell? (a.add k) = some u ∧ StrsAt B w u r
theorem RowsAt.below {B C : Nat} {w w' : World} {v : Value} {rs : List (List ByteArray)} (h : RowsAt B w v rs) (hb : Below C w w') (hB : B ≤ C) : RowsAt B w' v rs :=
  let ⟨ao, cp, h1, h2⟩ := h
  ⟨ao, cp, h1, fun k r hk => let ⟨a, u, h3, h4, h5, h6⟩ := h2 k r hk; ⟨a, u, h3, h4, (hb.cell (by rw [add_block]; omega)).trans h5, h6.below hb hB⟩⟩
theorem RowsAt.up {B C : Nat} {w : World} {v : Value} {rs : List (List ByteArray)} (h : RowsAt B w v rs) (hB : B ≤ C) : RowsAt C w v rs :=
  let ⟨ao, cp, h1, h2⟩ := h
  ⟨ao, cp, h1, fun k r hk => let ⟨a, u, h3, h4, h5, h6⟩ := h2 k r hk; ⟨a, u, h3, by omega, h5, h6.up hB⟩⟩
/-- Numbers lie in memory below block B. -/
def IntsAt (B : Nat) (w : World) (v : Value) (ws : List Nat) : Prop :=
  ∃ (ao : Option Addr) (cp : Nat), v = .slice ao ws.length cp ∧ ∀ (k : Nat) (n : Nat), ws[k]? = some n → ∃ a, ao = some a ∧ a.block < B ∧ w.cell? (a.add k) = some (.int .i64 n)
theorem IntsAt.below {B C : Nat} {w w' : World} {v : Value} {ws : List Nat} (h : IntsAt B w v ws) (hb : Below C w w') (hB : B ≤ C) : IntsAt B w' v ws :=
  let ⟨ao, cp, h1, h2⟩ := h
  ⟨ao, cp, h1, fun k s hk => let ⟨a, h3, h4, h5⟩ := h2 k s hk; ⟨a, h3, h4, (hb.cell (by rw [add_block]; omega)).trans h5⟩⟩
theorem IntsAt.up {B C : Nat} {w : World} {v : Value} {ws : List Nat} (h : IntsAt B w v ws) (hB : B ≤ C) : IntsAt C w v ws :=
  let ⟨ao, cp, h1, h2⟩ := h
  ⟨ao, cp, h1, fun k s hk => let ⟨a, h3, h4, h5⟩ := h2 k s hk; ⟨a, h3, by omega, h5⟩⟩
/-- The longest row. -/
def most (rs : List (List ByteArray)) : Nat := rs.foldr (fun r n => max r.length n) 0
/-- A cell's length; 0: there is none. -/
def lenAt (r : List ByteArray) (i : Nat) : Nat := (r[i]?.map (·.size)).getD 0
/-- A column's width. -/
def colMax (rs : List (List ByteArray)) (i : Nat) : Nat := rs.foldr (fun r n => max (lenAt r i) n) 0
def widths (rs : List (List ByteArray)) : List Nat := (List.range (most rs)).map (colMax rs)
theorem most_snoc (rs : List (List ByteArray)) (r : List ByteArray) : most (rs ++ [r]) = max (most rs) r.length := by
  induction rs with
  | nil => simp [most]
  | cons x t ih => show max x.length (most (t ++ [r])) = max (max x.length (most t)) r.length; rw [ih]; omega
theorem colMax_snoc (rs : List (List ByteArray)) (r : List ByteArray) (i : Nat) : colMax (rs ++ [r]) i = max (colMax rs i) (lenAt r i) := by
  induction rs with
  | nil => simp [colMax]
  | cons x t ih => show max (lenAt x i) (colMax (t ++ [r]) i) = max (max (lenAt x i) (colMax t i)) (lenAt r i); rw [ih]; omega
theorem lenAt_none {r : List ByteArray} {i : Nat} (h : r.length ≤ i) : lenAt r i = 0 := by simp [lenAt, List.getElem?_eq_none h]
theorem colMax_none {rs : List (List ByteArray)} {i : Nat} (h : most rs ≤ i) : colMax rs i = 0 := by
  induction rs with
  | nil => rfl
  | cons x t ih =>
    have h1 : max x.length (most t) ≤ i := h
    show max (lenAt x i) (colMax t i) = 0
    rw [lenAt_none (by omega), ih (by omega)]; rfl
theorem widths_len (rs : List (List ByteArray)) : (widths rs).length = most rs := by simp [widths]
theorem widths_get (rs : List (List ByteArray)) (i : Nat) (h : i < most rs) : (widths rs)[i]? = some (colMax rs i) := by simp [widths, h]
theorem widths_ext {ws : List Nat} {rs : List (List ByteArray)} (hl : ws.length = most rs) (h : ∀ i, i < most rs → ws[i]? = some (colMax rs i)) : ws = widths rs := by
  refine List.ext_getElem? fun i => ?_
  by_cases hi : i < most rs
  · rw [h i hi, widths_get rs i hi]
  · rw [List.getElem?_eq_none (by omega), List.getElem?_eq_none (by rw [widths_len]; omega)]
theorem take_lenAt (r : List ByteArray) (j i : Nat) : lenAt (r.take j) i = if i < j then lenAt r i else 0 := by
  unfold lenAt
  rw [List.getElem?_take]
  split <;> rfl
theorem widths_take0 (rs : List (List ByteArray)) (r : List ByteArray) : widths (rs ++ [r.take 0]) = widths rs := by
  refine widths_ext ?_ fun i hi => ?_
  · rw [widths_len, most_snoc]; simp
  · rw [widths_get _ _ (by rw [most_snoc]; simp; omega), colMax_snoc]; simp [lenAt]
/-- A column more: none had been so far. -/
theorem widths_new {rs : List (List ByteArray)} {r : List ByteArray} {j : Nat} {s : ByteArray} (hs : r[j]? = some s) (h : (widths (rs ++ [r.take j])).length = j) : (widths (rs ++ [r.take j]) ++ [s.size]) = widths (rs ++ [r.take (j + 1)]) := by
  have hj := (List.getElem?_eq_some_iff.1 hs).1
  rw [widths_len, most_snoc, List.length_take] at h
  refine widths_ext ?_ fun i hi => ?_
  · rw [List.length_append, widths_len, most_snoc, most_snoc, List.length_take, List.length_take]; simp; omega
  · rw [most_snoc, List.length_take] at hi
    rw [colMax_snoc, take_lenAt]
    rcases Nat.lt_or_ge i j with h1 | h1
    · rw [List.getElem?_append_left (by rw [widths_len, most_snoc, List.length_take]; omega), widths_get _ _ (by rw [most_snoc, List.length_take]; omega), colMax_snoc, take_lenAt, if_pos h1, if_pos (by omega)]
    · have : i = j := by omega
      subst this
      rw [List.getElem?_append_right (by rw [widths_len, most_snoc, List.length_take]; omega), widths_len, most_snoc, List.length_take]
      rw [show i - max (most rs) (min i r.length) = 0 by omega, if_pos (by omega), colMax_none (by omega)]
      simp [lenAt, hs]
/-- A column that had been. -/
theorem widths_old {rs : List (List ByteArray)} {r : List ByteArray} {j : Nat} {s : ByteArray} (hs : r[j]? = some s) (h : (widths (rs ++ [r.take j])).length ≠ j) : ∃ n, (widths (rs ++ [r.take j]))[j]? = some n ∧ (widths (rs ++ [r.take j])).set j (max n s.size) = widths (rs ++ [r.take (j + 1)]) := by
  have hj := (List.getElem?_eq_some_iff.1 hs).1
  rw [widths_len, most_snoc, List.length_take] at h
  have hm : j < most rs := by omega
  refine ⟨_, widths_get _ _ (by rw [most_snoc]; omega), widths_ext ?_ fun i hi => ?_⟩
  · rw [List.length_set, widths_len, most_snoc, most_snoc, List.length_take, List.length_take]; omega
  · rw [most_snoc, List.length_take] at hi
    rw [colMax_snoc, colMax_snoc, take_lenAt, take_lenAt, if_neg (Nat.lt_irrefl j), List.getElem?_set]
    split
    · rename_i he
      subst he
      rw [if_pos (by rw [widths_len, most_snoc]; omega), if_pos (by omega)]
      simp [lenAt, hs]
    · rename_i he
      rw [widths_get _ _ (by rw [most_snoc]; omega), colMax_snoc, take_lenAt]
      by_cases h1 : i < j
      · rw [if_pos h1, if_pos (by omega)]
      · rw [if_neg h1, if_neg (by omega)]
end Go.Proofs.YtjbnjlkoipkpoaaGreatDoor.T

namespace Go.Proofs.YtjbnjlkoipkpoaaGreatDoor.T
open Go.RowKit Go.Shelf
open Go.Proofs.YtjbnjlkoipkpoaaGreatDoor.B

theorem infoI : (Tryz.prog.info? 3).map (fun i => (i.zero, i.size, i.bytes)) = some (some (.int .i64 0), 1, 8) := by kernel_rfl
def nums (ws : List Nat) : List Value := ws.map fun (n : Nat) => .int .i64 n
theorem nums_len (ws : List Nat) : (nums ws).length = ws.length := by simp [nums]
theorem nums_one (ws : List Nat) : ∀ u ∈ nums ws, u.oneCell' = true := by
  intro u hu
  obtain ⟨n, _, rfl⟩ := List.mem_map.1 hu
  rfl
/-- Numbers in a row of their own, at B or beyond. -/
def NumsAt (B : Nat) (w : World) (v : Value) (ws : List Nat) : Prop := w.ownsRow B 3 1 v ws.length (nums ws)
theorem NumsAt.shape {B : Nat} {w : World} {v : Value} {ws : List Nat} (h : NumsAt B w v ws) : ∃ vo vc, v = .slice vo ws.length vc := by
  rcases h.2 with ⟨h0, h1⟩ | ⟨g, cap, cur, hv, _⟩
  · exact ⟨none, 0, by rw [h0, h1]⟩
  · exact ⟨_, _, hv⟩
theorem NumsAt.at {B : Nat} {w : World} {vo : Option Addr} {vc j n : Nat} {ws : List Nat} (h : NumsAt B w (.slice vo ws.length vc) ws) (hj : ws[j]? = some n) : ∃ g, vo = some ⟨g, 0, none⟩ ∧ B ≤ g ∧ g < w.heap.size ∧ w.cell? ⟨g, j, none⟩ = some (.int .i64 n) ∧ w.frozen? ⟨g, j, none⟩ = false := by
  have hl := (List.getElem?_eq_some_iff.1 hj).1
  have hlt := h.lt
  rcases h.2 with ⟨h0, h1⟩ | ⟨g, cap, cur, hv, hb, hg, -⟩
  · omega
  · injection hv with h1 h2 h3
    subst h1
    refine ⟨g, rfl, hb, (Array.getElem?_eq_some_iff.1 hg).1, ?_, World.ownsRow.frozenAt h j⟩
    rw [World.ownsRow.cellAt h j (by omega)]
    simp [nums, hj]
theorem NumsAt.stored {B g : Nat} {w : World} {vc : Nat} {ws : List Nat} (h : NumsAt B w (.slice (some ⟨g, 0, none⟩) ws.length vc) ws) (j n : Nat) (hB : B ≤ g) : NumsAt B (w.setCell ⟨g, j, none⟩ (.int .i64 n)) (.slice (some ⟨g, 0, none⟩) ws.length vc) (ws.set j n) ∧ Below B w (w.setCell ⟨g, j, none⟩ (.int .i64 n)) := by
  obtain ⟨h1, h2⟩ := World.ownsRow.stored h j (.int .i64 n)
  refine ⟨?_, ⟨rfl, rfl, rfl, by simp, fun k hk => Below.heap_setCell _ _ _ _ (by show k ≠ g; omega)⟩⟩
  unfold NumsAt
  rw [List.length_set]
  have : nums (ws.set j n) = (nums ws).set j (.int .i64 n) := by simp [nums, List.map_set]
  rw [this]
  exact h1
theorem NumsAt.nil (B : Nat) (w : World) : NumsAt B w (.slice none 0 0) [] := World.ownsRow_nil _ _ _ _
theorem most_le {rs : List (List ByteArray)} {n : Nat} (h : ∀ r ∈ rs, r.length ≤ n) : most rs ≤ n := by
  induction rs with
  | nil => exact Nat.zero_le _
  | cons x t ih =>
    have h1 := h x (by simp)
    have h2 := ih fun r hr => h r (by simp [hr])
    show max x.length (most t) ≤ n
    omega
def WRel (w : World) (f : Nat → List Nat) (m : Nat) (v : Value) (i : Value) (wr : World) : Prop :=
  ∃ k : Nat, i = .int .i64 k ∧ k ≤ m ∧ Hid (NumsAt w.heap.size wr v (f k)) ∧ Hid (Below w.heap.size w wr)
set_option maxRecDepth 20000 in
set_option maxHeartbeats 3200000 in
theorem widths_any (v : Value) (rs : List (List ByteArray)) (w : World) (h : RowsAt w.heap.size w v rs) (hn : rs.length ≤ 1000000) (hm : ∀ r ∈ rs, r.length ≤ 1000000) :
    Calls Tryz.prog 111 #[v] w fun e w' => ∃ u, e = .returned u ∧ NumsAt w.heap.size w' u (widths rs) ∧ Below w.heap.size w w' := by
  obtain ⟨i0, hi0, hz0, hz1, hz2⟩ := info_parts infoI
  have h0 := h
  obtain ⟨ao, cp, rfl, hc⟩ := h
  have H0 := Lib.hid h0
  have HC := Lib.hid hc
  have HM := Lib.hid hm
  clear h0 hc hm
  go_enter Tryz.func111, Tryz.ntmps111
  go_wp2
  go_loopw [3, 10] (fun v i wr => WRel w (fun k => widths (rs.take k)) rs.length v i wr) (fun _ i _ => rs.length - (intOf i).toNat)
  case atStart => exact ⟨0, rfl, Nat.zero_le _, Lib.hid (NumsAt.nil _ _), Lib.hid (Below.refl _ _)⟩
  case round =>
    obtain ⟨k, rfl, hk, hN, hW⟩ := hrel
    by_cases hlt : k < rs.length
    · obtain ⟨r, hr⟩ : ∃ r, rs[k]? = some r := ⟨_, List.getElem?_eq_getElem hlt⟩
      obtain ⟨a, u, rfl, ha, hu, hs⟩ := HC.out k r hr
      have hu1 := (hW.out.cell (p := a.add k) (by rw [add_block]; exact ha)).trans hu
      obtain ⟨bo, bp, rfl, hb⟩ := hs
      have hrl := HM.out r (List.mem_of_getElem? hr)
      obtain ⟨vo, vc, hvs⟩ := hN.out.shape
      have HR := Lib.hid hr
      have HB := Lib.hid hb
      clear hr hb hu
      have hN0 := Lib.hid (show NumsAt w.heap.size wr (.slice vo (widths (rs.take k)).length vc) (widths (rs.take k ++ [r.take 0])) by rw [widths_take0, ← hvs]; exact hN.out)
      subst hvs
      go_wp2_with fail
      go_loopw [3, 16] (fun v i wr2 => WRel w (fun j => widths (rs.take k ++ [r.take j])) r.length v i wr2) (fun _ i _ => r.length - (intOf i).toNat)
      case atStart => exact ⟨0, rfl, Nat.zero_le _, hN0, hW⟩
      case round =>
        obtain ⟨j, rfl, hj, hN2, hW2⟩ := hrel
        by_cases hjl : j < r.length
        · obtain ⟨s, hs⟩ : ∃ s, r[j]? = some s := ⟨_, List.getElem?_eq_getElem hjl⟩
          obtain ⟨b, rfl, hb1, hb2⟩ := HB.out j s hs
          have hc1 := (hW2.out.cell (p := b.add j) (by rw [add_block]; exact hb1)).trans hb2
          have hWN := widths_new (rs := rs.take k) hs
          have hWO := widths_old (rs := rs.take k) hs
          have hN3 : NumsAt w.heap.size wr _ (widths (rs.take k ++ [r.take j])) := hN2.out
          have hwl : (widths (rs.take k ++ [r.take j])).length ≤ 1000000 := by
            rw [widths_len]
            exact most_le fun x hx => by
              rcases List.mem_append.1 hx with hx | hx
              · exact HM.out x (List.mem_of_mem_take hx)
              · rw [List.mem_singleton.1 hx, List.length_take]; omega
          obtain ⟨ws, hws⟩ : ∃ ws, widths (rs.take k ++ [r.take j]) = ws := ⟨_, rfl⟩
          rw [hws] at hN3 hWN hWO hwl
          obtain ⟨wo, wc, hvs2⟩ := hN3.shape
          subst hvs2
          obtain ⟨ws', hws'⟩ : ∃ ws', widths (rs.take k ++ [r.take (j + 1)]) = ws' := ⟨_, rfl⟩
          rw [hws'] at hWN hWO
          have HWS' := Lib.hid hws'
          have HN3 := Lib.hid hN3
          have hBs := hW2.out.size
          clear hs hb2 hws hws' hN3 hN2 hN0
          by_cases hlj : ws.length = j
          · have HNEW := Lib.hid (hWN hlj)
            clear hWN hWO
            subst hlj
            have HO := Lib.hid (World.ownsRow.alloc HN3.out (.cells #[.int .i64 0] 3))
            go_wp2_with (at_builtin; refine wpList_append_lies _ rfl _ _ _ rfl w.heap.size 3 i0 _ 1 8 Tryz.underlying68 hi0 hz0 hz1 hz2 rfl (by omega) (.slice wo ws.length wc) ws.length (nums ws) rfl HO.out ⟨wr.heap.size, 0, none⟩ 1 1 [.int .i64 0] rfl rfl (World.news_of_block (cs := #[.int .i64 0]) (heap_alloc_new wr _)) (by simp [Value.oneCell']) (by omega) (by unfold maxLen; omega) (by omega) (by simp; omega) _ rfl ?_; refine Hid.out ?_)
            refine Lib.hid ?_
            intro gg cap w8 hown8 hgrow hat hlt8
            have hgB : w.heap.size ≤ gg := (hown8.lt gg rfl).1
            have hN8 : NumsAt w.heap.size w8 (.slice (some ⟨gg, 0, none⟩) (ws ++ [0]).length cap) (ws ++ [0]) := by
              have e1 : nums (ws ++ [0]) = nums ws ++ [.int .i64 0] := by simp [nums]
              unfold NumsAt
              rw [e1, List.length_append]
              exact hown8
            obtain ⟨g', hg', -, -, c0, f0⟩ := hN8.at (j := ws.length) (n := 0) (by simp)
            cases hg'
            have hB8 : Below w.heap.size w w8 := (hW2.out.alloc hBs _).grown hgrow (by simp; omega) (fun q hq => (HN3.out.lt q hq).1)
            have HB8 := Lib.hid hB8
            have HN8 := Lib.hid hN8
            clear hown8 hgrow hat hN8 hB8
            go_wp2
            have hs1 := HN8.out.stored ws.length s.size hgB
            have e2 : (ws ++ [0]).set ws.length s.size = ws' := by rw [← HNEW.out]; simp
            have e3 : (ws ++ [0]).length = ws.length + 1 := by simp
            rw [e2, e3] at hs1
            refine ⟨⟨ws.length + 1, by go_num, by omega, ?_, Lib.hid (HB8.out.trans hs1.2)⟩, by simp [intOf]; omega⟩
            show Hid (NumsAt _ _ _ (widths (rs.take k ++ [r.take (ws.length + 1)])))
            rw [HWS'.out]
            exact Lib.hid hs1.1
          · obtain ⟨n, hn, hset⟩ := hWO hlj
            clear hWN hWO
            obtain ⟨g, hg', hgB, -, c0, f0⟩ := HN3.out.at hn
            cases hg'
            have hjw := (List.getElem?_eq_some_iff.1 hn).1
            have HSET := Lib.hid hset
            clear hn hset
            go_wp2
            have hs1 := HN3.out.stored j (max n s.size) hgB
            rw [HSET.out] at hs1
            have e3 : ws'.length = ws.length := by rw [← HSET.out, List.length_set]
            have e4 : max (n : Int) (s.size : Int) = ((max n s.size : Nat) : Int) := by omega
            rw [e4]
            refine ⟨⟨j + 1, by go_num, by omega, ?_, Lib.hid (hW2.out.trans hs1.2)⟩, by simp [intOf]; omega⟩
            show Hid (NumsAt _ _ _ (widths (rs.take k ++ [r.take (j + 1)])))
            rw [HWS'.out]
            exact Lib.hid hs1.1
        · have hN4 : NumsAt w.heap.size wr _ (widths (rs.take k ++ [r.take j])) := hN2.out
          rw [show r.take j = r from List.take_of_length_le (by omega)] at hN4
          have hN5 := Lib.hid (show NumsAt w.heap.size wr _ (widths (rs.take (k + 1))) by rw [List.take_add_one, HR.out]; exact hN4)
          clear hN4 hN2 hN0
          go_wp2
          exact ⟨⟨k + 1, by go_num, by omega, hN5, hW2⟩, by simp [intOf]; omega⟩
    · have hN4 : NumsAt w.heap.size wr _ (widths (rs.take k)) := hN.out
      rw [List.take_of_length_le (by omega)] at hN4
      have HN4 := Lib.hid hN4
      clear hN4 hN
      go_wp2
      go_ret
      exact ⟨_, rfl, HN4.out, hW.out⟩
end Go.Proofs.YtjbnjlkoipkpoaaGreatDoor.T

namespace Go.Proofs.YtjbnjlkoipkpoaaGreatDoor.T
open Go.RowKit

/-- A row of texts that came in. -/
def StrArg (w : World) (u : Value) (r : List ByteArray) : Prop := r.length ≤ 9223372036854775807 ∧ (∀ s ∈ r, s.size ≤ 9223372036854775807) ∧
  ((u = .slice none 0 0 ∧ r = []) ∨ ∃ a cp, u = .slice (some a) r.length cp ∧ ∀ (k : Nat) (s : ByteArray), r[k]? = some s → a.block < w.heap.size ∧ w.cell? (a.add k) = some (.string s))
theorem StrArg.at_ {w : World} {u : Value} {r : List ByteArray} (h : StrArg w u r) : StrsAt w.heap.size w u r := by
  rcases h.2.2 with ⟨h0, h1⟩ | ⟨a, cp, h0, h1⟩
  · exact ⟨none, 0, by rw [h0, h1]; rfl, fun k s hs => by rw [h1] at hs; simp at hs⟩
  · exact ⟨some a, cp, h0, fun k s hs => ⟨a, rfl, h1 k s hs⟩⟩
/-- Rows of texts that came in. -/
def RowsArg (w : World) (v : Value) (rs : List (List ByteArray)) : Prop := ∃ (ao : Option Addr) (cp : Nat), v = .slice ao rs.length cp ∧ rs.length ≤ 9223372036854775807 ∧
  ∀ (k : Nat) (r : List ByteArray), rs[k]? = some r → ∃ a u, ao = some a ∧ a.block < w.heap.size ∧ w.cell? (a.add k) = some u ∧ StrArg w u r
theorem RowsArg.at_ {w : World} {v : Value} {rs : List (List ByteArray)} (h : RowsArg w v rs) : RowsAt w.heap.size w v rs :=
  let ⟨ao, cp, h1, _, h3⟩ := h
  ⟨ao, cp, h1, fun k r hr => let ⟨a, u, h4, h5, h6, h7⟩ := h3 k r hr; ⟨a, u, h4, h5, h6, h7.at_⟩⟩
end Go.Proofs.YtjbnjlkoipkpoaaGreatDoor.T

namespace Go.Proofs.YtjbnjlkoipkpoaaGreatDoor.T
open Go.RowKit Go.Shelf
open Go.Proofs.YtjbnjlkoipkpoaaGreatDoor.B

set_option maxRecDepth 20000 in
set_option maxHeartbeats 1600000 in
theorem texts_same (B : Nat) (va vb : Value) (ss : List ByteArray) (w : World) (ha : StrsAt B w va ss) (hb : StrsAt B w vb ss) (hn : ss.length ≤ 9223372036854775807) :
    Calls Tryz.prog 18 #[va, vb] w fun e w' => e = .returned (.bool true) ∧ ∃ n, w' = w.drewN n := by
  obtain ⟨ao, ca, rfl, hA⟩ := ha
  obtain ⟨bo, cb, rfl, hB⟩ := hb
  have HA := Lib.hid hA
  have HB := Lib.hid hB
  clear hA hB
  go_enter Tryz.func18, Tryz.ntmps18
  go_wp2
  go_loopw [13] (fun i wr => ∃ k : Nat, i = .int .i64 k ∧ k ≤ ss.length ∧ Hid (∃ n, wr = w.drewN n)) (fun i _ => ss.length - (intOf i).toNat)
  case atStart => exact ⟨0, rfl, Nat.zero_le _, Lib.hid ⟨0, rfl⟩⟩
  case round =>
    obtain ⟨k, rfl, hk, hw⟩ := hrel
    by_cases hlt : k < ss.length
    · obtain ⟨f, hf⟩ : ∃ f, ss[k]? = some f := ⟨_, List.getElem?_eq_getElem hlt⟩
      obtain ⟨a, rfl, -, a1⟩ := HA.out k f hf
      obtain ⟨b, rfl, -, b1⟩ := HB.out k f hf
      obtain ⟨n, hwn⟩ := hw.out
      have x1 : wr.cell? (a.add k) = some (.string f) := by rw [hwn]; exact a1
      have y1 : wr.cell? (b.add k) = some (.string f) := by rw [hwn]; exact b1
      have HN := Lib.hid hwn
      clear a1 b1 hwn hf
      go_wp2
      go_quiet (fail)
      go_wp2
      exact ⟨⟨k + 1, by go_num, by omega, Lib.hid ⟨n + nq, by rw [HN.out, World.drewN_drewN]⟩⟩, by simp [intOf]; omega⟩
    · go_wp2
      go_ret
      exact ⟨rfl, hw.out⟩
set_option maxRecDepth 20000 in
set_option maxHeartbeats 1600000 in
theorem ints_same (B : Nat) (va vb : Value) (ss : List Nat) (w : World) (ha : IntsAt B w va ss) (hb : IntsAt B w vb ss) (hn : ss.length ≤ 9223372036854775807) :
    Calls Tryz.prog 35 #[va, vb] w fun e w' => e = .returned (.bool true) ∧ ∃ n, w' = w.drewN n := by
  obtain ⟨ao, ca, rfl, hA⟩ := ha
  obtain ⟨bo, cb, rfl, hB⟩ := hb
  have HA := Lib.hid hA
  have HB := Lib.hid hB
  clear hA hB
  go_enter Tryz.func35, Tryz.ntmps35
  go_wp2
  go_loopw [13] (fun i wr => ∃ k : Nat, i = .int .i64 k ∧ k ≤ ss.length ∧ Hid (∃ n, wr = w.drewN n)) (fun i _ => ss.length - (intOf i).toNat)
  case atStart => exact ⟨0, rfl, Nat.zero_le _, Lib.hid ⟨0, rfl⟩⟩
  case round =>
    obtain ⟨k, rfl, hk, hw⟩ := hrel
    by_cases hlt : k < ss.length
    · obtain ⟨f, hf⟩ : ∃ f, ss[k]? = some f := ⟨_, List.getElem?_eq_getElem hlt⟩
      obtain ⟨a, rfl, -, a1⟩ := HA.out k f hf
      obtain ⟨b, rfl, -, b1⟩ := HB.out k f hf
      obtain ⟨n, hwn⟩ := hw.out
      have x1 : wr.cell? (a.add k) = some (.int .i64 f) := by rw [hwn]; exact a1
      have y1 : wr.cell? (b.add k) = some (.int .i64 f) := by rw [hwn]; exact b1
      have HN := Lib.hid hwn
      clear a1 b1 hwn hf
      go_wp2
      go_quiet (fail)
      go_wp2
      exact ⟨⟨k + 1, by go_num, by omega, Lib.hid ⟨n + nq, by rw [HN.out, World.drewN_drewN]⟩⟩, by simp [intOf]; omega⟩
    · go_wp2
      go_ret
      exact ⟨rfl, hw.out⟩
set_option maxRecDepth 20000 in
set_option maxHeartbeats 1600000 in
theorem rows_same (B : Nat) (va vb : Value) (rs : List (List ByteArray)) (w : World) (ha : RowsAt B w va rs) (hb : RowsAt B w vb rs) (hn : rs.length ≤ 9223372036854775807) (hm : ∀ r ∈ rs, r.length ≤ 9223372036854775807) :
    Calls Tryz.prog 27 #[va, vb] w fun e w' => e = .returned (.bool true) ∧ ∃ n, w' = w.drewN n := by
  obtain ⟨ao, ca, rfl, hA⟩ := ha
  obtain ⟨bo, cb, rfl, hB⟩ := hb
  have HA := Lib.hid hA
  have HB := Lib.hid hB
  have HM := Lib.hid hm
  clear hA hB hm
  go_enter Tryz.func27, Tryz.ntmps27
  go_wp2
  go_loopw [13] (fun i wr => ∃ k : Nat, i = .int .i64 k ∧ k ≤ rs.length ∧ Hid (∃ n, wr = w.drewN n)) (fun i _ => rs.length - (intOf i).toNat)
  case atStart => exact ⟨0, rfl, Nat.zero_le _, Lib.hid ⟨0, rfl⟩⟩
  case round =>
    obtain ⟨k, rfl, hk, hw⟩ := hrel
    by_cases hlt : k < rs.length
    · obtain ⟨r, hr⟩ : ∃ r, rs[k]? = some r := ⟨_, List.getElem?_eq_getElem hlt⟩
      obtain ⟨a, ua, rfl, -, a1, a2⟩ := HA.out k r hr
      obtain ⟨b, ub, rfl, -, b1, b2⟩ := HB.out k r hr
      obtain ⟨n, hwn⟩ := hw.out
      have x1 : wr.cell? (a.add k) = some ua := by rw [hwn]; exact a1
      have y1 : wr.cell? (b.add k) = some ub := by rw [hwn]; exact b1
      have HN := Lib.hid hwn
      have FF : Hid (∀ m, Calls Tryz.prog 18 #[ua, ub] (wr.drewN m) fun e w' => e = .returned (.bool true) ∧ ∃ n, w' = (wr.drewN m).drewN n) := Lib.hid fun m => texts_same B ua ub r _ (by rw [hwn]; exact a2) (by rw [hwn]; exact b2) (HM.out r (List.mem_of_getElem? hr))
      obtain ⟨fa, c1, hua, -⟩ := a2
      obtain ⟨fb, c2, hub, -⟩ := b2
      subst hua hub
      clear a1 b1 hwn hr
      go_wp2
      go_quiet ((go_at_call 18; exact Calls.quiet_of (FF.out _)))
      go_wp2
      exact ⟨⟨k + 1, by go_num, by omega, Lib.hid ⟨n + nq, by rw [HN.out, World.drewN_drewN]⟩⟩, by simp [intOf]; omega⟩
    · go_wp2
      go_ret
      exact ⟨rfl, hw.out⟩
end Go.Proofs.YtjbnjlkoipkpoaaGreatDoor.T
