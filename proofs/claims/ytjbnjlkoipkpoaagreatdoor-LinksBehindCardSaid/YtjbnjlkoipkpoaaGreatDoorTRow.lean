/- A stanza's cell and row: table.values, .Cell, .row. A stanza's cell and row: table.Cell, .row. A stanza's row: table.row. A copy of a row of texts: slices.Clone. -/
import Derived.Test.YtjbnjlkoipkpoaaGreatDoorTRows
import Derived.Test.YtjbnjlkoipkpoaaGreatDoorBLaw
import Derived.Lib.Replace
namespace Go.Proofs.YtjbnjlkoipkpoaaGreatDoor.T
open Go.RowKit Go.Shelf
open Go.Proofs.YtjbnjlkoipkpoaaGreatDoor.B

theorem infoS : (Tryz.prog.info? 9).map (fun i => (i.zero, i.size, i.bytes)) = some (some (.string ⟨#[]⟩), 1, 16) := by kernel_rfl
abbrev Fld := B.Fd
abbrev fdc : Fld → List Value := B.Fd.cells
/-- Fields lie in memory below block B. -/
def FieldsAt (B : Nat) (w : World) (v : Value) (fs : List Fld) : Prop :=
  ∃ (ao : Option Addr) (cp : Nat), v = .slice ao fs.length cp ∧ ∀ (k : Nat) (f : Fld), fs[k]? = some f → ∃ g, ao = some ⟨g, 0, none⟩ ∧ g < B ∧ w.cell? ⟨g, k * 2, none⟩ = some (.string ⟨f.key.toArray⟩) ∧ w.cell? ⟨g, k * 2 + 1, none⟩ = some (.string ⟨f.val.toArray⟩)
theorem FieldsAt.below {B C : Nat} {w w' : World} {v : Value} {fs : List Fld} (h : FieldsAt B w v fs) (hb : Below C w w') (hB : B ≤ C) : FieldsAt B w' v fs :=
  let ⟨ao, cp, h1, h2⟩ := h
  ⟨ao, cp, h1, fun k s hk => let ⟨g, h3, h4, h5, h6⟩ := h2 k s hk; ⟨g, h3, h4, (hb.cell (p := ⟨g, _, none⟩) (by show g < C; omega)).trans h5, (hb.cell (p := ⟨g, _, none⟩) (by show g < C; omega)).trans h6⟩⟩
theorem FieldsAt.up {B C : Nat} {w : World} {v : Value} {fs : List Fld} (h : FieldsAt B w v fs) (hB : B ≤ C) : FieldsAt C w v fs :=
  let ⟨ao, cp, h1, h2⟩ := h
  ⟨ao, cp, h1, fun k s hk => let ⟨g, h3, h4, h5⟩ := h2 k s hk; ⟨g, h3, by omega, h5⟩⟩
theorem fdCells_get : ∀ (fs : List Fld) (k : Nat) (f : Fld), fs[k]? = some f → (fs.flatMap fdc)[k * 2]? = some (.string ⟨f.key.toArray⟩) ∧ (fs.flatMap fdc)[k * 2 + 1]? = some (.string ⟨f.val.toArray⟩)
  | [], k, f, h => by simp at h
  | y :: r, 0, f, h => by simp at h; subst h; exact ⟨rfl, rfl⟩
  | y :: r, k + 1, f, h => by
    obtain ⟨h1, h2⟩ := fdCells_get r k f (by simpa using h)
    have e1 : (k + 1) * 2 = k * 2 + 1 + 1 := by omega
    rw [e1]
    have e : (y :: r).flatMap fdc = .string ⟨y.key.toArray⟩ :: .string ⟨y.val.toArray⟩ :: r.flatMap fdc := rfl
    rw [e]
    exact ⟨by simpa using h1, by simpa using h2⟩
theorem FieldsAt.row {B : Nat} {w : World} {v : Value} {fs : List Fld} (h : w.ownsRow B 95 2 v fs.length (fs.flatMap fdc)) : FieldsAt w.heap.size w v fs := by
  rcases h.2 with ⟨h0, h1⟩ | ⟨g, cap, cur, hv, hb, hg, -⟩
  · refine ⟨none, 0, ?_, fun k f hk => ?_⟩
    · rw [h1, h0]
    · have := (List.getElem?_eq_some_iff.1 hk).1; omega
  · refine ⟨_, cap, hv, fun k f hk => ⟨g, rfl, (Array.getElem?_eq_some_iff.1 hg).1, ?_⟩⟩
    obtain ⟨h3, h4⟩ := fdCells_get fs k f hk
    have e1 := h.cells (g := g) (by rw [hv]; rfl) _ _ h3
    have e2 := h.cells (g := g) (by rw [hv]; rfl) _ _ h4
    rw [addrO] at e1 e2
    exact ⟨e1, e2⟩
def strVals (ss : List ByteArray) : List Value := ss.map Value.string
theorem strVals_one (ss : List ByteArray) : ∀ u ∈ strVals ss, u.oneCell' = true := by
  intro u hu
  obtain ⟨n, _, rfl⟩ := List.mem_map.1 hu
  rfl
/-- Texts in a row of their own, at B or beyond. -/
def StrRow (B : Nat) (w : World) (v : Value) (ss : List ByteArray) : Prop := w.ownsRow B 9 1 v ss.length (strVals ss)
theorem StrRow.shape {B : Nat} {w : World} {v : Value} {ss : List ByteArray} (h : StrRow B w v ss) : ∃ vo vc, v = .slice vo ss.length vc := by
  rcases h.2 with ⟨h0, h1⟩ | ⟨g, cap, cur, hv, _⟩
  · exact ⟨none, 0, by rw [h0, h1]⟩
  · exact ⟨_, _, hv⟩
theorem StrRow.nil (B : Nat) (w : World) : StrRow B w (.slice none 0 0) [] := World.ownsRow_nil _ _ _ _
theorem StrRow.below {B C : Nat} {w w' : World} {v : Value} {ss : List ByteArray} (h : StrRow B w v ss) (hb : Below C w w') (hC : w.heap.size ≤ C) : StrRow B w' v ss :=
  ownsRow_of_block h fun g hg => hb.block g (by have := (World.ownsRow.lt h g hg).2; omega)
theorem StrRow.at_ {B : Nat} {w : World} {v : Value} {ss : List ByteArray} (h : StrRow B w v ss) : StrsAt w.heap.size w v ss := by
  rcases h.2 with ⟨h0, h1⟩ | ⟨g, cap, cur, hv, hb, hg, -⟩
  · refine ⟨none, 0, ?_, fun k f hk => ?_⟩
    · rw [h1, h0]
    · have := (List.getElem?_eq_some_iff.1 hk).1; omega
  · refine ⟨_, cap, hv, fun k s hk => ⟨_, rfl, (Array.getElem?_eq_some_iff.1 hg).1, ?_⟩⟩
    exact World.ownsRow.cells h (g := g) (by rw [hv]; rfl) k (.string s) (by simp [strVals, hk])
theorem StrRow.snoc {B gg cap : Nat} {w : World} {ss : List ByteArray} {s : ByteArray} (h : w.ownsRow B 9 1 (.slice (some ⟨gg, 0, none⟩) (ss.length + 1) cap) (ss.length + 1) (strVals ss ++ [.string s])) : StrRow B w (.slice (some ⟨gg, 0, none⟩) (ss.length + 1) cap) (ss ++ [s]) := by
  have e1 : strVals (ss ++ [s]) = strVals ss ++ [.string s] := by simp [strVals]
  unfold StrRow
  rw [e1, List.length_append]
  exact h
/-- A key's values. -/
def valsOf (key : List UInt8) (fs : List Fld) : List ByteArray := (fs.filter fun f => f.key == key).map fun f => ⟨f.val.toArray⟩
theorem valsOf_snoc (key : List UInt8) (fs : List Fld) (f : Fld) : valsOf key (fs ++ [f]) = valsOf key fs ++ (if f.key = key then [⟨f.val.toArray⟩] else []) := by
  unfold valsOf
  rw [List.filter_append, List.map_append]
  congr 1
  by_cases h : f.key = key <;> simp [h]
theorem valsOf_len (key : List UInt8) (fs : List Fld) : (valsOf key fs).length ≤ fs.length := by unfold valsOf; rw [List.length_map]; exact List.length_filter_le _ _
theorem toList_inj {a b : ByteArray} (h : a.toList = b.toList) : a = b := by
  rw [Lib.toList_data, Lib.toList_data] at h
  exact ByteArray.ext (Array.ext' h)
def VRel (w : World) (f : Nat → List ByteArray) (m : Nat) (v : Value) (i : Value) (wr : World) : Prop :=
  ∃ k : Nat, i = .int .i64 k ∧ k ≤ m ∧ Hid (StrRow w.heap.size wr v (f k)) ∧ Hid (Below w.heap.size w wr)
set_option maxRecDepth 20000 in
set_option maxHeartbeats 3200000 in
theorem values_any (s : ByteArray) (v : Value) (fs : List Fld) (w : World) (h : FieldsAt w.heap.size w v fs) (hn : fs.length ≤ 1000000) :
    Calls Tryz.prog 70 #[.string s, v] w fun e w' => ∃ u, e = .returned u ∧ StrRow w.heap.size w' u (valsOf s.data.toList fs) ∧ Below w.heap.size w w' := by
  obtain ⟨i0, hi0, hz0, hz1, hz2⟩ := info_parts infoS
  obtain ⟨ao, cp, rfl, hc⟩ := h
  have HC := Lib.hid hc
  clear hc
  have HK := Lib.hid (show ∀ l : List UInt8, (l = s.data.toList) ↔ ((⟨l.toArray⟩ : ByteArray) = s) from fun l => ⟨fun e => by rw [e], fun e => by rw [← e]⟩)
  obtain ⟨key, hkey⟩ : ∃ key, s.data.toList = key := ⟨_, rfl⟩
  rw [hkey] at HK ⊢
  clear hkey
  go_enter Tryz.func70, Tryz.ntmps70
  go_wp2
  go_loopw [5, 10] (fun v i wr => VRel w (fun k => valsOf key (fs.take k)) fs.length v i wr) (fun _ i _ => fs.length - (intOf i).toNat)
  case atStart => exact ⟨0, rfl, Nat.zero_le _, Lib.hid (StrRow.nil _ _), Lib.hid (Below.refl _ _)⟩
  case round =>
    obtain ⟨k, rfl, hk, hN, hW⟩ := hrel
    by_cases hlt : k < fs.length
    · obtain ⟨f, hf⟩ : ∃ f, fs[k]? = some f := ⟨_, List.getElem?_eq_getElem hlt⟩
      obtain ⟨g, rfl, hg, h1, h2⟩ := HC.out k f hf
      have c1 := (hW.out.cell (p := ⟨g, k * 2, none⟩) hg).trans h1
      have c2 := (hW.out.cell (p := ⟨g, k * 2 + 1, none⟩) hg).trans h2
      have hzr := hW.out.size
      have et : fs.take (k + 1) = fs.take k ++ [f] := by rw [List.take_add_one, hf]; rfl
      have E1 := Lib.hid (show valsOf key (fs.take (k + 1)) = _ by rw [et, valsOf_snoc])
      have hN3 : StrRow w.heap.size wr _ (valsOf key (fs.take k)) := hN.out
      have hvl := valsOf_len key (fs.take k)
      rw [List.length_take] at hvl
      obtain ⟨ss, hss⟩ : ∃ ss, valsOf key (fs.take k) = ss := ⟨_, rfl⟩
      rw [hss] at hN3 hvl E1
      obtain ⟨vo, vc, hvs⟩ := hN3.shape
      subst hvs
      have HN3 := Lib.hid hN3
      clear h1 h2 hf et hN3 hN hss
      obtain ⟨fk, fv⟩ := f
      simp only at c1 c2 E1
      obtain ⟨tv, htv⟩ : ∃ tv : ByteArray, (⟨fv.toArray⟩ : ByteArray) = tv := ⟨_, rfl⟩
      rw [htv] at c2 E1
      clear htv
      have HK1 := Lib.hid (HK.out fk)
      obtain ⟨tk, htk⟩ : ∃ tk : ByteArray, (⟨fk.toArray⟩ : ByteArray) = tk := ⟨_, rfl⟩
      rw [htk] at c1 HK1
      clear htk
      by_cases hfk : tk = s
      · subst hfk
        have E2 := E1.out
        rw [if_pos (HK1.out.2 rfl)] at E2
        have E3 := Lib.hid E2
        clear E1 E2
        have HO := Lib.hid (World.ownsRow.alloc (World.ownsRow.alloc HN3.out (.cells #[.string tk, .string tv] 95)) (.cells #[.string tv] 9))
        go_wp2_with (at_builtin; refine wpList_append_lies _ rfl _ _ _ rfl w.heap.size 9 i0 _ 1 16 Tryz.underlying39 hi0 hz0 hz1 hz2 rfl (by omega) (.slice vo ss.length vc) ss.length (strVals ss) rfl HO.out ⟨wr.heap.size + 1, 0, none⟩ 1 1 [.string tv] rfl rfl (World.news_of_block (cs := #[.string tv]) (by have := heap_alloc_new (wr.alloc (.cells #[.string tk, .string tv] 95)) (.cells #[.string tv] 9); simpa using this)) (by simp [Value.oneCell']) (by omega) (by unfold maxLen; omega) (by omega) (by simp; omega) _ rfl ?_; refine Hid.out ?_)
        refine Lib.hid ?_
        intro gg cap w8 hown8 hgrow hat hlt8
        have hb0 := ((hW.out.alloc hzr (.cells #[.string tk, .string tv] 95)).alloc (by simp; omega) (.cells #[.string tv] 9))
        have HB8 := Lib.hid (hb0.grown hgrow hb0.size (fun q hq => (World.ownsRow.lt HN3.out q hq).1))
        have HN8 := Lib.hid (StrRow.snoc hown8)
        clear hown8 hgrow hat hb0
        go_wp2
        refine ⟨⟨k + 1, by go_num, by omega, ?_, HB8⟩, by simp [intOf]; omega⟩
        show Hid (StrRow _ _ _ (valsOf key (fs.take (k + 1))))
        rw [E3.out]
        exact HN8
      · have E2 := E1.out
        rw [if_neg (fun e => hfk (HK1.out.1 e)), List.append_nil] at E2
        have E3 := Lib.hid E2
        have hne : (tk.toList == s.toList) = false := by rw [beq_eq_false_iff_ne]; exact fun e => hfk (toList_inj e)
        have HFK := Lib.hid hfk
        clear E1 E2 hfk
        go_wp2
        refine ⟨⟨k + 1, by go_num, by omega, ?_, Lib.hid (hW.out.alloc hzr _)⟩, by simp [intOf]; omega⟩
        show Hid (StrRow _ _ _ (valsOf key (fs.take (k + 1))))
        rw [E3.out]
        exact Lib.hid (World.ownsRow.alloc HN3.out _)
    · have hN4 : StrRow w.heap.size wr _ (valsOf key (fs.take k)) := hN.out
      rw [List.take_of_length_le (by omega)] at hN4
      have HN4 := Lib.hid hN4
      clear hN4 hN
      go_wp2
      go_ret
      exact ⟨_, rfl, HN4.out, hW.out⟩
end Go.Proofs.YtjbnjlkoipkpoaaGreatDoor.T

namespace Go.Proofs.YtjbnjlkoipkpoaaGreatDoor.T
open Go.RowKit Go.Shelf
open Go.Proofs.YtjbnjlkoipkpoaaGreatDoor.B

/-- The longest text that the library's search may read. -/
def Ready (w : World) : Prop := ∃ m : Int, w.cell? ⟨0, 0, none⟩ = some (.int .i64 m)
theorem Ready.stays {w w' : World} (h : Ready w) (hb : Below w.heap.size w w') : Ready w' :=
  let ⟨m, hm⟩ := h
  ⟨m, (hb.cell (p := ⟨0, 0, none⟩) (World.block_lt_of_cell? _ _ hm)).trans hm⟩
def swapB (c : UInt8) : UInt8 := if c = 10 then 47 else c
def swap (l : List UInt8) : List UInt8 := l.map swapB
theorem replaceK_swap : ∀ l : List UInt8, Lib.replaceK [10] [47] (Lib.count l [10]) l = swap l
  | [] => by rw [Lib.count_one]; rfl
  | x :: l => by
    have ih := replaceK_swap l
    by_cases hx : x = 10
    · subst hx
      have hi : Lib.index (10 :: l) [10] = ((0 : Nat) : Int) := by rw [Lib.index_one]; rfl
      rw [Lib.count_cons_eq, Nat.add_comm, Lib.replaceK_hit _ _ _ _ 0 hi]
      simp only [List.take_zero, List.nil_append, List.length_cons, List.length_nil, Nat.zero_add, List.drop_succ_cons, List.drop_zero, List.cons_append]
      rw [ih]; rfl
    · rw [Lib.count_cons_ne _ _ _ hx]
      have hs : swapB x = x := if_neg hx
      show _ = swapB x :: swap l
      rw [hs]
      rcases hc : Lib.count l [10] with _ | k
      · rw [hc] at ih
        have e : l = swap l := ih
        rw [← e]; rfl
      · obtain ⟨i, hi⟩ := Lib.index_of_count (s := l) (old := [10]) (by omega)
        have hi2 : Lib.index (x :: l) [10] = ((i + 1 : Nat) : Int) := by
          rw [Lib.index_one] at hi ⊢
          rw [Lib.indexByte, if_neg (by simpa using hx), if_neg (by rw [hi]; simp), hi]
          omega
        rw [hc, Lib.replaceK_hit _ _ _ _ _ hi] at ih
        rw [Lib.replaceK_hit _ _ _ _ _ hi2, ← ih]
        simp
theorem replaceAll_swap (l : List UInt8) : Lib.replaceAll l [10] [47] = swap l := by
  unfold Lib.replaceAll Lib.replace
  rw [if_neg (by decide)]
  have e : Lib.replaceNum l [10] (-1) = Lib.count l [10] := by unfold Lib.replaceNum; rw [if_pos (.inl (by decide))]
  rw [e, replaceK_swap]
theorem swap_len (l : List UInt8) : (swap l).length = l.length := by simp [swap]
def cellL (key : List UInt8) (fs : List Fld) : List UInt8 := if (valsOf key fs).length = 0 then [45] else swap (Lib.join ((valsOf key fs).map (·.data.toList)) [59, 32])
theorem lens_le {l : List ByteArray} {m : Nat} (h : ∀ s ∈ l, s.data.toList.length ≤ m) : Lib.lens (l.map (·.data.toList)) ≤ l.length * m := by
  induction l with
  | nil => simp [Lib.lens]
  | cons x t ih =>
    have h1 := h x (by simp)
    have h2 := ih fun s hs => h s (by simp [hs])
    simp only [Lib.lens, List.map_cons, List.sum_cons, List.length_cons] at h2 ⊢
    rw [Nat.succ_mul]
    omega
theorem join_le (l : List ByteArray) (m : Nat) (h : ∀ s ∈ l, s.data.toList.length ≤ m) : (Lib.join (l.map (·.data.toList)) [59, 32]).length ≤ l.length * (m + 2) := by
  cases l with
  | nil => simp [Lib.join_nil]
  | cons x t =>
    have h1 := lens_le h
    rw [List.map_cons, Lib.join_length, ← List.map_cons (f := fun s : ByteArray => s.data.toList)]
    rw [Nat.mul_add]
    simp only [List.length_map, List.length_cons, List.length_nil] at h1 ⊢
    omega
theorem vals_fine {key : List UInt8} {fs : List Fld} (h : FsFine fs) : (valsOf key fs).length ≤ 40 ∧ ∀ s ∈ valsOf key fs, s.data.toList.length ≤ 1000 := by
  refine ⟨Nat.le_trans (valsOf_len key fs) h.1, fun s hs => ?_⟩
  unfold valsOf at hs
  obtain ⟨f, hf, rfl⟩ := List.mem_map.1 hs
  exact h.2 f (List.mem_filter.1 hf).1
theorem cellL_len {key : List UInt8} {fs : List Fld} (h : FsFine fs) : (cellL key fs).length ≤ 40080 := by
  unfold cellL
  split
  · simp
  · obtain ⟨h1, h2⟩ := vals_fine (key := key) h
    have := join_le _ 1000 h2
    rw [swap_len]; omega
theorem append_dl (a b : ByteArray) : (a ++ b).data.toList = a.data.toList ++ b.data.toList := by simp
set_option maxRecDepth 20000 in
set_option maxHeartbeats 1600000 in
theorem cell_any (s : ByteArray) (v : Value) (fs : List Fld) (w : World) (h : FieldsAt w.heap.size w v fs) (hf : FsFine fs) (hr : Ready w) :
    Calls Tryz.prog 31 #[.string s, v] w fun e w' => e = .returned (.string ⟨(cellL s.data.toList fs).toArray⟩) ∧ Below w.heap.size w w' := by
  have V := Lib.hid (values_any s v fs w h (Nat.le_trans hf.1 (by omega)))
  obtain ⟨h40, h1000⟩ := vals_fine (key := s.data.toList) hf
  have hjl := join_le _ 1000 h1000
  obtain ⟨fo, fc, rfl, -⟩ := h
  have HC := Lib.hid (show cellL s.data.toList fs = _ from rfl)
  unfold cellL at HC
  obtain ⟨c, hc⟩ : ∃ c, cellL s.data.toList fs = c := ⟨_, rfl⟩
  rw [hc]
  have HC2 : Hid (c = if (valsOf s.data.toList fs).length = 0 then [45] else swap (Lib.join ((valsOf s.data.toList fs).map (·.data.toList)) [59, 32])) := Lib.hid (by rw [← hc]; rfl)
  obtain ⟨ss, hss⟩ : ∃ ss, valsOf s.data.toList fs = ss := ⟨_, rfl⟩
  rw [hss] at V HC2 h40 h1000 hjl
  clear HC hc hss h1000 hf
  go_enter Tryz.func31, Tryz.ntmps31
  go_wp2_with fail
  refine V.out.mono ?_
  rintro e w1 ⟨u, rfl, hR, hb⟩
  obtain ⟨vo, vc, hvs⟩ := hR.shape
  by_cases h0 : ss.length = 0
  · have hss : ss = [] := List.eq_nil_of_length_eq_zero h0
    subst hss
    subst hvs
    have HB := Lib.hid hb
    have HC3 : c = [45] := HC2.out
    subst HC3
    clear h0 HC2 hb hR V
    go_wp2
    go_ret
    exact ⟨rfl, HB.out⟩
  · have hpos : 0 < ss.length := by omega
    obtain ⟨g, cap, hv, hcap, hg⟩ : ∃ g cap, u = .slice (some ⟨g, 0, none⟩) ss.length cap ∧ ss.length ≤ cap ∧ g < w1.heap.size := by
      rcases hR.2 with ⟨-, h1⟩ | ⟨g, cap, cur, hv, hb, hg, hn, -⟩
      · omega
      · exact ⟨g, cap, hv, hn, (Array.getElem?_eq_some_iff.1 hg).1⟩
    have hcells := World.ownsRow.cells hR (g := g) (by rw [hv]; rfl)
    obtain ⟨xl, hxl⟩ : ∃ xl, Lib.join (ss.map (·.data.toList)) [59, 32] = xl := ⟨_, rfl⟩
    have J := Lib.hid (Tryz.strings_Join g 0 cap ss ⟨#[59, 32]⟩ w1 (fun j x hx => by
      have := hcells j (.string x) (by simp [strVals, hx])
      rw [addrO] at this
      rw [Nat.zero_add]; exact this) hg (by omega) hcap (by show (Lib.join _ [59, 32]).length ≤ _; omega))
    have e1 : Lib.join (ss.map (·.data.toList)) (⟨#[59, 32]⟩ : ByteArray).data.toList = xl := hxl
    have HC3 := HC2.out
    rw [if_neg h0, hxl, ← replaceAll_swap] at HC3
    have J' := J.out
    rw [e1] at J'
    have JJ := Lib.hid J'
    rw [hxl] at hjl
    have HC4 := Lib.hid HC3
    have hl0 : ((ss.length : Int) == 0) = false := by rw [beq_eq_false_iff_ne]; omega
    have HB := Lib.hid hb
    obtain ⟨x, hx⟩ : ∃ x : ByteArray, (⟨xl.toArray⟩ : ByteArray) = x := ⟨_, rfl⟩
    have hxd : xl = x.data.toList := by rw [← hx]
    have hxs : x.size ≤ 40080 := by rw [Lib.size_eq, ← hxd]; omega
    rw [hx] at JJ
    subst hxd
    subst hv
    have HR := Lib.hid (hr.stays hb)
    clear e1 J J' hxl HC2 HC3 hb hcells hcap hjl hR V hx h0 hvs
    go_wp2_with fail
    refine JJ.out.mono ?_
    rintro e w2 ⟨rfl, hb2⟩
    obtain ⟨m, hm⟩ := HR.out.stays hb2
    have RA := Lib.hid (Tryz.strings_ReplaceAll x ⟨#[10]⟩ ⟨#[47]⟩ m w2 (by omega) hm (by decide) (by
      have h1 := Lib.countB_le ⟨#[10]⟩ (by decide) x.size x (Nat.le_refl _)
      have h2 : (⟨#[47]⟩ : ByteArray).size = 1 := rfl
      rw [h2]; omega))
    have HB2 := Lib.hid hb2
    clear hm hb2 JJ HR
    go_wp2_with fail
    refine RA.out.mono ?_
    rintro e w3 ⟨rfl, hb3⟩
    go_wp2
    go_ret
    exact ⟨by rw [HC4.out]; rfl, below_cat (below_cat HB.out HB2.out) hb3⟩
end Go.Proofs.YtjbnjlkoipkpoaaGreatDoor.T

namespace Go.Proofs.YtjbnjlkoipkpoaaGreatDoor.T
open Go.RowKit Go.Shelf
open Go.Proofs.YtjbnjlkoipkpoaaGreatDoor.B

def cellB (fs : List Fld) (k : ByteArray) : ByteArray := ⟨(cellL k.data.toList fs).toArray⟩
def rowL (ks : List ByteArray) (fs : List Fld) : List ByteArray := ks.map (cellB fs)
theorem rowL_snoc (ks : List ByteArray) (fs : List Fld) (k : ByteArray) : rowL (ks ++ [k]) fs = rowL ks fs ++ [cellB fs k] := by simp [rowL]
theorem rowL_len (ks : List ByteArray) (fs : List Fld) : (rowL ks fs).length = ks.length := by simp [rowL]
set_option maxRecDepth 20000 in
set_option maxHeartbeats 3200000 in
theorem row_any (ks : List ByteArray) (vk vf : Value) (fs : List Fld) (w : World) (hk : StrsAt w.heap.size w vk ks) (hf : FieldsAt w.heap.size w vf fs) (hfine : FsFine fs) (hr : Ready w) (hn : ks.length ≤ 1000) :
    Calls Tryz.prog 67 #[vk, vf] w fun e w' => ∃ u, e = .returned u ∧ StrRow w.heap.size w' u (rowL ks fs) ∧ Below w.heap.size w w' := by
  obtain ⟨i0, hi0, hz0, hz1, hz2⟩ := info_parts infoS
  have HC := Lib.hid (fun (s : ByteArray) (w' : World) (hb : Below w.heap.size w w') => (cell_any s vf fs w' ((hf.below hb (Nat.le_refl _)).up hb.size) hfine (hr.stays hb)))
  obtain ⟨fo, fc, rfl, -⟩ := hf
  obtain ⟨ao, cp, rfl, hK⟩ := hk
  have HK := Lib.hid hK
  clear hK hr hfine
  go_enter Tryz.func67, Tryz.ntmps67
  go_wp2
  go_loopw [5, 10] (fun v i wr => VRel w (fun k => rowL (ks.take k) fs) ks.length v i wr) (fun _ i _ => ks.length - (intOf i).toNat)
  case atStart => exact ⟨0, rfl, Nat.zero_le _, Lib.hid (StrRow.nil _ _), Lib.hid (Below.refl _ _)⟩
  case round =>
    obtain ⟨k, rfl, hk, hN, hW⟩ := hrel
    by_cases hlt : k < ks.length
    · obtain ⟨s, hs⟩ : ∃ s, ks[k]? = some s := ⟨_, List.getElem?_eq_getElem hlt⟩
      obtain ⟨a, rfl, ha, h1⟩ := HK.out k s hs
      have c1 := (hW.out.cell (p := a.add k) (by rw [add_block]; exact ha)).trans h1
      have hzr := hW.out.size
      have et : ks.take (k + 1) = ks.take k ++ [s] := by rw [List.take_add_one, hs]; rfl
      have E1 := Lib.hid (show rowL (ks.take (k + 1)) fs = _ by rw [et, rowL_snoc])
      have hN3 : StrRow w.heap.size wr _ (rowL (ks.take k) fs) := hN.out
      have hvl := rowL_len (ks.take k) fs
      rw [List.length_take] at hvl
      obtain ⟨ss, hss⟩ : ∃ ss, rowL (ks.take k) fs = ss := ⟨_, rfl⟩
      rw [hss] at hN3 hvl E1
      have hvl2 : ss.length ≤ k := by omega
      have C := Lib.hid (HC.out s wr hW.out)
      obtain ⟨vo, vc, hvs⟩ := hN3.shape
      subst hvs
      have HN3 := Lib.hid hN3
      obtain ⟨tv, htv⟩ : ∃ tv : ByteArray, cellB fs s = tv := ⟨_, rfl⟩
      have C2 := C.out
      have htv2 : (⟨(cellL s.data.toList fs).toArray⟩ : ByteArray) = tv := htv
      rw [htv2] at C2
      rw [htv] at E1
      have C3 := Lib.hid C2
      clear h1 hs et hN3 hN hss hvl C C2 htv htv2
      go_wp2_with fail
      refine C3.out.mono ?_
      rintro e w1 ⟨rfl, hb⟩
      have hO1 : StrRow w.heap.size w1 _ ss := HN3.out.below hb (Nat.le_refl _)
      have HO := Lib.hid (World.ownsRow.alloc hO1 (.cells #[.string tv] 9))
      have hW1 := hW.out.trans (hb.mono hzr)
      have HW1 := Lib.hid hW1
      have hz1' := hW1.size
      clear hb hO1 hW1 C3
      go_wp2_with (at_builtin; refine wpList_append_lies _ rfl _ _ _ rfl w.heap.size 9 i0 _ 1 16 Tryz.underlying39 hi0 hz0 hz1 hz2 rfl (by omega) (.slice vo ss.length vc) ss.length (strVals ss) rfl HO.out ⟨w1.heap.size, 0, none⟩ 1 1 [.string tv] rfl rfl (World.news_of_block (cs := #[.string tv]) (heap_alloc_new w1 _)) (by simp [Value.oneCell']) (by omega) (by unfold maxLen; omega) (by omega) (by simp; omega) _ rfl ?_; refine Hid.out ?_)
      refine Lib.hid ?_
      intro gg cap w8 hown8 hgrow hat hlt8
      have hb0 := HW1.out.alloc hz1' (.cells #[.string tv] 9)
      have HB8 := Lib.hid (hb0.grown hgrow hb0.size (fun q hq => (World.ownsRow.lt HN3.out q hq).1))
      have HN8 := Lib.hid (StrRow.snoc hown8)
      clear hown8 hgrow hat hb0
      go_wp2
      refine ⟨⟨k + 1, by go_num, by omega, ?_, HB8⟩, by simp [intOf]; omega⟩
      show Hid (StrRow _ _ _ (rowL (ks.take (k + 1)) fs))
      rw [E1.out]
      exact HN8
    · have hN4 : StrRow w.heap.size wr _ (rowL (ks.take k) fs) := hN.out
      rw [List.take_of_length_le (by omega)] at hN4
      have HN4 := Lib.hid hN4
      clear hN4 hN
      go_wp2
      go_ret
      exact ⟨_, rfl, HN4.out, hW.out⟩
end Go.Proofs.YtjbnjlkoipkpoaaGreatDoor.T

namespace Go.Proofs.YtjbnjlkoipkpoaaGreatDoor.T
open Go.RowKit Go.Shelf
open Go.Proofs.YtjbnjlkoipkpoaaGreatDoor.B

set_option maxHeartbeats 800000 in
set_option maxRecDepth 20000 in
theorem cloneS_some (a : Addr) (c : Nat) (ss : List ByteArray) (w : World) (hc : ∀ (k : Nat) (s : ByteArray), ss[k]? = some s → a.block < w.heap.size ∧ w.cell? (a.add k) = some (.string s)) (hn : 0 < ss.length) (hn1 : ss.length ≤ 1000000) :
    Calls Tryz.prog 66 #[.slice (some a) ss.length c] w fun e w' => ∃ u, e = .returned u ∧ StrRow w.heap.size w' u ss ∧ Below w.heap.size w w' := by
  obtain ⟨i0, hi0, hz0, hz1, hz2⟩ := info_parts infoS
  have hlen : Hid ((strVals ss).length = ss.length * 1) := Lib.hid (by simp [strVals])
  have HC := Lib.hid (fun (j : Nat) (u : Value) (hu : (strVals ss)[j]? = some u) => show a.block < w.heap.size ∧ w.cell? (a.add j) = some u by
    obtain ⟨s, hs⟩ : ∃ s, ss[j]? = some s := by
      cases h : ss[j]? with
      | none => simp [strVals, h] at hu
      | some s => exact ⟨s, rfl⟩
    have e1 : u = .string s := by simp [strVals, hs] at hu; exact hu.symm
    rw [e1]; exact hc j s hs)
  have H1 := Lib.hid (strVals_one ss)
  have hq : ∀ w, (binOp .eql 39 (.slice (some a) ss.length c) (.slice none 0 0)).run Tryz.prog w = .ok (.bool false) w := fun w => by kernel_rfl
  clear hc
  go_enter Tryz.func66, Tryz.ntmps66
  have hm := World.ownsRow_made (base := w.heap.size) (e := 9) (size := 1) w #[] 0 (Nat.le_refl _) (Nat.zero_le _) rfl
  have hb1 : Below w.heap.size w (w.alloc (.cells #[] 9)) := (Below.refl _ _).alloc (Nat.le_refl _) _
  have HM := Lib.hid hm
  have HB1 := Lib.hid hb1
  clear hm hb1
  go_wp2_with (at_builtin; refine wpList_append_lies _ rfl _ _ _ rfl w.heap.size 9 i0 _ 1 16 Tryz.underlying39 hi0 hz0 hz1 hz2 rfl (by omega) (.slice (some ⟨w.heap.size, 0, none⟩) 0 0) 0 [] rfl HM.out a ss.length c (strVals ss) rfl hlen.out (fun j u hu => by have h := HC.out j u hu; rw [HB1.out.cell (p := a.add j) (by rw [add_block]; exact h.1)]; exact h.2) H1.out hn (by unfold maxLen; omega) (by omega) (by simp) _ rfl ?_; refine Hid.out ?_)
  refine Lib.hid ?_
  intro gg cap w1 hown1 hgrow hat hlt
  have hown1 := Lib.hid hown1
  have hgrow := Lib.hid hgrow
  clear hat hlt
  go_wp2
  go_ret
  exact ⟨_, rfl, hown1.out, HB1.out.grown hgrow.out HB1.out.size (fun k hk => by cases hk; exact Nat.le_refl _)⟩
theorem cloneS_any (v : Value) (ss : List ByteArray) (w : World) (h : StrsAt w.heap.size w v ss) (hn1 : ss.length ≤ 1000000) :
    Calls Tryz.prog 66 #[v] w fun e w' => ∃ u, e = .returned u ∧ StrRow w.heap.size w' u ss ∧ Below w.heap.size w w' := by
  obtain ⟨ao, c, rfl, hc⟩ := h
  by_cases hn : ss.length = 0
  · have hs : ss = [] := List.eq_nil_of_length_eq_zero hn
    subst hs
    cases ao with
    | none => exact (Tryz.slices_Clone_string_nil 0 c w).mono fun e w' ⟨he, hw⟩ => ⟨_, he, StrRow.nil _ _, hw ▸ Below.refl _ _⟩
    | some a => exact (Tryz.slices_Clone_string_zero a c w).mono fun e w' ⟨u, he, h1, _, hb⟩ => ⟨u, he, h1, hb⟩
  · obtain ⟨s, hs⟩ : ∃ s, ss[0]? = some s := ⟨_, List.getElem?_eq_getElem (by omega)⟩
    obtain ⟨a, rfl, -⟩ := hc 0 s hs
    exact cloneS_some a c ss w (fun k s hs => by
      obtain ⟨a', e, h1, h2⟩ := hc k s hs
      cases e
      exact ⟨h1, h2⟩) (by omega) hn1
end Go.Proofs.YtjbnjlkoipkpoaaGreatDoor.T
