/- A stanza's cell and row: table.Cell, .row. -/
import Derived.Test.YtboiaoaephimhaaDoorTCells
import Derived.Test.YtboiaoaephimhaaDoorBGood
import Derived.Lib.Replace
namespace Go.Proofs.YtboiaoaephimhaaDoor.T
open Go.RowKit Go.Shelf
open Go.Proofs.YtboiaoaephimhaaDoor.B

/-- The longest text that the library's search may read. -/
def Ready (w : World) : Prop := ∃ m : Int, w.cell? ⟨0, 0, none⟩ = some (.int .i64 m)
theorem Ready.stays {w w' : World} (h : Ready w) (hb : Below w.heap.size w w') : Ready w' :=
  let ⟨m, hm⟩ := h
  ⟨m, (hb.cell (p := ⟨0, 0, none⟩) (World.block_lt_of_cell? _ _ hm)).trans hm⟩
def swapB (c : UInt8) : UInt8 := if c = 10 then 47 else c
def swap (l : List UInt8) : List UInt8 := l.map swapB
theorem replaceK_swap : ∀ l : List UInt8, Lib.replaceK [10] [47] (Lib.count l [10]) l = swap l
  | [] => by rw [Lib.count_one]; rfl
  | x :: l => by
    have ih := replaceK_swap l
    by_cases hx : x = 10
    · subst hx
      have hi : Lib.index (10 :: l) [10] = ((0 : Nat) : Int) := by rw [Lib.index_one]; rfl
      rw [Lib.count_cons_eq, Nat.add_comm, Lib.replaceK_hit _ _ _ _ 0 hi]
      simp only [List.take_zero, List.nil_append, List.length_cons, List.length_nil, Nat.zero_add, List.drop_succ_cons, List.drop_zero, List.cons_append]
      rw [ih]; rfl
    · rw [Lib.count_cons_ne _ _ _ hx]
      have hs : swapB x = x := if_neg hx
      show _ = swapB x :: swap l
      rw [hs]
      rcases hc : Lib.count l [10] with _ | k
      · rw [hc] at ih
        have e : l = swap l := ih
        rw [← e]; rfl
      · obtain ⟨i, hi⟩ := Lib.index_of_count (s := l) (old := [10]) (by omega)
        have hi2 : Lib.index (x :: l) [10] = ((i + 1 : Nat) : Int) := by
          rw [Lib.index_one] at hi ⊢
          rw [Lib.indexByte, if_neg (by simpa using hx), if_neg (by rw [hi]; simp), hi]
          omega
        rw [hc, Lib.replaceK_hit _ _ _ _ _ hi] at ih
        rw [Lib.replaceK_hit _ _ _ _ _ hi2, ← ih]
        simp
theorem replaceAll_swap (l : List UInt8) : Lib.replaceAll l [10] [47] = swap l := by
  unfold Lib.replaceAll Lib.replace
  rw [if_neg (by decide)]
  have e : Lib.replaceNum l [10] (-1) = Lib.count l [10] := by unfold Lib.replaceNum; rw [if_pos (.inl (by decide))]
  rw [e, replaceK_swap]
theorem swap_len (l : List UInt8) : (swap l).length = l.length := by simp [swap]
def cellL (key : List UInt8) (fs : List Fld) : List UInt8 := if (valsOf key fs).length = 0 then [45] else swap (Lib.join ((valsOf key fs).map (·.data.toList)) [59, 32])
theorem lens_le {l : List ByteArray} {m : Nat} (h : ∀ s ∈ l, s.data.toList.length ≤ m) : Lib.lens (l.map (·.data.toList)) ≤ l.length * m := by
  induction l with
  | nil => simp [Lib.lens]
  | cons x t ih =>
    have h1 := h x (by simp)
    have h2 := ih fun s hs => h s (by simp [hs])
    simp only [Lib.lens, List.map_cons, List.sum_cons, List.length_cons] at h2 ⊢
    rw [Nat.succ_mul]
    omega
theorem join_le (l : List ByteArray) (m : Nat) (h : ∀ s ∈ l, s.data.toList.length ≤ m) : (Lib.join (l.map (·.data.toList)) [59, 32]).length ≤ l.length * (m + 2) := by
  cases l with
  | nil => simp [Lib.join_nil]
  | cons x t =>
    have h1 := lens_le h
    rw [List.map_cons, Lib.join_length, ← List.map_cons (f := fun s : ByteArray => s.data.toList)]
    rw [Nat.mul_add]
    simp only [List.length_map, List.length_cons, List.length_nil] at h1 ⊢
    omega
theorem vals_fine {key : List UInt8} {fs : List Fld} (h : FsFine fs) : (valsOf key fs).length ≤ 40 ∧ ∀ s ∈ valsOf key fs, s.data.toList.length ≤ 1000 := by
  refine ⟨Nat.le_trans (valsOf_len key fs) h.1, fun s hs => ?_⟩
  unfold valsOf at hs
  obtain ⟨f, hf, rfl⟩ := List.mem_map.1 hs
  exact h.2 f (List.mem_filter.1 hf).1
theorem cellL_len {key : List UInt8} {fs : List Fld} (h : FsFine fs) : (cellL key fs).length ≤ 40080 := by
  unfold cellL
  split
  · simp
  · obtain ⟨h1, h2⟩ := vals_fine (key := key) h
    have := join_le _ 1000 h2
    rw [swap_len]; omega
theorem append_dl (a b : ByteArray) : (a ++ b).data.toList = a.data.toList ++ b.data.toList := by simp
set_option maxRecDepth 20000 in
set_option maxHeartbeats 1600000 in
theorem cell_any (s : ByteArray) (v : Value) (fs : List Fld) (w : World) (h : FieldsAt w.heap.size w v fs) (hf : FsFine fs) (hr : Ready w) :
    Calls Tryd.prog 18 #[.string s, v] w fun e w' => e = .returned (.string ⟨(cellL s.data.toList fs).toArray⟩) ∧ Below w.heap.size w w' := by
  have V := Lib.hid (values_any s v fs w h (Nat.le_trans hf.1 (by omega)))
  obtain ⟨h40, h1000⟩ := vals_fine (key := s.data.toList) hf
  have hjl := join_le _ 1000 h1000
  obtain ⟨fo, fc, rfl, -⟩ := h
  have HC := Lib.hid (show cellL s.data.toList fs = _ from rfl)
  unfold cellL at HC
  obtain ⟨c, hc⟩ : ∃ c, cellL s.data.toList fs = c := ⟨_, rfl⟩
  rw [hc]
  have HC2 : Hid (c = if (valsOf s.data.toList fs).length = 0 then [45] else swap (Lib.join ((valsOf s.data.toList fs).map (·.data.toList)) [59, 32])) := Lib.hid (by rw [← hc]; rfl)
  obtain ⟨ss, hss⟩ : ∃ ss, valsOf s.data.toList fs = ss := ⟨_, rfl⟩
  rw [hss] at V HC2 h40 h1000 hjl
  clear HC hc hss h1000 hf
  go_enter Tryd.func18, Tryd.ntmps18
  go_wp2_with fail
  refine V.out.mono ?_
  rintro e w1 ⟨u, rfl, hR, hb⟩
  obtain ⟨vo, vc, hvs⟩ := hR.shape
  by_cases h0 : ss.length = 0
  · have hss : ss = [] := List.eq_nil_of_length_eq_zero h0
    subst hss
    subst hvs
    have HB := Lib.hid hb
    have HC3 : c = [45] := HC2.out
    subst HC3
    clear h0 HC2 hb hR V
    go_wp2
    go_ret
    exact ⟨rfl, HB.out⟩
  · have hpos : 0 < ss.length := by omega
    obtain ⟨g, cap, hv, hcap, hg⟩ : ∃ g cap, u = .slice (some ⟨g, 0, none⟩) ss.length cap ∧ ss.length ≤ cap ∧ g < w1.heap.size := by
      rcases hR.2 with ⟨-, h1⟩ | ⟨g, cap, cur, hv, hb, hg, hn, -⟩
      · omega
      · exact ⟨g, cap, hv, hn, (Array.getElem?_eq_some_iff.1 hg).1⟩
    have hcells := World.ownsRow.cells hR (g := g) (by rw [hv]; rfl)
    obtain ⟨xl, hxl⟩ : ∃ xl, Lib.join (ss.map (·.data.toList)) [59, 32] = xl := ⟨_, rfl⟩
    have J := Lib.hid (Tryd.strings_Join g 0 cap ss ⟨#[59, 32]⟩ w1 (fun j x hx => by
      have := hcells j (.string x) (by simp [strVals, hx])
      rw [addrO] at this
      rw [Nat.zero_add]; exact this) hg (by omega) hcap (by show (Lib.join _ [59, 32]).length ≤ _; omega))
    have e1 : Lib.join (ss.map (·.data.toList)) (⟨#[59, 32]⟩ : ByteArray).data.toList = xl := hxl
    have HC3 := HC2.out
    rw [if_neg h0, hxl, ← replaceAll_swap] at HC3
    have J' := J.out
    rw [e1] at J'
    have JJ := Lib.hid J'
    rw [hxl] at hjl
    have HC4 := Lib.hid HC3
    have hl0 : ((ss.length : Int) == 0) = false := by rw [beq_eq_false_iff_ne]; omega
    have HB := Lib.hid hb
    obtain ⟨x, hx⟩ : ∃ x : ByteArray, (⟨xl.toArray⟩ : ByteArray) = x := ⟨_, rfl⟩
    have hxd : xl = x.data.toList := by rw [← hx]
    have hxs : x.size ≤ 40080 := by rw [Lib.size_eq, ← hxd]; omega
    rw [hx] at JJ
    subst hxd
    subst hv
    have HR := Lib.hid (hr.stays hb)
    clear e1 J J' hxl HC2 HC3 hb hcells hcap hjl hR V hx h0 hvs
    go_wp2_with fail
    refine JJ.out.mono ?_
    rintro e w2 ⟨rfl, hb2⟩
    obtain ⟨m, hm⟩ := HR.out.stays hb2
    have RA := Lib.hid (Tryd.strings_ReplaceAll x ⟨#[10]⟩ ⟨#[47]⟩ m w2 (by omega) hm (by decide) (by
      have h1 := Lib.countB_le ⟨#[10]⟩ (by decide) x.size x (Nat.le_refl _)
      have h2 : (⟨#[47]⟩ : ByteArray).size = 1 := rfl
      rw [h2]; omega))
    have HB2 := Lib.hid hb2
    clear hm hb2 JJ HR
    go_wp2_with fail
    refine RA.out.mono ?_
    rintro e w3 ⟨rfl, hb3⟩
    go_wp2
    go_ret
    exact ⟨by rw [HC4.out]; rfl, below_cat (below_cat HB.out HB2.out) hb3⟩
end Go.Proofs.YtboiaoaephimhaaDoor.T
