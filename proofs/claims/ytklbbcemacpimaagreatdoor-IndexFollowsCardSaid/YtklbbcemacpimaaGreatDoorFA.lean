/- fold.Check, fold.stuffed: an error, or none. fold.Lines: a field's lines, or an error. fold.Fold: fields' lines as a text, or an error. print.Check, print.Stanza, print.Item: fields as an item, or an error. -/
import Derived.Test.YtklbbcemacpimaaGreatDoorIBKeys
import Derived.Test.YtklbbcemacpimaaGreatDoorIAlive
import Derived.Test.YtklbbcemacpimaaGreatDoorIHas
import Derived.Deep.AppendLies
import Derived.Deep.RegionHeld3
import Derived.Lib.SplitLaws
import Derived.Shelf.Strings.OnBuilder
import Derived.Shelf.Strings.BuilderF
import Derived.Shelf.Strings.BuilderK
namespace Go.Proofs.YtklbbcemacpimaaGreatDoor.I
open Go Go.Maps Go.Proofs Go.RowKit

/-- A value that is an error. -/
def IsErr (v : Value) : Prop := (∃ k : Int, v = .iface 94 (.int .i64 k)) ∨ ∃ g : Nat, v = .iface 150 (.pointer (some ⟨g, 0, none⟩))
theorem isErr_errno (k : Int) : IsErr (.iface 94 (.int .i64 k)) := .inl ⟨k, rfl⟩
theorem isErr_fault (g : Nat) : IsErr (.iface 150 (.pointer (some ⟨g, 0, none⟩))) := .inr ⟨g, rfl⟩
set_option maxRecDepth 20000 in
set_option maxHeartbeats 1600000 in
theorem foldCheck_any (k v : ByteArray) (w : World) :
    Calls Tryz.prog 102 #[.agg #[.string k, .string v]] w fun e w' => ∃ u, e = .returned u ∧ (u = .nilIface ∧ v.size ≤ 1000 ∧ k.size ≤ 32 ∨ IsErr u) ∧ Below w.heap.size w w' := by
  have HK : Hid (B.goodKey k.data.toList = true → k.size ≤ 32) := Lib.hid fun h => by have := B.goodKey_len h; exact this
  obtain ⟨gk, hgk⟩ : ∃ gk, B.goodKey k.data.toList = gk := ⟨_, rfl⟩
  have KA := fun w' => B.key_any k w'
  rw [hgk] at KA HK
  have KA := Lib.hid KA
  have hb := Lib.hid (below_grow1 w (.cells #[.string k, .string v] 57))
  clear hgk
  cases gk with
  | false =>
    clear HK
    go_enter Tryz.func102, Tryz.ntmps102
    go_wp2_with fail
    refine (KA.out _).mono ?_
    rintro e w1 ⟨rfl, rfl⟩
    go_wp2_with fail
    go_ret
    exact ⟨_, rfl, .inr (isErr_errno 5), hb.out⟩
  | true =>
    by_cases hv : 1000 < v.size
    · have hv' : (1000 : Int) < (v.size : Int) := by omega
      clear HK hv
      go_enter Tryz.func102, Tryz.ntmps102
      go_wp2_with fail
      refine (KA.out _).mono ?_
      rintro e w1 ⟨rfl, rfl⟩
      go_wp2_with fail
      go_ret
      exact ⟨_, rfl, .inr (isErr_errno 6), hb.out⟩
    · have hv' : (v.size : Int) ≤ 1000 := by omega
      go_enter Tryz.func102, Tryz.ntmps102
      go_wp2_with fail
      refine (KA.out _).mono ?_
      rintro e w1 ⟨rfl, rfl⟩
      go_wp2_with fail
      go_ret
      exact ⟨_, rfl, .inl ⟨rfl, by omega, HK.out trivial⟩, hb.out⟩
set_option maxRecDepth 20000 in
set_option maxHeartbeats 1600000 in
theorem stuffed_any (s : ByteArray) (w : World) (hs : s.size ≤ 1000) :
    Calls Tryz.prog 135 #[.string s] w fun e w' => ∃ t : ByteArray, e = .returned (.string t) ∧ t.size ≤ 1001 ∧ Below w.heap.size w w' := by
  have TR := Lib.hid (B.strTrim s (by omega) w)
  have HP := Lib.hid (fun w' => B.strHasPrefix s 46 w')
  obtain ⟨bp, hbp⟩ : ∃ bp, B.begins 46 s.data.toList = bp := ⟨_, rfl⟩
  rw [hbp] at HP
  have hz : ((⟨#[46]⟩ : ByteArray) ++ s).size ≤ 1001 := by rw [ByteArray.size_append]; show 1 + s.size ≤ _; omega
  have HZ := Lib.hid hz
  clear hbp hz
  go_enter Tryz.func135, Tryz.ntmps135
  go_wp2_with fail
  refine TR.out.mono ?_
  rintro e w1 ⟨⟨t, rfl, -⟩, hb⟩
  have HB := Lib.hid hb
  clear hb TR
  obtain ⟨tt, htt⟩ : ∃ tt : ByteArray, (⟨t.toArray⟩ : ByteArray) = tt := ⟨_, rfl⟩
  rw [htt]
  clear htt
  by_cases ht : tt = ⟨#[]⟩
  · subst ht
    go_wp2_with fail
    go_ret
    exact ⟨_, rfl, HZ.out, HB.out⟩
  · have hne : (tt.toList == (⟨#[]⟩ : ByteArray).toList) = false := by rw [beq_eq_false_iff_ne]; exact fun e => ht (by
      have h1 : tt.data.toList = (⟨#[]⟩ : ByteArray).data.toList := by rw [Lib.toList_data, Lib.toList_data] at e; exact e
      have : tt.data = (⟨#[]⟩ : ByteArray).data := Array.ext' h1
      exact ByteArray.ext this)
    have hn0 : (⟨#[]⟩ : ByteArray).toList = [] := by rw [Lib.toList_data]
    rw [hn0] at hne
    have hne2 : ¬ tt.toList = [] := by rw [beq_eq_false_iff_ne] at hne; exact hne
    have hne3 : ¬ tt = ByteArray.empty := ht
    clear hn0
    go_wp2_with fail
    refine (HP.out w1).mono ?_
    rintro e w2 ⟨rfl, rfl⟩
    cases bp with
    | true =>
      go_wp2_with fail
      go_ret
      exact ⟨_, rfl, HZ.out, HB.out⟩
    | false =>
      go_wp2_with fail
      go_ret
      exact ⟨_, rfl, by omega, HB.out⟩
end Go.Proofs.YtklbbcemacpimaaGreatDoor.I

namespace Go.Proofs.YtklbbcemacpimaaGreatDoor.I
open Go Go.Maps Go.Proofs Go.RowKit Go.Sort

/-- What strings.Split reads of the library's variables. -/
def Rdy (w : World) : Prop := ∃ m : Int, w.cell? ⟨0, 0, none⟩ = some (.int .i64 m)
theorem Rdy.stays {w w' : World} (h : Rdy w) (hb : Below w.heap.size w w') : Rdy w' :=
  let ⟨m, hm⟩ := h
  ⟨m, (hb.cell (p := ⟨0, 0, none⟩) (World.block_lt_of_cell? _ _ hm)).trans hm⟩
theorem splitB_sizes (sep : ByteArray) : ∀ (k : Nat) (s : ByteArray), ∀ x ∈ Lib.splitB sep 0 k s, x.size ≤ s.size
  | 0, s, x, h => by rw [Lib.splitB_zero, List.mem_singleton] at h; rw [h]; exact Nat.le_refl _
  | k + 1, s, x, h => by
    unfold Lib.splitB at h
    split at h
    · rw [List.mem_singleton] at h; rw [h]; exact Nat.le_refl _
    · rcases List.mem_cons.1 h with rfl | h
      · rw [ByteArray.size_extract]; omega
      · have := splitB_sizes sep k _ x h
        rw [ByteArray.size_extract] at this
        omega
theorem infoS1 : (Tryz.prog.info? 9).map (fun i => (i.zero, i.size, i.bytes)) = some (some (.string ⟨#[]⟩), 1, 16) := by kernel_rfl
theorem own_low1 {N N' : Nat} {e : TypeId} {size n : Nat} {xs : List Value} {w : World} {v : Value} (h : w.ownsRow N e size v n xs) (hN : N' ≤ N) : w.ownsRow N' e size v n xs := by
  refine ⟨h.1, ?_⟩
  rcases h.2 with h0 | ⟨g, cap, cur, hv, hB2, hr⟩
  · exact .inl h0
  · exact .inr ⟨g, cap, cur, hv, by omega, hr⟩
theorem one_row {w : World} {N : Nat} {s : ByteArray} (h : w.heap[N]? = some (.cells #[.string s] 9 (0, 0))) : w.ownsRow N 9 1 (.slice (some ⟨N, 0, none⟩) 1 1) [s.data.toList].length ([s.data.toList].map encStr) := by
  refine ⟨rfl, .inr ⟨N, 1, #[.string s], rfl, Nat.le_refl _, h, Nat.le_refl _, by have := maxLen_is; omega, rfl, ?_⟩⟩
  show [Value.string s] = [encStr s.data.toList]
  rw [encStr, Lib.mk_data]
def FLR (N : Nat) (w5 : World) (n : Nat) (v6 i : Value) (wr : World) : Prop :=
  ∃ (j : Nat) (ss : List L8), i = .int .i64 j ∧ j ≤ n ∧ ss.length = j + 1 ∧ (∀ s ∈ ss, s.length ≤ 3000) ∧ Hid (wr.ownsRow N 9 1 v6 ss.length (ss.map encStr)) ∧ Hid (Below N w5 wr)
/-- What fold.Lines answers. -/
def LinesP (w : World) (e : Ending) (w' : World) : Prop :=
  ((∃ u, e = .returned (.tuple #[.slice none 0 0, u]) ∧ IsErr u) ∨ ∃ (v : Value) (ss : List L8), e = .returned (.tuple #[v, .nilIface]) ∧ w'.ownsRow w.heap.size 9 1 v ss.length (ss.map encStr) ∧ ss.length ≤ 1002 ∧ ∀ s ∈ ss, s.length ≤ 3000) ∧ Below w.heap.size w w'
set_option maxRecDepth 100000 in
set_option maxHeartbeats 6400000 in
theorem foldLines_any (k v : ByteArray) (w : World) (hr : Rdy w) :
    Calls Tryz.prog 103 #[.agg #[.string k, .string v]] w (LinesP w) := by
  obtain ⟨i0, hi0, hz0, hz1, hz2⟩ := info_parts infoS1
  obtain ⟨w1, hw1⟩ : ∃ w1, w.alloc (.cells #[.string k, .string v] 57) = w1 := ⟨_, rfl⟩
  have hb1 : Below w.heap.size w w1 := by rw [← hw1]; exact below_grow1 w _
  have g1 : w1.heap[w.heap.size]? = some (.cells #[.string k, .string v] 57 (0, 0)) := by rw [← hw1]; exact heap_alloc_new w _
  obtain ⟨B0, hB0⟩ : ∃ B0, w.heap.size = B0 := ⟨_, rfl⟩
  have x0 : w1.cell? ⟨w.heap.size, 0, none⟩ = some (.string k) := by simp [World.cell?, g1]
  have x1 : w1.cell? ⟨w.heap.size, 1, none⟩ = some (.string v) := by simp [World.cell?, g1]
  rw [hB0] at x0 x1
  have CK := Lib.hid (foldCheck_any k v w1)
  have HR1 := Lib.hid (hr.stays hb1)
  have HB1 := Lib.hid hb1
  have HW1 := Lib.hid hw1
  have HB0 := Lib.hid hB0
  have hlt : B0 < w1.heap.size := by rw [← hB0]; exact (Array.getElem?_eq_some_iff.1 g1).1
  clear hb1 g1 hw1 hB0 hr
  go_enter Tryz.func103, Tryz.ntmps103
  go_wp2_with fail
  try rw [HW1.out]
  try rw [HB0.out]
  refine CK.out.mono ?_
  rintro e w2 ⟨u, rfl, hu, hb2⟩
  have y0 := (hb2.cell (p := ⟨B0, 0, none⟩) hlt).trans x0
  have y1 := (hb2.cell (p := ⟨B0, 1, none⟩) hlt).trans x1
  have HB2 := Lib.hid (HB1.out.trans (hb2.mono HB1.out.size))
  have HR2 := Lib.hid (HR1.out.stays hb2)
  have hlt2 : B0 < w2.heap.size := by have := hb2.size; omega
  clear hb2 HR1 x0 x1
  rcases hu with ⟨rfl, hv, hk⟩ | hu
  · obtain ⟨m, hm⟩ := HR2.out
    obtain ⟨n, hn⟩ : ∃ n, Lib.countB v ⟨#[10]⟩ = n := ⟨_, rfl⟩
    have SP := Lib.hid (Tryz.strings_Split v ⟨#[10]⟩ m w2 (by omega) hm (by decide))
    have hcl := Lib.countB_le ⟨#[10]⟩ (by decide) v.size v (Nat.le_refl _)
    have hLl := Lib.splitB_all ⟨#[10]⟩ (by decide) 0 n v hn
    have hLz := splitB_sizes ⟨#[10]⟩ n v
    rw [hn] at SP hcl
    obtain ⟨L, hL⟩ : ∃ L, Lib.splitB ⟨#[10]⟩ 0 n v = L := ⟨_, rfl⟩
    rw [hL] at SP hLl hLz
    have HLZ : Hid (∀ x ∈ L, x.size ≤ 1000) := Lib.hid fun x hx => Nat.le_trans (hLz x hx) hv
    clear hn hL hLz hm
    go_wp2_with fail
    refine SP.out.mono ?_
    rintro e w3 ⟨rfl, hw3⟩
    obtain ⟨B, hB⟩ : ∃ B, w2.heap.size = B := ⟨_, rfl⟩
    have hb3 : Below w2.heap.size w2 w3 := by rw [hw3]; exact below_grow1 w2 _
    have g3 : w3.heap[w2.heap.size]? = some (.cells (L.map Value.string).toArray 9 (0, 0)) := by rw [hw3]; exact heap_alloc_new w2 _
    have hBN0 : w2.heap.size < w3.heap.size := (Array.getElem?_eq_some_iff.1 g3).1
    have y0 := (hb3.cell (p := ⟨B0, 0, none⟩) hlt2).trans y0
    have hBN3 : B < w3.heap.size := by rw [← hB]; exact hBN0
    obtain ⟨N, hN⟩ : ∃ N, w3.heap.size = N := ⟨_, rfl⟩
    have HC3 : Hid (∀ (j : Nat) x, L[j]? = some x → w3.cell? ⟨B, j, none⟩ = some (.string x)) := Lib.hid fun j x hx => by
      rw [← hB]
      simp [World.cell?, g3, hx]
    have HBW3 := Lib.hid (HB2.out.trans (hb3.mono HB2.out.size))
    rw [hB]
    have hBN : B < N := by omega
    have HN : Hid (w.heap.size ≤ N) := Lib.hid (by have := HBW3.out.size; omega)
    have hlt3 : B0 < N := by omega
    clear hb3 g3 hw3 hBN0 SP hB
    obtain ⟨f0, hf0⟩ : ∃ f0, L[0]? = some f0 := ⟨_, List.getElem?_eq_getElem (by omega)⟩
    obtain ⟨ko, hko⟩ : ∃ ko : ByteArray, k ++ ⟨#[58]⟩ = ko := ⟨_, rfl⟩
    have hkz : ko.size ≤ 33 := by rw [← hko, ByteArray.size_append]; show k.size + 1 ≤ _; omega
    have hfz := HLZ.out f0 (List.mem_of_getElem? hf0)
    obtain ⟨w4, hw4⟩ : ∃ w4, w3.alloc (.cells #[.string ko] 9) = w4 := ⟨_, rfl⟩
    have hb4 : Below w3.heap.size w3 w4 := by rw [← hw4]; exact below_grow1 w3 _
    have g4 : w4.heap[w3.heap.size]? = some (.cells #[.string ko] 9 (0, 0)) := by rw [← hw4]; exact heap_alloc_new w3 _
    rw [hN] at g4 hb4
    have f3 : w3.cell? ⟨B, 0, none⟩ = some (.string f0) := HC3.out 0 f0 hf0
    have f4 : w4.cell? ⟨B, 0, none⟩ = some (.string f0) := (hb4.cell (p := ⟨B, 0, none⟩) hBN).trans (HC3.out 0 f0 hf0)
    have k4 : w4.cell? ⟨N, 0, none⟩ = some (.string ko) := by simp [World.cell?, g4]
    have r4 : w4.frozen? ⟨N, 0, none⟩ = false := by simp [World.frozen?, g4]
    have HC : Hid (∀ (j : Nat) x, L[j]? = some x → w4.cell? ⟨B, j, none⟩ = some (.string x)) := Lib.hid fun j x hx => (hb4.cell (p := ⟨B, j, none⟩) hBN).trans (HC3.out j x hx)
    have HW4 := Lib.hid hw4
    have HNN := Lib.hid hN
    have HG4 := Lib.hid g4
    have HBW : Hid (Below w.heap.size w w4) := Lib.hid (HBW3.out.trans (hb4.mono HN.out))
    have HBZ : Hid (w.heap.size ≤ N) := HN
    have hNl : N < w4.heap.size := (Array.getElem?_eq_some_iff.1 g4).1
    have hf1 := Lib.hid hf0
    have HKO := Lib.hid hko
    clear hf0 hw4 hN HBW3 HC3 g4 hb4 hko
    have hLn : L.length = n + 1 := hLl
    have hnil : (⟨#[]⟩ : ByteArray).toList = [] := by rw [Lib.toList_data]
    by_cases hn0 : n = 0
    · subst hn0
      by_cases he : f0 = ⟨#[]⟩
      · subst he
        have hr5 := HG4.out
        have hb5 : Below N w4 w4 := Below.refl _ _
        obtain ⟨o0, ho0⟩ : ∃ o0, ko = o0 := ⟨_, rfl⟩
        have hoz : o0.data.toList.length ≤ 3000 := by rw [← ho0]; have : ko.data.toList.length = ko.size := rfl; omega
        rw [ho0] at hr5
        clear ho0
        go_wp2_with fail
        try rw [HKO.out]
        try rw [HW4.out]
        try rw [HNN.out]
        have HSL := Lib.hid hr5
        have HB5 := Lib.hid hb5
        have HOZ := Lib.hid hoz
        clear hr5 hb5 hoz
        refine wp_loop_rounds 1 ?_
        rw [rounds_succ]
        go_wp2_with fail
        exact bodyPost_ret (v := .tuple #[.slice (some ⟨N, 0, none⟩) 1 1, .nilIface]) (by simp [results, Tryz.results103, go_sem]) rfl ⟨.inr ⟨_, [o0.data.toList], rfl, own_low1 (one_row HSL.out) HN.out, by simp, fun s hs => by rw [List.mem_singleton.1 hs]; exact HOZ.out⟩, HBW.out.trans (HB5.out.mono HBZ.out)⟩
      · have he1 : ¬ f0.toList = [] := fun e => he (by
          have h1 : f0.data.toList = (⟨#[]⟩ : ByteArray).data.toList := by rw [Lib.toList_data] at e; exact e
          have : f0.data = (⟨#[]⟩ : ByteArray).data := Array.ext' h1
          exact ByteArray.ext this)
        have he2 : (f0.toList == []) = false := by rw [beq_eq_false_iff_ne]; exact he1
        have he3 : ¬ f0 = ByteArray.empty := he
        obtain ⟨o0, ho0⟩ : ∃ o0 : ByteArray, ko ++ (⟨#[32]⟩ ++ f0) = o0 := ⟨_, rfl⟩
        have hoz : o0.data.toList.length ≤ 3000 := by
          have h1 : o0.data.toList.length = o0.size := rfl
          rw [h1, ← ho0, ByteArray.size_append, ByteArray.size_append]
          show ko.size + (1 + f0.size) ≤ 3000
          omega
        obtain ⟨w5, hw5⟩ : ∃ w5, (w4.setCell ⟨N, 0, none⟩ (.string o0)).drew = w5 := ⟨_, rfl⟩
        have hb5 : Below N w4 w5 := by rw [← hw5]; exact ((Below.refl N w4).setCell (p := ⟨N, 0, none⟩) (Nat.le_refl N) _).drew
        obtain ⟨cu5, hr50, -⟩ : ∃ cu, w5.heap[N]? = some (.cells #[.string o0] 9 (0, 0)) ∧ cu = cu := by
          refine ⟨0, ?_, rfl⟩
          rw [← hw5]
          obtain ⟨hlt, hk⟩ := Array.getElem?_eq_some_iff.1 HG4.out
          show (w4.heap.modify N _)[N]? = _
          rw [Array.getElem?_eq_getElem (by rw [Array.size_modify]; exact hlt), Array.getElem_modify_self, hk]
          rfl
        have hr5 := hr50
        have f4d : w4.drew.cell? ⟨B, 0, none⟩ = some (.string f0) := f4
        have k4d : w4.drew.cell? ⟨N, 0, none⟩ = some (.string ko) := k4
        have r4d : w4.drew.frozen? ⟨N, 0, none⟩ = false := r4
        have hNl2 : N < w4.drew.heap.size := hNl
        have HW5 := Lib.hid hw5
        have HO0 := Lib.hid ho0
        clear hw5 ho0 hr50
        go_wp2_with fail
        try rw [HKO.out]
        try rw [HW4.out]
        try rw [HNN.out]
        go_region
        try rw [HO0.out]
        try rw [HW5.out]
        go_wp2_with fail
        have HSL := Lib.hid hr5
        have HB5 := Lib.hid hb5
        have HOZ := Lib.hid hoz
        clear hr5 hb5 hoz
        refine wp_loop_rounds 1 ?_
        rw [rounds_succ]
        go_wp2_with fail
        exact bodyPost_ret (v := .tuple #[.slice (some ⟨N, 0, none⟩) 1 1, .nilIface]) (by simp [results, Tryz.results103, go_sem]) rfl ⟨.inr ⟨_, [o0.data.toList], rfl, own_low1 (one_row HSL.out) HN.out, by simp, fun s hs => by rw [List.mem_singleton.1 hs]; exact HOZ.out⟩, HBW.out.trans (HB5.out.mono HBZ.out)⟩
    · have hn1 : 1 ≤ n := by omega
      have hne : ¬ n + 1 = 1 := by omega
      have hne2 : ¬ (1 : Int) = (n : Int) + 1 := by omega
      by_cases he : f0 = ⟨#[]⟩
      · subst he
        have hr5 := HG4.out
        have hb5 : Below N w4 w4 := Below.refl _ _
        obtain ⟨o0, ho0⟩ : ∃ o0, ko = o0 := ⟨_, rfl⟩
        have hoz : o0.data.toList.length ≤ 3000 := by rw [← ho0]; have : ko.data.toList.length = ko.size := rfl; omega
        rw [ho0] at hr5
        clear ho0
        go_wp2_with fail
        try rw [HKO.out]
        try rw [HW4.out]
        try rw [HNN.out]
        have R0 : FLR N w4 n (.slice (some ⟨N, 0, none⟩) 1 1) (.int .i64 0) w4 := ⟨0, [o0.data.toList], rfl, Nat.zero_le _, rfl, fun s hs => by rw [List.mem_singleton.1 hs]; exact hoz, Lib.hid (one_row hr5), Lib.hid (Below.refl _ _)⟩
        have HR0 := Lib.hid R0
        have HB5 := Lib.hid hb5
        have hz5 : N ≤ w4.heap.size := by have := hb5.size; omega
        clear R0 hr5 hb5 hoz
        go_loopw [6, 37] (fun v6 i W' => FLR N w4 n v6 i W') (fun _ i _ => n - (iOf i).toNat)
        case atStart => exact HR0.out
        case round =>
          clear HR0
          obtain ⟨j, ss, rfl, hj, hsl, hsz, hO, hW⟩ := hrel
          have hzr : N ≤ wr.heap.size := by have := hW.out.size; omega
          by_cases hlt : j < n
          · obtain ⟨s, hs⟩ : ∃ s, L[j + 1]? = some s := ⟨_, List.getElem?_eq_getElem (by omega)⟩
            have hc0 := HC.out (j + 1) s hs
            rw [Nat.add_comm j 1] at hc0
            have hsc := (hW.out.cell (p := ⟨B, 1 + j, none⟩) hBN).trans ((HB5.out.cell (p := ⟨B, 1 + j, none⟩) hBN).trans hc0)
            have hss := HLZ.out s (List.mem_of_getElem? hs)
            have ST := Lib.hid (stuffed_any s wr hss)
            have HO := Lib.hid hO.out
            have HSZ := Lib.hid hsz
            clear hs hO hsz
            go_wp2_with fail
            refine ST.out.mono ?_
            rintro e w7 ⟨t, rfl, htz, hb7⟩
            have hO7 := ownB HO.out hb7
            obtain ⟨vo, vc, hv⟩ := own_sh2 hO7
            subst hv
            obtain ⟨tt, htt⟩ : ∃ tt : ByteArray, (⟨#[32]⟩ : ByteArray) ++ t = tt := ⟨_, rfl⟩
            have htt2 : tt.size ≤ 3000 := by rw [← htt, ByteArray.size_append]; show 1 + t.size ≤ _; omega
            have HOA := Lib.hid (World.ownsRow.alloc hO7 (.cells #[.string tt] 9))
            have HLT := Lib.hid (World.ownsRow.lt hO7)
            have HW7 := Lib.hid (hW.out.trans (hb7.mono hzr))
            have hz7 : N ≤ w7.heap.size := by have := hb7.size; omega
            have HTZ := Lib.hid htt2
            have hq6 : ss.length ≤ 1000001 := by omega
            have HSL := Lib.hid hsl
            clear hO7 hb7 htt2 HO hsl
            try rw [htt]
            go_wp2_with (at_builtin; refine wpList_append_lies _ rfl _ _ _ rfl N 9 i0 _ 1 16 Tryz.underlying30 hi0 hz0 hz1 hz2 rfl (by omega) (.slice vo (ss.length) vc) (ss.length) _ rfl HOA.out ⟨w7.heap.size, 0, none⟩ 1 1 [.string tt] rfl rfl (World.news_of_block (cs := #[.string tt]) (heap_alloc_new w7 (.cells #[.string tt] 9))) (by simp [Value.oneCell']) (by omega) (by unfold maxLen; omega) (by omega) (by simp; omega) _ rfl ?_; refine Hid.out ?_)
            refine Lib.hid ?_
            intro gg cap w8 hown8 hgrow _ _
            have hb0 := HW7.out.alloc hz7 (.cells #[.string tt] 9)
            have HB8 : Hid (Below N w4 w8) := Lib.hid (hb0.grown hgrow (by simp; omega) (fun q hq => (HLT.out q hq).1))
            have HM8 : Hid (w8.ownsRow N 9 1 (.slice (some ⟨gg, 0, none⟩) (ss.length + 1) cap) (ss ++ [tt.data.toList]).length ((ss ++ [tt.data.toList]).map encStr)) := Lib.hid (by rw [List.length_append, List.map_append]; show w8.ownsRow N 9 1 _ (ss.length + 1) (ss.map encStr ++ [Value.string ⟨tt.data.toList.toArray⟩]); rw [Lib.mk_data]; exact hown8)
            have HS8 : Hid (∀ s ∈ ss ++ [tt.data.toList], s.length ≤ 3000) := Lib.hid fun s hs => (List.mem_append.1 hs).elim (HSZ.out s) fun h => by rw [List.mem_singleton.1 h]; exact HTZ.out
            clear hown8 hgrow hb0
            go_wp2_with fail
            exact ⟨⟨j + 1, ss ++ [tt.data.toList], by go_num, by omega, by have := HSL.out; simp; omega, HS8.out, HM8, HB8⟩, by simp [iOf]; omega⟩
          · have HO := Lib.hid (own_low1 hO.out HN.out)
            have HSZ := Lib.hid hsz
            clear hO hsz
            go_wp2_with fail
            exact bodyPost_ret (v := .tuple #[_, .nilIface]) (by simp [results, Tryz.results103, go_sem]) rfl ⟨.inr ⟨_, ss, rfl, HO.out, by omega, HSZ.out⟩, HBW.out.trans ((HB5.out.trans hW.out).mono HBZ.out)⟩
      · have he1 : ¬ f0.toList = [] := fun e => he (by
          have h1 : f0.data.toList = (⟨#[]⟩ : ByteArray).data.toList := by rw [Lib.toList_data] at e; exact e
          have : f0.data = (⟨#[]⟩ : ByteArray).data := Array.ext' h1
          exact ByteArray.ext this)
        have he2 : (f0.toList == []) = false := by rw [beq_eq_false_iff_ne]; exact he1
        have he3 : ¬ f0 = ByteArray.empty := he
        obtain ⟨o0, ho0⟩ : ∃ o0 : ByteArray, ko ++ (⟨#[32]⟩ ++ f0) = o0 := ⟨_, rfl⟩
        have hoz : o0.data.toList.length ≤ 3000 := by
          have h1 : o0.data.toList.length = o0.size := rfl
          rw [h1, ← ho0, ByteArray.size_append, ByteArray.size_append]
          show ko.size + (1 + f0.size) ≤ 3000
          omega
        obtain ⟨w5, hw5⟩ : ∃ w5, (w4.setCell ⟨N, 0, none⟩ (.string o0)).drew = w5 := ⟨_, rfl⟩
        have hb5 : Below N w4 w5 := by rw [← hw5]; exact ((Below.refl N w4).setCell (p := ⟨N, 0, none⟩) (Nat.le_refl N) _).drew
        obtain ⟨cu5, hr50, -⟩ : ∃ cu, w5.heap[N]? = some (.cells #[.string o0] 9 (0, 0)) ∧ cu = cu := by
          refine ⟨0, ?_, rfl⟩
          rw [← hw5]
          obtain ⟨hlt, hk⟩ := Array.getElem?_eq_some_iff.1 HG4.out
          show (w4.heap.modify N _)[N]? = _
          rw [Array.getElem?_eq_getElem (by rw [Array.size_modify]; exact hlt), Array.getElem_modify_self, hk]
          rfl
        have hr5 := hr50
        have f4d : w4.drew.cell? ⟨B, 0, none⟩ = some (.string f0) := f4
        have k4d : w4.drew.cell? ⟨N, 0, none⟩ = some (.string ko) := k4
        have r4d : w4.drew.frozen? ⟨N, 0, none⟩ = false := r4
        have hNl2 : N < w4.drew.heap.size := hNl
        have HW5 := Lib.hid hw5
        have HO0 := Lib.hid ho0
        clear hw5 ho0 hr50
        go_wp2_with fail
        try rw [HKO.out]
        try rw [HW4.out]
        try rw [HNN.out]
        go_region
        try rw [HO0.out]
        try rw [HW5.out]
        go_wp2_with fail
        have R0 : FLR N w5 n (.slice (some ⟨N, 0, none⟩) 1 1) (.int .i64 0) w5 := ⟨0, [o0.data.toList], rfl, Nat.zero_le _, rfl, fun s hs => by rw [List.mem_singleton.1 hs]; exact hoz, Lib.hid (one_row hr5), Lib.hid (Below.refl _ _)⟩
        have HR0 := Lib.hid R0
        have HB5 := Lib.hid hb5
        have hz5 : N ≤ w5.heap.size := by have := hb5.size; omega
        clear R0 hr5 hb5 hoz
        go_loopw [6, 37] (fun v6 i W' => FLR N w5 n v6 i W') (fun _ i _ => n - (iOf i).toNat)
        case atStart => exact HR0.out
        case round =>
          clear HR0
          obtain ⟨j, ss, rfl, hj, hsl, hsz, hO, hW⟩ := hrel
          have hzr : N ≤ wr.heap.size := by have := hW.out.size; omega
          by_cases hlt : j < n
          · obtain ⟨s, hs⟩ : ∃ s, L[j + 1]? = some s := ⟨_, List.getElem?_eq_getElem (by omega)⟩
            have hc0 := HC.out (j + 1) s hs
            rw [Nat.add_comm j 1] at hc0
            have hsc := (hW.out.cell (p := ⟨B, 1 + j, none⟩) hBN).trans ((HB5.out.cell (p := ⟨B, 1 + j, none⟩) hBN).trans hc0)
            have hss := HLZ.out s (List.mem_of_getElem? hs)
            have ST := Lib.hid (stuffed_any s wr hss)
            have HO := Lib.hid hO.out
            have HSZ := Lib.hid hsz
            clear hs hO hsz
            go_wp2_with fail
            refine ST.out.mono ?_
            rintro e w7 ⟨t, rfl, htz, hb7⟩
            have hO7 := ownB HO.out hb7
            obtain ⟨vo, vc, hv⟩ := own_sh2 hO7
            subst hv
            obtain ⟨tt, htt⟩ : ∃ tt : ByteArray, (⟨#[32]⟩ : ByteArray) ++ t = tt := ⟨_, rfl⟩
            have htt2 : tt.size ≤ 3000 := by rw [← htt, ByteArray.size_append]; show 1 + t.size ≤ _; omega
            have HOA := Lib.hid (World.ownsRow.alloc hO7 (.cells #[.string tt] 9))
            have HLT := Lib.hid (World.ownsRow.lt hO7)
            have HW7 := Lib.hid (hW.out.trans (hb7.mono hzr))
            have hz7 : N ≤ w7.heap.size := by have := hb7.size; omega
            have HTZ := Lib.hid htt2
            have hq6 : ss.length ≤ 1000001 := by omega
            have HSL := Lib.hid hsl
            clear hO7 hb7 htt2 HO hsl
            try rw [htt]
            go_wp2_with (at_builtin; refine wpList_append_lies _ rfl _ _ _ rfl N 9 i0 _ 1 16 Tryz.underlying30 hi0 hz0 hz1 hz2 rfl (by omega) (.slice vo (ss.length) vc) (ss.length) _ rfl HOA.out ⟨w7.heap.size, 0, none⟩ 1 1 [.string tt] rfl rfl (World.news_of_block (cs := #[.string tt]) (heap_alloc_new w7 (.cells #[.string tt] 9))) (by simp [Value.oneCell']) (by omega) (by unfold maxLen; omega) (by omega) (by simp; omega) _ rfl ?_; refine Hid.out ?_)
            refine Lib.hid ?_
            intro gg cap w8 hown8 hgrow _ _
            have hb0 := HW7.out.alloc hz7 (.cells #[.string tt] 9)
            have HB8 : Hid (Below N w5 w8) := Lib.hid (hb0.grown hgrow (by simp; omega) (fun q hq => (HLT.out q hq).1))
            have HM8 : Hid (w8.ownsRow N 9 1 (.slice (some ⟨gg, 0, none⟩) (ss.length + 1) cap) (ss ++ [tt.data.toList]).length ((ss ++ [tt.data.toList]).map encStr)) := Lib.hid (by rw [List.length_append, List.map_append]; show w8.ownsRow N 9 1 _ (ss.length + 1) (ss.map encStr ++ [Value.string ⟨tt.data.toList.toArray⟩]); rw [Lib.mk_data]; exact hown8)
            have HS8 : Hid (∀ s ∈ ss ++ [tt.data.toList], s.length ≤ 3000) := Lib.hid fun s hs => (List.mem_append.1 hs).elim (HSZ.out s) fun h => by rw [List.mem_singleton.1 h]; exact HTZ.out
            clear hown8 hgrow hb0
            go_wp2_with fail
            exact ⟨⟨j + 1, ss ++ [tt.data.toList], by go_num, by omega, by have := HSL.out; simp; omega, HS8.out, HM8, HB8⟩, by simp [iOf]; omega⟩
          · have HO := Lib.hid (own_low1 hO.out HN.out)
            have HSZ := Lib.hid hsz
            clear hO hsz
            go_wp2_with fail
            exact bodyPost_ret (v := .tuple #[_, .nilIface]) (by simp [results, Tryz.results103, go_sem]) rfl ⟨.inr ⟨_, ss, rfl, HO.out, by omega, HSZ.out⟩, HBW.out.trans ((HB5.out.trans hW.out).mono HBZ.out)⟩
  · have HU := Lib.hid hu
    rcases hu with ⟨c, rfl⟩ | ⟨g, rfl⟩
    all_goals
      go_wp2_with fail
      exact bodyPost_ret (v := .tuple #[.slice none 0 0, _]) (by simp [results, Tryz.results103, go_sem]) rfl ⟨.inl ⟨_, rfl, HU.out⟩, HB2.out⟩
end Go.Proofs.YtklbbcemacpimaaGreatDoor.I

namespace Go.Proofs.YtklbbcemacpimaaGreatDoor.I
open Go Go.Maps Go.Proofs Go.RowKit Go.Sort

theorem bytes_app (a b : List UInt8) : Lib.byteCells (a ++ b) = Lib.byteCells a ++ Lib.byteCells b := by simp [Lib.byteCells]
theorem bytes_len (l : List UInt8) : (Lib.byteCells l).length = l.length := by simp [Lib.byteCells]
theorem bF_below {B b : Nat} {bs : List Value} {w w' : World} (h : Lib.IsBuilderF 158 5 B b bs w) (hb : Below w.heap.size w w') : Lib.IsBuilderF 158 5 B b bs w' := by
  have key : ∀ p, Lib.BuilderAtF 158 5 B b p bs w → Lib.BuilderAtF 158 5 B b p bs w' := by
    rintro p ⟨h1, v, h2, ⟨h3, h4⟩, h5⟩
    refine ⟨h1, v, (hb.block b (Array.getElem?_eq_some_iff.1 h2).1).trans h2, ⟨h3, ?_⟩, h5⟩
    rcases h4 with h4 | ⟨g, cap, cur, fr, hv, hB, hg, hr⟩
    · exact .inl h4
    · exact .inr ⟨g, cap, cur, fr, hv, hB, (hb.block g (Array.getElem?_eq_some_iff.1 hg).1).trans hg, hr⟩
  exact h.imp (key _) (key _)
theorem bF_block {B b : Nat} {bs : List Value} {w : World} (h : Lib.IsBuilderF 158 5 B b bs w) : ∃ p v, w.heap[b]? = some (.cells #[p, v] 158 (0, 0)) := by
  rcases h with ⟨_, v, h2, _⟩ | ⟨_, v, h2, _⟩
  · exact ⟨_, v, h2⟩
  · exact ⟨_, v, h2⟩
/-- A row of texts stays where a builder is written. -/
theorem row_keptB {B b N : Nat} {bs : List Value} {w w' : World} {v : Value} {n : Nat} {xs : List Value} (h : w.ownsRow N 9 1 v n xs) (hb : Lib.IsBuilderF 158 5 B b bs w) (hk : Lib.OthersKept 5 (some b) w w') : w'.ownsRow N 9 1 v n xs := by
  refine ⟨h.1, ?_⟩
  rcases h.2 with h0 | ⟨g, cap, cur, hv, hB, hg, hr⟩
  · exact .inl h0
  · refine .inr ⟨g, cap, cur, hv, hB, ?_, hr⟩
    obtain ⟨p, u, h1⟩ := bF_block hb
    refine (hk g _ hg (fun e => ?_) fun c fz e => ?_)
    · cases e
      rw [h1] at hg
      injection hg with e1
      injection e1 with _ e2
      exact absurd e2 (by decide)
    · injection e with _ e2
      exact absurd e2 (by decide)
theorem write_k (B b : Nat) (bs : List Value) (s : ByteArray) (w : World) (h : Lib.IsBuilderF 158 5 B b bs w) (hlen : bs.length + s.size ≤ 140737488355328) (hBw : B ≤ w.heap.size) :
    Calls Tryz.prog 87 #[.pointer (some ⟨b, 0, none⟩), .string s] w fun e w' => e = .returned (.tuple #[.int .i64 s.size, .nilIface]) ∧ (Lib.BuilderAtF 158 5 B b (.pointer (some ⟨b, 0, none⟩)) (bs ++ Lib.strCells s) w' ∧ Below B w w' ∧ Lib.OthersKept 5 (some b) w w') :=
  Any.Builder_WriteString_k { Tryz.lays156 with } Tryz.Builder_Extra_156 B b bs s w h hlen hBw
def FO1 (fs : List Fld) (B : Nat) (w : World) (i : Value) (wr : World) : Prop :=
  ∃ (k : Nat) (l : List UInt8), i = .int .i64 k ∧ k ≤ fs.length ∧ l.length ≤ 3100000 * k ∧ Hid (Lib.IsBuilderF 158 5 B B (Lib.byteCells l) wr) ∧ Hid (Below B w wr)
def FO2 (ss : List L8) (base B N : Nat) (w : World) (u : Value) (i : Value) (wr : World) : Prop :=
  ∃ (j : Nat) (l : List UInt8), i = .int .i64 j ∧ j ≤ ss.length ∧ l.length ≤ base + 3001 * j ∧ Hid (Lib.IsBuilderF 158 5 B B (Lib.byteCells l) wr) ∧ Hid (Below B w wr) ∧ Hid (wr.ownsRow N 9 1 u ss.length (ss.map encStr))
/-- What fold.Fold answers. -/
def FoldP (w : World) (e : Ending) (w' : World) : Prop :=
  ((∃ u, e = .returned (.tuple #[.string ⟨#[]⟩, u]) ∧ IsErr u) ∨ ∃ s : ByteArray, e = .returned (.tuple #[.string s, .nilIface])) ∧ Below w.heap.size w w'
set_option maxRecDepth 100000 in
set_option maxHeartbeats 6400000 in
theorem fold_any (v : Value) (fs : List Fld) (w : World) (hF : FldsAt w v fs) (hn : fs.length ≤ 100) (hr : Rdy w) :
    Calls Tryz.prog 77 #[v] w (FoldP w) := by
  obtain ⟨ao, cp, rfl, -, hc⟩ := hF
  have HC := Lib.hid hc
  have HR := Lib.hid hr
  clear hc hr
  obtain ⟨B, hBB⟩ : ∃ B, w.heap.size = B := ⟨_, rfl⟩
  have hI0 : Lib.IsBuilderF 158 5 B B (Lib.byteCells []) (w.alloc (.cells #[.pointer none, .slice none 0 0] 158)) := by
    refine .inl (Lib.BuilderAtF.of ⟨Nat.le_refl _, .slice none 0 0, by rw [← hBB]; exact heap_alloc_new w _, World.ownsRow_nil _ _ _ _, by simp [Value.ownBlock]⟩)
  have hW0 : Below B w (w.alloc (.cells #[.pointer none, .slice none 0 0] 158)) := hBB ▸ below_grow1 w _
  have HI0 := Lib.hid hI0
  have HW0 := Lib.hid hW0
  have HBB := Lib.hid hBB
  clear hI0 hW0
  go_enter Tryz.func77, Tryz.ntmps77
  go_wp2
  try rw [hBB]
  go_loopw [13] (fun i W => FO1 fs B w i W) (fun i _ => fs.length - (iOf i).toNat)
  case atStart => exact ⟨0, [], rfl, Nat.zero_le _, by simp, HI0, HW0⟩
  case round =>
    clear HI0 HW0
    obtain ⟨k, l, rfl, hk, hll, hI, hW⟩ := hrel
    have hzr : B ≤ wr.heap.size := hBB ▸ hW.out.size
    by_cases hlt : k < fs.length
    · obtain ⟨f, hf⟩ : ∃ f, fs[k]? = some f := ⟨_, List.getElem?_eq_getElem hlt⟩
      obtain ⟨g, o, rfl, h1, h2⟩ := HC.out k f hf
      have c1 := (hW.out.cell (by have := World.block_lt_of_cell? _ _ h1; rwa [hBB] at this)).trans h1
      have c2 := (hW.out.cell (by have := World.block_lt_of_cell? _ _ h2; rwa [hBB] at this)).trans h2
      obtain ⟨tk, htk⟩ : ∃ tk : ByteArray, (⟨f.key.toArray⟩ : ByteArray) = tk := ⟨_, rfl⟩
      obtain ⟨tv, htv⟩ : ∃ tv : ByteArray, (⟨f.val.toArray⟩ : ByteArray) = tv := ⟨_, rfl⟩
      rw [htk] at c1
      rw [htv] at c2
      obtain ⟨w1, hw1⟩ : ∃ w1, wr.alloc (.cells #[.string tk, .string tv] 57) = w1 := ⟨_, rfl⟩
      have hb1 : Below wr.heap.size wr w1 := by rw [← hw1]; exact below_grow1 wr _
      have HI1 := Lib.hid (bF_below hI.out hb1)
      have hW1 := hW.out.trans (hb1.mono hzr)
      have LI := Lib.hid (foldLines_any tk tv w1 (HR.out.stays (by rw [hBB]; exact hW1)))
      have HW1 := Lib.hid hW1
      have HWE := Lib.hid hw1
      have hz1 : B ≤ w1.heap.size := by have := hb1.size; omega
      clear h1 h2 hf htk htv hb1 hW1 hw1 hI hW
      go_wp2_with fail
      try rw [HWE.out]
      refine LI.out.mono ?_
      rintro e w2 ⟨hp, hb2⟩
      have HI2 := Lib.hid (bF_below HI1.out hb2)
      have HW2 := Lib.hid (HW1.out.trans (hb2.mono hz1))
      have hz2 : B ≤ w2.heap.size := by have := hb2.size; omega
      clear hb2 HI1 HW1 LI
      rcases hp with ⟨u, rfl, hu⟩ | ⟨u, ss, rfl, hrow, hsl, hsz⟩
      · have HU := Lib.hid hu
        rcases hu with ⟨c, rfl⟩ | ⟨g2, rfl⟩
        all_goals
          go_wp2_with fail
          exact bodyPost_ret (v := .tuple #[.string ⟨#[]⟩, _]) (by simp [results, Tryz.results77, go_sem]) rfl ⟨.inl ⟨_, rfl, HU.out⟩, by rw [HBB.out]; exact HW2.out⟩
      · obtain ⟨so, sc, hv⟩ := own_sh2 hrow
        subst hv
        obtain ⟨N, hN⟩ : ∃ N, w1.heap.size = N := ⟨_, rfl⟩
        rw [hN] at hrow
        have HSZ := Lib.hid hsz
        have HROW := Lib.hid hrow
        clear hsz hrow hN
        go_wp2_with fail
        go_loopw [27] (fun i W => FO2 ss l.length B N w (.slice so ss.length sc) i W) (fun i _ => ss.length - (iOf i).toNat)
        case atStart => exact ⟨0, l, rfl, Nat.zero_le _, by omega, HI2, HW2, HROW⟩
        case round =>
          clear HI2 HW2 HROW
          obtain ⟨j, l2, rfl, hj, hl2, hI, hW, hRo⟩ := hrel
          have hzr : B ≤ wr.heap.size := hBB ▸ hW.out.size
          by_cases hjl : j < ss.length
          · obtain ⟨s, hs⟩ : ∃ s, ss[j]? = some s := ⟨_, List.getElem?_eq_getElem hjl⟩
            have hsz := HSZ.out s (List.mem_of_getElem? hs)
            obtain ⟨gs, hgs⟩ : ∃ gs, so = some ⟨gs, 0, none⟩ := by
              rcases hRo.out.2 with ⟨-, h0⟩ | ⟨gs, cap, cur, hv, -⟩
              · omega
              · injection hv with q1 q2 q3
                exact ⟨gs, q1⟩
            subst hgs
            have hcs : wr.cell? ⟨gs, j, none⟩ = some (.string ⟨s.toArray⟩) := by
              have := World.ownsRow.cells hRo.out (g := gs) rfl j (encStr s) (by rw [List.getElem?_map, hs]; rfl)
              rwa [addr_add, Nat.zero_add] at this
            obtain ⟨ts, hts⟩ : ∃ ts : ByteArray, (⟨s.toArray⟩ : ByteArray) = ts := ⟨_, rfl⟩
            have htz : ts.size ≤ 3000 := by rw [← hts]; exact hsz
            rw [hts] at hcs
            obtain ⟨tt, htt⟩ : ∃ tt : ByteArray, ts ++ ⟨#[10]⟩ = tt := ⟨_, rfl⟩
            have htt2 : tt.size ≤ 3001 := by rw [← htt, ByteArray.size_append]; show ts.size + 1 ≤ _; omega
            have WS := Lib.hid (write_k B B _ tt wr hI.out (by rw [bytes_len]; omega) hzr)
            have HTT := Lib.hid htt
            clear hs hts hsz htt
            go_wp2_with fail
            try rw [HTT.out]
            refine WS.out.mono ?_
            rintro e w4 ⟨rfl, hb4, hb5, hb6⟩
            have HRo := Lib.hid (row_keptB hRo.out hI.out hb6)
            have hb7 : Lib.byteCells l2 ++ Lib.strCells tt = Lib.byteCells (l2 ++ tt.data.toList) := by rw [bytes_app]; rfl
            rw [hb7] at hb4
            have HI4 : Hid (Lib.IsBuilderF 158 5 B B (Lib.byteCells (l2 ++ tt.data.toList)) w4) := Lib.hid (.inr hb4)
            have HW4 := Lib.hid (hW.out.trans hb5)
            have hlz : (l2 ++ tt.data.toList).length ≤ l.length + 3001 * (j + 1) := by
              rw [List.length_append]
              have : tt.data.toList.length = tt.size := rfl
              omega
            clear hb4 hb5 hb6 hb7 WS hI hW hRo
            go_wp2_with fail
            exact ⟨⟨j + 1, _, by go_num, by omega, hlz, HI4, HW4, HRo⟩, by simp [iOf]; omega⟩
          · have hlz : l2.length ≤ 3100000 * (k + 1) := by omega
            clear hRo
            go_wp2_with fail
            exact ⟨⟨k + 1, l2, by go_num, by omega, hlz, hI, hW⟩, by simp [iOf]; omega⟩
    · have S := Lib.hid (Tryz.Builder_String_any_k B B l wr hI.out hzr)
      clear hI
      go_wp2_with fail
      refine S.out.mono ?_
      rintro e w1 ⟨rfl, -, hb, -⟩
      have HWF := Lib.hid (hW.out.trans hb)
      clear hb S
      go_wp2_with fail
      exact bodyPost_ret (v := .tuple #[.string ⟨l.toArray⟩, .nilIface]) (by simp [results, Tryz.results77, go_sem]) rfl ⟨.inr ⟨_, rfl⟩, by rw [HBB.out]; exact HWF.out⟩
end Go.Proofs.YtklbbcemacpimaaGreatDoor.I

namespace Go.Proofs.YtklbbcemacpimaaGreatDoor.I
open Go Go.Maps Go.Proofs Go.RowKit Go.Sort

def CheckP (fs : List Fld) (w : World) (e : Ending) (w' : World) : Prop := ∃ u, e = .returned u ∧ (u = .nilIface ∧ fs ≠ [] ∨ IsErr u) ∧ Below w.heap.size w w'
def CKR (fs : List Fld) (w : World) (i : Value) (wr : World) : Prop := ∃ k : Nat, i = .int .i64 k ∧ k ≤ fs.length ∧ Hid (Below w.heap.size w wr)
set_option maxRecDepth 100000 in
set_option maxHeartbeats 3200000 in
theorem printCheck_any (v : Value) (fs : List Fld) (w : World) (hF : FldsAt w v fs) :
    Calls Tryz.prog 76 #[v] w (CheckP fs w) := by
  obtain ⟨ao, cp, rfl, hm, hc⟩ := hF
  have HC := Lib.hid hc
  clear hc
  by_cases h0 : fs = []
  · subst h0
    go_enter Tryz.func76, Tryz.ntmps76
    go_wp2_with fail
    go_ret
    exact ⟨_, rfl, .inr (isErr_errno 2), Below.refl _ _⟩
  · have hpos := List.length_pos_iff.2 h0
    obtain ⟨q, hq⟩ : ∃ q, fs.length = q + 1 := ⟨fs.length - 1, by omega⟩
    have HQ := Lib.hid hq
    have H0 := Lib.hid h0
    rw [hq]
    by_cases h4 : (40 : Int) < (q : Int) + 1
    · clear HC hpos hm hq h0
      go_enter Tryz.func76, Tryz.ntmps76
      go_wp2_with fail
      go_ret
      exact ⟨_, rfl, .inr (isErr_errno 11), Below.refl _ _⟩
    · have hz0 : ¬ ((q : Int) + 1 = 0) := by omega
      have hz1 : (((q : Int) + 1) == 0) = false := by rw [beq_eq_false_iff_ne]; omega
      clear hpos hm hq h0
      go_enter Tryz.func76, Tryz.ntmps76
      go_wp2_with fail
      go_loopw [18] (fun i W => CKR fs w i W) (fun i _ => q + 1 - (iOf i).toNat)
      case atStart => exact ⟨0, rfl, Nat.zero_le _, Lib.hid (Below.refl _ _)⟩
      case round =>
        obtain ⟨k, rfl, hk, hW⟩ := hrel
        have hlq := HQ.out
        by_cases hlt : k < q + 1
        · obtain ⟨f, hf⟩ : ∃ f, fs[k]? = some f := ⟨_, List.getElem?_eq_getElem (by omega)⟩
          obtain ⟨g, o, rfl, h1, h2⟩ := HC.out k f hf
          have c1 := (hW.out.cell (World.block_lt_of_cell? _ _ h1)).trans h1
          have c2 := (hW.out.cell (World.block_lt_of_cell? _ _ h2)).trans h2
          obtain ⟨tk, htk⟩ : ∃ tk : ByteArray, (⟨f.key.toArray⟩ : ByteArray) = tk := ⟨_, rfl⟩
          obtain ⟨tv, htv⟩ : ∃ tv : ByteArray, (⟨f.val.toArray⟩ : ByteArray) = tv := ⟨_, rfl⟩
          rw [htk] at c1
          rw [htv] at c2
          obtain ⟨w1, hw1⟩ : ∃ w1, wr.alloc (.cells #[.string tk, .string tv] 57) = w1 := ⟨_, rfl⟩
          have hb1 : Below w.heap.size w w1 := by rw [← hw1]; exact hW.out.alloc hW.out.size _
          have CK := Lib.hid (foldCheck_any tk tv w1)
          have HW1 := Lib.hid hb1
          have HWE := Lib.hid hw1
          clear h1 h2 hf htk htv hb1 hw1 hW hlq
          go_wp2_with fail
          try rw [HWE.out]
          refine CK.out.mono ?_
          rintro e w2 ⟨u, rfl, hu, hb2⟩
          have HW2 := Lib.hid (HW1.out.trans (hb2.mono HW1.out.size))
          clear hb2 CK
          rcases hu with ⟨rfl, -, -⟩ | ⟨c, rfl⟩ | ⟨g2, rfl⟩
          · go_wp2_with fail
            exact ⟨⟨k + 1, by go_num, by have := HQ.out; omega, HW2⟩, by simp [iOf]; omega⟩
          · go_wp2_with fail
            go_ret
            exact ⟨_, rfl, .inr (isErr_fault _), HW2.out.alloc HW2.out.size _⟩
          · go_wp2_with fail
            go_ret
            exact ⟨_, rfl, .inr (isErr_fault _), HW2.out.alloc HW2.out.size _⟩
        · clear hlq
          go_wp2_with fail
          go_ret
          exact ⟨_, rfl, .inl ⟨rfl, H0.out⟩, hW.out⟩
/-- What print.Stanza answers. -/
def StanP (fs : List Fld) (w : World) (e : Ending) (w' : World) : Prop :=
  ((∃ u, e = .returned (.tuple #[.string ⟨#[]⟩, u]) ∧ IsErr u) ∨ ∃ s : ByteArray, e = .returned (.tuple #[.string s, .nilIface]) ∧ fs ≠ []) ∧ Below w.heap.size w w'
set_option maxRecDepth 20000 in
set_option maxHeartbeats 1600000 in
theorem printStanza_any (v : Value) (fs : List Fld) (w : World) (hF : FldsAt w v fs) (hn : fs.length ≤ 100) (hr : Rdy w) :
    Calls Tryz.prog 57 #[v] w (StanP fs w) := by
  have CK := Lib.hid (printCheck_any v fs w hF)
  have FO := Lib.hid fun w' (hb : Below w.heap.size w w') => fold_any v fs w' ⟨_, _, hF.choose_spec.choose_spec.1, hF.choose_spec.choose_spec.2.1, fun k f hk => by
    obtain ⟨g, o, e, c1, c2⟩ := hF.choose_spec.choose_spec.2.2 k f hk
    exact ⟨g, o, e, (hb.cell (World.block_lt_of_cell? _ _ c1)).trans c1, (hb.cell (World.block_lt_of_cell? _ _ c2)).trans c2⟩⟩ hn (hr.stays hb)
  clear hF hr
  go_enter Tryz.func57, Tryz.ntmps57
  go_wp2_with fail
  refine CK.out.mono ?_
  rintro e w1 ⟨u, rfl, hu, hb1⟩
  have HB1 := Lib.hid hb1
  clear hb1 CK
  rcases hu with ⟨rfl, h0⟩ | hu
  · have H0 := Lib.hid h0
    clear h0
    go_wp2_with fail
    refine (FO.out w1 HB1.out).mono ?_
    rintro e w2 ⟨hp, hb2⟩
    have HB2 := Lib.hid (HB1.out.trans (hb2.mono HB1.out.size))
    clear hb2 FO
    rcases hp with ⟨u, rfl, hu⟩ | ⟨s, rfl⟩
    · have HU := Lib.hid hu
      clear hu
      go_wp2_with fail
      exact bodyPost_ret (v := .tuple #[.string ⟨#[]⟩, u]) (by simp [results, Tryz.results57, go_sem]) rfl ⟨.inl ⟨_, rfl, HU.out⟩, HB2.out⟩
    · go_wp2_with fail
      exact bodyPost_ret (v := .tuple #[.string s, .nilIface]) (by simp [results, Tryz.results57, go_sem]) rfl ⟨.inr ⟨_, rfl, H0.out⟩, HB2.out⟩
  · have HU := Lib.hid hu
    rcases hu with ⟨c, rfl⟩ | ⟨g2, rfl⟩
    all_goals
      go_wp2_with fail
      exact bodyPost_ret (v := .tuple #[.string ⟨#[]⟩, _]) (by simp [results, Tryz.results57, go_sem]) rfl ⟨.inl ⟨_, rfl, HU.out⟩, HB1.out⟩
theorem blk_set {W : World} {g o : Nat} {x : Value} {cu : Array Value} {T : TypeId} (h : W.heap[g]? = some (.cells cu T (0, 0))) : (W.setCell ⟨g, o, none⟩ x).heap[g]? = some (.cells (cu.setIfInBounds o x) T (0, 0)) := by
  obtain ⟨hlt, hk⟩ := Array.getElem?_eq_some_iff.1 h
  show (W.heap.modify g _)[g]? = _
  rw [Array.getElem?_eq_getElem (by rw [Array.size_modify]; exact hlt), Array.getElem_modify_self, hk]
  rfl
theorem set3 {w : World} {B : Nat} {a b c x y z : Value} {T : TypeId} (h : w.heap[B]? = some (.cells #[a, b, c] T (0, 0))) :
    (((w.setCell ⟨B, 0, none⟩ x).setCell ⟨B, 1, none⟩ y).setCell ⟨B, 2, none⟩ z).heap[B]? = some (.cells #[x, y, z] T (0, 0)) := by
  have := blk_set (o := 2) (x := z) (blk_set (o := 1) (x := y) (blk_set (o := 0) (x := x) h))
  simpa using this
theorem cells3' {w : World} {b : Nat} {x y z : Value} {T : TypeId} (h : w.heap[b]? = some (.cells #[x, y, z] T (0, 0))) : w.cell? ⟨b, 0, none⟩ = some x ∧ w.cell? ⟨b, 1, none⟩ = some y ∧ w.cell? ⟨b, 2, none⟩ = some z :=
  ⟨by simp [World.cell?, h], by simp [World.cell?, h], by simp [World.cell?, h]⟩
theorem below_set3 {B N : Nat} {w0 w : World} {x y z : Value} (h : Below N w0 w) (hB : N ≤ B) : Below N w0 (((w.setCell ⟨B, 0, none⟩ x).setCell ⟨B, 1, none⟩ y).setCell ⟨B, 2, none⟩ z) :=
  ((h.setCell (p := ⟨B, 0, none⟩) hB _).setCell (p := ⟨B, 1, none⟩) hB _).setCell (p := ⟨B, 2, none⟩) hB _
/-- slices.Clone of fields, as a row of the call's own. -/
def CloneO (fs : List Fld) (w : World) (e : Ending) (w' : World) : Prop :=
  ∃ g cap, e = .returned (.slice (some ⟨g, 0, none⟩) fs.length cap) ∧ w'.ownsRow w.heap.size 57 2 (.slice (some ⟨g, 0, none⟩) fs.length cap) fs.length (fs.flatMap fdc) ∧ w.heap.size ≤ g ∧ g < w'.heap.size ∧ Below w.heap.size w w'
set_option maxRecDepth 100000 in
set_option maxHeartbeats 1600000 in
theorem cloneO_any (v : Value) (fs : List Fld) (w : World) (h : FldsAt w v fs) (h0 : fs ≠ []) (hn1 : fs.length ≤ 1000000) :
    Calls Tryz.prog 38 #[v] w (CloneO fs w) := by
  obtain ⟨i0, hi0, hz0, hz1, hz2⟩ := info_parts infoF
  obtain ⟨g, o, c, rfl, hc⟩ := h.cells h0
  have hcl : ∀ j u, (fs.flatMap fdc)[j]? = some u → g < w.heap.size := fun j u hu => by have h1 := hc j u hu; rw [addr_add] at h1; exact World.block_lt_of_cell? _ _ h1
  have hlen := Lib.hid (fdc_len fs)
  have HC := Lib.hid hc
  have HL := Lib.hid hcl
  have H1 := Lib.hid (fdc_one fs)
  have hpos : 0 < fs.length := by cases fs with | nil => exact absurd rfl h0 | cons f r => simp
  have H0 := Lib.hid h0
  have hq : ∀ w, (binOp .eql 44 (.slice (some ⟨g, o, none⟩) fs.length c) (.slice none 0 0)).run Tryz.prog w = .ok (.bool false) w := fun w => by kernel_rfl
  clear hc hcl h h0
  go_enter Tryz.func38, Tryz.ntmps38
  have hm := World.ownsRow_made (base := w.heap.size) (e := 57) (size := 2) w #[] 0 (Nat.le_refl _) (Nat.zero_le _) rfl
  have hb1 : Below w.heap.size w (w.alloc (.cells #[] 57)) := (Below.refl _ _).alloc (Nat.le_refl _) _
  have HM := Lib.hid hm
  have HB1 := Lib.hid hb1
  clear hm hb1
  go_wp2_with (at_builtin; refine wpList_append_lies _ rfl _ _ _ rfl w.heap.size 57 i0 _ 2 32 Tryz.underlying44 hi0 hz0 hz1 hz2 rfl (by omega) (.slice (some ⟨w.heap.size, 0, none⟩) 0 0) 0 [] rfl HM.out ⟨g, o, none⟩ fs.length c (fs.flatMap fdc) rfl hlen.out (fun j u hu => by rw [HB1.out.cell (p := Addr.add ⟨g, o, none⟩ j) (by rw [addr_add]; exact HL.out j u hu)]; exact HC.out j u hu) H1.out hpos (by unfold maxLen; omega) (by omega) (by simp) _ rfl ?_; refine Hid.out ?_)
  refine Lib.hid ?_
  intro gg cap w1 hown1 hgrow hat hlt
  have hown1 := Lib.hid hown1
  have hgrow := Lib.hid hgrow
  have hat := Lib.hid hat
  have hlt := Lib.hid hlt
  go_wp2_with fail
  go_ret
  have hr : w1.ownsRow w.heap.size 57 2 (.slice (some ⟨gg, 0, none⟩) fs.length cap) fs.length (fs.flatMap fdc) := by simpa using hown1.out
  refine ⟨gg, cap, rfl, hr, ?_, hlt.out, HB1.out.grown hgrow.out HB1.out.size (fun k hk => by cases hk; exact Nat.le_refl _)⟩
  rcases hr.2 with ⟨h1, -⟩ | ⟨g', c', cur', h1, h2, -⟩
  · cases h1
  · injection h1 with h1
    injection h1 with h1
    injection h1 with h1
    omega
/-- What print.Item answers. -/
def ItemP (fs : List Fld) (w : World) (e : Ending) (w' : World) : Prop :=
  ((∃ x u, e = .returned (.tuple #[x, u]) ∧ x = .agg #[.int .i64 0, .string ⟨#[]⟩, .slice none 0 0] ∧ IsErr u) ∨ ∃ (s : ByteArray) (g fc : Nat), e = .returned (.tuple #[.agg #[.int .i64 3, .string s, .slice (some ⟨g, 0, none⟩) fs.length fc], .nilIface]) ∧ w'.ownsRow w.heap.size 57 2 (.slice (some ⟨g, 0, none⟩) fs.length fc) fs.length (fs.flatMap fdc) ∧ w.heap.size ≤ g ∧ g < w'.heap.size ∧ fs ≠ []) ∧ Below w.heap.size w w'
set_option maxRecDepth 20000 in
set_option maxHeartbeats 1600000 in
theorem item_any (v : Value) (fs : List Fld) (w : World) (hF : FldsAt w v fs) (hn : fs.length ≤ 100) (hr : Rdy w) :
    Calls Tryz.prog 37 #[v] w (ItemP fs w) := by
  obtain ⟨w0, hw0⟩ : ∃ w0, w.alloc (.cells #[.int .i64 0, .string ⟨#[]⟩, .slice none 0 0] 65) = w0 := ⟨_, rfl⟩
  have hb0 : Below w.heap.size w w0 := by rw [← hw0]; exact below_grow1 w _
  have g0 : w0.heap[w.heap.size]? = some (.cells #[.int .i64 0, .string ⟨#[]⟩, .slice none 0 0] 65 (0, 0)) := by rw [← hw0]; exact heap_alloc_new w _
  have hF0 : ∀ w', Below w.heap.size w w' → FldsAt w' v fs := fun w' hb => by
    obtain ⟨ao, cp, e1, e2, e3⟩ := hF
    exact ⟨ao, cp, e1, e2, fun k f hk => by
      obtain ⟨g, o, e, c1, c2⟩ := e3 k f hk
      exact ⟨g, o, e, (hb.cell (World.block_lt_of_cell? _ _ c1)).trans c1, (hb.cell (World.block_lt_of_cell? _ _ c2)).trans c2⟩⟩
  obtain ⟨B, hB⟩ : ∃ B, w.heap.size = B := ⟨_, rfl⟩
  rw [hB] at g0
  have hBl : B < w0.heap.size := (Array.getElem?_eq_some_iff.1 g0).1
  have ST := Lib.hid (printStanza_any v fs w0 (hF0 w0 hb0) hn (hr.stays hb0))
  have HF0 := Lib.hid hF0
  have HB0 := Lib.hid hb0
  have HG0 := Lib.hid g0
  have HW0 := Lib.hid hw0
  have HB := Lib.hid hB
  clear hF hr hF0 hb0 g0 hw0 hB
  go_enter Tryz.func37, Tryz.ntmps37
  go_wp2_with fail
  try rw [HW0.out]
  try rw [HB.out]
  refine ST.out.mono ?_
  rintro e w1 ⟨hp, hb1⟩
  have HB1 := Lib.hid (HB0.out.trans (hb1.mono HB0.out.size))
  have g1 := (hb1.block B hBl).trans HG0.out
  clear hb1 ST
  rcases hp with ⟨u, rfl, hu⟩ | ⟨s, rfl, h0⟩
  · have HU := Lib.hid hu
    have HG1 := Lib.hid g1
    obtain ⟨c0, c1, c2⟩ := cells3' g1
    obtain ⟨f0, f1, f2⟩ : w1.frozen? ⟨B, 0, none⟩ = false ∧ w1.frozen? ⟨B, 1, none⟩ = false ∧ w1.frozen? ⟨B, 2, none⟩ = false := ⟨by simp [World.frozen?, g1], by simp [World.frozen?, g1], by simp [World.frozen?, g1]⟩
    have hBw : B < w1.heap.size := (Array.getElem?_eq_some_iff.1 g1).1
    clear g1
    rcases hu with ⟨c, rfl⟩ | ⟨g2, rfl⟩
    all_goals
      go_wp2_with fail
      obtain ⟨w3, hw3⟩ : ∃ w3, ((w1.setCell ⟨B, 0, none⟩ (.int .i64 0)).setCell ⟨B, 1, none⟩ (.string ⟨#[]⟩)).setCell ⟨B, 2, none⟩ (.slice none 0 0) = w3 := ⟨_, rfl⟩
      have g3 : w3.heap[B]? = some (.cells #[.int .i64 0, .string ⟨#[]⟩, .slice none 0 0] 65 (0, 0)) := by rw [← hw3]; exact set3 HG1.out
      obtain ⟨q0, q1, q2⟩ := cells3' g3
      have hb3 : Below w.heap.size w w3 := by rw [← hw3]; exact below_set3 HB1.out (Nat.le_of_eq HB.out)
      rw [hw3]
      exact bodyPost_ret (v := .tuple #[.agg #[.int .i64 0, .string ⟨#[]⟩, .slice none 0 0], _]) (by simp [results, Tryz.results37, go_sem, q0, q1, q2]) rfl ⟨.inl ⟨_, _, rfl, rfl, HU.out⟩, hb3⟩
  · have CL := Lib.hid (cloneO_any v fs w1 (HF0.out w1 HB1.out) h0 (by omega))
    have HG1 := Lib.hid g1
    have H0 := Lib.hid h0
    clear h0 g1
    go_wp2_with fail
    refine CL.out.mono ?_
    rintro e w2 ⟨fo, fc, rfl, hf, hfo, hfl, hb2⟩
    have g2 := (hb2.block B (Array.getElem?_eq_some_iff.1 HG1.out).1).trans HG1.out
    obtain ⟨c0, c1, c2⟩ : w2.cell? ⟨B, 0, none⟩ = some (.int .i64 0) ∧ w2.cell? ⟨B, 1, none⟩ = some (.string ⟨#[]⟩) ∧ w2.cell? ⟨B, 2, none⟩ = some (.slice none 0 0) := ⟨by simp [World.cell?, g2], by simp [World.cell?, g2], by simp [World.cell?, g2]⟩
    obtain ⟨f0, f1, f2⟩ : w2.frozen? ⟨B, 0, none⟩ = false ∧ w2.frozen? ⟨B, 1, none⟩ = false ∧ w2.frozen? ⟨B, 2, none⟩ = false := ⟨by simp [World.frozen?, g2], by simp [World.frozen?, g2], by simp [World.frozen?, g2]⟩
    have hBw : B < w2.heap.size := (Array.getElem?_eq_some_iff.1 g2).1
    have HF := Lib.hid hf
    have HB2 := Lib.hid hb2
    have HG2 := Lib.hid g2
    have HFO := Lib.hid (And.intro hfo hfl)
    clear hf hb2 g2 CL hfo hfl
    go_wp2_with fail
    obtain ⟨w3, hw3⟩ : ∃ w3, ((w2.setCell ⟨B, 0, none⟩ (.int .i64 3)).setCell ⟨B, 1, none⟩ (.string s)).setCell ⟨B, 2, none⟩ (.slice (some ⟨fo, 0, none⟩) fs.length fc) = w3 := ⟨_, rfl⟩
    have g3 : w3.heap[B]? = some (.cells #[.int .i64 3, .string s, .slice (some ⟨fo, 0, none⟩) fs.length fc] 65 (0, 0)) := by rw [← hw3]; exact set3 HG2.out
    obtain ⟨q0, q1, q2⟩ := cells3' g3
    have hb3 : Below w.heap.size w w3 := by
      rw [← hw3]
      exact below_set3 (HB1.out.trans (HB2.out.mono HB1.out.size)) (Nat.le_of_eq HB.out)
    have hkeep : ∀ b, b ≠ B → w3.heap[b]? = w2.heap[b]? := fun b hb => by
      rw [← hw3]
      exact (Below.heap_setCell _ _ _ _ hb).trans ((Below.heap_setCell _ _ _ _ hb).trans (Below.heap_setCell _ _ _ _ hb))
    have hs3 : w3.heap.size = w2.heap.size := by rw [← hw3]; simp
    rw [hw3]
    have h1 := HB1.out.size
    have hBl1 : B < w1.heap.size := (Array.getElem?_eq_some_iff.1 HG1.out).1
    have hfo := HFO.out.1
    refine bodyPost_ret (v := .tuple #[.agg #[.int .i64 3, .string s, .slice (some ⟨fo, 0, none⟩) fs.length fc], .nilIface]) (by simp [results, Tryz.results37, go_sem, q0, q1, q2]) rfl ⟨.inr ⟨s, fo, fc, rfl, ?_, by omega, by rw [hs3]; exact HFO.out.2, H0.out⟩, hb3⟩
    refine ⟨HF.out.1, ?_⟩
    rcases HF.out.2 with ⟨h2, -⟩ | ⟨g', c', cur', h2, h3, h4, h5⟩
    · cases h2
    · refine .inr ⟨g', c', cur', h2, by omega, (hkeep g' (by omega)).trans h4, h5⟩
end Go.Proofs.YtklbbcemacpimaaGreatDoor.I
