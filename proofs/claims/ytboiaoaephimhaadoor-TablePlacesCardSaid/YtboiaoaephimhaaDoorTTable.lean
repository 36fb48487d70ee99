/- A list's table: table.Table. -/
import Derived.Test.YtboiaoaephimhaaDoorTRowsOf
import Derived.Test.YtboiaoaephimhaaDoorTLines
namespace Go.Proofs.YtboiaoaephimhaaDoor.T
open Go.RowKit Go.Shelf
open Go.Proofs.YtboiaoaephimhaaDoor.B

theorem retb2 {a b : Bool} (h : a = b) : Ending.returned (.bool a) = .returned (.bool b) := by rw [h]
theorem bad_any (s : ByteArray) (w : World) :
    Calls Tryd.prog 27 #[.string s] w fun e w' => e = .returned (.bool (!goodKey s.data.toList)) ∧ w = w' := by
  have K := Lib.hid (key_any s w)
  go_enter Tryd.func27, Tryd.ntmps27
  go_wp2_with fail
  refine K.out.mono ?_
  rintro e w' ⟨rfl, rfl⟩
  go_wp2_with fail
  go_ret
  exact ⟨rfl, rfl⟩
def goodB (s : ByteArray) : Bool := goodKey s.data.toList
theorem any_false_take {zs : List ByteArray} {p : ByteArray → Bool} {k : Nat} {s : ByteArray} (h : (zs.take k).any p = false) (hs : zs[k]? = some s) (hp : p s = false) : (zs.take (k + 1)).any p = false := by
  rw [List.take_add_one, hs]; simp only [Option.toList_some, List.any_append, h, List.any_cons, hp, List.any_nil, Bool.or_self]
def IdxPost (zs : List ByteArray) (w : World) (e : Ending) (w' : World) : Prop := ∃ i : Int, e = .returned (.int .i64 i) ∧ (0 ≤ i ↔ (zs.any fun s => !goodB s) = true) ∧ -1 ≤ i ∧ i ≤ 1000000 ∧ w = w'
set_option maxHeartbeats 800000 in
theorem idx_any (v : Value) (zs : List ByteArray) (w : World) (h : StrsAt w.heap.size w v zs) (hn : zs.length ≤ 1000000) :
    Calls Tryd.prog 42 #[v, .func (.func 27) #[] #[]] w (IdxPost zs w) := by
  obtain ⟨ao, c, rfl, hc⟩ := h
  have HC := Lib.hid hc
  clear hc
  go_enter Tryd.func42, Tryd.ntmps42
  go_wp2_with fail
  go_loop [8] (fun i => ∃ k : Nat, i = .int .i64 k ∧ k ≤ zs.length ∧ Hid ((zs.take k).any (fun s => !goodB s) = false)) (fun i => zs.length - (intOf i).toNat)
  case atStart => exact ⟨0, rfl, Nat.zero_le _, rfl⟩
  case round =>
    obtain ⟨k, rfl, hk, ha⟩ := hrel
    by_cases hlt : k < zs.length
    · obtain ⟨s, hs⟩ : ∃ s, zs[k]? = some s := ⟨_, List.getElem?_eq_getElem hlt⟩
      obtain ⟨a, rfl, hg, n0⟩ := HC.out k s hs
      have B0 := bad_any s w
      have HS := Lib.hid hs
      clear hs
      have eg : goodKey s.data.toList = goodB s := rfl
      cases hgd : goodB s with
      | true =>
        rw [eg, hgd] at B0
        have B := Lib.hid B0
        have HG := Lib.hid hgd
        clear B0 hgd eg
        go_wp2_with fail
        refine B.out.mono ?_
        rintro e w2 ⟨rfl, rfl⟩
        go_wp2_with fail
        go_round
        case rel => exact ⟨k + 1, by go_num, by omega, any_false_take ha.out HS.out (by rw [HG.out]; rfl)⟩
        case measure => simp [intOf]; omega
      | false =>
        rw [eg, hgd] at B0
        have B := Lib.hid B0
        have HG := Lib.hid hgd
        clear B0 hgd eg
        go_wp2_with fail
        refine B.out.mono ?_
        rintro e w2 ⟨rfl, rfl⟩
        go_wp2_with fail
        go_ret
        refine ⟨k, rfl, ⟨fun _ => ?_, fun _ => by omega⟩, by omega, by omega, rfl⟩
        rw [List.any_eq_true]
        exact ⟨s, List.mem_of_getElem? HS.out, by rw [HG.out]; rfl⟩
    · go_wp2_with fail
      go_ret
      refine ⟨-1, rfl, ⟨fun h => by omega, fun h => ?_⟩, by omega, by omega, rfl⟩
      have := ha.out
      rw [List.take_of_length_le (by omega), h] at this
      cases this
theorem contains_any (v : Value) (zs : List ByteArray) (w : World) (h : StrsAt w.heap.size w v zs) (hn : zs.length ≤ 1000000) :
    Calls Tryd.prog 26 #[v, .func (.func 27) #[] #[]] w fun e w' => e = .returned (.bool (zs.any fun s => !goodB s)) ∧ w = w' := by
  have I := Lib.hid (idx_any v zs w h hn)
  clear h
  go_enter Tryd.func26, Tryd.ntmps26
  go_wp2_with fail
  refine I.out.mono ?_
  rintro e w' ⟨i, rfl, hi, h0, h1, rfl⟩
  have HI := Lib.hid hi
  clear hi
  go_wp2_with fail
  go_ret
  refine ⟨retb2 ?_, rfl⟩
  rw [Bool.eq_iff_iff, decide_eq_true_iff]
  exact HI.out
theorem swap_cells {ks : List ByteArray} {fs : List Fld} (h : FsFine fs) : ∀ s ∈ rowL ks fs, s.size ≤ 40080 := by
  intro s hs
  obtain ⟨k, _, rfl⟩ := List.mem_map.1 hs
  rw [Lib.size_eq]
  exact cellL_len h
theorem rowsOf_fine {ks : List ByteArray} {ss : List St} (hn : ks.length ≤ 100) (hk : ∀ s ∈ ks, s.size ≤ 100000) (hm : ss.length ≤ 900) (hf : ∀ x ∈ ss, FsFine x.2) : RowsFine (rowsOf ks ss) := by
  refine ⟨by rw [rowsOf_len]; omega, fun r hr => ?_, fun r hr s hs => ?_⟩
  · rcases List.mem_cons.1 hr with rfl | hr
    · exact hn
    · obtain ⟨x, _, rfl⟩ := List.mem_map.1 hr
      rw [rowL_len]; exact hn
  · rcases List.mem_cons.1 hr with rfl | hr
    · exact hk s hs
    · obtain ⟨x, hx, rfl⟩ := List.mem_map.1 hr
      exact Nat.le_trans (swap_cells (hf x hx) s hs) (by omega)
set_option maxRecDepth 20000 in
set_option maxHeartbeats 1600000 in
theorem table_ok (a : Addr) (vk : Value) (ks : List ByteArray) (ss : List St) (w : World) (hk : StrsAt w.heap.size w vk ks) (hn : ks.length ≤ 100) (hks : ∀ s ∈ ks, s.size ≤ 100000) (hm : ss.length ≤ 900) (hfine : ∀ x ∈ ss, FsFine x.2) (hr : Ready w) (hg : (ks.any fun s => !goodB s) = false)
    (HS : ∀ w', Below w.heap.size w w' → Calls Tryd.prog 30 #[.pointer (some a)] w' (StanzasPost ss w')) :
    Calls Tryd.prog 14 #[.pointer (some a), vk] w fun e w' => e = .returned (.tuple #[.string ⟨(linesL (rowsOf ks ss)).toArray⟩, .nilIface]) ∧ Below w.heap.size w w' := by
  have C := contains_any vk ks w hk (by omega)
  rw [hg] at C
  have CC := Lib.hid C
  have R := Lib.hid (rows_any (.pointer (some a)) vk ks ss w hk (by omega) (by omega) hfine hr ⟨_, rfl⟩ HS)
  have HF := Lib.hid (rowsOf_fine hn hks hm hfine)
  obtain ⟨ao, cp, hvk, -⟩ := hk
  subst hvk
  clear C hg HS hfine hr hks
  go_enter Tryd.func14, Tryd.ntmps14
  go_wp2_with fail
  refine CC.out.mono ?_
  rintro e w' ⟨rfl, rfl⟩
  go_wp2_with fail
  refine R.out.mono ?_
  rintro e w1 ⟨u, us, rfl, hO, hb⟩
  have L := Lib.hid (lines_any u _ w1 hO.at_ HF.out)
  obtain ⟨uo, uc, hu⟩ := hO.shape
  subst hu
  have HB := Lib.hid hb
  clear hO hb R
  go_wp2_with fail
  refine L.out.mono ?_
  rintro e w2 ⟨rfl, hb2⟩
  have HB2 := Lib.hid hb2
  clear hb2 L
  go_wp2
  go_ret2
  exact ⟨rfl, below_cat HB.out HB2.out⟩
set_option maxRecDepth 20000 in
set_option maxHeartbeats 1600000 in
theorem table_bad (a : Addr) (vk : Value) (ks : List ByteArray) (w : World) (hk : StrsAt w.heap.size w vk ks) (hn : ks.length ≤ 100) (hg : (ks.any fun s => !goodB s) = true) :
    Calls Tryd.prog 14 #[.pointer (some a), vk] w fun e w' => e = .returned (.tuple #[.string ⟨#[]⟩, errnoV 5]) ∧ w = w' := by
  have C := contains_any vk ks w hk (by omega)
  rw [hg] at C
  have CC := Lib.hid C
  obtain ⟨ao, cp, hvk, -⟩ := hk
  subst hvk
  clear C hg
  go_enter Tryd.func14, Tryd.ntmps14
  go_wp2_with fail
  refine CC.out.mono ?_
  rintro e w' ⟨rfl, rfl⟩
  go_wp2
  go_ret2
  exact ⟨rfl, rfl⟩
set_option maxRecDepth 20000 in
theorem table_none (vk : Value) (ks : List ByteArray) (w : World) (hk : StrsAt w.heap.size w vk ks) :
    Calls Tryd.prog 14 #[.pointer none, vk] w fun e w' => e = .returned (.tuple #[.string ⟨#[]⟩, errnoV 7]) ∧ w = w' := by
  obtain ⟨ao, cp, hvk, -⟩ := hk
  subst hvk
  go_enter Tryd.func14, Tryd.ntmps14
  go_wp2
  go_ret2
  exact ⟨rfl, rfl⟩
end Go.Proofs.YtboiaoaephimhaaDoor.T
