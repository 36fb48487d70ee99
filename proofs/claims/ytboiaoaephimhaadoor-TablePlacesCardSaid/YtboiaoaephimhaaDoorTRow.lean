/- A stanza's row: table.row. -/
import Derived.Test.YtboiaoaephimhaaDoorTCell
namespace Go.Proofs.YtboiaoaephimhaaDoor.T
open Go.RowKit Go.Shelf
open Go.Proofs.YtboiaoaephimhaaDoor.B

def cellB (fs : List Fld) (k : ByteArray) : ByteArray := ⟨(cellL k.data.toList fs).toArray⟩
def rowL (ks : List ByteArray) (fs : List Fld) : List ByteArray := ks.map (cellB fs)
theorem rowL_snoc (ks : List ByteArray) (fs : List Fld) (k : ByteArray) : rowL (ks ++ [k]) fs = rowL ks fs ++ [cellB fs k] := by simp [rowL]
theorem rowL_len (ks : List ByteArray) (fs : List Fld) : (rowL ks fs).length = ks.length := by simp [rowL]
set_option maxRecDepth 20000 in
set_option maxHeartbeats 3200000 in
theorem row_any (ks : List ByteArray) (vk vf : Value) (fs : List Fld) (w : World) (hk : StrsAt w.heap.size w vk ks) (hf : FieldsAt w.heap.size w vf fs) (hfine : FsFine fs) (hr : Ready w) (hn : ks.length ≤ 1000) :
    Calls Tryd.prog 31 #[vk, vf] w fun e w' => ∃ u, e = .returned u ∧ StrRow w.heap.size w' u (rowL ks fs) ∧ Below w.heap.size w w' := by
  obtain ⟨i0, hi0, hz0, hz1, hz2⟩ := info_parts infoS
  have HC := Lib.hid (fun (s : ByteArray) (w' : World) (hb : Below w.heap.size w w') => (cell_any s vf fs w' ((hf.below hb (Nat.le_refl _)).up hb.size) hfine (hr.stays hb)))
  obtain ⟨fo, fc, rfl, -⟩ := hf
  obtain ⟨ao, cp, rfl, hK⟩ := hk
  have HK := Lib.hid hK
  clear hK hr hfine
  go_enter Tryd.func31, Tryd.ntmps31
  go_wp2
  go_loopw [5, 10] (fun v i wr => VRel w (fun k => rowL (ks.take k) fs) ks.length v i wr) (fun _ i _ => ks.length - (intOf i).toNat)
  case atStart => exact ⟨0, rfl, Nat.zero_le _, Lib.hid (StrRow.nil _ _), Lib.hid (Below.refl _ _)⟩
  case round =>
    obtain ⟨k, rfl, hk, hN, hW⟩ := hrel
    by_cases hlt : k < ks.length
    · obtain ⟨s, hs⟩ : ∃ s, ks[k]? = some s := ⟨_, List.getElem?_eq_getElem hlt⟩
      obtain ⟨a, rfl, ha, h1⟩ := HK.out k s hs
      have c1 := (hW.out.cell (p := a.add k) (by rw [add_block]; exact ha)).trans h1
      have hzr := hW.out.size
      have et : ks.take (k + 1) = ks.take k ++ [s] := by rw [List.take_add_one, hs]; rfl
      have E1 := Lib.hid (show rowL (ks.take (k + 1)) fs = _ by rw [et, rowL_snoc])
      have hN3 : StrRow w.heap.size wr _ (rowL (ks.take k) fs) := hN.out
      have hvl := rowL_len (ks.take k) fs
      rw [List.length_take] at hvl
      obtain ⟨ss, hss⟩ : ∃ ss, rowL (ks.take k) fs = ss := ⟨_, rfl⟩
      rw [hss] at hN3 hvl E1
      have hvl2 : ss.length ≤ k := by omega
      have C := Lib.hid (HC.out s wr hW.out)
      obtain ⟨vo, vc, hvs⟩ := hN3.shape
      subst hvs
      have HN3 := Lib.hid hN3
      obtain ⟨tv, htv⟩ : ∃ tv : ByteArray, cellB fs s = tv := ⟨_, rfl⟩
      have C2 := C.out
      have htv2 : (⟨(cellL s.data.toList fs).toArray⟩ : ByteArray) = tv := htv
      rw [htv2] at C2
      rw [htv] at E1
      have C3 := Lib.hid C2
      clear h1 hs et hN3 hN hss hvl C C2 htv htv2
      go_wp2_with fail
      refine C3.out.mono ?_
      rintro e w1 ⟨rfl, hb⟩
      have hO1 : StrRow w.heap.size w1 _ ss := HN3.out.below hb (Nat.le_refl _)
      have HO := Lib.hid (World.ownsRow.alloc hO1 (.cells #[.string tv] 9))
      have hW1 := hW.out.trans (hb.mono hzr)
      have HW1 := Lib.hid hW1
      have hz1' := hW1.size
      clear hb hO1 hW1 C3
      go_wp2_with (at_builtin; refine wpList_append_lies _ rfl _ _ _ rfl w.heap.size 9 i0 _ 1 16 Tryd.underlying24 hi0 hz0 hz1 hz2 rfl (by omega) (.slice vo ss.length vc) ss.length (strVals ss) rfl HO.out ⟨w1.heap.size, 0, none⟩ 1 1 [.string tv] rfl rfl (World.news_of_block (cs := #[.string tv]) (heap_alloc_new w1 _)) (by simp [Value.oneCell']) (by omega) (by unfold maxLen; omega) (by omega) (by simp; omega) _ rfl ?_; refine Hid.out ?_)
      refine Lib.hid ?_
      intro gg cap w8 hown8 hgrow hat hlt8
      have hb0 := HW1.out.alloc hz1' (.cells #[.string tv] 9)
      have HB8 := Lib.hid (hb0.grown hgrow hb0.size (fun q hq => (World.ownsRow.lt HN3.out q hq).1))
      have HN8 := Lib.hid (StrRow.snoc hown8)
      clear hown8 hgrow hat hb0
      go_wp2
      refine ⟨⟨k + 1, by go_num, by omega, ?_, HB8⟩, by simp [intOf]; omega⟩
      show Hid (StrRow _ _ _ (rowL (ks.take (k + 1)) fs))
      rw [E1.out]
      exact HN8
    · have hN4 : StrRow w.heap.size wr _ (rowL (ks.take k) fs) := hN.out
      rw [List.take_of_length_le (by omega)] at hN4
      have HN4 := Lib.hid hN4
      clear hN4 hN
      go_wp2
      go_ret
      exact ⟨_, rfl, HN4.out, hW.out⟩
end Go.Proofs.YtboiaoaephimhaaDoor.T
