/- The names behind the changes that wait: names.behind and dir. -/
import Derived.Test.YtalonkenchcfbaaDoorNames
import Derived.Deep.RegionHeld3
import Derived.Deep.DrawnRows
import Derived.StringKeys
namespace Go.Proofs.YtalonkenchcfbaaDoor
open Go.RowKit Go.Maps
attribute [local go_sem ↓] Go.wp_at_zero Go.wp_at_succ

theorem keyed : Keyed Tryd.prog 9 := string_keyed Tryd.underlying9
/-- How an element of the names' map reads. -/
noncomputable abbrev RI : Value → Option (DataW Unit × List MemPlace) := plainElem Tryd.prog 3
/-- Changes that wait lie in a row. -/
def EntriesAt (w : World) (v : Value) (es : List En) : Prop := ∃ ao cp, v = .slice ao es.length cp ∧ ∀ k x, es[k]? = some x → ∃ g, ao = some ⟨g, 0, none⟩ ∧ g < w.heap.size ∧ ∀ j, j < 3 → w.cell? ⟨g, k * 3 + j, none⟩ = x.cells[j]?
theorem EntriesAt.of {w : World} {v : Value} {es : List En} (h : w.ownsRow 0 70 3 v es.length (es.flatMap En.cells)) : EntriesAt w v es := by
  obtain ⟨ao, cp, hv, hc⟩ := rec_cells (c := En.cells) (n := 3) (fun _ => rfl) h
  exact ⟨ao, cp, hv, fun k x hx => let ⟨g, h1, h2, h3⟩ := hc k x hx; ⟨g, h1, h2, fun j hj => h3 w rfl j hj⟩⟩
theorem below_drew {w w' : World} (h : Below w.drew.heap.size w.drew w') : Below w.heap.size w w' := ⟨h.os, h.tape, h.output, h.size, h.block⟩
/-- The loop's relation: B: the clone's block. -/
def DirRel (w : World) (B N : Nat) (M : DataW Unit) (es : List En) (i : Value) (wr : World) : Prop :=
  ∃ k : Nat, i = .int .i64 k ∧ k ≤ es.length ∧ Hid (wr.ownsMap Tryd.prog 9 RI B (N + k) (play M (es.take k))) ∧ Hid (Below w.heap.size w wr) ∧ Hid (B < wr.heap.size)
/-- What the walk asks of a change. -/
def EnFits (e : En) : Prop := e.put.size ≤ 1000 ∧ e.take.size ≤ 1000 ∧ e.file ≤ 10000000
set_option maxHeartbeats 1600000 in
theorem behindN_any (mb N : Nat) (M : DataW Unit) (v : Value) (es : List En) (w : World) (hm : w.ownsMap Tryd.prog 9 RI mb N M) (hN : N ≤ 10000000) (he : EntriesAt w v es) (hn : es.length ≤ 10000000) (hf : ∀ e ∈ es, EnFits e) :
    Calls Tryd.prog 29 #[.map (some mb), v] w fun e w' => e = .returned (.map (some w.heap.size)) ∧ w'.ownsMap Tryd.prog 9 RI w.heap.size (N + es.length) (play M es) ∧ Below w.heap.size w w' := by
  obtain ⟨ao, cp, rfl, hc⟩ := he
  have HC := Lib.hid hc
  have HF := Lib.hid hf
  have C := AnyW.maps_Clone_owns Tryd.laysClone 9 RI mb N M w hm
  have C' : Hid (Calls Tryd.prog 49 #[.map (some mb)] w fun e w' => e = .returned (.map (some w.heap.size)) ∧ w'.ownsMap Tryd.prog 9 RI w.heap.size N M ∧ w'.ownsMap Tryd.prog 9 RI mb N M ∧ Below w.heap.size w w') := Lib.hid C
  clear C hc hf hm
  go_enter Tryd.func29, Tryd.ntmps29
  go_wp2_with fail
  refine C'.out.mono ?_
  rintro e w1 ⟨rfl, h1, -, hb1⟩
  have H1 := Lib.hid h1
  have HB1 := Lib.hid hb1
  clear h1 hb1
  go_wp2_with fail
  go_loopw [12] (DirRel w w.heap.size N M es) (fun i _ => es.length - (intOf i).toNat)
  case atStart => exact ⟨0, rfl, Nat.zero_le _, H1.out, HB1.out, H1.out.lt⟩
  case round =>
    obtain ⟨k, rfl, hk, hm, hb, hB⟩ := hrel
    by_cases hlt : k < es.length
    · obtain ⟨x, hx⟩ : ∃ x, es[k]? = some x := ⟨_, List.getElem?_eq_getElem hlt⟩
      obtain ⟨g, rfl, hg, hcell⟩ := HC.out k x hx
      obtain ⟨p, t, f⟩ := x
      have n0 : wr.cell? ⟨g, k * 3, none⟩ = some (.string p) := (hb.out.cell (p := ⟨g, k * 3, none⟩) hg).trans (hcell 0 (by omega))
      have n1 : wr.cell? ⟨g, k * 3 + 1, none⟩ = some (.string t) := (hb.out.cell (p := ⟨g, k * 3 + 1, none⟩) hg).trans (hcell 1 (by omega))
      have n2 : wr.cell? ⟨g, k * 3 + 2, none⟩ = some (.int .i64 f) := (hb.out.cell (p := ⟨g, k * 3 + 2, none⟩) hg).trans (hcell 2 (by omega))
      obtain ⟨f1, f2, f3⟩ := HF.out _ (List.mem_of_getElem? hx)
      simp only at f1 f2 f3
      have HX := Lib.hid hx
      have kt : keyOf Tryd.prog 9 (.string t) = some (nameK t) := Go.WideMaps.keyOf_string_mk Tryd.underlying9 (by unfold maxLen; omega)
      have kp : keyOf Tryd.prog 9 (.string p) = some (nameK p) := Go.WideMaps.keyOf_string_mk Tryd.underlying9 (by unfold maxLen; omega)
      have hel : RI (.int .i64 (f : Int)) = some (.lit (.int .i64 f), []) := plainElem_int Tryd.underlying3 (WalkArith.wf_i64 (by omega))
      have KT := Lib.hid kt
      have KP := Lib.hid kp
      have HE := Lib.hid hel
      have hm1 := Lib.hid (hm.out.alloc (.cells #[.string p, .string t, .int .i64 f] 70))
      clear hx hcell kt kp hel
      by_cases hp : p.size = 0
      · have e0 : p.toList = [] := by rw [Lib.toList_data]; exact List.length_eq_zero_iff.1 (by rw [← Lib.size_eq]; exact hp)
        have HP := Lib.hid hp
        clear hp
        go_wp2_with (at_delete; refine wpList_delete_own _ rfl _ _ 59 9 rfl 3 keyed Tryd.underlying59 RI w.heap.size (N + k) _ rfl hm1.out _ _ rfl KT.out ?_; intro w2 hm2 ht2; refine Hid.out ?_)
        refine Lib.hid ?_
        have v0 : w2.cell? ⟨wr.heap.size, 0, none⟩ = some (.string p) := ht2.grown.cell (World.cell?_alloc_new _ _ _ _) (by simp; have := hB.out; omega)
        have v1 : w2.cell? ⟨wr.heap.size, 1, none⟩ = some (.string t) := ht2.grown.cell (World.cell?_alloc_new _ _ _ _) (by simp; have := hB.out; omega)
        have v2 : w2.cell? ⟨wr.heap.size, 2, none⟩ = some (.int .i64 f) := ht2.grown.cell (World.cell?_alloc_new _ _ _ _) (by simp; have := hB.out; omega)
        have HB2 : Hid (Below w.heap.size w w2) := Lib.hid ((hb.out.alloc hb.out.size _).grown ht2.grown (by have := hb.out.size; simp; omega) (fun j hj => by cases hj; exact Nat.le_refl _))
        have HS2 : Hid (wr.heap.size + 1 ≤ w2.heap.size) := Lib.hid (by have := ht2.grown.size; simpa using this)
        have HM2 := Lib.hid hm2
        clear hm2 ht2
        go_wp2_with fail
        go_roundw
        case rel =>
          refine ⟨k + 1, by go_num, by omega, ?_, HB2.out, by have := hB.out; have := HS2.out; show _ < _; omega⟩
          have h := HM2.out
          show World.ownsMap _ _ _ _ _ _ _
          rw [play_succ M HX.out]
          unfold playOne
          rw [if_pos HP.out]
          exact h.mono (by omega)
        case measure => simp [intOf]; omega
      · have e0 : p.toList ≠ [] := by rw [Lib.toList_data]; intro e; apply hp; rw [Lib.size_eq, e]; rfl
        have e1 : p.toList.isEmpty = false := by simpa using e0
        have HP := Lib.hid hp
        clear hp
        go_wp2_with (at_delete; refine wpList_delete_own _ rfl _ _ 59 9 rfl 3 keyed Tryd.underlying59 RI w.heap.size (N + k) _ rfl hm1.out _ _ rfl KT.out ?_; intro w2 hm2 ht2; refine Hid.out ?_)
        refine Lib.hid ?_
        have v0 : w2.cell? ⟨wr.heap.size, 0, none⟩ = some (.string p) := ht2.grown.cell (World.cell?_alloc_new _ _ _ _) (by simp; have := hB.out; omega)
        have v1 : w2.cell? ⟨wr.heap.size, 1, none⟩ = some (.string t) := ht2.grown.cell (World.cell?_alloc_new _ _ _ _) (by simp; have := hB.out; omega)
        have v2 : w2.cell? ⟨wr.heap.size, 2, none⟩ = some (.int .i64 f) := ht2.grown.cell (World.cell?_alloc_new _ _ _ _) (by simp; have := hB.out; omega)
        have HB2 : Hid (Below w.heap.size w w2) := Lib.hid ((hb.out.alloc hb.out.size _).grown ht2.grown (by have := hb.out.size; simp; omega) (fun j hj => by cases hj; exact Nat.le_refl _))
        have HS2 : Hid (wr.heap.size + 1 ≤ w2.heap.size) := Lib.hid (by have := ht2.grown.size; simpa using this)
        have HM2 := Lib.hid hm2
        clear hm2 ht2
        go_wp2_with (at_mapUpdate; refine wpList_mapUpdate_own _ rfl _ _ _ 59 rfl 9 3 keyed Tryd.underlying59 RI w.heap.size (N + k) _ rfl HM2.out (by unfold maxLen; omega) _ _ _ rfl rfl KP.out _ _ HE.out ?_; intro w3 hm3 hg3; refine Hid.out ?_)
        refine Lib.hid ?_
        have HB3 : Hid (Below w.heap.size w w3) := Lib.hid (HB2.out.grown hg3 HB2.out.size (fun j hj => by cases hj; exact Nat.le_refl _))
        have HS3 : Hid (wr.heap.size + 1 ≤ w3.heap.size) := Lib.hid (Nat.le_trans HS2.out hg3.size)
        have HM3 := Lib.hid hm3
        clear hm3 hg3
        go_wp2_with fail
        go_roundw
        case rel =>
          refine ⟨k + 1, by go_num, by omega, ?_, HB3.out, by have := hB.out; have := HS3.out; show _ < _; omega⟩
          have h := HM3.out
          show World.ownsMap _ _ _ _ _ _ _
          rw [play_succ M HX.out]
          unfold playOne
          rw [if_neg HP.out]
          exact h
        case measure => simp [intOf]; omega
    · go_wp2_with fail
      go_ret
      obtain rfl : k = es.length := by omega
      have h := hm.out
      rw [List.take_length] at h
      exact ⟨rfl, h, hb.out⟩
/-- The names' map now, and the changes played onto it. -/
theorem dir_any (w : World) (ρ : Col) (b : Nat) (D : Dk) (L : Lay) (h : DiskAt w ρ b D L) (hN : Maps.size D.dir ≤ 10000000) (hn : D.waits.length ≤ 10000000) (hf : ∀ e ∈ D.waits, EnFits e) :
    Calls Tryd.prog 26 #[.pointer (some ⟨b, 0, none⟩)] w fun e w' => e = .returned (.map (some w.heap.size)) ∧ w'.ownsMap Tryd.prog 9 RI w.heap.size (Maps.size D.dir + D.waits.length) D.dirOf ∧ Below w.heap.size w w' := by
  obtain ⟨-, -, -, -, -, -, c6, c7, -, -, -, -, -, -, -, -, -⟩ := h.cells
  have N := Lib.hid (behindN_any L.mb (Maps.size D.dir) D.dir L.vw D.waits)
  have HF := Lib.hid hf
  clear hf
  have HM := Lib.hid h.map.1
  have HE := Lib.hid (EntriesAt.of h.rowW.1)
  have hb := h.blk.lt
  clear h
  go_enter Tryd.func26, Tryd.ntmps26
  go_wp2_with fail
  go_region_held3 (fun w' => w'.cell? ⟨b, 6, none⟩ = some (.map (some L.mb)) ∧ w'.cell? ⟨b, 7, none⟩ = some L.vw) (go_keep)
    (first | (go_at_call 29; refine (N.out w.drew HM.out hN HE.out hn HF.out).mono ?_; rintro e w' ⟨rfl, h1, h2⟩; have k6 : w'.cell? ⟨b, 6, none⟩ = some (.map (some L.mb)) := (h2.cell (p := ⟨b, 6, none⟩) hb).trans c6; have k7 : w'.cell? ⟨b, 7, none⟩ = some L.vw := (h2.cell (p := ⟨b, 7, none⟩) hb).trans c7; have H1 := Lib.hid h1; have H2 := Lib.hid h2; clear h1 h2))
  go_wp2_with fail
  go_ret
  exact ⟨rfl, H1.out, below_drew H2.out⟩
end Go.Proofs.YtalonkenchcfbaaDoor
