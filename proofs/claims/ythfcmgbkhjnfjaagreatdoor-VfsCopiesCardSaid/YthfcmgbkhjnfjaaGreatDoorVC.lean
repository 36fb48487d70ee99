/- Names: which are good, and what is asked of them. The names behind the changes that wait: names.behind and dir. Which file a name leads to: file; what the disk answers without being turned: Read, Units, Down. What was done is written down: did. And a disk's rows behind an append. A disk's rows behind an append: the changes that wait, the files. -/
import Derived.Test.YthfcmgbkhjnfjaaGreatDoorVB
import Derived.Test.YthfcmgbkhjnfjaaGreatDoorShelf
import Derived.Shelf.Strings.SlTrimAscii
import Derived.Maps.OwnOps
import Derived.Deep.RegionHeld3
import Derived.Deep.DrawnRows
import Derived.StringKeys
import Derived.Deep.AppendLies
import Derived.Deep.RegionLaw
namespace Go.Proofs.YthfcmgbkhjnfjaaGreatDoor
open Go.RowKit Go.Maps

theorem takeAll (p : UInt8 → Bool) (l : List UInt8) : ∀ x ∈ l.takeWhile p, p x = true := by
  induction l with
  | nil => simp
  | cons y t ih =>
    rcases h : p y with _ | _
    · simp [h]
    · simp only [List.takeWhile_cons, h, if_true, List.mem_cons]
      rintro x (rfl | hx)
      · exact h
      · exact ih x hx
theorem dropAll (p : UInt8 → Bool) (l : List UInt8) : l.dropWhile p = [] ↔ l.all p = true := by
  induction l with
  | nil => simp
  | cons x t ih =>
    rcases h : p x with _ | _ <;> simp [h, ih]
theorem trim_nil (l cs : List UInt8) : Lib.trimS l cs = [] ↔ (l.all fun c => cs.contains c) = true := by
  unfold Lib.trimS Lib.trimLeftS Lib.trimRightS
  rw [dropAll, List.all_eq_true]
  constructor
  · intro h
    rw [List.all_eq_true]
    intro x hx
    rcases hbx : cs.contains x with _ | _
    · exfalso
      have hm : x ∈ (l.reverse.dropWhile fun c => cs.contains c).reverse := by
        rw [List.mem_reverse]
        have hx' : x ∈ l.reverse.takeWhile (fun c => cs.contains c) ++ l.reverse.dropWhile (fun c => cs.contains c) := by rw [List.takeWhile_append_dropWhile]; simpa using hx
        rcases List.mem_append.1 hx' with hx' | hx'
        · have := takeAll _ _ x hx'; rw [hbx] at this; cases this
        · exact hx'
      have := h x hm
      rw [hbx] at this; cases this
    · rfl
  · intro h x hx
    have := (List.dropWhile_sublist (fun c => cs.contains c) (l := l.reverse)).mem (List.mem_reverse.1 hx)
    exact List.all_eq_true.1 h x (by simpa using this)
theorem retb {a b : Bool} (h : a = b) : Ending.returned (.bool a) = .returned (.bool b) := by rw [h]
/-- A trimmed text is empty where each byte is a letter. -/
def TrimPost (s : ByteArray) (w : World) (e : Ending) (w' : World) : Prop := ∃ t : ByteArray, e = .returned (.string t) ∧ (t.toList = [] ↔ (s.data.toList.all fun c => letters.contains c) = true) ∧ Below w.heap.size w w'
theorem trim_any (s : ByteArray) (hs : s.size ≤ 9223372036854775807) (w : World) :
    Calls Tryz.prog 78 #[.string s, .string ⟨#[97, 98, 99, 100, 101, 102, 103, 104, 105, 106, 107, 108, 109, 110, 111, 112, 113, 114, 115, 116, 117, 118, 119, 120, 121, 122, 48, 49, 50, 51, 52, 53, 54, 55, 56, 57, 46]⟩] w (TrimPost s w) :=
  (Any.strings_Trim_laid Tryz.lays160 (by kernel_rfl) s ⟨#[97, 98, 99, 100, 101, 102, 103, 104, 105, 106, 107, 108, 109, 110, 111, 112, 113, 114, 115, 116, 117, 118, 119, 120, 121, 122, 48, 49, 50, 51, 52, 53, 54, 55, 56, 57, 46]⟩ w hs (by decide) (ascii_of_all (by decide))).mono fun e w' ⟨h1, h2⟩ => ⟨_, h1, by rw [Lib.toList_data]; exact trim_nil _ letters, h2⟩
set_option maxHeartbeats 400000 in
theorem good_any (s : ByteArray) (hs : s.size ≤ 9223372036854775807) (w : World) :
    Calls Tryz.prog 73 #[.string s] w fun e w' => e = .returned (.bool (goodName s.data.toList)) ∧ Below w.heap.size w w' := by
  have T := Lib.hid (trim_any s hs w)
  have SZ : Hid (s.data.toList.length = s.size) := Lib.hid (by rw [Lib.size_eq])
  rcases Nat.eq_zero_or_pos s.size with h0 | h0
  · have e0 : s.toList = [] := by rw [Lib.toList_data]; exact List.length_eq_zero_iff.1 (by rw [SZ.out]; exact h0)
    have E0 := Lib.hid e0
    go_enter Tryz.func73, Tryz.ntmps73
    go_wp2_with fail
    go_ret
    exact ⟨retb (by unfold goodName; rw [← Lib.toList_data, E0.out]; rfl), Below.refl _ _⟩
  · have e0 : s.toList ≠ [] := by rw [Lib.toList_data]; intro e; have := SZ.out; rw [e] at this; simp at this; omega
    have E0 := Lib.hid e0
    have e1 : s.toList.isEmpty = false := by simpa using e0
    clear e0
    by_cases h20 : s.size ≤ 20
    · have h20' : (s.size : Int) ≤ 20 := by omega
      go_enter Tryz.func73, Tryz.ntmps73
      go_wp2_with fail
      refine T.out.mono ?_
      rintro e w' ⟨t, rfl, ht, hb⟩
      have HT := Lib.hid ht
      clear ht
      go_wp2_with fail
      go_ret
      refine ⟨retb ?_, hb⟩
      have e2 : goodName s.data.toList = s.data.toList.all fun c => letters.contains c := by
        unfold goodName
        rw [SZ.out, decide_eq_true h20, ← Lib.toList_data, e1]
        simp
      rw [e2, Bool.eq_iff_iff, List.isEmpty_iff]
      exact HT.out
    · have h20' : 20 < (s.size : Int) := by omega
      go_enter Tryz.func73, Tryz.ntmps73
      go_wp2_with fail
      go_ret
      exact ⟨retb (by unfold goodName; rw [SZ.out, decide_eq_false h20]; simp), Below.refl _ _⟩
theorem bad_any (s : ByteArray) (hs : s.size ≤ 9223372036854775807) (w : World) :
    Calls Tryz.prog 72 #[.string s] w fun e w' => e = .returned (.bool (!goodName s.data.toList)) ∧ Below w.heap.size w w' := by
  have T := Lib.hid (good_any s hs w)
  go_enter Tryz.func72, Tryz.ntmps72
  go_wp2_with fail
  refine T.out.mono ?_
  rintro e w' ⟨rfl, hb⟩
  go_wp2_with fail
  go_ret
  exact ⟨rfl, hb⟩
/-- The first bad name's place, or -1. -/
def badAt (zs : List ByteArray) : Int := if zs.any (fun s => !goodName s.data.toList) then 0 else -1
def IdxPost (zs : List ByteArray) (w : World) (e : Ending) (w' : World) : Prop := ∃ i : Int, e = .returned (.int .i64 i) ∧ (0 ≤ i ↔ (zs.any fun s => !goodName s.data.toList) = true) ∧ -1 ≤ i ∧ i ≤ 1000 ∧ Below w.heap.size w w'
/-- The names lie in a row of strings. -/
def NamesAt (w : World) (v : Value) (zs : List ByteArray) : Prop := ∃ ao c, v = .slice ao zs.length c ∧ zs.length ≤ 1000 ∧ (∀ s ∈ zs, s.size ≤ 9223372036854775807) ∧ ∀ k s, zs[k]? = some s → ∃ g o, ao = some ⟨g, o, none⟩ ∧ g < w.heap.size ∧ w.cell? ⟨g, o + k, none⟩ = some (.string s)
theorem any_false_take {zs : List ByteArray} {p : ByteArray → Bool} {k : Nat} {s : ByteArray} (h : (zs.take k).any p = false) (hs : zs[k]? = some s) (hp : p s = false) : (zs.take (k + 1)).any p = false := by
  rw [List.take_add_one, hs]; simp only [Option.toList_some, List.any_append, h, List.any_cons, hp, List.any_nil, Bool.or_self]
set_option maxHeartbeats 800000 in
theorem idx_any (v : Value) (zs : List ByteArray) (w : World) (h : NamesAt w v zs) :
    Calls Tryz.prog 77 #[v, .func (.func 72) #[] #[]] w (IdxPost zs w) := by
  obtain ⟨ao, c, rfl, hn, hz, hc⟩ := h
  have HC := Lib.hid hc
  have HZ := Lib.hid hz
  clear hc hz
  go_enter Tryz.func77, Tryz.ntmps77
  go_wp2_with fail
  go_loopw [8] (fun i wr => ∃ k : Nat, i = .int .i64 k ∧ k ≤ zs.length ∧ Hid ((zs.take k).any (fun s => !goodName s.data.toList) = false) ∧ Hid (Below w.heap.size w wr)) (fun i _ => zs.length - (intOf i).toNat)
  case atStart => exact ⟨0, rfl, Nat.zero_le _, rfl, Below.refl _ _⟩
  case round =>
    obtain ⟨k, rfl, hk, ha, hb⟩ := hrel
    by_cases hlt : k < zs.length
    · obtain ⟨s, hs⟩ : ∃ s, zs[k]? = some s := ⟨_, List.getElem?_eq_getElem hlt⟩
      obtain ⟨g, o, rfl, hg, hcell⟩ := HC.out k s hs
      have n0 : wr.cell? ⟨g, o + k, none⟩ = some (.string s) := (hb.out.cell (p := ⟨g, o + k, none⟩) hg).trans hcell
      have B0 := bad_any s (HZ.out s (List.mem_of_getElem? hs)) wr
      have HS := Lib.hid hs
      clear hs hcell
      cases hgd : goodName s.data.toList with
      | true =>
        rw [hgd] at B0
        have B := Lib.hid B0
        have HG := Lib.hid hgd
        clear B0 hgd
        go_wp2_with fail
        refine B.out.mono ?_
        rintro e w2 ⟨rfl, b2⟩
        have B2 := Lib.hid b2
        clear b2
        go_wp2_with fail
        go_roundw
        case rel => exact ⟨k + 1, by go_num, by omega, any_false_take ha.out HS.out (by rw [HG.out]; rfl), hb.out.trans (B2.out.mono hb.out.size)⟩
        case measure => simp [intOf]; omega
      | false =>
        rw [hgd] at B0
        have B := Lib.hid B0
        have HG := Lib.hid hgd
        clear B0 hgd
        go_wp2_with fail
        refine B.out.mono ?_
        rintro e w2 ⟨rfl, b2⟩
        have B2 := Lib.hid b2
        clear b2
        go_wp2_with fail
        go_ret
        refine ⟨k, rfl, ⟨fun _ => ?_, fun _ => by omega⟩, by omega, by omega, hb.out.trans (B2.out.mono hb.out.size)⟩
        rw [List.any_eq_true]
        exact ⟨s, List.mem_of_getElem? HS.out, by rw [HG.out]; rfl⟩
    · go_wp2_with fail
      go_ret
      refine ⟨-1, rfl, ⟨fun h => by omega, fun h => ?_⟩, by omega, by omega, hb.out⟩
      have := ha.out
      rw [List.take_of_length_le (by omega), h] at this
      cases this
theorem contains_any (v : Value) (zs : List ByteArray) (w : World) (h : NamesAt w v zs) :
    Calls Tryz.prog 71 #[v, .func (.func 72) #[] #[]] w fun e w' => e = .returned (.bool (zs.any fun s => !goodName s.data.toList)) ∧ Below w.heap.size w w' := by
  have I := Lib.hid (idx_any v zs w h)
  clear h
  go_enter Tryz.func71, Tryz.ntmps71
  go_wp2_with fail
  refine I.out.mono ?_
  rintro e w' ⟨i, rfl, hi, h0, h1, hb⟩
  have HI := Lib.hid hi
  clear hi
  go_wp2_with fail
  go_ret
  refine ⟨retb ?_, hb⟩
  rw [Bool.eq_iff_iff, decide_eq_true_iff]
  exact HI.out
theorem names_none (w : World) : NamesAt w (.slice none 0 0) [] := ⟨none, 0, rfl, by simp, by simp, by simp⟩
/-- Which error a question about these names ends in. -/
def Dk.askedN (D : Dk) (zs : List ByteArray) : Nat := if zs.any (fun s => !goodName s.data.toList) then 1 else if D.gone then 3 else 0
set_option maxHeartbeats 400000 in
theorem asked_any (v : Value) (zs : List ByteArray) (w : World) (h : NamesAt w v zs) (b : Nat) (D : Dk) (hb : b < w.heap.size) (hg : w.cell? ⟨b, 3, none⟩ = some (.bool D.gone)) :
    Calls Tryz.prog 53 #[.pointer (some ⟨b, 0, none⟩), v] w fun e w' => e = .returned (errV (D.askedN zs)) ∧ Below w.heap.size w w' := by
  have C := contains_any v zs w h
  clear h
  unfold Dk.askedN
  obtain ⟨go, hgo⟩ : ∃ go, D.gone = go := ⟨_, rfl⟩
  rw [hgo] at hg ⊢
  cases ha : zs.any (fun s => !goodName s.data.toList) with
  | true =>
    rw [ha] at C
    have C' := Lib.hid C
    clear C ha hgo
    go_enter Tryz.func53, Tryz.ntmps53
    go_wp2_with fail
    refine C'.out.mono ?_
    rintro e w' ⟨rfl, hb'⟩
    go_wp2_with fail
    go_ret
    exact ⟨rfl, hb'⟩
  | false =>
    rw [ha] at C
    have C' := Lib.hid C
    clear C ha hgo
    cases go with
    | true =>
      go_enter Tryz.func53, Tryz.ntmps53
      go_wp2_with fail
      refine C'.out.mono ?_
      rintro e w' ⟨rfl, hb'⟩
      have g3 := (hb'.cell (p := ⟨b, 3, none⟩) hb).trans hg
      go_wp2_with fail
      go_ret
      exact ⟨rfl, hb'⟩
    | false =>
      go_enter Tryz.func53, Tryz.ntmps53
      go_wp2_with fail
      refine C'.out.mono ?_
      rintro e w' ⟨rfl, hb'⟩
      have g3 := (hb'.cell (p := ⟨b, 3, none⟩) hb).trans hg
      go_wp2_with fail
      go_ret
      exact ⟨rfl, hb'⟩
end Go.Proofs.YthfcmgbkhjnfjaaGreatDoor

namespace Go.Proofs.YthfcmgbkhjnfjaaGreatDoor
open Go.RowKit Go.Maps
attribute [local go_sem ↓] Go.wp_at_zero Go.wp_at_succ

theorem keyed : Keyed Tryz.prog 9 := string_keyed Tryz.underlying9
/-- How an element of the names' map reads. -/
noncomputable abbrev RI : Value → Option (DataW Unit × List MemPlace) := plainElem Tryz.prog 3
/-- Changes that wait lie in a row. -/
def EntriesAt (w : World) (v : Value) (es : List En) : Prop := ∃ ao cp, v = .slice ao es.length cp ∧ ∀ k x, es[k]? = some x → ∃ g, ao = some ⟨g, 0, none⟩ ∧ g < w.heap.size ∧ ∀ j, j < 3 → w.cell? ⟨g, k * 3 + j, none⟩ = x.cells[j]?
theorem EntriesAt.of {w : World} {v : Value} {es : List En} (h : w.ownsRow 0 95 3 v es.length (es.flatMap En.cells)) : EntriesAt w v es := by
  obtain ⟨ao, cp, hv, hc⟩ := rec_cells (c := En.cells) (n := 3) (fun _ => rfl) h
  exact ⟨ao, cp, hv, fun k x hx => let ⟨g, h1, h2, h3⟩ := hc k x hx; ⟨g, h1, h2, fun j hj => h3 w rfl j hj⟩⟩
theorem below_drew {w w' : World} (h : Below w.drew.heap.size w.drew w') : Below w.heap.size w w' := ⟨h.os, h.tape, h.output, h.size, h.block⟩
/-- The loop's relation: B: the clone's block. -/
def DirRel (w : World) (B N : Nat) (M : DataW Unit) (es : List En) (i : Value) (wr : World) : Prop :=
  ∃ k : Nat, i = .int .i64 k ∧ k ≤ es.length ∧ Hid (wr.ownsMap Tryz.prog 9 RI B (N + k) (play M (es.take k))) ∧ Hid (Below w.heap.size w wr) ∧ Hid (B < wr.heap.size)
/-- What the walk asks of a change. -/
def EnFits (e : En) : Prop := e.put.size ≤ 1000 ∧ e.take.size ≤ 1000 ∧ e.file ≤ 10000000
set_option maxHeartbeats 1600000 in
theorem behindN_any (mb N : Nat) (M : DataW Unit) (v : Value) (es : List En) (w : World) (hm : w.ownsMap Tryz.prog 9 RI mb N M) (hN : N ≤ 10000000) (he : EntriesAt w v es) (hn : es.length ≤ 10000000) (hf : ∀ e ∈ es, EnFits e) :
    Calls Tryz.prog 46 #[.map (some mb), v] w fun e w' => e = .returned (.map (some w.heap.size)) ∧ w'.ownsMap Tryz.prog 9 RI w.heap.size (N + es.length) (play M es) ∧ Below w.heap.size w w' := by
  obtain ⟨ao, cp, rfl, hc⟩ := he
  have HC := Lib.hid hc
  have HF := Lib.hid hf
  have C := AnyW.maps_Clone_owns Tryz.laysClone 9 RI mb N M w hm
  have C' : Hid (Calls Tryz.prog 42 #[.map (some mb)] w fun e w' => e = .returned (.map (some w.heap.size)) ∧ w'.ownsMap Tryz.prog 9 RI w.heap.size N M ∧ w'.ownsMap Tryz.prog 9 RI mb N M ∧ Below w.heap.size w w') := Lib.hid C
  clear C hc hf hm
  go_enter Tryz.func46, Tryz.ntmps46
  go_wp2_with fail
  refine C'.out.mono ?_
  rintro e w1 ⟨rfl, h1, -, hb1⟩
  have H1 := Lib.hid h1
  have HB1 := Lib.hid hb1
  clear h1 hb1
  go_wp2_with fail
  go_loopw [12] (DirRel w w.heap.size N M es) (fun i _ => es.length - (intOf i).toNat)
  case atStart => exact ⟨0, rfl, Nat.zero_le _, H1.out, HB1.out, H1.out.lt⟩
  case round =>
    obtain ⟨k, rfl, hk, hm, hb, hB⟩ := hrel
    by_cases hlt : k < es.length
    · obtain ⟨x, hx⟩ : ∃ x, es[k]? = some x := ⟨_, List.getElem?_eq_getElem hlt⟩
      obtain ⟨g, rfl, hg, hcell⟩ := HC.out k x hx
      obtain ⟨p, t, f⟩ := x
      have n0 : wr.cell? ⟨g, k * 3, none⟩ = some (.string p) := (hb.out.cell (p := ⟨g, k * 3, none⟩) hg).trans (hcell 0 (by omega))
      have n1 : wr.cell? ⟨g, k * 3 + 1, none⟩ = some (.string t) := (hb.out.cell (p := ⟨g, k * 3 + 1, none⟩) hg).trans (hcell 1 (by omega))
      have n2 : wr.cell? ⟨g, k * 3 + 2, none⟩ = some (.int .i64 f) := (hb.out.cell (p := ⟨g, k * 3 + 2, none⟩) hg).trans (hcell 2 (by omega))
      obtain ⟨f1, f2, f3⟩ := HF.out _ (List.mem_of_getElem? hx)
      simp only at f1 f2 f3
      have HX := Lib.hid hx
      have kt : keyOf Tryz.prog 9 (.string t) = some (nameK t) := Go.WideMaps.keyOf_string_mk Tryz.underlying9 (by unfold maxLen; omega)
      have kp : keyOf Tryz.prog 9 (.string p) = some (nameK p) := Go.WideMaps.keyOf_string_mk Tryz.underlying9 (by unfold maxLen; omega)
      have hel : RI (.int .i64 (f : Int)) = some (.lit (.int .i64 f), []) := plainElem_int Tryz.underlying3 (WalkArith.wf_i64 (by omega))
      have KT := Lib.hid kt
      have KP := Lib.hid kp
      have HE := Lib.hid hel
      have hm1 := Lib.hid (hm.out.alloc (.cells #[.string p, .string t, .int .i64 f] 95))
      clear hx hcell kt kp hel
      by_cases hp : p.size = 0
      · have e0 : p.toList = [] := by rw [Lib.toList_data]; exact List.length_eq_zero_iff.1 (by rw [← Lib.size_eq]; exact hp)
        have HP := Lib.hid hp
        clear hp
        go_wp2_with (at_delete; refine wpList_delete_own _ rfl _ _ 64 9 rfl 3 keyed Tryz.underlying64 RI w.heap.size (N + k) _ rfl hm1.out _ _ rfl KT.out ?_; intro w2 hm2 ht2; refine Hid.out ?_)
        refine Lib.hid ?_
        have v0 : w2.cell? ⟨wr.heap.size, 0, none⟩ = some (.string p) := ht2.grown.cell (World.cell?_alloc_new _ _ _ _) (by simp; have := hB.out; omega)
        have v1 : w2.cell? ⟨wr.heap.size, 1, none⟩ = some (.string t) := ht2.grown.cell (World.cell?_alloc_new _ _ _ _) (by simp; have := hB.out; omega)
        have v2 : w2.cell? ⟨wr.heap.size, 2, none⟩ = some (.int .i64 f) := ht2.grown.cell (World.cell?_alloc_new _ _ _ _) (by simp; have := hB.out; omega)
        have HB2 : Hid (Below w.heap.size w w2) := Lib.hid ((hb.out.alloc hb.out.size _).grown ht2.grown (by have := hb.out.size; simp; omega) (fun j hj => by cases hj; exact Nat.le_refl _))
        have HS2 : Hid (wr.heap.size + 1 ≤ w2.heap.size) := Lib.hid (by have := ht2.grown.size; simpa using this)
        have HM2 := Lib.hid hm2
        clear hm2 ht2
        go_wp2_with fail
        go_roundw
        case rel =>
          refine ⟨k + 1, by go_num, by omega, ?_, HB2.out, by have := hB.out; have := HS2.out; show _ < _; omega⟩
          have h := HM2.out
          show World.ownsMap _ _ _ _ _ _ _
          rw [play_succ M HX.out]
          unfold playOne
          rw [if_pos HP.out]
          exact h.mono (by omega)
        case measure => simp [intOf]; omega
      · have e0 : p.toList ≠ [] := by rw [Lib.toList_data]; intro e; apply hp; rw [Lib.size_eq, e]; rfl
        have e1 : p.toList.isEmpty = false := by simpa using e0
        have HP := Lib.hid hp
        clear hp
        go_wp2_with (at_delete; refine wpList_delete_own _ rfl _ _ 64 9 rfl 3 keyed Tryz.underlying64 RI w.heap.size (N + k) _ rfl hm1.out _ _ rfl KT.out ?_; intro w2 hm2 ht2; refine Hid.out ?_)
        refine Lib.hid ?_
        have v0 : w2.cell? ⟨wr.heap.size, 0, none⟩ = some (.string p) := ht2.grown.cell (World.cell?_alloc_new _ _ _ _) (by simp; have := hB.out; omega)
        have v1 : w2.cell? ⟨wr.heap.size, 1, none⟩ = some (.string t) := ht2.grown.cell (World.cell?_alloc_new _ _ _ _) (by simp; have := hB.out; omega)
        have v2 : w2.cell? ⟨wr.heap.size, 2, none⟩ = some (.int .i64 f) := ht2.grown.cell (World.cell?_alloc_new _ _ _ _) (by simp; have := hB.out; omega)
        have HB2 : Hid (Below w.heap.size w w2) := Lib.hid ((hb.out.alloc hb.out.size _).grown ht2.grown (by have := hb.out.size; simp; omega) (fun j hj => by cases hj; exact Nat.le_refl _))
        have HS2 : Hid (wr.heap.size + 1 ≤ w2.heap.size) := Lib.hid (by have := ht2.grown.size; simpa using this)
        have HM2 := Lib.hid hm2
        clear hm2 ht2
        go_wp2_with (at_mapUpdate; refine wpList_mapUpdate_own _ rfl _ _ _ 64 rfl 9 3 keyed Tryz.underlying64 RI w.heap.size (N + k) _ rfl HM2.out (by unfold maxLen; omega) _ _ _ rfl rfl KP.out _ _ HE.out ?_; intro w3 hm3 hg3; refine Hid.out ?_)
        refine Lib.hid ?_
        have HB3 : Hid (Below w.heap.size w w3) := Lib.hid (HB2.out.grown hg3 HB2.out.size (fun j hj => by cases hj; exact Nat.le_refl _))
        have HS3 : Hid (wr.heap.size + 1 ≤ w3.heap.size) := Lib.hid (Nat.le_trans HS2.out hg3.size)
        have HM3 := Lib.hid hm3
        clear hm3 hg3
        go_wp2_with fail
        go_roundw
        case rel =>
          refine ⟨k + 1, by go_num, by omega, ?_, HB3.out, by have := hB.out; have := HS3.out; show _ < _; omega⟩
          have h := HM3.out
          show World.ownsMap _ _ _ _ _ _ _
          rw [play_succ M HX.out]
          unfold playOne
          rw [if_neg HP.out]
          exact h
        case measure => simp [intOf]; omega
    · go_wp2_with fail
      go_ret
      obtain rfl : k = es.length := by omega
      have h := hm.out
      rw [List.take_length] at h
      exact ⟨rfl, h, hb.out⟩
/-- The names' map now, and the changes played onto it. -/
theorem dir_any (w : World) (ρ : Col) (b : Nat) (D : Dk) (L : Lay) (h : DiskAt w ρ b D L) (hN : Maps.size D.dir ≤ 10000000) (hn : D.waits.length ≤ 10000000) (hf : ∀ e ∈ D.waits, EnFits e) :
    Calls Tryz.prog 54 #[.pointer (some ⟨b, 0, none⟩)] w fun e w' => e = .returned (.map (some w.heap.size)) ∧ w'.ownsMap Tryz.prog 9 RI w.heap.size (Maps.size D.dir + D.waits.length) D.dirOf ∧ Below w.heap.size w w' := by
  obtain ⟨-, -, -, -, -, -, c6, c7, -, -, -, -, -, -, -, -, -⟩ := h.cells
  have N := Lib.hid (behindN_any L.mb (Maps.size D.dir) D.dir L.vw D.waits)
  have HF := Lib.hid hf
  clear hf
  have HM := Lib.hid h.map.1
  have HE := Lib.hid (EntriesAt.of h.rowW.1)
  have hb := h.blk.lt
  clear h
  go_enter Tryz.func54, Tryz.ntmps54
  go_wp2_with fail
  go_region_held3 (fun w' => w'.cell? ⟨b, 6, none⟩ = some (.map (some L.mb)) ∧ w'.cell? ⟨b, 7, none⟩ = some L.vw) (go_keep)
    (first | (go_at_call 46; refine (N.out w.drew HM.out hN HE.out hn HF.out).mono ?_; rintro e w' ⟨rfl, h1, h2⟩; have k6 : w'.cell? ⟨b, 6, none⟩ = some (.map (some L.mb)) := (h2.cell (p := ⟨b, 6, none⟩) hb).trans c6; have k7 : w'.cell? ⟨b, 7, none⟩ = some L.vw := (h2.cell (p := ⟨b, 7, none⟩) hb).trans c7; have H1 := Lib.hid h1; have H2 := Lib.hid h2; clear h1 h2))
  go_wp2_with fail
  go_ret
  exact ⟨rfl, H1.out, below_drew H2.out⟩
end Go.Proofs.YthfcmgbkhjnfjaaGreatDoor

namespace Go.Proofs.YthfcmgbkhjnfjaaGreatDoor
open Go.RowKit Go.Maps
attribute [local go_sem ↓] Go.wp_at_zero Go.wp_at_succ

theorem add_at (g j : Nat) : (⟨g, 0, none⟩ : Addr).add j = ⟨g, j, none⟩ := by unfold Addr.add; split <;> simp_all
theorem zeroI (w : World) : (zeroValue 3).run Tryz.prog w = .ok (.int .i64 0) w := by kernel_rfl
/-- What the walks ask of a disk; m bounds all that is counted. -/
structure Dk.Ok (D : Dk) : Prop where
  points : Points D.dir D.files.length
  waits : ∀ e ∈ D.waits, EnOk D.files.length e
  fits : ∀ e ∈ D.waits, EnFits e
  names : Maps.size D.dir ≤ 1000000
  many : D.waits.length ≤ 1000000
  files : ∀ F ∈ D.files, F.Ok
  lots : D.files.length ≤ 1000000
  acts : D.acts.length ≤ 1000000
  units0 : 0 ≤ D.units
  units1 : D.units ≤ 100000000
  left0 : 0 ≤ D.left
  left1 : D.left ≤ 9223372036854775807
/-- Which error the way to a file ends in. -/
def Dk.fileN (D : Dk) (s : ByteArray) : Nat := if D.askedN [s] = 0 then (if Maps.has D.dirOf (nameK s) then 0 else 7) else D.askedN [s]
theorem names_one (w : World) (s : ByteArray) (hs : s.size ≤ 9223372036854775807) : NamesAt (w.alloc (.cells #[.string s] 9)) (.slice (some ⟨w.heap.size, 0, none⟩) 1 1) [s] :=
  ⟨_, _, rfl, by simp, by simpa using hs, fun k x hx => by
    cases k with
    | zero => simp at hx; subst hx; exact ⟨_, 0, rfl, by simp, World.cell?_alloc_new _ _ _ _⟩
    | succ k => simp at hx⟩
set_option maxHeartbeats 800000 in
set_option maxRecDepth 20000 in
theorem file_err (s : ByteArray) (hs : s.size ≤ 1000) (w : World) (ρ : Col) (b : Nat) (D : Dk) (L : Lay) (h : DiskAt w ρ b D L) (ok : D.Ok) (hne : D.fileN s ≠ 0) :
    Calls Tryz.prog 48 #[.pointer (some ⟨b, 0, none⟩), .string s] w fun e w' => e = .returned (.tuple #[.pointer none, errV (D.fileN s)]) ∧ Below w.heap.size w w' := by
  have hb := h.blk.lt
  have c3 := h.cells.c3
  have hB1 : Below w.heap.size w (w.alloc (.cells #[.string s] 9)) := (Below.refl _ _).alloc (Nat.le_refl _) _
  have A0 := asked_any _ [s] _ (names_one w s (by omega)) b D (by simp; omega) ((hB1.cell (p := ⟨b, 3, none⟩) hb).trans c3)
  have HD := Lib.hid h
  have OK := Lib.hid ok
  have HB1 := Lib.hid hB1
  unfold Dk.fileN at hne ⊢
  generalize hk : D.askedN [s] = k at *
  clear h ok hk hB1
  by_cases hk0 : k = 0
  · rw [if_pos hk0] at hne ⊢
    have hhas : Maps.has D.dirOf (nameK s) = false := by
      cases hh : Maps.has D.dirOf (nameK s)
      · rfl
      · rw [hh] at hne; simp at hne
    rw [hhas]
    have HH := Lib.hid hhas
    subst hk0
    rw [show errV 0 = .nilIface from rfl] at A0
    have A' := Lib.hid A0
    have kt := Lib.hid (WideMaps.keyOf_string_mk (P := Tryz.prog) (k := 9) Tryz.underlying9 (s := s) (by unfold maxLen; omega))
    clear A0 hne hhas
    go_enter Tryz.func48, Tryz.ntmps48
    go_wp2_with fail
    refine A'.out.mono ?_
    rintro e w2 ⟨rfl, b2⟩
    have hb2 : Hid (Below w.heap.size w w2) := Lib.hid (HB1.out.trans (b2.mono HB1.out.size))
    clear b2
    have D2 := Lib.hid (dir_any w2 ρ b D L (HD.out.below hb2.out) (by have := OK.out.names; omega) (by have := OK.out.many; omega) OK.out.fits)
    go_wp2_with fail
    refine D2.out.mono ?_
    rintro e w3 ⟨rfl, h3, b3⟩
    have H3 := Lib.hid h3
    have hb3 : Hid (Below w.heap.size w w3) := Lib.hid (hb2.out.trans (b3.mono hb2.out.size))
    clear h3 b3
    go_wp2_with (at_lookup; refine wpList_lookup_own_ok_int _ rfl _ _ 64 rfl 9 3 .i64 keyed Tryz.underlying64 Tryz.underlying3 (zeroI _) _ _ _ rfl H3.out _ _ rfl kt.out ?_; intro c hat hwc; rw [show Maps.has D.dirOf (.string s.data.toList) = false from HH.out]; clear hat hwc)
    go_ret2
    exact ⟨rfl, hb3.out⟩
  · rw [if_neg hk0] at hne ⊢
    rw [show errV k = .iface 31 (.int .i64 k) from if_neg hk0] at A0 ⊢
    have A' := Lib.hid A0
    clear A0 hne
    go_enter Tryz.func48, Tryz.ntmps48
    go_wp2_with fail
    refine A'.out.mono ?_
    rintro e w2 ⟨rfl, b2⟩
    have hb2 : Hid (Below w.heap.size w w2) := Lib.hid (HB1.out.trans (b2.mono HB1.out.size))
    clear b2
    go_wp2_with fail
    go_ret2
    exact ⟨rfl, hb2.out⟩
set_option maxHeartbeats 800000 in
set_option maxRecDepth 20000 in
theorem file_ok (s : ByteArray) (hs : s.size ≤ 1000) (w : World) (ρ : Col) (b : Nat) (D : Dk) (L : Lay) (h : DiskAt w ρ b D L) (ok : D.Ok) (he : D.askedN [s] = 0) (hh : Maps.has D.dirOf (nameK s) = true) (i : Nat) (hi : ∀ z, D.dirOf.atKey (nameK s) z = .lit (.int .i64 i)) (f : Nat × Value) (hf : L.fs[i]? = some f) :
    Calls Tryz.prog 48 #[.pointer (some ⟨b, 0, none⟩), .string s] w fun e w' => e = .returned (.tuple #[.pointer (some ⟨f.1, 0, none⟩), .nilIface]) ∧ Below w.heap.size w w' := by
  have hb := h.blk.lt
  have c3 := h.cells.c3
  have hB1 : Below w.heap.size w (w.alloc (.cells #[.string s] 9)) := (Below.refl _ _).alloc (Nat.le_refl _) _
  have A0 := asked_any _ [s] _ (names_one w s (by omega)) b D (by simp; omega) ((hB1.cell (p := ⟨b, 3, none⟩) hb).trans c3)
  rw [he, show errV 0 = .nilIface from rfl] at A0
  have A' := Lib.hid A0
  have HD := Lib.hid h
  have OK := Lib.hid ok
  have HB1 := Lib.hid hB1
  have HH := Lib.hid hh
  have HI := Lib.hid hi
  have hiL : i < D.files.length := by
    rw [← h.len]
    rcases Nat.lt_or_ge i L.fs.length with g | g
    · exact g
    · rw [List.getElem?_eq_none g] at hf; cases hf
  have hil := ok.lots
  obtain ⟨g, c, hvf, hg, hcell⟩ : ∃ g c, L.vf = .slice (some ⟨g, 0, none⟩) D.files.length c ∧ g < w.heap.size ∧ w.cell? ⟨g, i, none⟩ = some (.pointer (some ⟨f.1, 0, none⟩)) := by
    obtain ⟨g, c, hv, _, hg⟩ := h.rowF.1.form (by omega)
    have hc := h.rowF.1.cells (g := g) (by rw [hv]; rfl) i _ (by rw [List.getElem?_map, hf]; rfl)
    exact ⟨g, c, hv, hg, by rw [add_at] at hc; exact hc⟩
  have c5 := h.cells.c5
  rw [hvf] at c5
  have kt := Lib.hid (WideMaps.keyOf_string_mk (P := Tryz.prog) (k := 9) Tryz.underlying9 (s := s) (by unfold maxLen; omega))
  have hiL' : (i : Int) < (D.files.length : Int) := by omega
  clear A0 he h ok hB1 hh hi hf hvf
  go_enter Tryz.func48, Tryz.ntmps48
  go_wp2_with fail
  refine A'.out.mono ?_
  rintro e w2 ⟨rfl, b2⟩
  have hb2 : Hid (Below w.heap.size w w2) := Lib.hid (HB1.out.trans (b2.mono HB1.out.size))
  clear b2
  have D2 := Lib.hid (dir_any w2 ρ b D L (HD.out.below hb2.out) (by have := OK.out.names; omega) (by have := OK.out.many; omega) OK.out.fits)
  go_wp2_with fail
  refine D2.out.mono ?_
  rintro e w3 ⟨rfl, h3, b3⟩
  have H3 := Lib.hid h3
  have hb3 : Hid (Below w.heap.size w w3) := Lib.hid (hb2.out.trans (b3.mono hb2.out.size))
  have k5 := (hb3.out.cell (p := ⟨b, 5, none⟩) hb).trans c5
  have k6 := (hb3.out.cell (p := ⟨g, i, none⟩) hg).trans hcell
  clear h3 b3
  go_wp2_with (at_lookup; refine wpList_lookup_own_ok_int _ rfl _ _ 64 rfl 9 3 .i64 keyed Tryz.underlying64 Tryz.underlying3 (zeroI _) _ _ _ rfl H3.out _ _ rfl kt.out ?_; intro c hat hwc; rw [show Maps.has D.dirOf (.string s.data.toList) = true from HH.out]; rw [show D.dirOf.atKey (.string s.data.toList) (.lit (.int .i64 0)) = .lit (.int .i64 i) from HI.out _] at hat; cases hat; clear hwc)
  go_ret2
  exact ⟨rfl, hb3.out⟩
end Go.Proofs.YthfcmgbkhjnfjaaGreatDoor

namespace Go.Proofs.YthfcmgbkhjnfjaaGreatDoor
open Go.RowKit Go.Maps
attribute [local go_sem ↓] Go.wp_at_zero Go.wp_at_succ

theorem infoA : (Tryz.prog.info? 88).map (fun i => (i.zero, i.size, i.bytes)) = some (some (.agg #[.int .i64 0, .string ⟨#[]⟩, .string ⟨#[]⟩, .string ⟨#[]⟩, .int .i64 0]), 5, 64) := by kernel_rfl
theorem infoE : (Tryz.prog.info? 95).map (fun i => (i.zero, i.size, i.bytes)) = some (some (.agg #[.string ⟨#[]⟩, .string ⟨#[]⟩, .int .i64 0]), 3, 40) := by kernel_rfl
theorem infoW : (Tryz.prog.info? 103).map (fun i => (i.zero, i.size, i.bytes)) = some (some (.agg #[.string ⟨#[]⟩, .int .i64 0, .bool false]), 3, 32) := by kernel_rfl
theorem infoF : (Tryz.prog.info? 97).map (fun i => (i.zero, i.size, i.bytes)) = some (some (.pointer none), 1, 8) := by kernel_rfl
theorem heap_two (w : World) (o1 o2 : Obj) : ((w.alloc o1).alloc o2).heap[w.heap.size + 1]? = some o2 := by
  have := heap_alloc_new (w.alloc o1) o2
  simpa using this
def Dk.did (D : Dk) (a : Ac) : Dk := { D with acts := D.acts ++ [a] }
theorem flat_snoc {α : Type} (c : α → List Value) (l : List α) (x : α) : (l ++ [x]).flatMap c = l.flatMap c ++ c x := by simp
/-- The world behind an append to a row of the disk's, and the store of the new slice into the disk's block. -/
theorem below_alloc2 (w : World) (o1 o2 : Obj) : Below w.heap.size w ((w.alloc o1).alloc o2).drew := (((Below.refl _ _).alloc (Nat.le_refl _) _).alloc (by simp) _).drew
theorem turned_acts {w w0 w1 : World} {ρ : Col} {b : Nat} {D : Dk} {L : Lay} (h : DiskAt w ρ b D L) (hb0 : Below w.heap.size w w0) (x : Ac) {gg cap : Nat}
    (hown : w1.ownsRow 0 88 5 (.slice (some ⟨gg, 0, none⟩) (D.acts.length + 1) cap) (D.acts.length + 1) (D.acts.flatMap Ac.cells ++ x.cells)) (hgrow : w0.grownBy w1 L.va.ownBlock) (hat : L.va.ownBlock = some gg ∨ w0.heap.size ≤ gg) (hlt : gg < w1.heap.size) :
    Turned w ρ b (D.did x) (w1.setCell ⟨b, 8, none⟩ (.slice (some ⟨gg, 0, none⟩) (D.acts.length + 1) cap)) := by
  have h0 := h.below hb0
  obtain ⟨hr1, he1, hk1⟩ := h0.rowA.append hown hgrow hat
  have p1 := hk1.only (p := fun c => c == 0 || c == 4) rfl
  have hblk := (h0.parts he1 (hk1.only (p := fun c => c == 4) rfl)).1 rfl
  obtain ⟨hs, hk2⟩ := hblk.store (i := 8) (v := .slice (some ⟨gg, 0, none⟩) (D.acts.length + 1) cap)
  have p2 := p1.thoseTrans he1 (hk2.only (p := fun c => c == 0 || c == 4) rfl)
  obtain ⟨-, q1, q2, q3, -, q5⟩ := h0.parts he1 p2
  have q4 := hr1.keep (Ext.refl _ _) hk2 fun g hg => only_none (by rw [hg]; simp)
  refine ⟨paint ρ gg 4, ⟨{ L with va := .slice (some ⟨gg, 0, none⟩) (D.acts.length + 1) cap }, ⟨hs, q1 rfl, q2 rfl, q3 rfl, ?_, h.len, fun i f F a c => q5 i f F a c (by simp; omega) (by simp; omega), ?_⟩⟩, ?_, ?_⟩
  · show Row _ _ _ _ _ _ (D.acts ++ [x]).length ((D.acts ++ [x]).flatMap Ac.cells)
    rw [List.length_append, flat_snoc]
    exact q4
  · exact ((h.fits.more hb0.size).more hk1.size).paint hlt |>.more hk2.size
  · exact fun k hk => he1 k (Nat.lt_of_lt_of_le hk hb0.size)
  · exact (Kept.below hb0).then p2.those
set_option maxRecDepth 100000 in
set_option maxHeartbeats 1600000 in
theorem did_any (x : Ac) (w : World) (ρ : Col) (b : Nat) (D : Dk) (L : Lay) (h : DiskAt w ρ b D L) (hn : D.acts.length ≤ 10000000) :
    Calls Tryz.prog 51 #[.pointer (some ⟨b, 0, none⟩), .agg #[.int .i64 x.kind, .string x.name, .string x.other, .string x.bytes, .int .i64 x.place]] w fun e w' => e = .returned (.tuple #[]) ∧ Turned w ρ b (D.did x) w' := by
  obtain ⟨i0, hi0, hz0, hz1, hz2⟩ := info_parts infoA
  have hb := h.blk.lt
  have c8 := h.cells.c8
  have f8 := h.cells.f8
  have hown := h.rowA.1
  have HR := Lib.hid h.rowA
  have hne : L.va.ownBlock ≠ some b := fun e => by have := h.rowA.2 b e; rw [h.blk.2] at this; cases this
  have hnew : some w.heap.size ≠ L.va.ownBlock := fun e => by have := (hown.lt _ e.symm).2; omega
  have HD := Lib.hid h
  clear h
  go_enter Tryz.func51, Tryz.ntmps51
  go_wp2_with fail
  go_region_law
    ((refine step_append_lies _ (by rfl) _ _ _ (by rfl) 0 88 i0 _ 5 64 Tryz.underlying60 hi0 hz0 hz1 hz2 rfl (by omega) L.va D.acts.length (D.acts.flatMap Ac.cells) (by rfl) (((hown.alloc _).alloc _).drew)
        ⟨w.heap.size + 1, 0, none⟩ 1 1 x.cells (by rfl) (by rfl) (World.news_of_block (cs := x.cells.toArray) (t := 88) (fr := (0, 0)) (heap_two w _ _)) (by simp [Ac.cells, Value.oneCell'])
        (by omega) (by unfold maxLen; omega) (by omega) (by simp) (w.heap.size + 2) (by simp) ?_; intro gg cap w1 hown1 hgrow hat hlt; have g8 : w1.frozen? ⟨b, 8, none⟩ = false := (hgrow.frozen_far _ (by simp; omega) (Ne.symm hne)).trans (((below_alloc2 w _ _).frozen (p := ⟨b, 8, none⟩) hb).trans f8); have k8 : w1.cell? ⟨b, 8, none⟩ = some L.va := (hgrow.cell_far _ (by simp; omega) (Ne.symm hne)).trans (((below_alloc2 w _ _).cell (p := ⟨b, 8, none⟩) hb).trans c8)))
  all_goals
    go_wp2_with fail
    go_end0
    exact ⟨rfl, turned_acts HD.out (below_alloc2 w _ _) x hown1 hgrow (by rcases hat with hat | hat; exact .inl hat; exact .inr (by rw [hat]; simp)) hlt⟩
end Go.Proofs.YthfcmgbkhjnfjaaGreatDoor

namespace Go.Proofs.YthfcmgbkhjnfjaaGreatDoor
open Go.RowKit Go.Maps

def Dk.moved (D : Dk) (x : En) : Dk := { D with waits := D.waits ++ [x] }
/-- A new file. -/
def Fl.fresh : Fl := ⟨⟨#[]⟩, []⟩
def Dk.grew (D : Dk) : Dk := { D with files := D.files ++ [Fl.fresh] }
theorem Row.shape {w : World} {ρ : Col} {c : Nat} {e : TypeId} {size : Nat} {v : Value} {n : Nat} {xs : List Value} (h : Row w ρ c e size v n xs) : ∃ ao cp, v = .slice ao n cp := by
  rcases h.1.2 with ⟨rfl, rfl⟩ | ⟨g, cp, cur, rfl, _⟩
  · exact ⟨_, _, rfl⟩
  · exact ⟨_, _, rfl⟩
theorem turned_waits {w w0 w1 : World} {ρ : Col} {b : Nat} {D : Dk} {L : Lay} (h : DiskAt w ρ b D L) (hb0 : Below w.heap.size w w0) (x : En) {gg cap : Nat}
    (hown : w1.ownsRow 0 95 3 (.slice (some ⟨gg, 0, none⟩) (D.waits.length + 1) cap) (D.waits.length + 1) (D.waits.flatMap En.cells ++ x.cells)) (hgrow : w0.grownBy w1 L.vw.ownBlock) (hat : L.vw.ownBlock = some gg ∨ w0.heap.size ≤ gg) (hlt : gg < w1.heap.size) :
    Turned w ρ b (D.moved x) (w1.setCell ⟨b, 7, none⟩ (.slice (some ⟨gg, 0, none⟩) (D.waits.length + 1) cap)) := by
  have h0 := h.below hb0
  obtain ⟨hr1, he1, hk1⟩ := h0.rowW.append hown hgrow hat
  have p1 := hk1.only (p := fun c => c == 0 || c == 3) rfl
  have hblk := (h0.parts he1 (hk1.only (p := fun c => c == 3) rfl)).1 rfl
  obtain ⟨hs, hk2⟩ := hblk.store (i := 7) (v := .slice (some ⟨gg, 0, none⟩) (D.waits.length + 1) cap)
  have p2 := p1.thoseTrans he1 (hk2.only (p := fun c => c == 0 || c == 3) rfl)
  obtain ⟨-, q1, q2, -, q4, q5⟩ := h0.parts he1 p2
  have q3 := hr1.keep (Ext.refl _ _) hk2 fun g hg => only_none (by rw [hg]; simp)
  refine ⟨paint ρ gg 3, ⟨{ L with vw := .slice (some ⟨gg, 0, none⟩) (D.waits.length + 1) cap }, ⟨hs, q1 rfl, q2 rfl, ?_, q4 rfl, h.len, fun i f F a c => q5 i f F a c (by simp; omega) (by simp; omega), ?_⟩⟩, ?_, ?_⟩
  · show Row _ _ _ _ _ _ (D.waits ++ [x]).length ((D.waits ++ [x]).flatMap En.cells)
    rw [List.length_append, flat_snoc]
    exact q3
  · exact ((h.fits.more hb0.size).more hk1.size).paint hlt |>.more hk2.size
  · exact fun k hk => he1 k (Nat.lt_of_lt_of_le hk hb0.size)
  · exact (Kept.below hb0).then p2.those
theorem get_snoc {α : Type} {l : List α} {x : α} {i : Nat} {f : α} (h : (l ++ [x])[i]? = some f) : (i < l.length ∧ l[i]? = some f) ∨ (i = l.length ∧ f = x) := by
  rcases Nat.lt_trichotomy i l.length with g | g | g
  · rw [List.getElem?_append_left g] at h; exact .inl ⟨g, h⟩
  · subst g; rw [List.getElem?_append_right (Nat.le_refl _)] at h; simp at h; exact .inr ⟨rfl, h.symm⟩
  · rw [List.getElem?_eq_none (by simp; omega)] at h; cases h
/-- A new file: its block fb is new in w0. -/
theorem turned_files {w w0 w1 : World} {ρ : Col} {b : Nat} {D : Dk} {L : Lay} (h : DiskAt w ρ b D L) (hb0 : Below w.heap.size w w0) {fb : Nat} (hfb : w.heap.size ≤ fb) (hfh : w0.heap[fb]? = some (.cells #[.string ⟨#[]⟩, .slice none 0 0] 100 (0, 0))) {gg cap : Nat}
    (hown : w1.ownsRow 0 97 1 (.slice (some ⟨gg, 0, none⟩) (D.files.length + 1) cap) (D.files.length + 1) ((L.fs.map fun f => Value.pointer (some ⟨f.1, 0, none⟩)) ++ [.pointer (some ⟨fb, 0, none⟩)])) (hgrow : w0.grownBy w1 L.vf.ownBlock) (hat : L.vf.ownBlock = some gg ∨ w0.heap.size ≤ gg) (hlt : gg < w1.heap.size) :
    Turned w ρ b D.grew (w1.setCell ⟨b, 5, none⟩ (.slice (some ⟨gg, 0, none⟩) (D.files.length + 1) cap)) := by
  have h0 := h.below hb0
  have hfl : fb < w0.heap.size := (Array.getElem?_eq_some_iff.1 hfh).1
  have hfn : ρ fb = none := by
    cases hh : ρ fb with
    | none => rfl
    | some c => have := h.fits fb (by rw [hh]; simp); omega
  have hfv : L.vf.ownBlock ≠ some fb := fun e => by have := h.rowF.2 fb e; rw [hfn] at this; cases this
  obtain ⟨hr1, he1, hk1⟩ := h0.rowF.append hown hgrow hat
  have hgf : fb ≠ gg := by
    rcases hat with hat | hat
    · rintro rfl; exact hfv hat
    · omega
  have p1 := hk1.only (p := fun c => c == 0 || c == 2) rfl
  have hblk := (h0.parts he1 (hk1.only (p := fun c => c == 2) rfl)).1 rfl
  have hbf : fb ≠ b := by have := h.blk.lt; omega
  obtain ⟨hs, hk2⟩ := hblk.store (i := 5) (v := .slice (some ⟨gg, 0, none⟩) (D.files.length + 1) cap)
  have p2 := p1.thoseTrans he1 (hk2.only (p := fun c => c == 0 || c == 2) rfl)
  have hf2 : (w1.setCell ⟨b, 5, none⟩ (.slice (some ⟨gg, 0, none⟩) (D.files.length + 1) cap)).heap[fb]? = some (.cells #[.string ⟨#[]⟩, .slice none 0 0] 100 (0, 0)) := by
    rw [Below.heap_setCell _ _ _ _ (by simpa using hbf), hgrow.block fb hfl (by intro e; exact hfv e.symm), hfh]
  -- the new file's colour
  have e2 : ∀ k, k ≠ fb → paint (paint ρ gg 2) fb (5 + 2 * D.files.length) k = paint ρ gg 2 k := fun k hk => paint_else _ hk
  have he3 : Ext w ρ (paint (paint ρ gg 2) fb (5 + 2 * D.files.length)) := fun k hk => by
    rw [e2 k (by omega)]
    exact he1 k (Nat.lt_of_lt_of_le hk hb0.size)
  have hk0 : Kept (Those (fun c => c == 0 || c == 2) ρ) w (w1.setCell ⟨b, 5, none⟩ (.slice (some ⟨gg, 0, none⟩) (D.files.length + 1) cap)) := (Kept.below hb0).then p2
  obtain ⟨-, q1, -, q3, q4, q5⟩ := h.parts he3 hk0
  refine ⟨paint (paint ρ gg 2) fb (5 + 2 * D.files.length), ⟨{ L with vf := .slice (some ⟨gg, 0, none⟩) (D.files.length + 1) cap, fs := L.fs ++ [(fb, .slice none 0 0)] }, ⟨⟨hs.1, by rw [e2 b hbf.symm]; exact hs.2⟩, q1 rfl, ?_, q3 rfl, q4 rfl, ?_, ?_, ?_⟩⟩, he3, hk0.those⟩
  · show Row _ _ _ _ _ _ (D.files ++ [Fl.fresh]).length ((L.fs ++ [(fb, Value.slice none 0 0)]).map fun f => Value.pointer (some ⟨f.1, 0, none⟩))
    have hr2 := hr1.keep (Ext.refl _ _) hk2 fun g hg => only_none (by rw [hg]; simp)
    rw [List.length_append, List.map_append]
    refine ⟨hr2.1, fun g hg => ?_⟩
    rw [e2 g ?_]
    · exact hr2.2 g hg
    · simp only [Value.ownBlock, Option.some.injEq] at hg
      rw [← hg]; exact hgf.symm
  · show (L.fs ++ [_]).length = (D.files ++ [Fl.fresh]).length
    rw [List.length_append, List.length_append, h.len]; rfl
  · intro i f F hf hF
    rcases get_snoc hf with ⟨hi, hf⟩ | ⟨hi, rfl⟩
    · rcases get_snoc hF with ⟨hj, hF⟩ | ⟨hj, rfl⟩
      · exact q5 i f F hf hF (by simp; omega) (by simp; omega)
      · rw [h.len] at hi; omega
    · rcases get_snoc hF with ⟨hj, hF⟩ | ⟨hj, rfl⟩
      · rw [h.len] at hi; omega
      · exact ⟨⟨hf2, by rw [hj]; exact paint_here _ _ _⟩, Row.nil _ _ _ _ _⟩
  · have hfit : Fits (w1.setCell ⟨b, 5, none⟩ (.slice (some ⟨gg, 0, none⟩) (D.files.length + 1) cap)) (paint ρ gg 2) := (((h.fits.more hb0.size).more hk1.size).paint hlt).more hk2.size
    exact hfit.paint (Nat.lt_of_lt_of_le hfl (Nat.le_trans hk1.size hk2.size))
end Go.Proofs.YthfcmgbkhjnfjaaGreatDoor
