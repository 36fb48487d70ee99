/- Names: which are good, and what is asked of them. -/
import Derived.Test.YtalonkenchcfbaaDoorFile
import Derived.Test.YtalonkenchcfbaaDoorShelf
import Derived.Shelf.Strings.SlTrimAscii
import Derived.Maps.OwnOps
namespace Go.Proofs.YtalonkenchcfbaaDoor
open Go.RowKit Go.Maps

theorem takeAll (p : UInt8 → Bool) (l : List UInt8) : ∀ x ∈ l.takeWhile p, p x = true := by
  induction l with
  | nil => simp
  | cons y t ih =>
    rcases h : p y with _ | _
    · simp [h]
    · simp only [List.takeWhile_cons, h, if_true, List.mem_cons]
      rintro x (rfl | hx)
      · exact h
      · exact ih x hx
theorem dropAll (p : UInt8 → Bool) (l : List UInt8) : l.dropWhile p = [] ↔ l.all p = true := by
  induction l with
  | nil => simp
  | cons x t ih =>
    rcases h : p x with _ | _ <;> simp [h, ih]
theorem trim_nil (l cs : List UInt8) : Lib.trimS l cs = [] ↔ (l.all fun c => cs.contains c) = true := by
  unfold Lib.trimS Lib.trimLeftS Lib.trimRightS
  rw [dropAll, List.all_eq_true]
  constructor
  · intro h
    rw [List.all_eq_true]
    intro x hx
    rcases hbx : cs.contains x with _ | _
    · exfalso
      have hm : x ∈ (l.reverse.dropWhile fun c => cs.contains c).reverse := by
        rw [List.mem_reverse]
        have hx' : x ∈ l.reverse.takeWhile (fun c => cs.contains c) ++ l.reverse.dropWhile (fun c => cs.contains c) := by rw [List.takeWhile_append_dropWhile]; simpa using hx
        rcases List.mem_append.1 hx' with hx' | hx'
        · have := takeAll _ _ x hx'; rw [hbx] at this; cases this
        · exact hx'
      have := h x hm
      rw [hbx] at this; cases this
    · rfl
  · intro h x hx
    have := (List.dropWhile_sublist (fun c => cs.contains c) (l := l.reverse)).mem (List.mem_reverse.1 hx)
    exact List.all_eq_true.1 h x (by simpa using this)
theorem retb {a b : Bool} (h : a = b) : Ending.returned (.bool a) = .returned (.bool b) := by rw [h]
/-- A trimmed text is empty where each byte is a letter. -/
def TrimPost (s : ByteArray) (w : World) (e : Ending) (w' : World) : Prop := ∃ t : ByteArray, e = .returned (.string t) ∧ (t.toList = [] ↔ (s.data.toList.all fun c => letters.contains c) = true) ∧ Below w.heap.size w w'
theorem trim_any (s : ByteArray) (hs : s.size ≤ 9223372036854775807) (w : World) :
    Calls Tryd.prog 65 #[.string s, .string ⟨#[97, 98, 99, 100, 101, 102, 103, 104, 105, 106, 107, 108, 109, 110, 111, 112, 113, 114, 115, 116, 117, 118, 119, 120, 121, 122, 48, 49, 50, 51, 52, 53, 54, 55, 56, 57, 46]⟩] w (TrimPost s w) :=
  (Any.strings_Trim_laid Tryd.lays160 (by kernel_rfl) s ⟨#[97, 98, 99, 100, 101, 102, 103, 104, 105, 106, 107, 108, 109, 110, 111, 112, 113, 114, 115, 116, 117, 118, 119, 120, 121, 122, 48, 49, 50, 51, 52, 53, 54, 55, 56, 57, 46]⟩ w hs (by decide) (ascii_of_all (by decide))).mono fun e w' ⟨h1, h2⟩ => ⟨_, h1, by rw [Lib.toList_data]; exact trim_nil _ letters, h2⟩
set_option maxHeartbeats 400000 in
theorem good_any (s : ByteArray) (hs : s.size ≤ 9223372036854775807) (w : World) :
    Calls Tryd.prog 48 #[.string s] w fun e w' => e = .returned (.bool (goodName s.data.toList)) ∧ Below w.heap.size w w' := by
  have T := Lib.hid (trim_any s hs w)
  have SZ : Hid (s.data.toList.length = s.size) := Lib.hid (by rw [Lib.size_eq])
  rcases Nat.eq_zero_or_pos s.size with h0 | h0
  · have e0 : s.toList = [] := by rw [Lib.toList_data]; exact List.length_eq_zero_iff.1 (by rw [SZ.out]; exact h0)
    have E0 := Lib.hid e0
    go_enter Tryd.func48, Tryd.ntmps48
    go_wp2_with fail
    go_ret
    exact ⟨retb (by unfold goodName; rw [← Lib.toList_data, E0.out]; rfl), Below.refl _ _⟩
  · have e0 : s.toList ≠ [] := by rw [Lib.toList_data]; intro e; have := SZ.out; rw [e] at this; simp at this; omega
    have E0 := Lib.hid e0
    have e1 : s.toList.isEmpty = false := by simpa using e0
    clear e0
    by_cases h20 : s.size ≤ 20
    · have h20' : (s.size : Int) ≤ 20 := by omega
      go_enter Tryd.func48, Tryd.ntmps48
      go_wp2_with fail
      refine T.out.mono ?_
      rintro e w' ⟨t, rfl, ht, hb⟩
      have HT := Lib.hid ht
      clear ht
      go_wp2_with fail
      go_ret
      refine ⟨retb ?_, hb⟩
      have e2 : goodName s.data.toList = s.data.toList.all fun c => letters.contains c := by
        unfold goodName
        rw [SZ.out, decide_eq_true h20, ← Lib.toList_data, e1]
        simp
      rw [e2, Bool.eq_iff_iff, List.isEmpty_iff]
      exact HT.out
    · have h20' : 20 < (s.size : Int) := by omega
      go_enter Tryd.func48, Tryd.ntmps48
      go_wp2_with fail
      go_ret
      exact ⟨retb (by unfold goodName; rw [SZ.out, decide_eq_false h20]; simp), Below.refl _ _⟩
theorem bad_any (s : ByteArray) (hs : s.size ≤ 9223372036854775807) (w : World) :
    Calls Tryd.prog 47 #[.string s] w fun e w' => e = .returned (.bool (!goodName s.data.toList)) ∧ Below w.heap.size w w' := by
  have T := Lib.hid (good_any s hs w)
  go_enter Tryd.func47, Tryd.ntmps47
  go_wp2_with fail
  refine T.out.mono ?_
  rintro e w' ⟨rfl, hb⟩
  go_wp2_with fail
  go_ret
  exact ⟨rfl, hb⟩
/-- The first bad name's place, or -1. -/
def badAt (zs : List ByteArray) : Int := if zs.any (fun s => !goodName s.data.toList) then 0 else -1
def IdxPost (zs : List ByteArray) (w : World) (e : Ending) (w' : World) : Prop := ∃ i : Int, e = .returned (.int .i64 i) ∧ (0 ≤ i ↔ (zs.any fun s => !goodName s.data.toList) = true) ∧ -1 ≤ i ∧ i ≤ 1000 ∧ Below w.heap.size w w'
/-- The names lie in a row of strings. -/
def NamesAt (w : World) (v : Value) (zs : List ByteArray) : Prop := ∃ ao c, v = .slice ao zs.length c ∧ zs.length ≤ 1000 ∧ (∀ s ∈ zs, s.size ≤ 9223372036854775807) ∧ ∀ k s, zs[k]? = some s → ∃ g o, ao = some ⟨g, o, none⟩ ∧ g < w.heap.size ∧ w.cell? ⟨g, o + k, none⟩ = some (.string s)
theorem any_false_take {zs : List ByteArray} {p : ByteArray → Bool} {k : Nat} {s : ByteArray} (h : (zs.take k).any p = false) (hs : zs[k]? = some s) (hp : p s = false) : (zs.take (k + 1)).any p = false := by
  rw [List.take_add_one, hs]; simp only [Option.toList_some, List.any_append, h, List.any_cons, hp, List.any_nil, Bool.or_self]
set_option maxHeartbeats 800000 in
theorem idx_any (v : Value) (zs : List ByteArray) (w : World) (h : NamesAt w v zs) :
    Calls Tryd.prog 64 #[v, .func (.func 47) #[] #[]] w (IdxPost zs w) := by
  obtain ⟨ao, c, rfl, hn, hz, hc⟩ := h
  have HC := Lib.hid hc
  have HZ := Lib.hid hz
  clear hc hz
  go_enter Tryd.func64, Tryd.ntmps64
  go_wp2_with fail
  go_loopw [8] (fun i wr => ∃ k : Nat, i = .int .i64 k ∧ k ≤ zs.length ∧ Hid ((zs.take k).any (fun s => !goodName s.data.toList) = false) ∧ Hid (Below w.heap.size w wr)) (fun i _ => zs.length - (intOf i).toNat)
  case atStart => exact ⟨0, rfl, Nat.zero_le _, rfl, Below.refl _ _⟩
  case round =>
    obtain ⟨k, rfl, hk, ha, hb⟩ := hrel
    by_cases hlt : k < zs.length
    · obtain ⟨s, hs⟩ : ∃ s, zs[k]? = some s := ⟨_, List.getElem?_eq_getElem hlt⟩
      obtain ⟨g, o, rfl, hg, hcell⟩ := HC.out k s hs
      have n0 : wr.cell? ⟨g, o + k, none⟩ = some (.string s) := (hb.out.cell (p := ⟨g, o + k, none⟩) hg).trans hcell
      have B0 := bad_any s (HZ.out s (List.mem_of_getElem? hs)) wr
      have HS := Lib.hid hs
      clear hs hcell
      cases hgd : goodName s.data.toList with
      | true =>
        rw [hgd] at B0
        have B := Lib.hid B0
        have HG := Lib.hid hgd
        clear B0 hgd
        go_wp2_with fail
        refine B.out.mono ?_
        rintro e w2 ⟨rfl, b2⟩
        have B2 := Lib.hid b2
        clear b2
        go_wp2_with fail
        go_roundw
        case rel => exact ⟨k + 1, by go_num, by omega, any_false_take ha.out HS.out (by rw [HG.out]; rfl), hb.out.trans (B2.out.mono hb.out.size)⟩
        case measure => simp [intOf]; omega
      | false =>
        rw [hgd] at B0
        have B := Lib.hid B0
        have HG := Lib.hid hgd
        clear B0 hgd
        go_wp2_with fail
        refine B.out.mono ?_
        rintro e w2 ⟨rfl, b2⟩
        have B2 := Lib.hid b2
        clear b2
        go_wp2_with fail
        go_ret
        refine ⟨k, rfl, ⟨fun _ => ?_, fun _ => by omega⟩, by omega, by omega, hb.out.trans (B2.out.mono hb.out.size)⟩
        rw [List.any_eq_true]
        exact ⟨s, List.mem_of_getElem? HS.out, by rw [HG.out]; rfl⟩
    · go_wp2_with fail
      go_ret
      refine ⟨-1, rfl, ⟨fun h => by omega, fun h => ?_⟩, by omega, by omega, hb.out⟩
      have := ha.out
      rw [List.take_of_length_le (by omega), h] at this
      cases this
theorem contains_any (v : Value) (zs : List ByteArray) (w : World) (h : NamesAt w v zs) :
    Calls Tryd.prog 46 #[v, .func (.func 47) #[] #[]] w fun e w' => e = .returned (.bool (zs.any fun s => !goodName s.data.toList)) ∧ Below w.heap.size w w' := by
  have I := Lib.hid (idx_any v zs w h)
  clear h
  go_enter Tryd.func46, Tryd.ntmps46
  go_wp2_with fail
  refine I.out.mono ?_
  rintro e w' ⟨i, rfl, hi, h0, h1, hb⟩
  have HI := Lib.hid hi
  clear hi
  go_wp2_with fail
  go_ret
  refine ⟨retb ?_, hb⟩
  rw [Bool.eq_iff_iff, decide_eq_true_iff]
  exact HI.out
theorem names_none (w : World) : NamesAt w (.slice none 0 0) [] := ⟨none, 0, rfl, by simp, by simp, by simp⟩
/-- Which error a question about these names ends in. -/
def Dk.askedN (D : Dk) (zs : List ByteArray) : Nat := if zs.any (fun s => !goodName s.data.toList) then 1 else if D.gone then 3 else 0
set_option maxHeartbeats 400000 in
theorem asked_any (v : Value) (zs : List ByteArray) (w : World) (h : NamesAt w v zs) (b : Nat) (D : Dk) (hb : b < w.heap.size) (hg : w.cell? ⟨b, 3, none⟩ = some (.bool D.gone)) :
    Calls Tryd.prog 25 #[.pointer (some ⟨b, 0, none⟩), v] w fun e w' => e = .returned (errV (D.askedN zs)) ∧ Below w.heap.size w w' := by
  have C := contains_any v zs w h
  clear h
  unfold Dk.askedN
  obtain ⟨go, hgo⟩ : ∃ go, D.gone = go := ⟨_, rfl⟩
  rw [hgo] at hg ⊢
  cases ha : zs.any (fun s => !goodName s.data.toList) with
  | true =>
    rw [ha] at C
    have C' := Lib.hid C
    clear C ha hgo
    go_enter Tryd.func25, Tryd.ntmps25
    go_wp2_with fail
    refine C'.out.mono ?_
    rintro e w' ⟨rfl, hb'⟩
    go_wp2_with fail
    go_ret
    exact ⟨rfl, hb'⟩
  | false =>
    rw [ha] at C
    have C' := Lib.hid C
    clear C ha hgo
    cases go with
    | true =>
      go_enter Tryd.func25, Tryd.ntmps25
      go_wp2_with fail
      refine C'.out.mono ?_
      rintro e w' ⟨rfl, hb'⟩
      have g3 := (hb'.cell (p := ⟨b, 3, none⟩) hb).trans hg
      go_wp2_with fail
      go_ret
      exact ⟨rfl, hb'⟩
    | false =>
      go_enter Tryd.func25, Tryd.ntmps25
      go_wp2_with fail
      refine C'.out.mono ?_
      rintro e w' ⟨rfl, hb'⟩
      have g3 := (hb'.cell (p := ⟨b, 3, none⟩) hb).trans hg
      go_wp2_with fail
      go_ret
      exact ⟨rfl, hb'⟩
end Go.Proofs.YtalonkenchcfbaaDoor
