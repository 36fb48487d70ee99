/- The library's functions on strings as the layer of lines calls them (one byte to look for, two blanks to trim): restated from the shelf in plain words. -/
import Derived.Test.YtboiaoaephimhaaDoorBPlain
import Derived.Test.YtboiaoaephimhaaDoorShelf
import Derived.Shelf.Strings.SlTrimAscii
import Derived.Handy
import Derived.Lib.Hide
import Derived.Deep.QuietTactic
import Derived.BigQuiet
import Derived.Outline
namespace Go.Proofs.YtboiaoaephimhaaDoor.B
open Go.RowKit

theorem index_contains (l : List UInt8) (c : UInt8) : decide (0 ≤ Lib.indexByte l c) = l.contains c := by
  rcases h : l.contains c with _ | _
  · rw [decide_eq_false]
    intro h0
    obtain ⟨o, ho⟩ := Int.eq_ofNat_of_zero_le h0
    have := (Lib.indexByte_some ho).1
    rw [contains_of_get _ _ _ this] at h
    cases h
  · rw [decide_eq_true]
    rcases Int.lt_or_le (Lib.indexByte l c) 0 with hl | hl
    · exfalso
      obtain ⟨i, hi, _⟩ := get_of_contains _ _ h
      have hge : -1 ≤ Lib.indexByte l c := Lib.indexByte_ge l c
      exact Lib.indexByte_none (by omega) i hi
    · exact hl
/-- The first place of a byte that is there. -/
theorem index_at (l : List UInt8) (c : UInt8) (h : l.contains c = true) : ∃ i : Nat, Lib.indexByte l c = i ∧ i < l.length ∧ l[i]? = some c ∧ Free c l i := by
  have h0 : 0 ≤ Lib.indexByte l c := by have := index_contains l c; rw [h] at this; simpa using this
  obtain ⟨o, ho⟩ := Int.eq_ofNat_of_zero_le h0
  obtain ⟨h1, h2⟩ := Lib.indexByte_some ho
  exact ⟨o, ho, (List.getElem?_eq_some_iff.1 h1).1, h1, fun j hj => h2 j hj⟩
theorem index_not (l : List UInt8) (c : UInt8) (h : l.contains c = false) : Lib.indexByte l c = -1 := by
  have h0 := index_contains l c
  rw [h] at h0
  have hge : -1 ≤ Lib.indexByte l c := Lib.indexByte_ge l c
  have : ¬ 0 ≤ Lib.indexByte l c := by simpa using h0
  omega

theorem strContains (s : ByteArray) (c : UInt8) (w : World) :
    Calls Tryd.prog 45 #[.string s, .string ⟨#[c]⟩] w fun e w' => e = .returned (.bool (has c s.data.toList)) ∧ w = w' :=
  (Tryd.strings_Contains_one s c w).mono fun e w' ⟨h1, h2⟩ => ⟨by rw [h1, index_contains]; rfl, h2.symm⟩
theorem strHasPrefix (s : ByteArray) (c : UInt8) (w : World) :
    Calls Tryd.prog 44 #[.string s, .string ⟨#[c]⟩] w fun e w' => e = .returned (.bool (begins c s.data.toList)) ∧ w = w' :=
  (Tryd.strings_HasPrefix s ⟨#[c]⟩ w).mono fun e w' ⟨h1, h2⟩ => ⟨by
    rw [h1]
    unfold begins Lib.hasPrefix
    cases s.data.toList with
    | nil => rfl
    | cons x t =>
      simp only [List.isPrefixOf, Bool.and_true]
      rw [Bool.eq_iff_iff.2 (by simp only [beq_iff_eq]; exact ⟨Eq.symm, Eq.symm⟩ : (c == x) = true ↔ (x == c) = true)], h2.symm⟩
/-- What strings.Cut gives at one byte. -/
def cut1 (c : UInt8) (l : List UInt8) : List UInt8 × List UInt8 × Bool := if l.contains c then (ahead c l, behind c l, true) else (l, [], false)
theorem ret3s {a b : ByteArray} {c : Bool} {t : List UInt8 × List UInt8 × Bool} (ht : t = (a.data.toList, b.data.toList, c)) :
    Ending.returned (.tuple #[.string a, .string b, .bool c]) = .returned (.tuple #[.string ⟨t.1.toArray⟩, .string ⟨t.2.1.toArray⟩, .bool t.2.2]) := by
  subst ht; simp only [Array.toArray_toList]
set_option maxHeartbeats 400000 in
theorem liteCut (s : ByteArray) (hs : s.size ≤ 9223372036854775807) (c : UInt8) (w : World) :
    Calls Tryd.prog 71 #[.string s, .string ⟨#[c]⟩] w fun e w' => e = .returned (.tuple #[.string ⟨(cut1 c s.data.toList).1.toArray⟩, .string ⟨(cut1 c s.data.toList).2.1.toArray⟩, .bool (cut1 c s.data.toList).2.2]) ∧ ∃ n, w' = w.drewN n := by
  have I := Tryd.stringslite_Index_one s c w
  rcases hc : s.data.toList.contains c with _ | _
  · rw [index_not _ _ hc] at I
    have H := Lib.hid hc
    clear hc
    go_enter Tryd.func71, Tryd.ntmps71
    go_wp2_with fail
    refine I.mono ?_
    rintro e w' ⟨rfl, rfl⟩
    clear I
    go_wp2
    go_ret3
    exact ⟨ret3s (by unfold cut1; rw [H.out]; rfl), 0, rfl⟩
  · obtain ⟨i, hi, hl, h1, h2⟩ := index_at _ _ hc
    rw [hi] at I
    rw [size_len] at hl
    have H := Lib.hid hc
    have H1 := Lib.hid h1
    clear hc hi h1
    have W1 : IntKind.i64.wrap ((i : Int) + 1) = (i : Int) + 1 := IntWalk.i64_in _ (by omega)
    have W2 : ((i : Int) + 1).toNat = i + 1 := by omega
    have W3 : 0 ≤ (i : Int) + 1 := by omega
    go_enter Tryd.func71, Tryd.ntmps71
    go_wp2_with fail
    refine I.mono ?_
    rintro e w' ⟨rfl, rfl⟩
    clear I
    go_wp2
    go_quiet (fail)
    go_wp2
    go_ret3
    exact ⟨ret3s (by unfold cut1; rw [H.out, ahead_eq_take _ _ _ H1.out h2, behind_eq_drop _ _ _ H1.out h2, extract_take, extract_drop]; rfl), _, rfl⟩
theorem strCut (s : ByteArray) (hs : s.size ≤ 9223372036854775807) (c : UInt8) (w : World) :
    Calls Tryd.prog 58 #[.string s, .string ⟨#[c]⟩] w fun e w' => e = .returned (.tuple #[.string ⟨(cut1 c s.data.toList).1.toArray⟩, .string ⟨(cut1 c s.data.toList).2.1.toArray⟩, .bool (cut1 c s.data.toList).2.2]) ∧ ∃ n, w' = w.drewN n := by
  go_enter Tryd.func58, Tryd.ntmps58
  go_wp2_with (go_at_call 71; refine (liteCut s hs c _).mono ?_; rintro e w' ⟨rfl, n, rfl⟩)
  go_ret3
  exact ⟨rfl, _, rfl⟩
theorem takeAll (p : UInt8 → Bool) (l : List UInt8) : ∀ x ∈ l.takeWhile p, p x = true := by
  induction l with
  | nil => simp
  | cons y t ih =>
    rcases h : p y with _ | _
    · simp [h]
    · simp only [List.takeWhile_cons, h, if_true, List.mem_cons]
      rintro x (rfl | hx)
      · exact h
      · exact ih x hx
theorem dropAll (p : UInt8 → Bool) (l : List UInt8) : l.dropWhile p = [] ↔ l.all p = true := by
  induction l with
  | nil => simp
  | cons x t ih =>
    rcases h : p x with _ | _ <;> simp [h, ih]
theorem trim_nil (l : List UInt8) : Lib.trimS l [32, 9] = [] ↔ l.all isBlank = true := by
  have hb : (fun c : UInt8 => ([32, 9] : List UInt8).contains c) = isBlank := by
    funext c; unfold isBlank; simp only [List.contains_cons, List.contains_nil, Bool.or_false]
  unfold Lib.trimS Lib.trimLeftS Lib.trimRightS
  rw [hb, dropAll, List.all_eq_true]
  constructor
  · intro h
    rw [List.all_eq_true]
    intro x hx
    rcases hbx : isBlank x with _ | _
    · exfalso
      have hm : x ∈ (l.reverse.dropWhile isBlank).reverse := by
        rw [List.mem_reverse]
        have hx' : x ∈ l.reverse.takeWhile isBlank ++ l.reverse.dropWhile isBlank := by rw [List.takeWhile_append_dropWhile]; simpa using hx
        rcases List.mem_append.1 hx' with hx' | hx'
        · have := takeAll isBlank _ x hx'; rw [hbx] at this; cases this
        · exact hx'
      have := h x hm
      rw [hbx] at this; cases this
    · rfl
  · intro h x hx
    have := (List.dropWhile_sublist isBlank (l := l.reverse)).mem (List.mem_reverse.1 hx)
    exact List.all_eq_true.1 h x (by simpa using this)
theorem strTrim (s : ByteArray) (hs : s.size ≤ 9223372036854775807) (w : World) :
    Calls Tryd.prog 72 #[.string s, .string ⟨#[32, 9]⟩] w fun e w' => (∃ t : List UInt8, e = .returned (.string ⟨t.toArray⟩) ∧ (t = [] ↔ s.data.toList.all isBlank = true)) ∧ Below w.heap.size w w' :=
  (Any.strings_Trim_laid Tryd.lays160 (by kernel_rfl) s ⟨#[32, 9]⟩ w hs (by decide) (ascii_of_all (by decide))).mono fun e w' ⟨h1, h2⟩ => ⟨⟨_, h1, trim_nil _⟩, h2⟩
end Go.Proofs.YtboiaoaephimhaaDoor.B
