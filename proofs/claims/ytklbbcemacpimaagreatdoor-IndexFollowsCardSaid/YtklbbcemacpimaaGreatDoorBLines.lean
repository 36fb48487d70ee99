/- The library's functions on strings as the layer of lines calls them (one byte to look for, two blanks to trim): restated from the shelf in plain words. The layer of lines: blank, Key, Kind, Cut: each returns the plain function of XPlain; nothing that was there before the call has changed. -/
import Derived.Test.YtklbbcemacpimaaGreatDoorBPlain
import Derived.Test.YtklbbcemacpimaaGreatDoorShelf
import Derived.Shelf.Strings.SlTrimAscii
import Derived.Handy
import Derived.Lib.Hide
import Derived.Deep.QuietTactic
import Derived.BigQuiet
import Derived.Outline
namespace Go.Proofs.YtklbbcemacpimaaGreatDoor.B
open Go.RowKit

theorem index_contains (l : List UInt8) (c : UInt8) : decide (0 ≤ Lib.indexByte l c) = l.contains c := by
  rcases h : l.contains c with _ | _
  · rw [decide_eq_false]
    intro h0
    obtain ⟨o, ho⟩ := Int.eq_ofNat_of_zero_le h0
    have := (Lib.indexByte_some ho).1
    rw [contains_of_get _ _ _ this] at h
    cases h
  · rw [decide_eq_true]
    rcases Int.lt_or_le (Lib.indexByte l c) 0 with hl | hl
    · exfalso
      obtain ⟨i, hi, _⟩ := get_of_contains _ _ h
      have hge : -1 ≤ Lib.indexByte l c := Lib.indexByte_ge l c
      exact Lib.indexByte_none (by omega) i hi
    · exact hl
/-- The first place of a byte that is there. -/
theorem index_at (l : List UInt8) (c : UInt8) (h : l.contains c = true) : ∃ i : Nat, Lib.indexByte l c = i ∧ i < l.length ∧ l[i]? = some c ∧ Free c l i := by
  have h0 : 0 ≤ Lib.indexByte l c := by have := index_contains l c; rw [h] at this; simpa using this
  obtain ⟨o, ho⟩ := Int.eq_ofNat_of_zero_le h0
  obtain ⟨h1, h2⟩ := Lib.indexByte_some ho
  exact ⟨o, ho, (List.getElem?_eq_some_iff.1 h1).1, h1, fun j hj => h2 j hj⟩
theorem index_not (l : List UInt8) (c : UInt8) (h : l.contains c = false) : Lib.indexByte l c = -1 := by
  have h0 := index_contains l c
  rw [h] at h0
  have hge : -1 ≤ Lib.indexByte l c := Lib.indexByte_ge l c
  have : ¬ 0 ≤ Lib.indexByte l c := by simpa using h0
  omega

theorem strContains (s : ByteArray) (c : UInt8) (w : World) :
    Calls Tryz.prog 80 #[.string s, .string ⟨#[c]⟩] w fun e w' => e = .returned (.bool (has c s.data.toList)) ∧ w = w' :=
  (Tryz.strings_Contains_one s c w).mono fun e w' ⟨h1, h2⟩ => ⟨by rw [h1, index_contains]; rfl, h2.symm⟩
theorem strHasPrefix (s : ByteArray) (c : UInt8) (w : World) :
    Calls Tryz.prog 82 #[.string s, .string ⟨#[c]⟩] w fun e w' => e = .returned (.bool (begins c s.data.toList)) ∧ w = w' :=
  (Tryz.strings_HasPrefix s ⟨#[c]⟩ w).mono fun e w' ⟨h1, h2⟩ => ⟨by
    rw [h1]
    unfold begins Lib.hasPrefix
    cases s.data.toList with
    | nil => rfl
    | cons x t =>
      simp only [List.isPrefixOf, Bool.and_true]
      rw [Bool.eq_iff_iff.2 (by simp only [beq_iff_eq]; exact ⟨Eq.symm, Eq.symm⟩ : (c == x) = true ↔ (x == c) = true)], h2.symm⟩
/-- What strings.Cut gives at one byte. -/
def cut1 (c : UInt8) (l : List UInt8) : List UInt8 × List UInt8 × Bool := if l.contains c then (ahead c l, behind c l, true) else (l, [], false)
theorem ret3s {a b : ByteArray} {c : Bool} {t : List UInt8 × List UInt8 × Bool} (ht : t = (a.data.toList, b.data.toList, c)) :
    Ending.returned (.tuple #[.string a, .string b, .bool c]) = .returned (.tuple #[.string ⟨t.1.toArray⟩, .string ⟨t.2.1.toArray⟩, .bool t.2.2]) := by
  subst ht; simp only [Array.toArray_toList]
set_option maxHeartbeats 400000 in
theorem liteCut (s : ByteArray) (hs : s.size ≤ 9223372036854775807) (c : UInt8) (w : World) :
    Calls Tryz.prog 79 #[.string s, .string ⟨#[c]⟩] w fun e w' => e = .returned (.tuple #[.string ⟨(cut1 c s.data.toList).1.toArray⟩, .string ⟨(cut1 c s.data.toList).2.1.toArray⟩, .bool (cut1 c s.data.toList).2.2]) ∧ ∃ n, w' = w.drewN n := by
  have I := Tryz.stringslite_Index_one s c w
  rcases hc : s.data.toList.contains c with _ | _
  · rw [index_not _ _ hc] at I
    have H := Lib.hid hc
    clear hc
    go_enter Tryz.func79, Tryz.ntmps79
    go_wp2_with fail
    refine I.mono ?_
    rintro e w' ⟨rfl, rfl⟩
    clear I
    go_wp2
    go_ret3
    exact ⟨ret3s (by unfold cut1; rw [H.out]; rfl), 0, rfl⟩
  · obtain ⟨i, hi, hl, h1, h2⟩ := index_at _ _ hc
    rw [hi] at I
    rw [size_len] at hl
    have H := Lib.hid hc
    have H1 := Lib.hid h1
    clear hc hi h1
    have W1 : IntKind.i64.wrap ((i : Int) + 1) = (i : Int) + 1 := IntWalk.i64_in _ (by omega)
    have W2 : ((i : Int) + 1).toNat = i + 1 := by omega
    have W3 : 0 ≤ (i : Int) + 1 := by omega
    go_enter Tryz.func79, Tryz.ntmps79
    go_wp2_with fail
    refine I.mono ?_
    rintro e w' ⟨rfl, rfl⟩
    clear I
    go_wp2
    go_quiet (fail)
    go_wp2
    go_ret3
    exact ⟨ret3s (by unfold cut1; rw [H.out, ahead_eq_take _ _ _ H1.out h2, behind_eq_drop _ _ _ H1.out h2, extract_take, extract_drop]; rfl), _, rfl⟩
theorem strCut (s : ByteArray) (hs : s.size ≤ 9223372036854775807) (c : UInt8) (w : World) :
    Calls Tryz.prog 62 #[.string s, .string ⟨#[c]⟩] w fun e w' => e = .returned (.tuple #[.string ⟨(cut1 c s.data.toList).1.toArray⟩, .string ⟨(cut1 c s.data.toList).2.1.toArray⟩, .bool (cut1 c s.data.toList).2.2]) ∧ ∃ n, w' = w.drewN n := by
  go_enter Tryz.func62, Tryz.ntmps62
  go_wp2_with (go_at_call 79; refine (liteCut s hs c _).mono ?_; rintro e w' ⟨rfl, n, rfl⟩)
  go_ret3
  exact ⟨rfl, _, rfl⟩
theorem takeAll (p : UInt8 → Bool) (l : List UInt8) : ∀ x ∈ l.takeWhile p, p x = true := by
  induction l with
  | nil => simp
  | cons y t ih =>
    rcases h : p y with _ | _
    · simp [h]
    · simp only [List.takeWhile_cons, h, if_true, List.mem_cons]
      rintro x (rfl | hx)
      · exact h
      · exact ih x hx
theorem dropAll (p : UInt8 → Bool) (l : List UInt8) : l.dropWhile p = [] ↔ l.all p = true := by
  induction l with
  | nil => simp
  | cons x t ih =>
    rcases h : p x with _ | _ <;> simp [h, ih]
theorem trim_nil (l : List UInt8) : Lib.trimS l [32, 9] = [] ↔ l.all isBlank = true := by
  have hb : (fun c : UInt8 => ([32, 9] : List UInt8).contains c) = isBlank := by
    funext c; unfold isBlank; simp only [List.contains_cons, List.contains_nil, Bool.or_false]
  unfold Lib.trimS Lib.trimLeftS Lib.trimRightS
  rw [hb, dropAll, List.all_eq_true]
  constructor
  · intro h
    rw [List.all_eq_true]
    intro x hx
    rcases hbx : isBlank x with _ | _
    · exfalso
      have hm : x ∈ (l.reverse.dropWhile isBlank).reverse := by
        rw [List.mem_reverse]
        have hx' : x ∈ l.reverse.takeWhile isBlank ++ l.reverse.dropWhile isBlank := by rw [List.takeWhile_append_dropWhile]; simpa using hx
        rcases List.mem_append.1 hx' with hx' | hx'
        · have := takeAll isBlank _ x hx'; rw [hbx] at this; cases this
        · exact hx'
      have := h x hm
      rw [hbx] at this; cases this
    · rfl
  · intro h x hx
    have := (List.dropWhile_sublist isBlank (l := l.reverse)).mem (List.mem_reverse.1 hx)
    exact List.all_eq_true.1 h x (by simpa using this)
theorem strTrim (s : ByteArray) (hs : s.size ≤ 9223372036854775807) (w : World) :
    Calls Tryz.prog 81 #[.string s, .string ⟨#[32, 9]⟩] w fun e w' => (∃ t : List UInt8, e = .returned (.string ⟨t.toArray⟩) ∧ (t = [] ↔ s.data.toList.all isBlank = true)) ∧ Below w.heap.size w w' :=
  (Any.strings_Trim_laid Tryz.lays160 (by kernel_rfl) s ⟨#[32, 9]⟩ w hs (by decide) (ascii_of_all (by decide))).mono fun e w' ⟨h1, h2⟩ => ⟨⟨_, h1, trim_nil _⟩, h2⟩
end Go.Proofs.YtklbbcemacpimaaGreatDoor.B

namespace Go.Proofs.YtklbbcemacpimaaGreatDoor.B
open Go.RowKit

theorem retb' {a b : Bool} (h : b = a) : Ending.returned (.bool a) = .returned (.bool b) := by rw [h]
theorem reti {a b : Int} (h : b = a) : Ending.returned (.int .i64 a) = .returned (.int .i64 b) := by rw [h]
theorem extract1 (s : ByteArray) (h : 0 < s.size) : s.extract 0 1 = ⟨#[s[0]]⟩ := by
  obtain ⟨t, ht⟩ := data_cons s h
  rw [extract_take, ht]; rfl
theorem nil_of_size (s : ByteArray) (h : ¬ 0 < s.size) : s.data.toList = [] := by
  rw [← List.length_eq_zero_iff, size_len]; omega
theorem toList_nil (s : ByteArray) : s.toList = s.data.toList := Lib.toList_data s
theorem blank_any (s : ByteArray) (w : World) :
    Calls Tryz.prog 83 #[.string s] w fun e w' => e = .returned (.bool (blankHead s.data.toList)) ∧ w = w' := by
  by_cases h : 0 < s.size
  · obtain ⟨t, ht⟩ := data_cons s h
    have T := Lib.hid ht
    have R := strContains ⟨#[32, 9]⟩ s[0] w
    rw [← extract1 s h] at R
    have hne : ¬ s.toList = [] := by rw [toList_nil, ht]; simp
    have hne2 : s.toList.isEmpty = false := by rw [toList_nil, ht]; rfl
    clear ht
    have h1 : 1 ≤ s.size := h
    go_enter Tryz.func83, Tryz.ntmps83
    go_wp2_with fail
    refine R.mono ?_
    rintro e w' ⟨rfl, rfl⟩
    clear R
    go_wp2
    go_ret
    exact ⟨retb' (by rw [T.out]; unfold has blankHead isBlank; simp only [List.contains_cons, List.contains_nil, Bool.or_false]), rfl⟩
  · have hn := nil_of_size s h
    have T := Lib.hid hn
    have hne : s.toList = [] := by rw [toList_nil, hn]
    have hne2 : s.toList.isEmpty = true := by rw [toList_nil, hn]; rfl
    clear hn
    go_enter Tryz.func83, Tryz.ntmps83
    go_wp2
    go_ret
    exact ⟨retb' (by rw [T.out]; rfl), rfl⟩
set_option maxHeartbeats 400000 in
theorem key_any (s : ByteArray) (w : World) :
    Calls Tryz.prog 84 #[.string s] w fun e w' => e = .returned (.bool (goodKey s.data.toList)) ∧ w = w' := by
  have S := Lib.hid (size_len s)
  have L := Lib.hid (toList_nil s)
  go_enter Tryz.func84, Tryz.ntmps84
  go_wp2_with (first | (go_at_call 83; refine (blank_any _ _).mono ?_; rintro e w' ⟨rfl, rfl⟩) | (go_at_call 82; refine (strHasPrefix _ _ _).mono ?_; rintro e w' ⟨rfl, rfl⟩) | (go_at_call 80; refine (strContains _ _ _).mono ?_; rintro e w' ⟨rfl, rfl⟩))
  · have h : s.toList = [] := by assumption
    go_ret
    exact ⟨retb' (by rw [goodKey_eq, ← L.out, h]; rfl), rfl⟩
  · have h : blankHead s.data.toList = true := by assumption
    go_ret
    exact ⟨retb' (by rw [goodKey_eq, h]; simp), rfl⟩
  · have h0 : (s.size : Int) ≤ 32 := by assumption
    have h1 : ¬ s.toList = [] := by assumption
    have h : (s.toList.isEmpty = true ∨ 32 < (s.size : Int)) ∨ begins 35 s.data.toList = true := by assumption
    have h2 : begins 35 s.data.toList = true := by
      rcases h with (h | h) | h
      · exact absurd (by simpa using h) h1
      · omega
      · exact h
    go_ret
    exact ⟨retb' (by rw [goodKey_eq, h2]; simp), rfl⟩
  · have h : has 58 s.data.toList = true := by assumption
    go_ret
    exact ⟨retb' (by rw [goodKey_eq, h]; simp), rfl⟩
  · have h0 : (s.size : Int) ≤ 32 := by assumption
    have h1 : ¬ s.toList = [] := by assumption
    have h2 : ¬ blankHead s.data.toList = true := by assumption
    have h3 : (s.toList.isEmpty = false ∧ (s.size : Int) ≤ 32) ∧ begins 35 s.data.toList = false := by assumption
    have h4 : ¬ has 58 s.data.toList = true := by assumption
    have h5 : s.data.toList.length ≤ 32 := by rw [S.out]; omega
    go_ret
    exact ⟨retb' (by rw [goodKey_eq, h3.2, ← L.out, h3.1.1, L.out, decide_eq_true h5, Bool.eq_false_iff.2 h2, Bool.eq_false_iff.2 h4]; simp), rfl⟩
  · have h0 : 32 < (s.size : Int) := by assumption
    have h5 : ¬ s.data.toList.length ≤ 32 := by rw [S.out]; omega
    go_ret
    exact ⟨retb' (by rw [goodKey_eq, decide_eq_false h5]; simp), rfl⟩
theorem cut1_yes {c : UInt8} {l : List UInt8} (h : (cut1 c l).2.2 = true) : has c l = true ∧ (cut1 c l).1 = ahead c l := by
  unfold cut1 at *
  rcases hc : l.contains c with _ | _
  · rw [hc] at h; cases h
  · exact ⟨hc, rfl⟩
theorem cut1_no {c : UInt8} {l : List UInt8} (h : ¬ (cut1 c l).2.2 = true) : has c l = false := by
  unfold cut1 at *
  rcases hc : l.contains c with _ | _
  · exact hc
  · rw [hc] at h; exact absurd rfl h
theorem below_dn {B : Nat} {a w : World} (h : Below B a w) (n : Nat) : Below B a (w.drewN n) := h.trans ⟨rfl, rfl, rfl, Nat.le_refl _, fun _ _ => rfl⟩
set_option maxHeartbeats 400000 in
theorem kind_any (s : ByteArray) (hs : s.size ≤ 9223372036854775807) (w : World) :
    Calls Tryz.prog 63 #[.string s] w fun e w' => e = .returned (.int .i64 (kindOf s.data.toList)) ∧ Below w.heap.size w w' := by
  go_enter Tryz.func63, Tryz.ntmps63
  go_wp2_with (first | (go_at_call 83; refine (blank_any _ _).mono ?_; rintro e w' ⟨rfl, rfl⟩) | (go_at_call 82; refine (strHasPrefix _ _ _).mono ?_; rintro e w' ⟨rfl, rfl⟩) | (go_at_call 80; refine (strContains _ _ _).mono ?_; rintro e w' ⟨rfl, rfl⟩) | (go_at_call 81; refine (strTrim _ hs _).mono ?_; rintro e w' ⟨⟨t, rfl, ht⟩, hb⟩) | (go_at_call 62; refine (strCut _ hs _ _).mono ?_; rintro e w' ⟨rfl, n, rfl⟩) | (go_at_call 84; refine (key_any _ _).mono ?_; rintro e w' ⟨rfl, rfl⟩))
  · have h1 : has 10 s.data.toList = true := by assumption
    go_ret
    exact ⟨reti (by rw [kindOf_eq, h1]; rfl), by go_grown⟩
  · have h1 : has 10 s.data.toList = false := by assumption
    have h2 : t.isEmpty = true := by assumption
    have h3 : s.data.toList.all isBlank = true := ht.1 (by simpa using h2)
    go_ret
    exact ⟨reti (by rw [kindOf_eq, h1, h3]; rfl), by go_grown⟩
  all_goals have h1 : has 10 s.data.toList = false := by assumption
  all_goals have h2 : t.isEmpty = false := by assumption
  all_goals have h3 : s.data.toList.all isBlank = false := by rw [Bool.eq_false_iff]; intro h; rw [ht.2 h] at h2; cases h2
  · have h4 : begins 35 s.data.toList = true := by assumption
    go_ret
    exact ⟨reti (by rw [kindOf_eq, h1, h3, h4]; rfl), by go_grown⟩
  all_goals have h4 : begins 35 s.data.toList = false := by assumption
  · have h5 : blankHead s.data.toList = true := by assumption
    go_ret
    exact ⟨reti (by rw [kindOf_eq, h1, h3, h4, h5]; rfl), by go_grown⟩
  all_goals have h5 : blankHead s.data.toList = false := by assumption
  · have h6 : (cut1 58 s.data.toList).2.2 = true := by assumption
    have h7 : goodKey (cut1 58 s.data.toList).1 = true := by assumption
    obtain ⟨h8, h9⟩ := cut1_yes h6
    rw [h9] at h7
    go_ret
    exact ⟨reti (by rw [kindOf_eq, h1, h3, h4, h5, h8, h7]; rfl), below_dn hb n⟩
  · have h6 : (cut1 58 s.data.toList).2.2 = true := by assumption
    have h7 : goodKey (cut1 58 s.data.toList).1 = false := by assumption
    obtain ⟨h8, h9⟩ := cut1_yes h6
    rw [h9] at h7
    go_ret
    exact ⟨reti (by rw [kindOf_eq, h1, h3, h4, h5, h8, h7]; rfl), below_dn hb n⟩
  · have h6 : ¬ (cut1 58 s.data.toList).2.2 = true := by assumption
    have h8 := cut1_no h6
    go_ret
    exact ⟨reti (by rw [kindOf_eq, h1, h3, h4, h5, h8]; rfl), below_dn hb n⟩
/-- What a line's key is and what stands behind the colon. -/
def lineCut (l : List UInt8) : List UInt8 × List UInt8 × Bool := if kindOf l = 4 then (ahead 58 l, behind 58 l, true) else ([], [], false)
theorem kind4 {l : List UInt8} (h : kindOf l = 4) : has 58 l = true ∧ has 10 l = false ∧ goodKey (ahead 58 l) = true := by
  rw [kindOf_eq] at h
  rcases h1 : has 10 l with _ | _ <;> rcases h2 : l.all isBlank with _ | _ <;> rcases h3 : begins 35 l with _ | _ <;> rcases h4 : blankHead l with _ | _ <;> rcases h5 : has 58 l with _ | _ <;> rcases h6 : goodKey (ahead 58 l) with _ | _ <;> rw [h1, h2, h3, h4, h5, h6] at h <;> simp_all
theorem cut1_of {c : UInt8} {l : List UInt8} (h : has c l = true) : cut1 c l = (ahead c l, behind c l, true) := by
  unfold cut1; rw [show l.contains c = true from h]; rfl
set_option maxHeartbeats 400000 in
theorem cut_any (s : ByteArray) (hs : s.size ≤ 9223372036854775807) (w : World) :
    Calls Tryz.prog 115 #[.string s] w fun e w' => e = .returned (.tuple #[.string ⟨(lineCut s.data.toList).1.toArray⟩, .string ⟨(lineCut s.data.toList).2.1.toArray⟩, .bool (lineCut s.data.toList).2.2]) ∧ Below w.heap.size w w' := by
  have K := fun w => kind_any s hs w
  by_cases h4 : kindOf s.data.toList = 4
  · rw [h4] at K
    have H := Lib.hid h4
    clear h4
    have C := cut1_of (kind4 H.out).1
    have R := fun w => strCut s hs 58 w
    rw [C] at R
    have K' := Lib.hid K
    have R' := Lib.hid R
    clear K R C
    go_enter Tryz.func115, Tryz.ntmps115
    go_wp2_with (first | (go_at_call 63; refine (K'.out _).mono ?_; rintro e w' ⟨rfl, hb⟩) | (go_at_call 62; refine (R'.out _).mono ?_; rintro e w' ⟨rfl, n, rfl⟩))
    go_ret3
    exact ⟨ret3s (by unfold lineCut; rw [if_pos H.out]), below_dn hb n⟩
  · have H := Lib.hid h4
    have hne : ¬ (kindOf s.data.toList : Int) = 4 := by omega
    clear h4
    have K' := Lib.hid K
    clear K
    go_enter Tryz.func115, Tryz.ntmps115
    go_wp2_with (go_at_call 63; refine (K'.out _).mono ?_; rintro e w' ⟨rfl, hb⟩)
    go_ret3
    exact ⟨ret3s (by unfold lineCut; rw [if_neg H.out]), hb⟩
theorem below_cat {a b c : World} (h : Below a.heap.size a b) (k : Below b.heap.size b c) : Below a.heap.size a c := h.trans (k.mono h.size)
end Go.Proofs.YtklbbcemacpimaaGreatDoor.B
