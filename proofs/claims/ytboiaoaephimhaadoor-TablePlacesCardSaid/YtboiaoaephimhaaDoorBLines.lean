/- The layer of lines: blank, Key, Kind, Cut: each returns the plain function of XPlain; nothing that was there before the call has changed. -/
import Derived.Test.YtboiaoaephimhaaDoorBStr
namespace Go.Proofs.YtboiaoaephimhaaDoor.B
open Go.RowKit

theorem retb' {a b : Bool} (h : b = a) : Ending.returned (.bool a) = .returned (.bool b) := by rw [h]
theorem reti {a b : Int} (h : b = a) : Ending.returned (.int .i64 a) = .returned (.int .i64 b) := by rw [h]
theorem extract1 (s : ByteArray) (h : 0 < s.size) : s.extract 0 1 = ⟨#[s[0]]⟩ := by
  obtain ⟨t, ht⟩ := data_cons s h
  rw [extract_take, ht]; rfl
theorem nil_of_size (s : ByteArray) (h : ¬ 0 < s.size) : s.data.toList = [] := by
  rw [← List.length_eq_zero_iff, size_len]; omega
theorem toList_nil (s : ByteArray) : s.toList = s.data.toList := Lib.toList_data s
theorem blank_any (s : ByteArray) (w : World) :
    Calls Tryd.prog 43 #[.string s] w fun e w' => e = .returned (.bool (blankHead s.data.toList)) ∧ w = w' := by
  by_cases h : 0 < s.size
  · obtain ⟨t, ht⟩ := data_cons s h
    have T := Lib.hid ht
    have R := strContains ⟨#[32, 9]⟩ s[0] w
    rw [← extract1 s h] at R
    have hne : ¬ s.toList = [] := by rw [toList_nil, ht]; simp
    have hne2 : s.toList.isEmpty = false := by rw [toList_nil, ht]; rfl
    clear ht
    have h1 : 1 ≤ s.size := h
    go_enter Tryd.func43, Tryd.ntmps43
    go_wp2_with fail
    refine R.mono ?_
    rintro e w' ⟨rfl, rfl⟩
    clear R
    go_wp2
    go_ret
    exact ⟨retb' (by rw [T.out]; unfold has blankHead isBlank; simp only [List.contains_cons, List.contains_nil, Bool.or_false]), rfl⟩
  · have hn := nil_of_size s h
    have T := Lib.hid hn
    have hne : s.toList = [] := by rw [toList_nil, hn]
    have hne2 : s.toList.isEmpty = true := by rw [toList_nil, hn]; rfl
    clear hn
    go_enter Tryd.func43, Tryd.ntmps43
    go_wp2
    go_ret
    exact ⟨retb' (by rw [T.out]; rfl), rfl⟩
set_option maxHeartbeats 400000 in
theorem key_any (s : ByteArray) (w : World) :
    Calls Tryd.prog 28 #[.string s] w fun e w' => e = .returned (.bool (goodKey s.data.toList)) ∧ w = w' := by
  have S := Lib.hid (size_len s)
  have L := Lib.hid (toList_nil s)
  go_enter Tryd.func28, Tryd.ntmps28
  go_wp2_with (first | (go_at_call 43; refine (blank_any _ _).mono ?_; rintro e w' ⟨rfl, rfl⟩) | (go_at_call 44; refine (strHasPrefix _ _ _).mono ?_; rintro e w' ⟨rfl, rfl⟩) | (go_at_call 45; refine (strContains _ _ _).mono ?_; rintro e w' ⟨rfl, rfl⟩))
  · have h : s.toList = [] := by assumption
    go_ret
    exact ⟨retb' (by rw [goodKey_eq, ← L.out, h]; rfl), rfl⟩
  · have h : blankHead s.data.toList = true := by assumption
    go_ret
    exact ⟨retb' (by rw [goodKey_eq, h]; simp), rfl⟩
  · have h0 : (s.size : Int) ≤ 32 := by assumption
    have h1 : ¬ s.toList = [] := by assumption
    have h : (s.toList.isEmpty = true ∨ 32 < (s.size : Int)) ∨ begins 35 s.data.toList = true := by assumption
    have h2 : begins 35 s.data.toList = true := by
      rcases h with (h | h) | h
      · exact absurd (by simpa using h) h1
      · omega
      · exact h
    go_ret
    exact ⟨retb' (by rw [goodKey_eq, h2]; simp), rfl⟩
  · have h : has 58 s.data.toList = true := by assumption
    go_ret
    exact ⟨retb' (by rw [goodKey_eq, h]; simp), rfl⟩
  · have h0 : (s.size : Int) ≤ 32 := by assumption
    have h1 : ¬ s.toList = [] := by assumption
    have h2 : ¬ blankHead s.data.toList = true := by assumption
    have h3 : (s.toList.isEmpty = false ∧ (s.size : Int) ≤ 32) ∧ begins 35 s.data.toList = false := by assumption
    have h4 : ¬ has 58 s.data.toList = true := by assumption
    have h5 : s.data.toList.length ≤ 32 := by rw [S.out]; omega
    go_ret
    exact ⟨retb' (by rw [goodKey_eq, h3.2, ← L.out, h3.1.1, L.out, decide_eq_true h5, Bool.eq_false_iff.2 h2, Bool.eq_false_iff.2 h4]; simp), rfl⟩
  · have h0 : 32 < (s.size : Int) := by assumption
    have h5 : ¬ s.data.toList.length ≤ 32 := by rw [S.out]; omega
    go_ret
    exact ⟨retb' (by rw [goodKey_eq, decide_eq_false h5]; simp), rfl⟩
theorem cut1_yes {c : UInt8} {l : List UInt8} (h : (cut1 c l).2.2 = true) : has c l = true ∧ (cut1 c l).1 = ahead c l := by
  unfold cut1 at *
  rcases hc : l.contains c with _ | _
  · rw [hc] at h; cases h
  · exact ⟨hc, rfl⟩
theorem cut1_no {c : UInt8} {l : List UInt8} (h : ¬ (cut1 c l).2.2 = true) : has c l = false := by
  unfold cut1 at *
  rcases hc : l.contains c with _ | _
  · exact hc
  · rw [hc] at h; exact absurd rfl h
theorem below_dn {B : Nat} {a w : World} (h : Below B a w) (n : Nat) : Below B a (w.drewN n) := h.trans ⟨rfl, rfl, rfl, Nat.le_refl _, fun _ _ => rfl⟩
set_option maxHeartbeats 400000 in
theorem kind_any (s : ByteArray) (hs : s.size ≤ 9223372036854775807) (w : World) :
    Calls Tryd.prog 59 #[.string s] w fun e w' => e = .returned (.int .i64 (kindOf s.data.toList)) ∧ Below w.heap.size w w' := by
  go_enter Tryd.func59, Tryd.ntmps59
  go_wp2_with (first | (go_at_call 43; refine (blank_any _ _).mono ?_; rintro e w' ⟨rfl, rfl⟩) | (go_at_call 44; refine (strHasPrefix _ _ _).mono ?_; rintro e w' ⟨rfl, rfl⟩) | (go_at_call 45; refine (strContains _ _ _).mono ?_; rintro e w' ⟨rfl, rfl⟩) | (go_at_call 72; refine (strTrim _ hs _).mono ?_; rintro e w' ⟨⟨t, rfl, ht⟩, hb⟩) | (go_at_call 58; refine (strCut _ hs _ _).mono ?_; rintro e w' ⟨rfl, n, rfl⟩) | (go_at_call 28; refine (key_any _ _).mono ?_; rintro e w' ⟨rfl, rfl⟩))
  · have h1 : has 10 s.data.toList = true := by assumption
    go_ret
    exact ⟨reti (by rw [kindOf_eq, h1]; rfl), by go_grown⟩
  · have h1 : has 10 s.data.toList = false := by assumption
    have h2 : t.isEmpty = true := by assumption
    have h3 : s.data.toList.all isBlank = true := ht.1 (by simpa using h2)
    go_ret
    exact ⟨reti (by rw [kindOf_eq, h1, h3]; rfl), by go_grown⟩
  all_goals have h1 : has 10 s.data.toList = false := by assumption
  all_goals have h2 : t.isEmpty = false := by assumption
  all_goals have h3 : s.data.toList.all isBlank = false := by rw [Bool.eq_false_iff]; intro h; rw [ht.2 h] at h2; cases h2
  · have h4 : begins 35 s.data.toList = true := by assumption
    go_ret
    exact ⟨reti (by rw [kindOf_eq, h1, h3, h4]; rfl), by go_grown⟩
  all_goals have h4 : begins 35 s.data.toList = false := by assumption
  · have h5 : blankHead s.data.toList = true := by assumption
    go_ret
    exact ⟨reti (by rw [kindOf_eq, h1, h3, h4, h5]; rfl), by go_grown⟩
  all_goals have h5 : blankHead s.data.toList = false := by assumption
  · have h6 : (cut1 58 s.data.toList).2.2 = true := by assumption
    have h7 : goodKey (cut1 58 s.data.toList).1 = true := by assumption
    obtain ⟨h8, h9⟩ := cut1_yes h6
    rw [h9] at h7
    go_ret
    exact ⟨reti (by rw [kindOf_eq, h1, h3, h4, h5, h8, h7]; rfl), below_dn hb n⟩
  · have h6 : (cut1 58 s.data.toList).2.2 = true := by assumption
    have h7 : goodKey (cut1 58 s.data.toList).1 = false := by assumption
    obtain ⟨h8, h9⟩ := cut1_yes h6
    rw [h9] at h7
    go_ret
    exact ⟨reti (by rw [kindOf_eq, h1, h3, h4, h5, h8, h7]; rfl), below_dn hb n⟩
  · have h6 : ¬ (cut1 58 s.data.toList).2.2 = true := by assumption
    have h8 := cut1_no h6
    go_ret
    exact ⟨reti (by rw [kindOf_eq, h1, h3, h4, h5, h8]; rfl), below_dn hb n⟩
/-- What a line's key is and what stands behind the colon. -/
def lineCut (l : List UInt8) : List UInt8 × List UInt8 × Bool := if kindOf l = 4 then (ahead 58 l, behind 58 l, true) else ([], [], false)
theorem kind4 {l : List UInt8} (h : kindOf l = 4) : has 58 l = true ∧ has 10 l = false ∧ goodKey (ahead 58 l) = true := by
  rw [kindOf_eq] at h
  rcases h1 : has 10 l with _ | _ <;> rcases h2 : l.all isBlank with _ | _ <;> rcases h3 : begins 35 l with _ | _ <;> rcases h4 : blankHead l with _ | _ <;> rcases h5 : has 58 l with _ | _ <;> rcases h6 : goodKey (ahead 58 l) with _ | _ <;> rw [h1, h2, h3, h4, h5, h6] at h <;> simp_all
theorem cut1_of {c : UInt8} {l : List UInt8} (h : has c l = true) : cut1 c l = (ahead c l, behind c l, true) := by
  unfold cut1; rw [show l.contains c = true from h]; rfl
set_option maxHeartbeats 400000 in
theorem cut_any (s : ByteArray) (hs : s.size ≤ 9223372036854775807) (w : World) :
    Calls Tryd.prog 87 #[.string s] w fun e w' => e = .returned (.tuple #[.string ⟨(lineCut s.data.toList).1.toArray⟩, .string ⟨(lineCut s.data.toList).2.1.toArray⟩, .bool (lineCut s.data.toList).2.2]) ∧ Below w.heap.size w w' := by
  have K := fun w => kind_any s hs w
  by_cases h4 : kindOf s.data.toList = 4
  · rw [h4] at K
    have H := Lib.hid h4
    clear h4
    have C := cut1_of (kind4 H.out).1
    have R := fun w => strCut s hs 58 w
    rw [C] at R
    have K' := Lib.hid K
    have R' := Lib.hid R
    clear K R C
    go_enter Tryd.func87, Tryd.ntmps87
    go_wp2_with (first | (go_at_call 59; refine (K'.out _).mono ?_; rintro e w' ⟨rfl, hb⟩) | (go_at_call 58; refine (R'.out _).mono ?_; rintro e w' ⟨rfl, n, rfl⟩))
    go_ret3
    exact ⟨ret3s (by unfold lineCut; rw [if_pos H.out]), below_dn hb n⟩
  · have H := Lib.hid h4
    have hne : ¬ (kindOf s.data.toList : Int) = 4 := by omega
    clear h4
    have K' := Lib.hid K
    clear K
    go_enter Tryd.func87, Tryd.ntmps87
    go_wp2_with (go_at_call 59; refine (K'.out _).mono ?_; rintro e w' ⟨rfl, hb⟩)
    go_ret3
    exact ⟨ret3s (by unfold lineCut; rw [if_neg H.out]), hb⟩
theorem below_cat {a b c : World} (h : Below a.heap.size a b) (k : Below b.heap.size b c) : Below a.heap.size a c := h.trans (k.mono h.size)
end Go.Proofs.YtboiaoaephimhaaDoor.B
