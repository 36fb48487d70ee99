/- The layer of headers: Take and Gen: the generation and the rest, where the text begins with a header, else 0 and the whole text. -/
import Derived.Test.YthleddhbghlmaaaDoorHead
namespace Go.Proofs.YthleddhbghlmaaaDoor
open Go.RowKit

theorem mk_data' (s : ByteArray) : (⟨s.data.toList.toArray⟩ : ByteArray) = s := Lib.mk_data s
theorem retis {n : Int} {a b : ByteArray} (h : a = b) : Ending.returned (.tuple #[.int .i64 n, .string a]) = .returned (.tuple #[.int .i64 n, .string b]) := by rw [h]
set_option maxHeartbeats 800000 in
theorem take_heads (s : ByteArray) (hs : s.size ≤ 1000000) (n : Nat) (r : List UInt8) (h : Heads s.data.toList n r) (w : World) (hr : Ready w) :
    Calls Tryd.prog 6 #[.string s] w fun e w' => e = .returned (.tuple #[.int .i64 n, .string ⟨r.toArray⟩]) ∧ Below w.heap.size w w' := by
  have h0 := h.1
  have h1 := h.2.1
  have C := cut_any s (by omega) w hr
  rw [cut_heads h] at C
  simp only at C
  have e1 : hdrB n = (⟨(mark ++ Lib.decDigits n).toArray⟩ : ByteArray) ++ ⟨#[10, 10]⟩ := by
    rw [show (⟨#[10, 10]⟩ : ByteArray) = ⟨([10, 10] : List UInt8).toArray⟩ from rfl, mk_append]; rfl
  have T := fun w => trim_any ⟨(mark ++ Lib.decDigits n).toArray⟩ w
  simp only [trim_mark] at T
  have As : (⟨(mark ++ Lib.decDigits n).toArray⟩ : ByteArray).size ≤ 24 := by
    have := hdrB_size n h1
    rw [e1, ByteArray.size_append] at this
    have e2 : (⟨#[10, 10]⟩ : ByteArray).size = 2 := rfl
    omega
  have D := fun w => atoi_ok ⟨(Lib.decDigits n).toArray⟩ (by have := dec_size n (by omega); omega) n (atoi_dec n h1) w
  have L := fun w => line_good n h0 h1 w
  rw [e1] at L
  generalize (⟨(mark ++ Lib.decDigits n).toArray⟩ : ByteArray) = A at *
  generalize (⟨(Lib.decDigits n).toArray⟩ : ByteArray) = X at *
  generalize (⟨r.toArray⟩ : ByteArray) = R at *
  have C' := Lib.hid C
  have T' := Lib.hid T
  have D' := Lib.hid D
  have L' := Lib.hid L
  have HR := Lib.hid hr
  have h0' : (1 : Int) ≤ (n : Int) := by omega
  have h1' : (n : Int) ≤ 2147483648 := by omega
  clear C T D L h hr e1 h0 h1
  go_enter Tryd.func6, Tryd.ntmps6
  go_wp2_with fail
  refine C'.out.mono ?_
  rintro e w1 ⟨rfl, k, rfl⟩
  go_wp2_with fail
  refine (T'.out _).mono ?_
  rintro e w2 ⟨rfl, rfl⟩
  go_wp2_with fail
  refine (D'.out _).mono ?_
  rintro e w3 ⟨rfl, b3⟩
  go_wp2_with fail
  refine (L'.out _ ((HR.out.drew k).stays b3)).mono ?_
  rintro e w4 ⟨rfl, b4⟩
  go_wp2_with fail
  go_ret2
  exact ⟨rfl, below_cat (below_dn (Below.refl _ _) k) (below_cat b3 b4)⟩
theorem bytes_eq {a b : ByteArray} (h : a.toList = b.toList) : a = b := by
  rw [Lib.toList_data, Lib.toList_data] at h
  rw [← Lib.mk_data a, h, Lib.mk_data]
/-- What Line answers at any number. -/
def AnyLine (w : World) (e : Ending) (w' : World) : Prop := ∃ (a : ByteArray) (v : Value), e = .returned (.tuple #[.string a, v]) ∧ (v = .nilIface ∨ v = .iface 34 (.int .i64 1)) ∧ Below w.heap.size w w'
theorem line_any (n : Int) (w : World) (hr : Ready w) : Calls Tryd.prog 9 #[.int .i64 n] w (AnyLine w) := by
  by_cases h : 1 ≤ n ∧ n ≤ 2147483648
  · obtain ⟨k, rfl⟩ : ∃ k : Nat, n = k := ⟨n.toNat, by omega⟩
    exact (line_good k (by omega) (by omega) w hr).mono fun e w' ⟨he, hb⟩ => ⟨_, _, he, .inl rfl, hb⟩
  · exact (line_bad n (by omega) w).mono fun e w' ⟨he, hw⟩ => ⟨_, _, he, .inr rfl, hw ▸ Below.refl _ _⟩
theorem mk_inj {a b : List UInt8} (h : (⟨a.toArray⟩ : ByteArray) = ⟨b.toArray⟩) : a = b := by
  have := congrArg (fun s : ByteArray => s.data.toList) h
  simpa using this
set_option maxHeartbeats 1600000 in
theorem take_not (s : ByteArray) (hs : s.size ≤ 1000000) (h : ∀ n r, ¬ Heads s.data.toList n r) (w : World) (hr : Ready w) :
    Calls Tryd.prog 6 #[.string s] w fun e w' => e = .returned (.tuple #[.int .i64 0, .string s]) ∧ Below w.heap.size w w' := by
  have C := cut_any s (by omega) w hr
  have hc := fun g => cut_back (l := s.data.toList) g
  obtain ⟨a, b, f, hcut⟩ : ∃ a b f, Lib.cut s.data.toList [10, 10] = (a, b, f) := ⟨_, _, _, rfl⟩
  rw [hcut] at C hc
  simp only at C hc
  have hal : a.length ≤ s.size := by
    have : a = (Lib.cut s.data.toList [10, 10]).1 := by rw [hcut]
    rw [this]
    unfold Lib.cut
    rw [Lib.size_eq]
    split
    · simp; omega
    · exact Nat.le_refl _
  have T := fun w => trim_any ⟨a.toArray⟩ w
  simp only at T
  have As : (⟨a.toArray⟩ : ByteArray).size ≤ 1000000 := by rw [Lib.size_eq]; simp only; omega
  have Xs : (⟨(Lib.trimPrefix a mark).toArray⟩ : ByteArray).size ≤ 1000000 := by
    rw [Lib.size_eq]; simp only
    have := Lib.trimPrefix_le a mark
    omega
  have hno : f = true → ∀ n : Nat, 1 ≤ n → n ≤ 2147483648 → Lib.atoiAll (Lib.trimPrefix a mark) = .ok (n : Int) → hdrB n ≠ (⟨a.toArray⟩ : ByteArray) ++ ⟨#[10, 10]⟩ := by
    intro hf n h0 h1 _ e
    apply h n b
    refine ⟨h0, h1, ?_⟩
    rw [hc hf]
    rw [show (⟨#[10, 10]⟩ : ByteArray) = ⟨([10, 10] : List UInt8).toArray⟩ from rfl, mk_append] at e
    rw [← mk_inj e]
  have P : ∀ v : Int, Lib.atoiAll (Lib.trimPrefix a mark) = .ok v → ∀ w, Calls Tryd.prog 16 #[.string ⟨(Lib.trimPrefix a mark).toArray⟩] w fun e w' => e = .returned (.tuple #[.int .i64 v, .nilIface]) ∧ Below w.heap.size w w' := fun v hv w => atoi_ok ⟨(Lib.trimPrefix a mark).toArray⟩ (by omega) v hv w
  have Q : (∀ v : Int, Lib.atoiAll (Lib.trimPrefix a mark) ≠ .ok v) → ∀ w, Ready w → Calls Tryd.prog 16 #[.string ⟨(Lib.trimPrefix a mark).toArray⟩] w (BadAtoi w) := fun hv w hr => atoi_no ⟨(Lib.trimPrefix a mark).toArray⟩ (by omega) hv w hr
  have hin : ∀ v : Int, Lib.atoiAll (Lib.trimPrefix a mark) = .ok v → -9223372036854775808 ≤ v ∧ v ≤ 9223372036854775807 := fun v hv => Lib.atoiAll_bounds hv
  clear hc hcut hal h
  generalize Lib.atoiAll (Lib.trimPrefix a mark) = z at *
  generalize (⟨(Lib.trimPrefix a mark).toArray⟩ : ByteArray) = X at *
  generalize (⟨a.toArray⟩ : ByteArray) = A at *
  generalize (⟨b.toArray⟩ : ByteArray) = R at *
  have C' := Lib.hid C
  have T' := Lib.hid T
  have HR := Lib.hid hr
  clear C T hr Xs
  by_cases hz : ∃ v : Int, z = .ok v
  · obtain ⟨v, rfl⟩ := hz
    obtain ⟨v0, v1⟩ := hin v rfl
    have D' := Lib.hid (P v rfl)
    clear P Q hin
    by_cases hg : 1 ≤ v ∧ v ≤ 2147483648
    · obtain ⟨n, rfl⟩ : ∃ n : Nat, v = n := ⟨v.toNat, by omega⟩
      have L' := Lib.hid (fun w => line_good n (by omega) (by omega) w)
      have N' : Hid (f = true → hdrB n ≠ A ++ ⟨#[10, 10]⟩) := Lib.hid fun hf => hno hf n (by omega) (by omega) rfl
      obtain ⟨g0, g1⟩ := hg
      clear hno v0 v1
      generalize hdrB n = B at *
      cases f with
      | false =>
        go_enter Tryd.func6, Tryd.ntmps6
        go_wp2_with fail
        refine C'.out.mono ?_
        rintro e w1 ⟨rfl, k, rfl⟩
        go_wp2_with fail
        refine (T'.out _).mono ?_
        rintro e w2 ⟨rfl, rfl⟩
        go_wp2_with fail
        refine (D'.out _).mono ?_
        rintro e w3 ⟨rfl, b3⟩
        go_wp2_with fail
        refine (L'.out _ ((HR.out.drew k).stays b3)).mono ?_
        rintro e w4 ⟨rfl, b4⟩
        go_wp2_with fail
        go_ret2
        exact ⟨rfl, below_cat (below_dn (Below.refl _ _) k) (below_cat b3 b4)⟩
      | true =>
        go_enter Tryd.func6, Tryd.ntmps6
        go_wp2_with fail
        refine C'.out.mono ?_
        rintro e w1 ⟨rfl, k, rfl⟩
        go_wp2_with fail
        refine (T'.out _).mono ?_
        rintro e w2 ⟨rfl, rfl⟩
        go_wp2_with fail
        refine (D'.out _).mono ?_
        rintro e w3 ⟨rfl, b3⟩
        go_wp2_with fail
        refine (L'.out _ ((HR.out.drew k).stays b3)).mono ?_
        rintro e w4 ⟨rfl, b4⟩
        go_wp2_with fail
        · go_ret2
          exact ⟨rfl, below_cat (below_dn (Below.refl _ _) k) (below_cat b3 b4)⟩
        · have g : (!B.toList == (A ++ (⟨#[10, 10]⟩ : ByteArray)).toList) = false := by assumption
          exact absurd (bytes_eq (by simpa using g)) (N'.out trivial)
    · have L' := Lib.hid (fun w => line_bad v (by omega) w)
      clear hno
      go_enter Tryd.func6, Tryd.ntmps6
      go_wp2_with fail
      refine C'.out.mono ?_
      rintro e w1 ⟨rfl, k, rfl⟩
      go_wp2_with fail
      refine (T'.out _).mono ?_
      rintro e w2 ⟨rfl, rfl⟩
      go_wp2_with fail
      refine (D'.out _).mono ?_
      rintro e w3 ⟨rfl, b3⟩
      go_wp2_with fail
      refine (L'.out _).mono ?_
      rintro e w4 ⟨rfl, rfl⟩
      go_wp2_with fail
      all_goals
        go_ret2
        exact ⟨rfl, below_cat (below_dn (Below.refl _ _) k) b3⟩
  · have D' := Lib.hid (Q (fun v hv => hz ⟨v, hv⟩))
    clear P Q hin hz hno
    go_enter Tryd.func6, Tryd.ntmps6
    go_wp2_with fail
    refine C'.out.mono ?_
    rintro e w1 ⟨rfl, k, rfl⟩
    go_wp2_with fail
    refine (T'.out _).mono ?_
    rintro e w2 ⟨rfl, rfl⟩
    go_wp2_with fail
    refine (D'.out _ (HR.out.drew k)).mono ?_
    rintro e w3 ⟨n, t, p, rfl, n0, n1, b3⟩
    go_wp2_with fail
    refine (line_any n _ ((HR.out.drew k).stays b3)).mono ?_
    rintro e w4 ⟨B, v, rfl, hv, b4⟩
    rcases hv with rfl | rfl
    all_goals
      go_wp2_with fail
      all_goals
        go_ret2
        exact ⟨rfl, below_cat (below_dn (Below.refl _ _) k) (below_cat b3 b4)⟩
theorem gen_heads (s : ByteArray) (hs : s.size ≤ 1000000) (n : Nat) (r : List UInt8) (h : Heads s.data.toList n r) (w : World) (hr : Ready w) :
    Calls Tryd.prog 8 #[.string s] w fun e w' => e = .returned (.int .i64 n) ∧ Below w.heap.size w w' := by
  have T := Lib.hid (take_heads s hs n r h w hr)
  clear h hr
  go_enter Tryd.func8, Tryd.ntmps8
  go_wp2_with fail
  refine T.out.mono ?_
  rintro e w1 ⟨rfl, hb⟩
  go_wp2_with fail
  go_ret
  exact ⟨rfl, hb⟩
theorem gen_not (s : ByteArray) (hs : s.size ≤ 1000000) (h : ∀ n r, ¬ Heads s.data.toList n r) (w : World) (hr : Ready w) :
    Calls Tryd.prog 8 #[.string s] w fun e w' => e = .returned (.int .i64 0) ∧ Below w.heap.size w w' := by
  have T := Lib.hid (take_not s hs h w hr)
  clear h hr
  go_enter Tryd.func8, Tryd.ntmps8
  go_wp2_with fail
  refine T.out.mono ?_
  rintro e w1 ⟨rfl, hb⟩
  go_wp2_with fail
  go_ret
  exact ⟨rfl, hb⟩
theorem length_good (n : Nat) (h0 : 1 ≤ n) (h1 : n ≤ 2147483648) (w : World) (hr : Ready w) :
    Calls Tryd.prog 13 #[.int .i64 n] w fun e w' => e = .returned (.int .i64 (hdrB n).size) ∧ Below w.heap.size w w' := by
  have T := line_good n h0 h1 w hr
  generalize hdrB n = B at *
  have T' := Lib.hid T
  clear T hr
  go_enter Tryd.func13, Tryd.ntmps13
  go_wp2_with fail
  refine T'.out.mono ?_
  rintro e w1 ⟨rfl, hb⟩
  go_wp2_with fail
  go_ret
  exact ⟨rfl, hb⟩
theorem length_bad (n : Int) (h : n < 1 ∨ 2147483648 < n) (w : World) :
    Calls Tryd.prog 13 #[.int .i64 n] w fun e w' => e = .returned (.int .i64 0) ∧ w = w' := by
  have T := Lib.hid (line_bad n h w)
  clear h
  go_enter Tryd.func13, Tryd.ntmps13
  go_wp2_with fail
  refine T.out.mono ?_
  rintro e w1 ⟨rfl, rfl⟩
  go_wp2_with fail
  go_ret
  exact ⟨rfl, rfl⟩
/-! ### Put -/
theorem put_good (n : Nat) (h0 : 1 ≤ n) (h1 : n ≤ 2147483648) (s : ByteArray) (hs : s.size ≤ 100000) (w : World) (hr : Ready w) :
    Calls Tryd.prog 10 #[.int .i64 n, .string s] w fun e w' => e = .returned (.tuple #[.string (hdrB n ++ s), .nilIface]) ∧ Below w.heap.size w w' := by
  have T := line_good n h0 h1 w hr
  have hz := hdrB_size n h1
  generalize hdrB n = B at *
  have T' := Lib.hid T
  have h2 : ¬ (n : Int) = 0 := by omega
  clear T hr
  go_enter Tryd.func10, Tryd.ntmps10
  go_wp2_with fail
  refine T'.out.mono ?_
  rintro e w1 ⟨rfl, hb⟩
  go_wp2_with fail
  go_ret2
  exact ⟨rfl, hb⟩
theorem put_zero (s : ByteArray) (w : World) :
    Calls Tryd.prog 10 #[.int .i64 0, .string s] w fun e w' => e = .returned (.tuple #[.string s, .nilIface]) ∧ w = w' := by
  go_enter Tryd.func10, Tryd.ntmps10
  go_wp2_with fail
  go_ret2
  exact ⟨rfl, rfl⟩
theorem put_bad (n : Int) (h : n < 1 ∨ 2147483648 < n) (h2 : ¬ n = 0) (s : ByteArray) (w : World) :
    Calls Tryd.prog 10 #[.int .i64 n, .string s] w fun e w' => e = .returned (.tuple #[.string ⟨#[]⟩, .iface 34 (.int .i64 1)]) ∧ w = w' := by
  have T := Lib.hid (line_bad n h w)
  clear h
  go_enter Tryd.func10, Tryd.ntmps10
  go_wp2_with fail
  refine T.out.mono ?_
  rintro e w1 ⟨rfl, rfl⟩
  go_wp2_with fail
  go_ret2
  exact ⟨rfl, rfl⟩
end Go.Proofs.YthleddhbghlmaaaDoor
