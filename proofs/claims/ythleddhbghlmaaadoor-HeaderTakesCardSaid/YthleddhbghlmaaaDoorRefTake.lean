/- The document's answers for the layer of headers: Line, Good, Take; whatever the world. -/
import Derived.Test.YthleddhbghlmaaaDoorTake
namespace Go.Proofs.YthleddhbghlmaaaDoor
open Go.RowKit

set_option maxHeartbeats 400000 in
theorem refLine (n : Nat) (h1 : n ≤ 2147483648) (w : World) :
    Calls Tryd.prog 14 #[.int .i64 n] w fun e w' => e = .returned (.string (hdrB n)) ∧ w = w' := by
  have I := figures_any n w (by omega) (by omega)
  rw [Lib.itoa_nonneg] at I
  have s1 := dec_size n (by omega)
  have e : (⟨#[35, 37, 103, 101, 110, 32]⟩ : ByteArray) ++ ⟨(Lib.decDigits n).toArray⟩ ++ ⟨#[10, 10]⟩ = hdrB n := by
    have a := mk_append mark (Lib.decDigits n)
    have b := mk_append (mark ++ Lib.decDigits n) [10, 10]
    rw [← a] at b
    exact b
  generalize (⟨(Lib.decDigits n).toArray⟩ : ByteArray) = A at *
  have I' := Lib.hid I
  have H := Lib.hid e
  clear I e
  go_enter Tryd.func14, Tryd.ntmps14
  go_wp2_with fail
  refine I'.out.mono ?_
  rintro e w' ⟨rfl, rfl⟩
  go_wp2_with fail
  go_ret
  exact ⟨rets H.out, rfl⟩
/-- Is a generation one that a header has? -/
def goodGen (n : Int) : Bool := decide (1 ≤ n ∧ n ≤ 2147483648)
theorem refGood (n : Int) (w : World) :
    Calls Tryd.prog 11 #[.int .i64 n] w fun e w' => e = .returned (.bool (goodGen n)) ∧ w = w' := by
  have H : ∀ b : Bool, (b = true ↔ (1 ≤ n ∧ n ≤ 2147483648)) → b = goodGen n := by
    intro b hb
    unfold goodGen
    rw [Bool.eq_iff_iff, hb]
    simp
  have H' := Lib.hid H
  clear H
  rcases Int.lt_or_le n 1 with h | h
  · go_enter Tryd.func11, Tryd.ntmps11
    go_wp2_with fail
    go_ret
    exact ⟨congrArg (fun b => Ending.returned (.bool b)) (H'.out _ (by simp; omega)), rfl⟩
  · rcases Int.lt_or_le 2147483648 n with g | g
    · go_enter Tryd.func11, Tryd.ntmps11
      go_wp2_with fail
      go_ret
      exact ⟨congrArg (fun b => Ending.returned (.bool b)) (H'.out _ (by simp; omega)), rfl⟩
    · go_enter Tryd.func11, Tryd.ntmps11
      go_wp2_with fail
      go_ret
      exact ⟨congrArg (fun b => Ending.returned (.bool b)) (H'.out _ (by simp; omega)), rfl⟩

/-! ### The plain law of the scan -/
theorem heads_len {l r : List UInt8} {n : Nat} (h : Heads l n r) : l.length = 8 + (Lib.decDigits n).length + r.length := by
  obtain ⟨_, _, rfl⟩ := h
  unfold hdr mark
  simp
  omega
theorem dec_pos (n : Nat) : 1 ≤ (Lib.decDigits n).length := by
  rcases Nat.eq_zero_or_pos (Lib.decDigits n).length with h | h
  · exact absurd (List.length_eq_zero_iff.1 h) (decDigits_ne n)
  · exact h
theorem take_none {l : List UInt8} (h : ∀ m s, ¬ Heads l m s) : TakeRes l 0 l := .inr ⟨rfl, rfl, h⟩
theorem short_none {l : List UInt8} (h : l.length < 9) : TakeRes l 0 l := take_none fun m s hh => by
  have := heads_len hh
  have := dec_pos m
  omega
theorem heads_mark {l r : List UInt8} {n : Nat} (h : Heads l n r) : l.take 6 = mark := by
  obtain ⟨_, _, rfl⟩ := h
  rfl
theorem mark_none {l : List UInt8} (h : l.take 6 ≠ mark) : TakeRes l 0 l := take_none fun _ _ hh => h (heads_mark hh)
/-- None of the bytes from 6 to k is a line end. -/
def Scan (l : List UInt8) (k : Nat) : Prop := 6 ≤ k ∧ ∀ j : Nat, 6 ≤ j → j < k → l[j]? ≠ some 10
theorem Scan.start (l : List UInt8) : Scan l 6 := ⟨Nat.le_refl _, fun j h1 h2 => by omega⟩
theorem Scan.next {l : List UInt8} {k : Nat} (h : Scan l k) (hk : l[k]? ≠ some 10) : Scan l (k + 1) := ⟨by have := h.1; omega, fun j h1 h2 => by
  rcases Nat.lt_or_ge j k with g | g
  · exact h.2 j h1 g
  · obtain rfl : j = k := by omega
    exact hk⟩
/-- Where the scan of a text with a header stops. -/
theorem heads_at {l r : List UInt8} {n k : Nat} (h : Heads l n r) (hs : Scan l k) (hk : l.length ≤ k ∨ l[k]? = some 10) : k = 6 + (Lib.decDigits n).length ∧ (l.drop 6).take (k - 6) = Lib.decDigits n ∧ l[k + 1]? = some 10 ∧ k + 1 < l.length := by
  have hl := heads_len h
  have hp := dec_pos n
  obtain ⟨_, _, rfl⟩ := h
  have e : hdr n ++ r = mark ++ (Lib.decDigits n ++ 10 :: 10 :: r) := by unfold hdr; simp
  have em : mark.length = 6 := rfl
  have hend : (hdr n ++ r)[6 + (Lib.decDigits n).length]? = some 10 := by
    rw [e, List.getElem?_append_right (by omega), List.getElem?_append_right (by omega)]
    rw [show 6 + (Lib.decDigits n).length - mark.length - (Lib.decDigits n).length = 0 by omega]
    rfl
  have hk' : k = 6 + (Lib.decDigits n).length := by
    rcases Nat.lt_trichotomy k (6 + (Lib.decDigits n).length) with g | g | g
    · exfalso
      rcases hk with hk | hk
      · omega
      · have h6 := hs.1
        rw [e, List.getElem?_append_right (by omega), List.getElem?_append_left (by omega)] at hk
        have := decDigits_digit n _ (List.mem_of_getElem? hk)
        revert this; decide
    · exact g
    · exact absurd hend (hs.2 _ (by omega) g)
  subst hk'
  refine ⟨rfl, ?_, ?_, by omega⟩
  · rw [e, List.drop_append_of_le_length (by omega), show mark.drop 6 = [] from rfl, List.nil_append]
    rw [show 6 + (Lib.decDigits n).length - 6 = (Lib.decDigits n).length by omega]
    simp
  · rw [e, List.getElem?_append_right (by omega), List.getElem?_append_right (by omega)]
    rw [show 6 + (Lib.decDigits n).length + 1 - mark.length - (Lib.decDigits n).length = 1 by omega]
    rfl
theorem itoa_dec {n : Int} {m : Nat} (h : Lib.itoa n = Lib.decDigits m) : n = m := by
  by_cases hn : n < 0
  · exfalso
    unfold Lib.itoa at h
    rw [if_pos hn] at h
    have := decDigits_digit m 45 (by rw [← h]; exact List.mem_cons_self ..)
    revert this; decide
  · obtain ⟨u, rfl⟩ : ∃ u : Nat, n = u := ⟨n.toNat, by omega⟩
    rw [Lib.itoa_nonneg] at h
    rw [decDigits_inj h]
/-- The scan fails: no header. -/
theorem scan_none {l : List UInt8} {k : Nat} {n : Int} {ok : Bool} (hs : Scan l k) (hk : l.length ≤ k ∨ l[k]? = some 10) (hn : NumRes ((l.drop 6).take (k - 6)) n ok)
    (hf : ok = false ∨ goodGen n = false ∨ l.length ≤ k + 1 ∨ l[k + 1]? ≠ some 10) : TakeRes l 0 l := take_none fun m s hh => by
  obtain ⟨h1, h2, h3, h4⟩ := heads_at hh hs hk
  rw [h2] at hn
  rcases hf with rfl | hf | hf | hf
  · exact hn.2 rfl m hh.2.1 rfl
  · rcases ok with _ | _
    · exact hn.2 rfl m hh.2.1 rfl
    · have := itoa_dec (hn.1 rfl).symm
      subst this
      unfold goodGen at hf
      rw [decide_eq_false_iff_not] at hf
      have := hh.1
      have := hh.2.1
      omega
  · omega
  · exact hf h3
/-- The scan finds a header. -/
theorem scan_some {l : List UInt8} {k : Nat} {n : Int} (hm : l.take 6 = mark) (hs : Scan l k) (hk : l.length ≤ k ∨ l[k]? = some 10) (hn : NumRes ((l.drop 6).take (k - 6)) n true)
    (hg : goodGen n = true) (h1 : k + 1 < l.length) (h2 : l[k + 1]? = some 10) : TakeRes l n.toNat (l.drop (k + 2)) := by
  unfold goodGen at hg
  simp only [decide_eq_true_eq] at hg
  obtain ⟨u, rfl⟩ : ∃ u : Nat, n = u := ⟨n.toNat, by omega⟩
  have h3 := hn.1 rfl
  rw [Lib.itoa_nonneg] at h3
  have h4 : l[k]? = some 10 := by
    rcases hk with hk | hk
    · omega
    · exact hk
  have h6 := hs.1
  refine .inl ⟨by simp; omega, by simp; omega, ?_⟩
  have a1 : l = l.take 6 ++ ((l.drop 6).take (k - 6) ++ (l.drop 6).drop (k - 6)) := by rw [List.take_append_drop, List.take_append_drop]
  have a2 : (l.drop 6).drop (k - 6) = l.drop k := by rw [List.drop_drop, show 6 + (k - 6) = k by omega]
  have a3 : l.drop k = 10 :: 10 :: l.drop (k + 2) := by
    rw [List.drop_eq_getElem_cons (by omega), List.drop_eq_getElem_cons (i := k + 1) (by omega)]
    have b1 : l[k] = 10 := by rw [List.getElem?_eq_getElem (by omega)] at h4; exact Option.some.inj h4
    have b2 : l[k + 1] = 10 := by rw [List.getElem?_eq_getElem h1] at h2; exact Option.some.inj h2
    rw [b1, b2]
  conv => lhs; rw [a1, a2, a3, hm, h3]
  unfold hdr
  simp
/-- What the document's reader of headers answers. -/
def RefPost (s : ByteArray) (w : World) (e : Ending) (w' : World) : Prop := ∃ (n : Nat) (r : List UInt8), e = .returned (.tuple #[.int .i64 n, .string ⟨r.toArray⟩]) ∧ TakeRes s.data.toList n r ∧ ∃ k, w' = w.drewN k
theorem RefPost.none {s : ByteArray} {w : World} (h : TakeRes s.data.toList 0 s.data.toList) : RefPost s w (.returned (.tuple #[.int .i64 0, .string s])) w :=
  ⟨0, s.data.toList, by rw [Lib.mk_data]; rfl, h, 0, rfl⟩
theorem RefPost.some {s : ByteArray} {w : World} {n : Int} {k q : Nat} (hg : goodGen n = true) (h : TakeRes s.data.toList n.toNat (s.data.toList.drop (k + 2))) :
    RefPost s w (.returned (.tuple #[.int .i64 n, .string (s.extract (k + 2) s.size)])) (w.drewN q) := by
  unfold goodGen at hg
  simp only [decide_eq_true_eq] at hg
  refine ⟨n.toNat, _, ?_, h, q, rfl⟩
  rw [Int.toNat_of_nonneg (by omega), Lib.extract_eq, List.take_of_length_le (by rw [List.length_drop, size_len]; exact Nat.le_refl _)]
set_option maxHeartbeats 1600000 in
theorem refTake (s : ByteArray) (hs : s.size ≤ 1000000) (w : World) :
    Calls Tryd.prog 7 #[.string s] w (RefPost s w) := by
  have SL := Lib.hid (size_len s)
  have E6 : Hid (6 ≤ s.size → (s.extract 0 6).toList = s.data.toList.take 6) := Lib.hid fun _ => by rw [Lib.extract_toList]; simp
  go_enter Tryd.func7, Tryd.ntmps7
  go_wp2_with fail
  · have h9 : 9 ≤ (s.size : Int) := by assumption
    have h : (s.size : Int) < 9 ∨ (!(s.extract 0 6).toList == [35, 37, 103, 101, 110, 32]) = true := by assumption
    have h' : s.data.toList.take 6 ≠ mark := by
      rcases h with h | h
      · omega
      · rw [← E6.out (by omega)]
        intro e
        rw [e] at h
        revert h
        decide
    go_ret2
    exact .none (mark_none h')
  · have h9 : 9 ≤ (s.size : Int) := by assumption
    have h : 9 ≤ (s.size : Int) ∧ (!(s.extract 0 6).toList == [35, 37, 103, 101, 110, 32]) = false := by assumption
    have HM : Hid (s.data.toList.take 6 = mark) := Lib.hid (by rw [← E6.out (by omega)]; unfold mark; simpa using h.2)
    clear h
    go_loop [4] (fun i => ∃ k : Nat, k ≤ s.size ∧ i = .int .i64 k ∧ Scan s.data.toList k) (fun i => s.size - (intOf i).toNat)
    case atStart => exact ⟨6, by omega, rfl, Scan.start _⟩
    case round =>
      obtain ⟨k, hk, rfl, hsc⟩ := hrel
      have h6 := hsc.1
      have h6i : (6 : Int) ≤ (k : Int) := by omega
      have hki : (k : Int) ≤ (s.size : Int) := by omega
      have HS := Lib.hid hsc
      clear hsc
      by_cases hlt : k < s.size
      · by_cases hc : (s[k].toNat : Int) = 10
        · have hb1 : ((s[k].toNat : Int) == 10) = true := by simpa using hc
          have hb2 : ((s[k].toNat : Int) != 10) = false := by simpa using hc
          have HK : Hid (s.data.toList[k]? = some 10) := Lib.hid (by rw [get_data s k hlt]; congr 1; rw [← UInt8.toNat_inj]; simp; omega)
          have N := number_any (s.extract 6 k) (by rw [Lib.size_eq, Lib.extract_data]; simp; omega) w
          rw [Lib.extract_data] at N
          have N' := Lib.hid N
          clear N hc
          go_wp2_with fail
          refine N'.out.mono ?_
          rintro e w' ⟨n, ok, rfl, n0, n1, hn, rfl⟩
          have HN := Lib.hid hn
          clear hn
          cases ok with
          | false =>
            go_wp2_with fail
            go_ret2
            exact .none (scan_none HS.out (.inr HK.out) HN.out (.inl rfl))
          | true =>
            go_wp2_with fail
            refine (refGood n _).mono ?_
            rintro e w' ⟨rfl, rfl⟩
            go_wp2_with fail
            · have h : (s.size : Int) ≤ (k : Int) + 1 ∨ ((s[k + 1].toNat : Int) != 10) = true := by assumption
              have hk1 : (k : Int) + 1 < (s.size : Int) := by assumption
              go_ret2
              refine .none (scan_none HS.out (.inr HK.out) HN.out (.inr (.inr (.inr ?_))))
              rw [get_data s (k + 1) (by omega)]
              intro e
              have e' := Option.some.inj e
              rcases h with h | h
              · omega
              · rw [e'] at h; revert h; decide
            · have hg : goodGen n = true := by assumption
              have h : (k : Int) + 1 < (s.size : Int) ∧ ((s[k + 1].toNat : Int) != 10) = false := by assumption
              have HB : Hid (s.data.toList[k + 1]? = some 10) := by
                refine Lib.hid ?_
                rw [get_data s (k + 1) (by omega)]
                congr 1
                have h2 : (s[k + 1].toNat : Int) = 10 := by simpa using h.2
                rw [← UInt8.toNat_inj]; simp; omega
              have HG := Lib.hid hg
              have hk1 : (k : Int) + 1 < (s.size : Int) := h.1
              have hk2 : (k : Int) + 2 ≤ (s.size : Int) := by omega
              have W1 : IntKind.i64.wrap ((k : Int) + 2) = (k : Int) + 2 := IntWalk.i64_in _ (by omega)
              have W2 : ((k : Int) + 2).toNat = k + 2 := by omega
              have W3 : 0 ≤ (k : Int) + 2 := by omega
              clear h hg
              go_quiet (fail)
              go_wp2_with fail
              go_ret2
              exact .some HG.out (scan_some HM.out HS.out (.inr HK.out) HN.out HG.out (by rw [SL.out]; omega) HB.out)
            · go_ret2
              exact .none (scan_none HS.out (.inr HK.out) HN.out (.inr (.inr (.inl (by rw [SL.out]; omega)))))
            · have hg : ¬ goodGen n = true := by assumption
              have hg : goodGen n = false := by simpa using hg
              go_ret2
              exact .none (scan_none HS.out (.inr HK.out) HN.out (.inr (.inl hg)))
        · have hb1 : ((s[k].toNat : Int) == 10) = false := by simpa using hc
          have hb2 : ((s[k].toNat : Int) != 10) = true := by simpa using hc
          have HK : Hid (s.data.toList[k]? ≠ some 10) := Lib.hid (by rw [get_data s k hlt]; intro e; have := Option.some.inj e; rw [this] at hc; exact hc rfl)
          clear hc
          go_wp2_with fail
          go_round
          case rel => exact ⟨k + 1, by omega, by go_num, HS.out.next HK.out⟩
          case measure => simp [intOf]; omega
      · have N := number_any (s.extract 6 k) (by rw [Lib.size_eq, Lib.extract_data]; simp; omega) w
        rw [Lib.extract_data] at N
        have N' := Lib.hid N
        clear N
        go_wp2_with fail
        refine N'.out.mono ?_
        rintro e w' ⟨n, ok, rfl, n0, n1, hn, rfl⟩
        have HN := Lib.hid hn
        clear hn
        cases ok with
        | false =>
          go_wp2_with fail
          go_ret2
          exact .none (scan_none HS.out (.inl (by rw [SL.out]; omega)) HN.out (.inl rfl))
        | true =>
          go_wp2_with fail
          refine (refGood n _).mono ?_
          rintro e w' ⟨rfl, rfl⟩
          go_wp2_with fail
          all_goals
            go_ret2
            exact .none (scan_none HS.out (.inl (by rw [SL.out]; omega)) HN.out (.inr (.inr (.inl (by rw [SL.out]; omega)))))
  · have h : (s.size : Int) < 9 := by assumption
    go_ret2
    exact .none (short_none (by rw [SL.out]; omega))
end Go.Proofs.YthleddhbghlmaaaDoor
