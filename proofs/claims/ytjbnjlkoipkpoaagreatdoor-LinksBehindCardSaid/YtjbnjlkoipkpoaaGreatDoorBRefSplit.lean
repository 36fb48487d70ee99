/- The document's answers for the layer of lines (blank, Key, Kind, Cut): each returns the plain function of XPlain; whatever the world. The reference's Split: a slice of the call's own that holds a text's lines. -/
import Derived.Test.YtjbnjlkoipkpoaaGreatDoorBPlain
import Derived.Test.YtjbnjlkoipkpoaaGreatDoorProg
import Derived.Handy
import Derived.PlainAid
import Derived.Lib.Hide
import Derived.Deep.QuietTactic
import Derived.BigQuiet
import Derived.Outline
import Derived.Test.YtjbnjlkoipkpoaaGreatDoorBSplit
import Derived.WalkSmall
import Derived.WalkLawsBesides
namespace Go.Proofs.YtjbnjlkoipkpoaaGreatDoor.B
open Go.RowKit

theorem isBlank_int (c : UInt8) : isBlank c = ((c.toNat : Int) == 32 || (c.toNat : Int) == 9) := by
  unfold isBlank
  rw [Bool.eq_iff_iff]
  simp only [Bool.or_eq_true, beq_iff_eq, ← UInt8.toNat_inj]
  simp
  omega
theorem refBlank (c : UInt8) (w : World) :
    Calls Tryz.prog 73 #[.int .u8 (c.toNat : Int)] w fun e w' => e = .returned (.bool (isBlank c)) ∧ w = w' := by
  have H := Lib.hid (isBlank_int c)
  go_enter Tryz.func73, Tryz.ntmps73
  go_wp2
  all_goals
    go_ret
    refine ⟨?_, rfl⟩
    rw [H.out]
    simp [*]

theorem retb {a b : Bool} (h : b = a) : Ending.returned (.bool a) = .returned (.bool b) := by rw [h]
set_option maxHeartbeats 400000 in
theorem refKey (s : ByteArray) (hs : s.size ≤ 9223372036854775807) (w : World) :
    Calls Tryz.prog 33 #[.string s] w fun e w' => e = .returned (.bool (goodKey s.data.toList)) ∧ w = w' := by
  go_enter Tryz.func33, Tryz.ntmps33
  go_wp2_with (go_at_call 73; refine (refBlank _ _).mono ?_; rintro e w' ⟨rfl, rfl⟩)
  · go_ret
    exact ⟨retb (key_blank s (by assumption) (by assumption)), rfl⟩
  · have h0 : 0 < s.size := by assumption
    have h : ((s.size : Int) < 1 ∨ 32 < (s.size : Int)) ∨ ((s[0].toNat : Int) == 35) = true := by assumption
    have h3 : (s[0].toNat : Int) = 35 := by
      rcases h with h | h
      · omega
      · simpa using h
    go_ret
    exact ⟨retb (key_hash s h0 (byte_is 35 h3)), rfl⟩
  · have h0 : 0 < s.size := by assumption
    have h1 : (s.size : Int) ≤ 32 := by assumption
    have h2 : ¬ isBlank s[0] = true := by assumption
    have h : (1 ≤ (s.size : Int) ∧ (s.size : Int) ≤ 32) ∧ ((s[0].toNat : Int) == 35) = false := by assumption
    have h3 : s[0] ≠ 35 := byte_not 35 (by simpa using h.2)
    go_loop [3] (fun i => ∃ k : Nat, k ≤ s.size ∧ i = .int .i64 k ∧ Clean s.data.toList k) (fun i => s.size - (intOf i).toNat)
    case atStart => exact ⟨0, Nat.zero_le _, rfl, Clean.zero _⟩
    case round =>
      obtain ⟨k, hk, rfl, hc⟩ := hrel
      go_wp2
      · have hlt : k < s.size := by assumption
        have e : (s[k].toNat : Int) = 58 := by assumption
        go_ret
        exact ⟨retb (key_has _ k (.inl (get_is s k hlt 58 e))), rfl⟩
      · have hlt : k < s.size := by assumption
        have e0 : ¬ (s[k].toNat : Int) = 58 := by assumption
        have e : ((s[k].toNat : Int) == 58) = true ∨ ((s[k].toNat : Int) == 10) = true := by assumption
        have e1 : (s[k].toNat : Int) = 10 := by simpa [e0] using e
        go_ret
        exact ⟨retb (key_has _ k (.inr (get_is s k hlt 10 e1))), rfl⟩
      · have hlt : k < s.size := by assumption
        have e : ((s[k].toNat : Int) == 58) = false ∧ ((s[k].toNat : Int) == 10) = false := by assumption
        go_round
        case rel => exact ⟨k + 1, by omega, by go_num, hc.succ (get_not s k hlt 58 (by simpa using e.1)) (get_not s k hlt 10 (by simpa using e.2))⟩
        case measure => simp [intOf]; omega
      · have hge : s.size ≤ k := by omega
        go_ret
        obtain rfl : k = s.size := by omega
        exact ⟨retb (key_good s h0 h1 h2 h3 hc), rfl⟩
  · go_ret
    exact ⟨retb (key_long s (by assumption)), rfl⟩
  · go_ret
    exact ⟨retb (key_none s (by assumption)), rfl⟩
theorem ret3 {a b : ByteArray} {c : Bool} {t : List UInt8 × List UInt8 × Bool} (ht : t = (a.data.toList, b.data.toList, c)) :
    Ending.returned (.tuple #[.string a, .string b, .bool c]) = .returned (.tuple #[.string ⟨t.1.toArray⟩, .string ⟨t.2.1.toArray⟩, .bool t.2.2]) := by
  subst ht; simp only [Array.toArray_toList]
set_option maxHeartbeats 400000 in
theorem refCut (s : ByteArray) (hs : s.size ≤ 9223372036854775807) (w : World) :
    Calls Tryz.prog 150 #[.string s] w fun e w' => e = .returned (.tuple #[.string ⟨(cutOf s.data.toList).1.toArray⟩, .string ⟨(cutOf s.data.toList).2.1.toArray⟩, .bool (cutOf s.data.toList).2.2]) ∧ ∃ n, w' = w.drewN n := by
  have L := Lib.hid (size_len s)
  go_enter Tryz.func150, Tryz.ntmps150
  go_wp2
  go_loop [5] (fun i => ∃ k : Nat, k ≤ s.size ∧ i = .int .i64 k ∧ Free 10 s.data.toList k) (fun i => s.size - (intOf i).toNat)
  case atStart => exact ⟨0, Nat.zero_le _, rfl, Free.zero _ _⟩
  case round =>
    obtain ⟨k, hk, rfl, hc⟩ := hrel
    go_wp2
    · have hlt : k < s.size := by assumption
      have e := get_isb s k hlt 10 (by assumption)
      go_ret3
      exact ⟨ret3 (cut_end e), 0, rfl⟩
    · have hlt : k < s.size := by assumption
      have e := get_notb s k hlt 10 (by assumption)
      go_round
      case rel => exact ⟨k + 1, by omega, by go_num, hc.succ e⟩
      case measure => simp [intOf]; omega
    · have hge : s.size ≤ k := by omega
      have h10 : Hid (s.data.toList.contains 10 = false) := hc.none (by rw [L.out]; omega)
      clear hc hk hge
      go_loop [6] (fun i => ∃ k : Nat, k ≤ s.size ∧ i = .int .i64 k ∧ Free 58 s.data.toList k) (fun i => s.size - (intOf i).toNat)
      case atStart => exact ⟨0, Nat.zero_le _, rfl, Free.zero _ _⟩
      case round =>
        obtain ⟨k, hk, rfl, hc⟩ := hrel
        go_wp2_with fail
        · have hlt : k < s.size := by assumption
          have e := Lib.hid (get_isb s k hlt 58 (by assumption))
          have B1 := take_size_le s k
          have E1 := Lib.hid (extract_take_data s k)
          have R := refKey (s.extract 0 k) (by omega) w
          rw [E1.out] at R
          obtain ⟨g, G⟩ : ∃ g, Hid (goodKey (s.data.toList.take k) = g) := ⟨_, rfl⟩
          rw [G.out] at R
          have hl1 : k + 1 ≤ s.size := by omega
          have W1 : IntKind.i64.wrap ((k : Int) + 1) = (k : Int) + 1 := IntWalk.i64_in _ (by omega)
          have W2 : ((k : Int) + 1).toNat = k + 1 := by omega
          have W3 : 0 ≤ (k : Int) + 1 := by omega
          refine R.mono ?_
          clear R
          rintro e1 w1 ⟨rfl, rfl⟩
          cases g
          · go_wp2
            go_ret3
            exact ⟨ret3 (cut_bad h10.out hc e.out G.out), 0, rfl⟩
          · go_wp2
            go_quiet (fail)
            go_wp2
            go_ret3
            exact ⟨ret3 (by rw [cut_good h10.out hc e.out G.out, extract_take, extract_drop]), _, rfl⟩
        · have hlt : k < s.size := by assumption
          have e := get_notb s k hlt 58 (by assumption)
          go_round
          case rel => exact ⟨k + 1, by omega, by go_num, hc.succ e⟩
          case measure => simp [intOf]; omega
        · go_ret3
          exact ⟨ret3 (cut_none h10.out hc (by rw [L.out]; omega)), 0, rfl⟩
theorem reti0 {a b : Int} (h : b = a) : Ending.returned (.int .i64 a) = .returned (.int .i64 b) := by rw [h]
set_option maxHeartbeats 400000 in
theorem refKind (s : ByteArray) (hs : s.size ≤ 9223372036854775807) (w : World) :
    Calls Tryz.prog 103 #[.string s] w fun e w' => e = .returned (.int .i64 (kindOf s.data.toList)) ∧ ∃ n, w' = w.drewN n := by
  have L := Lib.hid (size_len s)
  go_enter Tryz.func103, Tryz.ntmps103
  go_wp2
  go_loop [3, 4] (fun b i => ∃ k : Nat, k ≤ s.size ∧ i = .int .i64 k ∧ b = .bool ((s.data.toList.take k).all isBlank) ∧ Free 10 s.data.toList k) (fun _ i => s.size - (intOf i).toNat)
  case atStart => exact ⟨0, Nat.zero_le _, rfl, rfl, Free.zero _ _⟩
  case round =>
    obtain ⟨k, hk, rfl, rfl, hc⟩ := hrel
    have h0 : (s.data.toList.take k).all isBlank = false → 0 < s.size := by
      intro h
      rcases Nat.eq_zero_or_pos k with rfl | hk0
      · simp at h
      · omega
    obtain ⟨b, B⟩ : ∃ b, Hid ((s.data.toList.take k).all isBlank = b) := ⟨_, rfl⟩
    rw [B.out] at h0 ⊢
    cases b
    · have hpos : 0 < s.size := h0 rfl
      clear h0
      go_wp2_with (first | (go_at_call 73; refine (refBlank _ _).mono ?_; rintro e w' ⟨rfl, rfl⟩) | (go_at_call 150; refine (refCut s hs _).mono ?_; rintro e w' ⟨rfl, n, rfl⟩))
      · have hlt : k < s.size := by assumption
        have e : has 10 s.data.toList = true := contains_of_get _ _ _ (get_isb s k hlt 10 (by assumption))
        go_ret
        exact ⟨reti0 (by rw [kindOf_eq, e]; rfl), 0, rfl⟩
      · have hlt : k < s.size := by assumption
        have e := get_notb s k hlt 10 (by assumption)
        go_round
        case rel => exact ⟨k + 1, by omega, by go_num, by rw [all_take_succ _ _ _ (get_data s k hlt), B.out]; rfl, hc.succ e⟩
        case measure => simp [intOf]; omega
      all_goals
        have hge : s.size ≤ k := by omega
        have h1 : has 10 s.data.toList = false := hc.none (by rw [L.out]; omega)
        have h2 : s.data.toList.all isBlank = false := by have := B.out; rwa [List.take_of_length_le (by rw [L.out]; omega)] at this
      · have h3 := begins_yes s hpos (by assumption)
        go_ret
        exact ⟨reti0 (by rw [kindOf_eq, h1, h2, h3]; rfl), 0, rfl⟩
      all_goals
        have h3 := begins_no s hpos (by assumption)
        have h4 := blankHead_of s hpos
      · have h5 : isBlank s[0] = true := by assumption
        go_ret
        exact ⟨reti0 (by rw [kindOf_eq, h1, h2, h3, h4, h5]; rfl), 0, rfl⟩
      all_goals
        have h5 : isBlank s[0] = false := by assumption
        have h6 := cutOf_ok _ h1
      · have h7 : (cutOf s.data.toList).2.2 = true := by assumption
        rw [h6] at h7
        go_ret
        exact ⟨reti0 (by rw [kindOf_eq, h1, h2, h3, h4, h5, h7]; rfl), n, rfl⟩
      · have h7 : (cutOf s.data.toList).2.2 = false := by assumption
        rw [h6] at h7
        go_ret
        exact ⟨reti0 (by rw [kindOf_eq, h1, h2, h3, h4, h5, h7]; rfl), n, rfl⟩
    · clear h0
      go_wp2_with (go_at_call 73; refine (refBlank _ _).mono ?_; rintro e w' ⟨rfl, rfl⟩)
      · have hlt : k < s.size := by assumption
        have e : has 10 s.data.toList = true := contains_of_get _ _ _ (get_isb s k hlt 10 (by assumption))
        go_ret
        exact ⟨reti0 (by rw [kindOf_eq, e]; rfl), 0, rfl⟩
      · have hlt : k < s.size := by assumption
        have e := get_notb s k hlt 10 (by assumption)
        go_round
        case rel => exact ⟨k + 1, by omega, by go_num, by rw [all_take_succ _ _ _ (get_data s k hlt), B.out]; rfl, hc.succ e⟩
        case measure => simp [intOf]; omega
      · have hge : s.size ≤ k := by omega
        have h1 : has 10 s.data.toList = false := hc.none (by rw [L.out]; omega)
        have h2 : s.data.toList.all isBlank = true := by have := B.out; rwa [List.take_of_length_le (by rw [L.out]; omega)] at this
        go_ret
        exact ⟨reti0 (by rw [kindOf_eq, h1, h2]; rfl), 0, rfl⟩
end Go.Proofs.YtjbnjlkoipkpoaaGreatDoor.B

namespace Go.Proofs.YtjbnjlkoipkpoaaGreatDoor.B
open Go.RowKit

/-- The cells of a row of lines. -/
def rowCells (xs : List LineD) : List Value := (xs.map lineCells).flatten
theorem rowCells_snoc (xs : List LineD) (x : LineD) : rowCells (xs ++ [x]) = rowCells xs ++ lineCells x := by simp [rowCells]
theorem rowCells_len (xs : List LineD) : (rowCells xs).length = xs.length * 4 := by
  induction xs with
  | nil => rfl
  | cons x t ih => simp only [rowCells, List.map_cons, List.flatten_cons, List.length_append, List.length_cons] at *; rw [ih]; simp [lineCells]; omega
theorem cell_four_new (w : World) (a b c d : Value) (t : TypeId) : ∀ j u, [a, b, c, d][j]? = some u → (w.alloc (.cells #[a, b, c, d] t)).cell? ((⟨w.heap.size, 0, none⟩ : Addr).add j) = some u := by
  intro j u hj
  match j, hj with
  | 0, hj => simp at hj; subst hj; simp [Addr.add]
  | 1, hj => simp at hj; subst hj; simp [Addr.add]
  | 2, hj => simp at hj; subst hj; simp [Addr.add]
  | 3, hj => simp at hj; subst hj; simp [Addr.add]
  | j + 4, hj => simp at hj
theorem infoRL : (Tryz.prog.info? 178).map (fun i => (i.zero, i.size, i.bytes)) = some (some (.agg #[.int .i64 0, .int .i64 0, .string ByteArray.empty, .bool false]), 4, 40) := by kernel_rfl
/-- WHERE THE LOOP STANDS: the lines of text[:at], then text[at:k] without a line end. -/
structure RefAt (s : ByteArray) (k p f : Nat) (pre : List LineD) : Prop where
  le : p ≤ k
  ks : k ≤ s.size
  fu : s.size - p ≤ f
  eq : splitL s.data.toList = pre ++ splitFrom s.size f pre.length (s.data.toList.drop p)
  fr : ∀ j : Nat, p ≤ j → j < k → s.data.toList[j]? ≠ some 10
  few : pre.length ≤ p
theorem RefAt.start (s : ByteArray) : RefAt s 0 0 s.size [] :=
  ⟨Nat.le_refl _, Nat.zero_le _, by omega, by unfold splitL; rw [size_len]; rfl, fun j _ h => absurd h (Nat.not_lt_zero _), Nat.le_refl _⟩
theorem RefAt.go {s : ByteArray} {k p f : Nat} {pre : List LineD} (h : RefAt s k p f pre) (hk : k < s.size) (hn : s.data.toList[k]? ≠ some 10) : RefAt s (k + 1) p f pre :=
  ⟨by have := h.le; omega, by omega, h.fu, h.eq, fun j h1 h2 => by
    rcases Nat.lt_or_ge j k with hl | hl
    · exact h.fr j h1 hl
    · obtain rfl : j = k := by omega
      exact hn, h.few⟩
theorem drop_len (s : ByteArray) (p : Nat) : (s.data.toList.drop p).length = s.size - p := by rw [List.length_drop, size_len]
theorem extract_mid (s : ByteArray) (p k : Nat) : s.extract p k = ⟨((s.data.toList.drop p).take (k - p)).toArray⟩ := Lib.extract_eq s p k
theorem RefAt.hit {s : ByteArray} {k p f : Nat} {pre : List LineD} (h : RefAt s k p f pre) (hk : k < s.size) (hb : s.data.toList[k]? = some 10) :
    ∃ f', RefAt s (k + 1) (k + 1) f' (pre ++ [⟨pre.length, p, (s.data.toList.drop p).take (k - p), true⟩]) := by
  have hle := h.le
  have hd : (s.data.toList.drop p) ≠ [] := by rw [← List.length_pos_iff, drop_len]; omega
  have g1 : (s.data.toList.drop p)[k - p]? = some 10 := by rw [List.getElem?_drop, ← hb]; congr 1; omega
  have g2 : ∀ j : Nat, j < k - p → (s.data.toList.drop p)[j]? ≠ some 10 := fun j hj => by rw [List.getElem?_drop]; exact h.fr (p + j) (by omega) (by omega)
  obtain ⟨f', rfl, h1, h2⟩ := splitFrom_cons s.size f pre.length (s.data.toList.drop p) hd (by rw [drop_len]; exact h.fu)
  have hbe : behind 10 (s.data.toList.drop p) = s.data.toList.drop (k + 1) := by
    rw [behind_eq_drop _ _ _ g1 g2, List.drop_drop]; congr 1; omega
  have hah := ahead_eq_take _ _ _ g1 g2
  have hco : has 10 (s.data.toList.drop p) = true := contains_of_get _ _ _ g1
  rw [hbe] at h1 h2
  rw [drop_len] at h1
  refine ⟨f', Nat.le_refl _, by omega, h1, ?_, fun j h1 h2 => by omega, by simp; have := h.few; omega⟩
  rw [h.eq, h2, hah, hco, drop_len]
  have : s.size - (s.size - p) = p := by omega
  rw [this]
  simp
theorem RefAt.last {s : ByteArray} {p f : Nat} {pre : List LineD} (h : RefAt s s.size p f pre) :
    (p < s.size → splitL s.data.toList = pre ++ [⟨pre.length, p, s.data.toList.drop p, false⟩]) ∧ (¬ p < s.size → splitL s.data.toList = pre) := by
  constructor
  · intro hp
    have hd : (s.data.toList.drop p) ≠ [] := by rw [← List.length_pos_iff, drop_len]; omega
    have hc : has 10 (s.data.toList.drop p) = false := not_contains_of _ _ fun j hj => by
      rw [drop_len] at hj
      rw [List.getElem?_drop]; exact h.fr (p + j) (by omega) (by omega)
    obtain ⟨f', rfl, h1, h2⟩ := splitFrom_cons s.size f pre.length (s.data.toList.drop p) hd (by rw [drop_len]; exact h.fu)
    rw [h.eq, h2, hc, behind_none _ _ hc, ahead_none _ _ hc, splitFrom_nil, drop_len]
    have : s.size - (s.size - p) = p := by omega
    rw [this]
  · intro hp
    have hd : (s.data.toList.drop p) = [] := by rw [← List.length_eq_zero_iff, drop_len]; omega
    rw [h.eq, hd, splitFrom_nil, List.append_nil]
theorem own_shape {w : World} {base : Nat} {e : TypeId} {size : Nat} {v : Value} {n : Nat} {xs : List Value} (h : w.ownsRow base e size v n xs) : ∃ ao c, v = .slice ao n c := by
  rcases h.2 with ⟨rfl, rfl⟩ | ⟨g, c, cur, rfl, _⟩
  · exact ⟨none, 0, rfl⟩
  · exact ⟨_, _, rfl⟩
theorem below_append {B : Nat} {w wr w1 : World} {e : TypeId} {size : Nat} {v : Value} {n : Nat} {xs : List Value} (hb : Below B w wr) (hB : B ≤ wr.heap.size) (o : Obj) (hown : wr.ownsRow B e size v n xs) (hg : (wr.alloc o).grownBy w1 v.ownBlock) : Below B w w1 :=
  Below.grown (hb.alloc hB o) hg (by simp; omega) (fun j hj => (hown.lt _ hj).1)
set_option maxRecDepth 100000 in
set_option maxHeartbeats 3200000 in
theorem refSplit (s : ByteArray) (hs : s.size ≤ 1000000) (w : World) :
    Calls Tryz.prog 102 #[.string s] w fun e w' => ∃ v, e = .returned v ∧ w'.ownsRow w.heap.size 178 4 v (splitL s.data.toList).length (rowCells (splitL s.data.toList)) ∧ Below w.heap.size w w' := by
  obtain ⟨i0, hi, hz0, hz1, hz2⟩ := info_parts infoRL
  have L := Lib.hid (size_len s)
  go_enter Tryz.func102, Tryz.ntmps102
  go_wp2
  go_loopw [3, 4, 5] (fun v p i wr => ∃ (k q f : Nat) (pre : List LineD), i = .int .i64 k ∧ p = .int .i64 q ∧ wr.ownsRow w.heap.size 178 4 v pre.length (rowCells pre) ∧ Below w.heap.size w wr ∧ RefAt s k q f pre) (fun _ _ i _ => s.size - (intOf i).toNat)
  case atStart => exact ⟨0, 0, s.size, [], rfl, rfl, World.ownsRow_nil _ _ _ _, Below.refl _ _, RefAt.start s⟩
  case round =>
    obtain ⟨k, q, f, pre, rfl, rfl, hown, hbw, hR⟩ := hrel
    have h1 := hR.le
    have h2 := hR.ks
    have h3 := hR.few
    have hbs := hbw.size
    obtain ⟨ao, cp, rfl⟩ := own_shape hown
    have H := Lib.hid (And.intro hown (And.intro hbw hR))
    clear hown hbw hR
    go_wp2_with (at_builtin; refine wpList_append_own _ rfl _ _ 175 rfl w.heap.size 178 i0 _ 4 40 Tryz.underlying175 hi hz0 hz1 hz2 rfl (by decide) _ pre.length (rowCells pre) rfl (H.out.1.alloc _) ⟨wr.heap.size, 0, none⟩ 1 1 _ rfl rfl (cell_four_new _ _ _ _ _ _) (fun x hx => by simp at hx; rcases hx with rfl | rfl | rfl | rfl <;> rfl) (by unfold maxLen; omega) (by omega) (by simp; omega) ?_; intro v' w1 hown' hgrow _)
    · have hlt : k < s.size := by assumption
      have e : s.data.toList[k]? = some 10 := get_isb s k hlt 10 (by assumption)
      obtain ⟨f', hR'⟩ := H.out.2.2.hit hlt e
      have hb' := below_append H.out.2.1 hbs _ H.out.1 hgrow
      have HX := Lib.hid (And.intro hown' (And.intro hb' hR'))
      clear hown' hgrow hb' hR' e
      go_wp2
      go_roundw
      case rel => exact ⟨k + 1, k + 1, f', _, by go_num, by go_num, by rw [List.length_append, rowCells_snoc]; have := HX.out.1; rw [extract_mid] at this; exact this, HX.out.2.1, HX.out.2.2⟩
      case measure => simp [intOf]; omega
    · have hlt : k < s.size := by assumption
      have e : s.data.toList[k]? ≠ some 10 := get_notb s k hlt 10 (by assumption)
      go_roundw
      case rel => exact ⟨k + 1, q, f, pre, by go_num, rfl, H.out.1, H.out.2.1, H.out.2.2.go hlt e⟩
      case measure => simp [intOf]; omega
    · have hge : s.size ≤ k := by omega
      obtain rfl : k = s.size := by omega
      have hlt : q < s.size := by assumption
      have hb' := below_append H.out.2.1 hbs _ H.out.1 hgrow
      have e := H.out.2.2.last.1 hlt
      have HX := Lib.hid (And.intro hown' (And.intro hb' e))
      clear hown' hgrow hb' e
      go_wp2
      go_ret
      refine ⟨_, rfl, ?_, HX.out.2.1⟩
      rw [HX.out.2.2, List.length_append, rowCells_snoc]
      have := HX.out.1
      rw [extract_drop] at this
      exact this
    · have hge : s.size ≤ k := by omega
      obtain rfl : k = s.size := by omega
      have hlt : ¬ q < s.size := by assumption
      have e := H.out.2.2.last.2 hlt
      go_ret
      refine ⟨_, rfl, ?_, H.out.2.1⟩
      rw [e]
      exact H.out.1
end Go.Proofs.YtjbnjlkoipkpoaaGreatDoor.B
