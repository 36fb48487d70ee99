/- The reference's Split: a slice of the call's own that holds a text's lines. -/
import Derived.Test.YteaeekhepgjliaaDoorSplit
import Derived.WalkSmall
import Derived.WalkLawsBesides
namespace Go.Proofs.YteaeekhepgjliaaDoor
open Go.RowKit

/-- The cells of a row of lines. -/
def rowCells (xs : List LineD) : List Value := (xs.map lineCells).flatten
theorem rowCells_snoc (xs : List LineD) (x : LineD) : rowCells (xs ++ [x]) = rowCells xs ++ lineCells x := by simp [rowCells]
theorem rowCells_len (xs : List LineD) : (rowCells xs).length = xs.length * 4 := by
  induction xs with
  | nil => rfl
  | cons x t ih => simp only [rowCells, List.map_cons, List.flatten_cons, List.length_append, List.length_cons] at *; rw [ih]; simp [lineCells]; omega
theorem cell_four_new (w : World) (a b c d : Value) (t : TypeId) : ∀ j u, [a, b, c, d][j]? = some u → (w.alloc (.cells #[a, b, c, d] t)).cell? ((⟨w.heap.size, 0, none⟩ : Addr).add j) = some u := by
  intro j u hj
  match j, hj with
  | 0, hj => simp at hj; subst hj; simp [Addr.add]
  | 1, hj => simp at hj; subst hj; simp [Addr.add]
  | 2, hj => simp at hj; subst hj; simp [Addr.add]
  | 3, hj => simp at hj; subst hj; simp [Addr.add]
  | j + 4, hj => simp at hj
theorem infoRL : (Tryd.prog.info? 35).map (fun i => (i.zero, i.size, i.bytes)) = some (some (.agg #[.int .i64 0, .int .i64 0, .string ByteArray.empty, .bool false]), 4, 40) := by kernel_rfl
/-- WHERE THE LOOP STANDS: the lines of text[:at], then text[at:k] without a line end. -/
structure RefAt (s : ByteArray) (k p f : Nat) (pre : List LineD) : Prop where
  le : p ≤ k
  ks : k ≤ s.size
  fu : s.size - p ≤ f
  eq : splitL s.data.toList = pre ++ splitFrom s.size f pre.length (s.data.toList.drop p)
  fr : ∀ j : Nat, p ≤ j → j < k → s.data.toList[j]? ≠ some 10
  few : pre.length ≤ p
theorem RefAt.start (s : ByteArray) : RefAt s 0 0 s.size [] :=
  ⟨Nat.le_refl _, Nat.zero_le _, by omega, by unfold splitL; rw [size_len]; rfl, fun j _ h => absurd h (Nat.not_lt_zero _), Nat.le_refl _⟩
theorem RefAt.go {s : ByteArray} {k p f : Nat} {pre : List LineD} (h : RefAt s k p f pre) (hk : k < s.size) (hn : s.data.toList[k]? ≠ some 10) : RefAt s (k + 1) p f pre :=
  ⟨by have := h.le; omega, by omega, h.fu, h.eq, fun j h1 h2 => by
    rcases Nat.lt_or_ge j k with hl | hl
    · exact h.fr j h1 hl
    · obtain rfl : j = k := by omega
      exact hn, h.few⟩
theorem drop_len (s : ByteArray) (p : Nat) : (s.data.toList.drop p).length = s.size - p := by rw [List.length_drop, size_len]
theorem extract_mid (s : ByteArray) (p k : Nat) : s.extract p k = ⟨((s.data.toList.drop p).take (k - p)).toArray⟩ := Lib.extract_eq s p k
theorem RefAt.hit {s : ByteArray} {k p f : Nat} {pre : List LineD} (h : RefAt s k p f pre) (hk : k < s.size) (hb : s.data.toList[k]? = some 10) :
    ∃ f', RefAt s (k + 1) (k + 1) f' (pre ++ [⟨pre.length, p, (s.data.toList.drop p).take (k - p), true⟩]) := by
  have hle := h.le
  have hd : (s.data.toList.drop p) ≠ [] := by rw [← List.length_pos_iff, drop_len]; omega
  have g1 : (s.data.toList.drop p)[k - p]? = some 10 := by rw [List.getElem?_drop, ← hb]; congr 1; omega
  have g2 : ∀ j : Nat, j < k - p → (s.data.toList.drop p)[j]? ≠ some 10 := fun j hj => by rw [List.getElem?_drop]; exact h.fr (p + j) (by omega) (by omega)
  obtain ⟨f', rfl, h1, h2⟩ := splitFrom_cons s.size f pre.length (s.data.toList.drop p) hd (by rw [drop_len]; exact h.fu)
  have hbe : behind 10 (s.data.toList.drop p) = s.data.toList.drop (k + 1) := by
    rw [behind_eq_drop _ _ _ g1 g2, List.drop_drop]; congr 1; omega
  have hah := ahead_eq_take _ _ _ g1 g2
  have hco : has 10 (s.data.toList.drop p) = true := contains_of_get _ _ _ g1
  rw [hbe] at h1 h2
  rw [drop_len] at h1
  refine ⟨f', Nat.le_refl _, by omega, h1, ?_, fun j h1 h2 => by omega, by simp; have := h.few; omega⟩
  rw [h.eq, h2, hah, hco, drop_len]
  have : s.size - (s.size - p) = p := by omega
  rw [this]
  simp
theorem RefAt.last {s : ByteArray} {p f : Nat} {pre : List LineD} (h : RefAt s s.size p f pre) :
    (p < s.size → splitL s.data.toList = pre ++ [⟨pre.length, p, s.data.toList.drop p, false⟩]) ∧ (¬ p < s.size → splitL s.data.toList = pre) := by
  constructor
  · intro hp
    have hd : (s.data.toList.drop p) ≠ [] := by rw [← List.length_pos_iff, drop_len]; omega
    have hc : has 10 (s.data.toList.drop p) = false := not_contains_of _ _ fun j hj => by
      rw [drop_len] at hj
      rw [List.getElem?_drop]; exact h.fr (p + j) (by omega) (by omega)
    obtain ⟨f', rfl, h1, h2⟩ := splitFrom_cons s.size f pre.length (s.data.toList.drop p) hd (by rw [drop_len]; exact h.fu)
    rw [h.eq, h2, hc, behind_none _ _ hc, ahead_none _ _ hc, splitFrom_nil, drop_len]
    have : s.size - (s.size - p) = p := by omega
    rw [this]
  · intro hp
    have hd : (s.data.toList.drop p) = [] := by rw [← List.length_eq_zero_iff, drop_len]; omega
    rw [h.eq, hd, splitFrom_nil, List.append_nil]
theorem own_shape {w : World} {base : Nat} {e : TypeId} {size : Nat} {v : Value} {n : Nat} {xs : List Value} (h : w.ownsRow base e size v n xs) : ∃ ao c, v = .slice ao n c := by
  rcases h.2 with ⟨rfl, rfl⟩ | ⟨g, c, cur, rfl, _⟩
  · exact ⟨none, 0, rfl⟩
  · exact ⟨_, _, rfl⟩
theorem below_append {B : Nat} {w wr w1 : World} {e : TypeId} {size : Nat} {v : Value} {n : Nat} {xs : List Value} (hb : Below B w wr) (hB : B ≤ wr.heap.size) (o : Obj) (hown : wr.ownsRow B e size v n xs) (hg : (wr.alloc o).grownBy w1 v.ownBlock) : Below B w w1 :=
  Below.grown (hb.alloc hB o) hg (by simp; omega) (fun j hj => (hown.lt _ hj).1)
set_option maxHeartbeats 1000000 in
theorem refSplit (s : ByteArray) (hs : s.size ≤ 1000000) (w : World) :
    Calls Tryd.prog 15 #[.string s] w fun e w' => ∃ v, e = .returned v ∧ w'.ownsRow w.heap.size 35 4 v (splitL s.data.toList).length (rowCells (splitL s.data.toList)) ∧ Below w.heap.size w w' := by
  obtain ⟨i0, hi, hz0, hz1, hz2⟩ := info_parts infoRL
  have L := Lib.hid (size_len s)
  go_enter Tryd.func15, Tryd.ntmps15
  go_wp2
  go_loopw [3, 4, 5] (fun v p i wr => ∃ (k q f : Nat) (pre : List LineD), i = .int .i64 k ∧ p = .int .i64 q ∧ wr.ownsRow w.heap.size 35 4 v pre.length (rowCells pre) ∧ Below w.heap.size w wr ∧ RefAt s k q f pre) (fun _ _ i _ => s.size - (intOf i).toNat)
  case atStart => exact ⟨0, 0, s.size, [], rfl, rfl, World.ownsRow_nil _ _ _ _, Below.refl _ _, RefAt.start s⟩
  case round =>
    obtain ⟨k, q, f, pre, rfl, rfl, hown, hbw, hR⟩ := hrel
    have h1 := hR.le
    have h2 := hR.ks
    have h3 := hR.few
    have hbs := hbw.size
    obtain ⟨ao, cp, rfl⟩ := own_shape hown
    have H := Lib.hid (And.intro hown (And.intro hbw hR))
    clear hown hbw hR
    go_wp2_with (at_builtin; refine wpList_append_own _ rfl _ _ 28 rfl w.heap.size 35 i0 _ 4 40 Tryd.underlying28 hi hz0 hz1 hz2 rfl (by decide) _ pre.length (rowCells pre) rfl (H.out.1.alloc _) ⟨wr.heap.size, 0, none⟩ 1 1 _ rfl rfl (cell_four_new _ _ _ _ _ _) (fun x hx => by simp at hx; rcases hx with rfl | rfl | rfl | rfl <;> rfl) (by unfold maxLen; omega) (by omega) (by simp; omega) ?_; intro v' w1 hown' hgrow _)
    · have hlt : k < s.size := by assumption
      have e : s.data.toList[k]? = some 10 := get_isb s k hlt 10 (by assumption)
      obtain ⟨f', hR'⟩ := H.out.2.2.hit hlt e
      have hb' := below_append H.out.2.1 hbs _ H.out.1 hgrow
      have HX := Lib.hid (And.intro hown' (And.intro hb' hR'))
      clear hown' hgrow hb' hR' e
      go_wp2
      go_roundw
      case rel => exact ⟨k + 1, k + 1, f', _, by go_num, by go_num, by rw [List.length_append, rowCells_snoc]; have := HX.out.1; rw [extract_mid] at this; exact this, HX.out.2.1, HX.out.2.2⟩
      case measure => simp [intOf]; omega
    · have hlt : k < s.size := by assumption
      have e : s.data.toList[k]? ≠ some 10 := get_notb s k hlt 10 (by assumption)
      go_roundw
      case rel => exact ⟨k + 1, q, f, pre, by go_num, rfl, H.out.1, H.out.2.1, H.out.2.2.go hlt e⟩
      case measure => simp [intOf]; omega
    · have hge : s.size ≤ k := by omega
      obtain rfl : k = s.size := by omega
      have hlt : q < s.size := by assumption
      have hb' := below_append H.out.2.1 hbs _ H.out.1 hgrow
      have e := H.out.2.2.last.1 hlt
      have HX := Lib.hid (And.intro hown' (And.intro hb' e))
      clear hown' hgrow hb' e
      go_wp2
      go_ret
      refine ⟨_, rfl, ?_, HX.out.2.1⟩
      rw [HX.out.2.2, List.length_append, rowCells_snoc]
      have := HX.out.1
      rw [extract_drop] at this
      exact this
    · have hge : s.size ≤ k := by omega
      obtain rfl : k = s.size := by omega
      have hlt : ¬ q < s.size := by assumption
      have e := H.out.2.2.last.2 hlt
      go_ret
      refine ⟨_, rfl, ?_, H.out.2.1⟩
      rw [e]
      exact H.out.1
end Go.Proofs.YteaeekhepgjliaaDoor
