/- The stanzas by their cells: what the answer is. -/
import Derived.Test.YtjbnjlkoipkpoaaGreatDoorTSrtIns
import Derived.Test.YtjbnjlkoipkpoaaGreatDoorTSrtUniq
import Derived.Test.YtjbnjlkoipkpoaaGreatDoorTCntLaw
import Derived.Test.YtjbnjlkoipkpoaaGreatDoorTTable
import Derived.Lib.Bytealg
namespace Go.Proofs.YtjbnjlkoipkpoaaGreatDoor.T
open Go.RowKit Go.Shelf
open Go.Proofs.YtjbnjlkoipkpoaaGreatDoor.B

theorem compareB_neg : ∀ a b : L8, Lib.compareBytes a b < 0 ↔ a < b
  | [], [] => by simp [Lib.compareBytes]
  | [], _ :: _ => by simp [Lib.compareBytes]
  | _ :: _, [] => by simp [Lib.compareBytes]
  | x :: a, y :: b => by
    have ih := compareB_neg a b
    unfold Lib.compareBytes
    rw [List.cons_lt_cons_iff]
    by_cases h : x < y
    · simp [h]
    · by_cases k : y < x
      · have hne : ¬ x = y := fun e => by subst e; exact h k
        simp [h, k, hne]
      · have e : x = y := UInt8.le_antisymm (UInt8.not_lt.1 k) (UInt8.not_lt.1 h)
        subst e
        simp [ih]
/-- A stanza's cell. -/
def cellAt (key : L8) (ss : List St) (x : Nat) : L8 := cellL key ((ss[x]?.map (·.2)).getD [])
theorem cellAt_get {key : L8} {ss : List St} {x : Nat} {y : St} (h : ss[x]? = some y) : cellAt key ss x = cellL key y.2 := by unfold cellAt; rw [h]; rfl
def cmpOf (key : L8) (ss : List St) (x y : Nat) : Int := Lib.compareBytes (cellAt key ss x) (cellAt key ss y)
theorem cmpOf_ltc (key : L8) (ss : List St) (x y : Nat) : ltc (cmpOf key ss) x y = decide (cellAt key ss x < cellAt key ss y) := by
  unfold ltc cmpOf
  rw [Bool.eq_iff_iff, decide_eq_true_iff, decide_eq_true_iff]
  exact compareB_neg _ _
theorem cmpOf_less (key : L8) (ss : List St) : Less (ltc (cmpOf key ss)) where
  asym x y h := by
    rw [cmpOf_ltc, decide_eq_true_iff] at h
    rw [cmpOf_ltc, decide_eq_false_iff_not]
    exact fun k => l8_irr _ (l8_trans h k)
  neg x y z h k := by
    rw [cmpOf_ltc, decide_eq_false_iff_not] at h k ⊢
    exact List.not_lt.2 (List.le_trans (List.not_lt.1 k) (List.not_lt.1 h))
/-- The numbers of the stanzas, by their cells. -/
def ByCells (key : L8) (ss : List St) (zs : List Nat) : Prop :=
  ∃ d : Nat → Nat, (∀ p, p < ss.length → d p < ss.length) ∧ Srt (ltc (cmpOf key ss)) d 0 ss.length ∧ zs.length = ss.length ∧ ∀ p, p < ss.length → zs[p]? = (ss[d p]?).map (·.1)
theorem byCells_uniq {key : L8} {ss : List St} {zs zs' : List Nat} (h : ByCells key ss zs) (h' : ByCells key ss zs') : zs = zs' := by
  obtain ⟨d, h1, h2, h3, h4⟩ := h
  obtain ⟨d', k1, k2, k3, k4⟩ := h'
  have e := srt_same (cmpOf_less key ss) h2 k2 h1 k1
  refine List.ext_getElem? fun p => ?_
  by_cases c : p < ss.length
  · rw [h4 p c, k4 p c, e p c]
  · rw [List.getElem?_eq_none (by omega), List.getElem?_eq_none (by omega)]
/-- The element that a stanza is, in its row. -/
def elOf (ss : List St) (us : List Value) (p : Nat) : El :=
  match us[p]? with
  | some (.slice o l c) => ⟨((ss[p]?.map (·.1)).getD 0 : Nat), o, l, c⟩
  | _ => ⟨((ss[p]?.map (·.1)).getD 0 : Nat), none, 0, 0⟩
theorem elOf_get {ss : List St} {us : List Value} {p : Nat} {x : St} {o : Option Addr} {l c : Nat} (h : ss[p]? = some x) (k : us[p]? = some (.slice o l c)) : elOf ss us p = ⟨(x.1 : Nat), o, l, c⟩ := by
  unfold elOf
  rw [k, h]; rfl
theorem elOf_id {ss : List St} {us : List Value} {p : Nat} {x : St} (h : ss[p]? = some x) : (elOf ss us p).id = (x.1 : Nat) := by
  unfold elOf
  rw [h]
  split <;> rfl
end Go.Proofs.YtjbnjlkoipkpoaaGreatDoor.T
