/- The plain model of the disk that forgets what was not synced: what each method makes of it. No program is named here. -/
import Derived.Lib.Strings
import Derived.Lib.SlTrimSet
import Derived.Maps.Views
import Derived.Maps.Ext
import Derived.WalkKit
namespace Go.Proofs.YtalonkenchcfbaaDoor
open Go.RowKit

/-- A write or a cut that waits. -/
structure Wt where
  text : ByteArray
  place : Int
  cut : Bool
/-- A file: what is sure, and what waits. -/
structure Fl where
  sure : ByteArray
  waits : List Wt
/-- A change of the names that waits. -/
structure En where
  put : ByteArray
  take : ByteArray
  file : Nat
/-- What was done. -/
structure Ac where
  kind : Int
  name : ByteArray
  other : ByteArray
  bytes : ByteArray
  place : Int
/-- The disk. -/
structure Dk where
  units : Int
  left : Int
  armed : Bool
  gone : Bool
  room : Int
  files : List Fl
  dir : DataW Unit
  waits : List En
  acts : List Ac

/-! ### Files -/
/-- How many units a change takes. -/
def Wt.units (w : Wt) : Int := if w.cut then 1 else w.text.size
/-- A text behind a change of which n units were done. -/
def Wt.onto (w : Wt) (s : ByteArray) (n : Int) : ByteArray := if w.cut then s.extract 0 (min w.place s.size).toNat else s ++ w.text.extract 0 n.toNat
/-- One change more, with u units left (below 0: no end). -/
def stepW (st : ByteArray × Int) (w : Wt) : ByteArray × Int :=
  if 0 ≤ st.2 then (if 0 < min w.units st.2 then w.onto st.1 (min w.units st.2) else st.1, st.2 - min w.units st.2)
  else (if 0 < w.units then w.onto st.1 w.units else st.1, st.2)
def Fl.upto (f : Fl) (u : Int) (k : Nat) : ByteArray × Int := (f.waits.take k).foldl stepW (f.sure, u)
/-- A file's text, u units of what waits done. -/
def Fl.behind (f : Fl) (u : Int) : ByteArray := (f.waits.foldl stepW (f.sure, u)).1
def Fl.seen (f : Fl) : ByteArray := f.behind (-1)
/-- A bound on every text of a file. -/
def Fl.mass (f : Fl) : Nat := f.sure.size + (f.waits.map fun w => w.text.size).sum
theorem Fl.upto_succ (f : Fl) (u : Int) {k : Nat} {w : Wt} (h : f.waits[k]? = some w) : f.upto u (k + 1) = stepW (f.upto u k) w := by
  unfold Fl.upto
  rw [List.take_add_one, h]
  simp [List.foldl_append]
theorem Fl.upto_all (f : Fl) (u : Int) {k : Nat} (h : f.waits.length ≤ k) : (f.upto u k).1 = f.behind u := by
  unfold Fl.upto Fl.behind
  rw [List.take_of_length_le h]
theorem onto_size (w : Wt) (s : ByteArray) (n : Int) : (w.onto s n).size ≤ s.size + w.text.size := by
  unfold Wt.onto
  split
  · rw [ByteArray.size_extract]; omega
  · rw [ByteArray.size_append, ByteArray.size_extract]; omega
theorem stepW_size (st : ByteArray × Int) (w : Wt) : (stepW st w).1.size ≤ st.1.size + w.text.size := by
  have := onto_size w st.1
  unfold stepW
  split
  · split
    · exact this _
    · exact Nat.le_add_right _ _
  · split
    · exact this _
    · exact Nat.le_add_right _ _
theorem fold_size (l : List Wt) : ∀ st : ByteArray × Int, (l.foldl stepW st).1.size ≤ st.1.size + (l.map fun w => w.text.size).sum := by
  induction l with
  | nil => intro st; simp
  | cons w t ih =>
    intro st
    have h1 := ih (stepW st w)
    have h2 := stepW_size st w
    simp only [List.foldl_cons, List.map_cons, List.sum_cons]
    omega
theorem sum_take (l : List Wt) (k : Nat) : ((l.take k).map fun w => w.text.size).sum ≤ (l.map fun w => w.text.size).sum := by
  induction l generalizing k with
  | nil => simp
  | cons w t ih =>
    cases k with
    | zero => simp
    | succ k => simp only [List.take_succ_cons, List.map_cons, List.sum_cons]; have := ih k; omega
theorem Fl.upto_size (f : Fl) (u : Int) (k : Nat) : (f.upto u k).1.size ≤ f.mass := by
  have h1 := fold_size (f.waits.take k) (f.sure, u)
  have h2 := sum_take f.waits k
  unfold Fl.upto Fl.mass
  simp only at h1
  omega
theorem Fl.behind_size (f : Fl) (u : Int) : (f.behind u).size ≤ f.mass := fold_size f.waits (f.sure, u)
theorem sum_mem {l : List Wt} {w : Wt} (h : w ∈ l) : w.text.size ≤ (l.map fun w => w.text.size).sum := by
  induction l with
  | nil => cases h
  | cons x t ih =>
    simp only [List.map_cons, List.sum_cons]
    rcases List.mem_cons.1 h with rfl | h
    · omega
    · have := ih h; omega
theorem Fl.text_le {f : Fl} {w : Wt} (h : w ∈ f.waits) : w.text.size ≤ f.mass := by
  have := sum_mem h
  unfold Fl.mass
  omega

/-! ### Names -/
/-- The bytes of a good name: a to z, 0 to 9, the dot. -/
def letters : List UInt8 := [97, 98, 99, 100, 101, 102, 103, 104, 105, 106, 107, 108, 109, 110, 111, 112, 113, 114, 115, 116, 117, 118, 119, 120, 121, 122, 48, 49, 50, 51, 52, 53, 54, 55, 56, 57, 46]
def goodName (l : List UInt8) : Bool := !l.isEmpty && decide (l.length ≤ 20) && l.all fun c => letters.contains c
/-- A name as a key. -/
def nameK (s : ByteArray) : Lit := .string s.data.toList
/-- One change of the names. -/
def playOne (M : DataW Unit) (e : En) : DataW Unit := if e.put.size = 0 then M.del (nameK e.take) else (M.del (nameK e.take)).put (nameK e.put) (.lit (.int .i64 e.file))
def play (M : DataW Unit) (l : List En) : DataW Unit := l.foldl playOne M
def Dk.dirOf (D : Dk) : DataW Unit := play D.dir D.waits
theorem play_succ (M : DataW Unit) {l : List En} {k : Nat} {e : En} (h : l[k]? = some e) : play M (l.take (k + 1)) = playOne (play M (l.take k)) e := by
  unfold play
  rw [List.take_add_one, h]
  simp [List.foldl_append]
/-- Each name's file is one of the first n. -/
def Points (M : DataW Unit) (n : Nat) : Prop := ∀ k, Maps.has M k = true → ∃ i : Nat, i < n ∧ ∀ z, M.atKey k z = .lit (.int .i64 i)
def EnOk (n : Nat) (e : En) : Prop := e.put.size ≠ 0 → e.file < n
theorem isKey_name (s : ByteArray) : WideAt.IsKeyLit (nameK s) := trivial
theorem play_points {n : Nat} : ∀ (l : List En) (M : DataW Unit), Maps.Tidy M → Points M n → (∀ e ∈ l, EnOk n e) → Points (play M l) n ∧ Maps.Tidy (play M l)
  | [], M, t, h, _ => ⟨h, t⟩
  | e :: l, M, t, h, he => by
    refine play_points l (playOne M e) ?_ ?_ fun x hx => he x (List.mem_cons_of_mem _ hx)
    · unfold playOne
      split
      · exact t.del _
      · exact (t.del _).put (isKey_name _) _
    · have hdel : Points (M.del (nameK e.take)) n := by
        intro k hk
        by_cases hkk : k = nameK e.take
        · rw [hkk, Maps.has_del_same] at hk; cases hk
        · rw [Maps.has_del_other hkk] at hk
          obtain ⟨i, hi, hz⟩ := h k hk
          exact ⟨i, hi, fun z => by rw [Maps.atKey_del_other hkk]; exact hz z⟩
      unfold playOne
      split
      · exact hdel
      · rename_i hp
        intro k hk
        by_cases hkk : k = nameK e.put
        · exact ⟨e.file, he e (List.mem_cons_self ..) hp, fun z => by rw [hkk, Maps.atKey_put_same (t.del _).isMap (isKey_name _)]⟩
        · rw [Maps.has_put_other hkk] at hk
          obtain ⟨i, hi, hz⟩ := hdel k hk
          exact ⟨i, hi, fun z => by rw [Maps.atKey_put_other hkk]; exact hz z⟩
theorem playOne_size {M : DataW Unit} (e : En) (t : Maps.Tidy M) : Maps.size (playOne M e) ≤ Maps.size M + 1 := by
  have h1 := Maps.size_del t (k := nameK e.take)
  unfold playOne
  split
  · omega
  · have h2 := Maps.size_put (k := nameK e.put) (t.del (nameK e.take)) (.lit (.int .i64 e.file))
    rw [h2]
    split <;> omega
end Go.Proofs.YtalonkenchcfbaaDoor
