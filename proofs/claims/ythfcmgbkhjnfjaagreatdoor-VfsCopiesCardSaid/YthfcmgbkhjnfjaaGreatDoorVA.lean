/- The plain model of the disk that forgets what was not synced: what each method makes of it. No program is named here. The plain law between the program's disk and the reference's: what waits, bit by bit; a list of names that is changed in its order. No program is named here. Footprints: which blocks of the heap belong to which part of a thing that is built of many blocks. A colouring gives each block of the thing its part's number; what has no colour does not change. No program is named here. Where a disk lies in the heap: its own block, its names' map, its rows and its files. The disk's power: spend and step. -/
import Derived.Lib.Strings
import Derived.Lib.SlTrimSet
import Derived.Maps.Views
import Derived.Maps.Ext
import Derived.WalkKit
import Derived.Below
import Derived.Laws.AppendOwn
import Derived.Deep.AppendLies
import Derived.Maps.OwnSet
import Derived.Maps.Range
import Derived.Test.YthfcmgbkhjnfjaaGreatDoorProg
import Derived.Handy
import Derived.PlainAid
import Derived.Lib.Hide
import Derived.Lib.SmallJoins
import Derived.Deep.QuietTactic
import Derived.BigQuiet
import Derived.Outline
namespace Go.Proofs.YthfcmgbkhjnfjaaGreatDoor
open Go.RowKit

/-- A write or a cut that waits. -/
structure Wt where
  text : ByteArray
  place : Int
  cut : Bool
/-- A file: what is sure, and what waits. -/
structure Fl where
  sure : ByteArray
  waits : List Wt
/-- A change of the names that waits. -/
structure En where
  put : ByteArray
  take : ByteArray
  file : Nat
/-- What was done. -/
structure Ac where
  kind : Int
  name : ByteArray
  other : ByteArray
  bytes : ByteArray
  place : Int
/-- The disk. -/
structure Dk where
  units : Int
  left : Int
  armed : Bool
  gone : Bool
  room : Int
  files : List Fl
  dir : DataW Unit
  waits : List En
  acts : List Ac

/-! ### Files -/
/-- How many units a change takes. -/
def Wt.units (w : Wt) : Int := if w.cut then 1 else w.text.size
/-- A text behind a change of which n units were done. -/
def Wt.onto (w : Wt) (s : ByteArray) (n : Int) : ByteArray := if w.cut then s.extract 0 (min w.place s.size).toNat else s ++ w.text.extract 0 n.toNat
/-- One change more, with u units left (below 0: no end). -/
def stepW (st : ByteArray × Int) (w : Wt) : ByteArray × Int :=
  if 0 ≤ st.2 then (if 0 < min w.units st.2 then w.onto st.1 (min w.units st.2) else st.1, st.2 - min w.units st.2)
  else (if 0 < w.units then w.onto st.1 w.units else st.1, st.2)
def Fl.upto (f : Fl) (u : Int) (k : Nat) : ByteArray × Int := (f.waits.take k).foldl stepW (f.sure, u)
/-- A file's text, u units of what waits done. -/
def Fl.behind (f : Fl) (u : Int) : ByteArray := (f.waits.foldl stepW (f.sure, u)).1
def Fl.seen (f : Fl) : ByteArray := f.behind (-1)
/-- A bound on every text of a file. -/
def Fl.mass (f : Fl) : Nat := f.sure.size + (f.waits.map fun w => w.text.size).sum
theorem Fl.upto_succ (f : Fl) (u : Int) {k : Nat} {w : Wt} (h : f.waits[k]? = some w) : f.upto u (k + 1) = stepW (f.upto u k) w := by
  unfold Fl.upto
  rw [List.take_add_one, h]
  simp [List.foldl_append]
theorem Fl.upto_all (f : Fl) (u : Int) {k : Nat} (h : f.waits.length ≤ k) : (f.upto u k).1 = f.behind u := by
  unfold Fl.upto Fl.behind
  rw [List.take_of_length_le h]
theorem onto_size (w : Wt) (s : ByteArray) (n : Int) : (w.onto s n).size ≤ s.size + w.text.size := by
  unfold Wt.onto
  split
  · rw [ByteArray.size_extract]; omega
  · rw [ByteArray.size_append, ByteArray.size_extract]; omega
theorem stepW_size (st : ByteArray × Int) (w : Wt) : (stepW st w).1.size ≤ st.1.size + w.text.size := by
  have := onto_size w st.1
  unfold stepW
  split
  · split
    · exact this _
    · exact Nat.le_add_right _ _
  · split
    · exact this _
    · exact Nat.le_add_right _ _
theorem fold_size (l : List Wt) : ∀ st : ByteArray × Int, (l.foldl stepW st).1.size ≤ st.1.size + (l.map fun w => w.text.size).sum := by
  induction l with
  | nil => intro st; simp
  | cons w t ih =>
    intro st
    have h1 := ih (stepW st w)
    have h2 := stepW_size st w
    simp only [List.foldl_cons, List.map_cons, List.sum_cons]
    omega
theorem sum_take (l : List Wt) (k : Nat) : ((l.take k).map fun w => w.text.size).sum ≤ (l.map fun w => w.text.size).sum := by
  induction l generalizing k with
  | nil => simp
  | cons w t ih =>
    cases k with
    | zero => simp
    | succ k => simp only [List.take_succ_cons, List.map_cons, List.sum_cons]; have := ih k; omega
theorem Fl.upto_size (f : Fl) (u : Int) (k : Nat) : (f.upto u k).1.size ≤ f.mass := by
  have h1 := fold_size (f.waits.take k) (f.sure, u)
  have h2 := sum_take f.waits k
  unfold Fl.upto Fl.mass
  simp only at h1
  omega
theorem Fl.behind_size (f : Fl) (u : Int) : (f.behind u).size ≤ f.mass := fold_size f.waits (f.sure, u)
theorem sum_mem {l : List Wt} {w : Wt} (h : w ∈ l) : w.text.size ≤ (l.map fun w => w.text.size).sum := by
  induction l with
  | nil => cases h
  | cons x t ih =>
    simp only [List.map_cons, List.sum_cons]
    rcases List.mem_cons.1 h with rfl | h
    · omega
    · have := ih h; omega
theorem Fl.text_le {f : Fl} {w : Wt} (h : w ∈ f.waits) : w.text.size ≤ f.mass := by
  have := sum_mem h
  unfold Fl.mass
  omega

/-! ### Names -/
/-- The bytes of a good name: a to z, 0 to 9, the dot. -/
def letters : List UInt8 := [97, 98, 99, 100, 101, 102, 103, 104, 105, 106, 107, 108, 109, 110, 111, 112, 113, 114, 115, 116, 117, 118, 119, 120, 121, 122, 48, 49, 50, 51, 52, 53, 54, 55, 56, 57, 46]
def goodName (l : List UInt8) : Bool := !l.isEmpty && decide (l.length ≤ 20) && l.all fun c => letters.contains c
/-- A name as a key. -/
def nameK (s : ByteArray) : Lit := .string s.data.toList
/-- One change of the names. -/
def playOne (M : DataW Unit) (e : En) : DataW Unit := if e.put.size = 0 then M.del (nameK e.take) else (M.del (nameK e.take)).put (nameK e.put) (.lit (.int .i64 e.file))
def play (M : DataW Unit) (l : List En) : DataW Unit := l.foldl playOne M
def Dk.dirOf (D : Dk) : DataW Unit := play D.dir D.waits
theorem play_succ (M : DataW Unit) {l : List En} {k : Nat} {e : En} (h : l[k]? = some e) : play M (l.take (k + 1)) = playOne (play M (l.take k)) e := by
  unfold play
  rw [List.take_add_one, h]
  simp [List.foldl_append]
/-- Each name's file is one of the first n. -/
def Points (M : DataW Unit) (n : Nat) : Prop := ∀ k, Maps.has M k = true → ∃ i : Nat, i < n ∧ ∀ z, M.atKey k z = .lit (.int .i64 i)
def EnOk (n : Nat) (e : En) : Prop := e.put.size ≠ 0 → e.file < n
theorem isKey_name (s : ByteArray) : WideAt.IsKeyLit (nameK s) := trivial
theorem play_points {n : Nat} : ∀ (l : List En) (M : DataW Unit), Maps.Tidy M → Points M n → (∀ e ∈ l, EnOk n e) → Points (play M l) n ∧ Maps.Tidy (play M l)
  | [], M, t, h, _ => ⟨h, t⟩
  | e :: l, M, t, h, he => by
    refine play_points l (playOne M e) ?_ ?_ fun x hx => he x (List.mem_cons_of_mem _ hx)
    · unfold playOne
      split
      · exact t.del _
      · exact (t.del _).put (isKey_name _) _
    · have hdel : Points (M.del (nameK e.take)) n := by
        intro k hk
        by_cases hkk : k = nameK e.take
        · rw [hkk, Maps.has_del_same] at hk; cases hk
        · rw [Maps.has_del_other hkk] at hk
          obtain ⟨i, hi, hz⟩ := h k hk
          exact ⟨i, hi, fun z => by rw [Maps.atKey_del_other hkk]; exact hz z⟩
      unfold playOne
      split
      · exact hdel
      · rename_i hp
        intro k hk
        by_cases hkk : k = nameK e.put
        · exact ⟨e.file, he e (List.mem_cons_self ..) hp, fun z => by rw [hkk, Maps.atKey_put_same (t.del _).isMap (isKey_name _)]⟩
        · rw [Maps.has_put_other hkk] at hk
          obtain ⟨i, hi, hz⟩ := hdel k hk
          exact ⟨i, hi, fun z => by rw [Maps.atKey_put_other hkk]; exact hz z⟩
theorem playOne_size {M : DataW Unit} (e : En) (t : Maps.Tidy M) : Maps.size (playOne M e) ≤ Maps.size M + 1 := by
  have h1 := Maps.size_del t (k := nameK e.take)
  unfold playOne
  split
  · omega
  · have h2 := Maps.size_put (k := nameK e.put) (t.del (nameK e.take)) (.lit (.int .i64 e.file))
    rw [h2]
    split <;> omega
end Go.Proofs.YthfcmgbkhjnfjaaGreatDoor

namespace Go.Proofs.YthfcmgbkhjnfjaaGreatDoor
open Go.RowKit

/-! ### What waits of a file -/
/-- A byte that waits, or a cut. -/
structure Bit where
  byte : UInt8
  place : Int
  cut : Bool
def Bit.onto (b : Bit) (s : ByteArray) : ByteArray := if b.cut then (if b.place < s.size then s.extract 0 b.place.toNat else s) else s ++ ⟨#[b.byte]⟩
def Wt.bits (w : Wt) : List Bit := if w.cut then [⟨0, w.place, true⟩] else w.text.data.toList.map fun c => ⟨c, 0, false⟩
def Fl.bits (F : Fl) : List Bit := F.waits.flatMap Wt.bits
def bitsOn (s : ByteArray) (l : List Bit) : ByteArray := l.foldl (fun s b => b.onto s) s
theorem bitsOn_append (s : ByteArray) (l m : List Bit) : bitsOn s (l ++ m) = bitsOn (bitsOn s l) m := by unfold bitsOn; rw [List.foldl_append]
theorem bitsOn_take {s : ByteArray} {l : List Bit} {k : Nat} {b : Bit} (h : l[k]? = some b) : bitsOn s (l.take (k + 1)) = b.onto (bitsOn s (l.take k)) := by
  unfold bitsOn
  rw [List.take_add_one, h]
  simp [List.foldl_append]
theorem bitsOn_bytes (cs : List UInt8) : ∀ s : ByteArray, bitsOn s (cs.map fun c => ⟨c, 0, false⟩) = s ++ ⟨cs.toArray⟩ := by
  induction cs with
  | nil =>
    intro s
    apply ByteArray.ext
    simp [bitsOn]
  | cons c r ih =>
    intro s
    show bitsOn (Bit.onto ⟨c, 0, false⟩ s) _ = _
    rw [ih]
    apply ByteArray.ext
    simp [Bit.onto, ByteArray.data_append]
theorem list_size (t : ByteArray) : t.data.toList.length = t.size := rfl
theorem Wt.bits_len {w : Wt} : (w.bits.length : Int) = w.units := by
  unfold Wt.bits Wt.units
  split
  · rfl
  · rw [List.length_map, list_size]
theorem extract_bytes (t : ByteArray) (n : Nat) : (⟨(t.data.toList.take n).toArray⟩ : ByteArray) = t.extract 0 n := by
  apply ByteArray.ext
  rw [ByteArray.data_extract]
  apply Array.ext'
  simp [List.take_eq_take_min]
/-- A change of which n units were done. -/
theorem bits_onto {w : Wt} (hp : w.cut = true → 0 ≤ w.place) (s : ByteArray) (n : Nat) (hn : 0 < n) : bitsOn s (w.bits.take n) = w.onto s (min w.units n) := by
  unfold Wt.bits Wt.onto Wt.units
  by_cases hc : w.cut = true
  · have h0 := hp hc
    simp only [if_pos hc]
    rw [List.take_of_length_le (by simp; omega)]
    show Bit.onto ⟨0, w.place, true⟩ s = _
    unfold Bit.onto
    simp only [if_true]
    split
    · rename_i h
      rw [Int.min_eq_left (by omega)]
    · rename_i h
      rw [Int.min_eq_right (by omega)]
      apply ByteArray.ext
      rw [ByteArray.data_extract]
      apply Array.ext'
      rw [Array.toList_extract, List.extract_eq_take_drop, List.drop_zero, List.take_of_length_le (by rw [list_size]; omega)]
  · simp only [if_neg hc]
    rw [← List.map_take, bitsOn_bytes, extract_bytes]
    congr 1
    apply ByteArray.ext
    rw [ByteArray.data_extract, ByteArray.data_extract]
    apply Array.ext'
    simp only [Array.toList_extract, List.extract_eq_take_drop, Nat.sub_zero, List.drop_zero]
    have hl := list_size w.text
    rcases Int.le_total (w.text.size : Int) n with h | h
    · rw [Int.min_eq_left h, List.take_of_length_le (by omega), List.take_of_length_le (by omega)]
    · rw [Int.min_eq_right h]; simp
/-- The reference's fold is the program's. -/
theorem bits_fold : ∀ (l : List Wt) (s : ByteArray) (n : Nat), (∀ x ∈ l, x.cut = true → 0 ≤ x.place) → (l.foldl stepW (s, (n : Int))).1 = bitsOn s ((l.flatMap Wt.bits).take n) := by
  intro l
  induction l with
  | nil => intro s n _; simp [bitsOn]
  | cons w r ih =>
    intro s n h
    have hw := h w (List.mem_cons_self ..)
    have hl := w.bits_len
    rw [List.flatMap_cons, List.take_append, bitsOn_append, List.foldl_cons]
    have hst : stepW (s, (n : Int)) w = (bitsOn s (w.bits.take n), ((n - w.bits.length : Nat) : Int)) := by
      unfold stepW
      simp only [if_pos (Int.natCast_nonneg n)]
      have e2 : (n : Int) - min w.units n = ((n - w.bits.length : Nat) : Int) := by omega
      rw [e2]
      by_cases h0 : 0 < min w.units (n : Int)
      · rw [if_pos h0, bits_onto hw s n (by omega)]
      · rw [if_neg h0]
        have : w.bits.take n = [] := by
          rcases Nat.eq_zero_or_pos n with rfl | hn
          · simp
          · have : w.bits.length = 0 := by omega
            rw [List.length_eq_zero_iff.1 this]; simp
        rw [this]; rfl
    rw [hst, ih _ _ fun x hx => h x (List.mem_cons_of_mem _ hx)]
theorem bits_seen : ∀ (l : List Wt) (s : ByteArray), (∀ x ∈ l, x.cut = true → 0 ≤ x.place) → (l.foldl stepW (s, -1)).1 = bitsOn s (l.flatMap Wt.bits) := by
  intro l
  induction l with
  | nil => intro s _; simp [bitsOn]
  | cons w r ih =>
    intro s h
    have hw := h w (List.mem_cons_self ..)
    have hl := w.bits_len
    rw [List.flatMap_cons, bitsOn_append, List.foldl_cons]
    have hst : stepW (s, -1) w = (bitsOn s w.bits, -1) := by
      unfold stepW
      rw [if_neg (by simp)]
      simp only [Prod.mk.injEq, and_true]
      by_cases h0 : 0 < w.units
      · rw [if_pos h0]
        have := bits_onto hw s w.bits.length (by omega)
        rw [List.take_of_length_le (Nat.le_refl _)] at this
        rw [this]
        congr 1
        omega
      · rw [if_neg h0]
        have : w.bits.length = 0 := by omega
        rw [List.length_eq_zero_iff.1 this]; rfl
    rw [hst, ih _ fun x hx => h x (List.mem_cons_of_mem _ hx)]
theorem Fl.behind_bits {F : Fl} (h : ∀ x ∈ F.waits, x.cut = true → 0 ≤ x.place) (n : Nat) : bitsOn F.sure (F.bits.take n) = F.behind n := (bits_fold F.waits F.sure n h).symm
theorem Fl.seen_bits {F : Fl} (h : ∀ x ∈ F.waits, x.cut = true → 0 ≤ x.place) : bitsOn F.sure F.bits = F.seen := (bits_seen F.waits F.sure h).symm

/-! ### Names -/
abbrev Ent := ByteArray × Nat
def encE (e : Ent) : Lit × DataW Unit := (nameK e.1, .lit (.int .i64 e.2))
def dirD (l : List Ent) : DataW Unit := .map (l.map encE)
theorem nameK_inj {a b : ByteArray} : nameK a = nameK b ↔ a = b := by
  unfold nameK
  constructor
  · intro h
    injection h with h
    exact ByteArray.ext (Array.toList_inj.1 h)
  · rintro rfl; rfl
theorem sameName (a b : ByteArray) : (nameK a).sameKey (nameK b) = decide (a = b) := by
  by_cases h : a = b
  · subst h; simp [nameK, Lit.sameKey]
  · rw [Maps.sameKey_ne (fun e => h (nameK_inj.1 e))]; simp [h]
/-- One name before another. -/
def nameLt (a b : ByteArray) : Bool := (nameK a).before (nameK b)
/-- The reference's change of the names in their order. -/
def moveR (m : En) : Bool → List Ent → List Ent
  | done, [] => if done then [] else [(m.put, m.file)]
  | done, e :: r => if e.1 = m.take ∨ e.1 = m.put then moveR m done r else if done = false ∧ nameLt m.put e.1 = true then (m.put, m.file) :: e :: moveR m true r else e :: moveR m done r
def moveL (l : List Ent) (m : En) : List Ent := moveR m (decide (m.put.size = 0)) l
theorem moveR_true (m : En) : ∀ l : List Ent, moveR m true l = l.filter fun e => !decide (e.1 = m.take) && !decide (e.1 = m.put)
  | [] => rfl
  | e :: r => by
    unfold moveR
    rw [moveR_true m r]
    by_cases h1 : e.1 = m.take
    · simp [h1]
    · by_cases h2 : e.1 = m.put
      · simp [h2]
      · simp [h1, h2]
theorem filter_enc (p : Lit → Bool) (q : ByteArray → Bool) (h : ∀ a, p (nameK a) = q a) (l : List Ent) : (l.map encE).filter (fun x => p x.1) = (l.filter fun e => q e.1).map encE := by
  rw [List.filter_map]
  congr 1
  exact List.filter_congr fun e _ => h e.1
theorem dirD_del (l : List Ent) (s : ByteArray) : (dirD l).del (nameK s) = dirD (l.filter fun e => !decide (e.1 = s)) := by
  unfold dirD DataW.del
  simp only
  congr 1
  exact filter_enc (fun x => !x.sameKey (nameK s)) (fun a => !decide (a = s)) (fun a => by rw [sameName]) l
theorem dirD_put (l : List Ent) (s : ByteArray) (i : Nat) : (dirD l).put (nameK s) (.lit (.int .i64 i)) = .map (DataW.insert (encE (s, i)) ((l.filter fun e => !decide (e.1 = s)).map encE)) := by
  unfold dirD DataW.put
  simp only
  congr 2
  exact filter_enc (fun x => !x.sameKey (nameK s)) (fun a => !decide (a = s)) (fun a => by rw [sameName]) l
theorem moveR_false (m : En) : ∀ l : List Ent, (moveR m false l).map encE = DataW.insert (encE (m.put, m.file)) ((l.filter fun e => !decide (e.1 = m.take) && !decide (e.1 = m.put)).map encE)
  | [] => rfl
  | e :: r => by
    unfold moveR
    by_cases h1 : e.1 = m.take
    · rw [if_pos (.inl h1), moveR_false m r, List.filter_cons_of_neg (by simp [h1])]
    · by_cases h2 : e.1 = m.put
      · rw [if_pos (.inr h2), moveR_false m r, List.filter_cons_of_neg (by simp [h2])]
      · rw [if_neg (by simp [h1, h2]), List.filter_cons_of_pos (by simp [h1, h2]), List.map_cons]
        unfold DataW.insert
        by_cases h3 : nameLt m.put e.1 = true
        · rw [if_pos ⟨rfl, h3⟩, if_pos (show (encE (m.put, m.file)).1.before (encE e).1 = true from h3), moveR_true]
          rfl
        · rw [if_neg (fun h => h3 h.2), if_neg (show ¬ (encE (m.put, m.file)).1.before (encE e).1 = true from h3), List.map_cons, moveR_false m r]
/-- No name is empty. -/
def NoNull (l : List Ent) : Prop := ∀ e ∈ l, e.1.size ≠ 0
theorem size_zero {a : ByteArray} (h : a.size = 0) : a = ⟨#[]⟩ := by
  apply ByteArray.ext
  exact Array.eq_empty_of_size_eq_zero h
theorem moveL_play {l : List Ent} (h : NoNull l) (m : En) : dirD (moveL l m) = playOne (dirD l) m := by
  unfold moveL playOne
  by_cases hp : m.put.size = 0
  · rw [if_pos hp, decide_eq_true hp, moveR_true, dirD_del]
    congr 1
    refine List.filter_congr fun e he => ?_
    have : ¬ e.1 = m.put := fun hh => h e he (by rw [hh]; exact hp)
    simp [this]
  · rw [if_neg hp, decide_eq_false hp, dirD_del, dirD_put]
    show DataW.map ((moveR m false l).map encE) = _
    rw [moveR_false, List.filter_filter]
    congr 4
    funext e
    rw [Bool.and_comm]
theorem moveR_mem {m : En} : ∀ {l : List Ent} {d : Bool} {e : Ent}, e ∈ moveR m d l → e ∈ l ∨ (d = false ∧ e = (m.put, m.file))
  | [], d, e, h => by
    unfold moveR at h
    cases d
    · exact .inr ⟨rfl, by simpa using h⟩
    · simp at h
  | x :: r, d, e, h => by
    unfold moveR at h
    split at h
    · rcases moveR_mem h with h | h
      · exact .inl (List.mem_cons_of_mem _ h)
      · exact .inr h
    · split at h
      · rename_i hd
        rcases List.mem_cons.1 h with rfl | h
        · exact .inr ⟨hd.1, rfl⟩
        · rcases List.mem_cons.1 h with rfl | h
          · exact .inl (List.mem_cons_self ..)
          · rcases moveR_mem h with h | h
            · exact .inl (List.mem_cons_of_mem _ h)
            · cases h.1
      · rcases List.mem_cons.1 h with rfl | h
        · exact .inl (List.mem_cons_self ..)
        · rcases moveR_mem h with h | h
          · exact .inl (List.mem_cons_of_mem _ h)
          · exact .inr h
theorem moveL_mem {m : En} {l : List Ent} {e : Ent} (h : e ∈ moveL l m) : e ∈ l ∨ (m.put.size ≠ 0 ∧ e = (m.put, m.file)) := by
  rcases moveR_mem h with h | ⟨h, he⟩
  · exact .inl h
  · exact .inr ⟨of_decide_eq_false h, he⟩
theorem moveL_null {m : En} {l : List Ent} (h : NoNull l) : NoNull (moveL l m) := fun e he => by
  rcases moveL_mem he with he | ⟨hp, rfl⟩
  · exact h e he
  · exact hp
theorem moveR_len (m : En) : ∀ (l : List Ent) (d : Bool), (moveR m d l).length ≤ l.length + 1
  | [], d => by unfold moveR; split <;> simp
  | x :: r, d => by
    have h0 := moveR_len m r d
    have h1 : (moveR m true r).length ≤ r.length := by rw [moveR_true]; exact List.length_filter_le ..
    unfold moveR
    split
    · simp; omega
    · split
      · simp; omega
      · simp; omega
def playL (l : List Ent) (ms : List En) : List Ent := ms.foldl moveL l
theorem playL_play : ∀ (ms : List En) {l : List Ent}, NoNull l → dirD (playL l ms) = play (dirD l) ms
  | [], _, _ => rfl
  | m :: ms, l, h => by
    show dirD (playL (moveL l m) ms) = play (playOne (dirD l) m) ms
    rw [playL_play ms (moveL_null h), moveL_play h]
theorem playL_null : ∀ (ms : List En) {l : List Ent}, NoNull l → NoNull (playL l ms)
  | [], _, h => h
  | m :: ms, l, h => playL_null ms (l := moveL l m) (moveL_null h)
theorem playL_len : ∀ (ms : List En) (l : List Ent), (playL l ms).length ≤ l.length + ms.length
  | [], _ => by simp [playL]
  | m :: ms, l => by
    have h1 := playL_len ms (moveL l m)
    have h2 : (moveL l m).length ≤ l.length + 1 := moveR_len m l _
    show (playL (moveL l m) ms).length ≤ _
    simp only [List.length_cons]
    omega
theorem playL_succ (l : List Ent) {ms : List En} {k : Nat} {m : En} (h : ms[k]? = some m) : playL l (ms.take (k + 1)) = moveL (playL l (ms.take k)) m := by
  unfold playL
  rw [List.take_add_one, h]
  simp [List.foldl_append]
/-- A name's file; none where there is none. -/
def findL (l : List Ent) (s : ByteArray) : Option Nat := (l.find? fun e => decide (e.1 = s)).map Prod.snd
theorem find_enc (l : List Ent) (s : ByteArray) : (l.map encE).find? (fun p => p.1.sameKey (nameK s)) = (l.find? fun e => decide (e.1 = s)).map encE := by
  induction l with
  | nil => rfl
  | cons e r ih =>
    rw [List.map_cons, List.find?_cons, List.find?_cons]
    show (match (nameK e.1).sameKey (nameK s) with | true => _ | false => _) = _
    rw [sameName]
    cases decide (e.1 = s)
    · exact ih
    · rfl
theorem findL_has (l : List Ent) (s : ByteArray) : Maps.has (dirD l) (nameK s) = (findL l s).isSome := by
  unfold findL dirD
  rw [Maps.has_eq]
  rw [show ((l.map encE).any fun p => p.1.sameKey (nameK s)) = ((l.map encE).find? fun p => p.1.sameKey (nameK s)).isSome from by rw [Bool.eq_iff_iff, List.any_eq_true, List.find?_isSome]]
  rw [find_enc]
  simp
theorem findL_at {l : List Ent} {s : ByteArray} {i : Nat} (h : findL l s = some i) (z : DataW Unit) : (dirD l).atKey (nameK s) z = .lit (.int .i64 i) := by
  unfold findL at h
  unfold dirD DataW.atKey
  simp only
  rw [find_enc]
  cases hf : l.find? (fun e => decide (e.1 = s)) with
  | none => rw [hf] at h; cases h
  | some e =>
    rw [hf] at h
    injection h with h
    subst h
    rfl
theorem findL_mem {l : List Ent} {s : ByteArray} {i : Nat} (h : findL l s = some i) : (s, i) ∈ l := by
  unfold findL at h
  cases hf : l.find? (fun e => decide (e.1 = s)) with
  | none => rw [hf] at h; cases h
  | some e =>
    rw [hf] at h
    injection h with h
    have h1 := List.find?_some hf
    have h2 := List.mem_of_find?_eq_some hf
    simp at h1
    subst h h1
    exact h2
end Go.Proofs.YthfcmgbkhjnfjaaGreatDoor

namespace Go.Proofs.YthfcmgbkhjnfjaaGreatDoor
open Go.RowKit

/-- A colouring of the blocks: none: not of the thing. -/
abbrev Col := Nat → Option Nat
/-- What has no colour is as it was. -/
structure Kept (ρ : Col) (w w' : World) : Prop where
  os : w'.os = w.os
  tape : w'.tape = w.tape
  output : w'.output = w.output
  size : w.heap.size ≤ w'.heap.size
  block : ∀ k, k < w.heap.size → ρ k = none → w'.heap[k]? = w.heap[k]?
/-- What was there keeps its colour. -/
def Ext (w : World) (ρ ρ' : Col) : Prop := ∀ k, k < w.heap.size → ρ' k = ρ k
theorem Ext.refl (w : World) (ρ : Col) : Ext w ρ ρ := fun _ _ => rfl
theorem Ext.trans {w w' : World} {ρ ρ' ρ'' : Col} (h : Ext w ρ ρ') (h' : Ext w' ρ' ρ'') (hs : w.heap.size ≤ w'.heap.size) : Ext w ρ ρ'' :=
  fun k hk => (h' k (by omega)).trans (h k hk)
theorem Kept.refl (ρ : Col) (w : World) : Kept ρ w w := ⟨rfl, rfl, rfl, Nat.le_refl _, fun _ _ _ => rfl⟩
theorem Kept.trans {ρ ρ' : Col} {a b c : World} (h : Kept ρ a b) (he : Ext a ρ ρ') (k : Kept ρ' b c) : Kept ρ a c :=
  ⟨k.os.trans h.os, k.tape.trans h.tape, k.output.trans h.output, Nat.le_trans h.size k.size, fun i hi hn => (k.block i (Nat.lt_of_lt_of_le hi h.size) ((he i hi).trans hn)).trans (h.block i hi hn)⟩
theorem Kept.then {ρ : Col} {a b c : World} (h : Kept ρ a b) (k : Kept ρ b c) : Kept ρ a c := h.trans (Ext.refl _ _) k
theorem Kept.below {ρ : Col} {w w' : World} (h : Below w.heap.size w w') : Kept ρ w w' := ⟨h.os, h.tape, h.output, h.size, fun k hk _ => h.block k hk⟩
theorem Kept.toBelow {ρ : Col} {w w' : World} {B : Nat} (h : Kept ρ w w') (hB : B ≤ w.heap.size) (hρ : ∀ k, k < B → ρ k = none) : Below B w w' :=
  ⟨h.os, h.tape, h.output, h.size, fun k hk => h.block k (by omega) (hρ k hk)⟩
theorem Kept.grown {ρ : Col} {w w' : World} {row : Option Nat} (h : w.grownBy w' row) (hr : ∀ k, row = some k → ρ k ≠ none) : Kept ρ w w' :=
  ⟨h.os, h.tape, h.output, h.size, fun k hk hn => h.block k hk (fun e => hr k e.symm hn)⟩
theorem Kept.setCell {ρ : Col} {w : World} {a : Addr} {v : Value} (h : ρ a.block ≠ none) : Kept ρ w (w.setCell a v) :=
  ⟨rfl, rfl, rfl, by simp [World.setCell], fun k _ hn => Below.heap_setCell _ _ _ _ (fun e => h (e ▸ hn))⟩
theorem Kept.mono {ρ σ : Col} {w w' : World} (h : Kept ρ w w') (hs : ∀ k, σ k = none → ρ k = none) : Kept σ w w' :=
  ⟨h.os, h.tape, h.output, h.size, fun k hk hn => h.block k hk (hs k hn)⟩
/-- Only the blocks of one colour (and new ones) have changed. -/
def Only (c : Nat) (ρ : Col) : Col := fun k => if ρ k = some c then some c else none
theorem only_none {c : Nat} {ρ : Col} {k : Nat} (h : ρ k ≠ some c) : Only c ρ k = none := if_neg h
theorem only_some {c : Nat} {ρ : Col} {k : Nat} (h : ρ k = some c) : Only c ρ k = some c := if_pos h
theorem Kept.wide {ρ : Col} {c : Nat} {w w' : World} (h : Kept (Only c ρ) w w') : Kept ρ w w' :=
  h.mono fun k hk => only_none (by rw [hk]; exact fun e => by cases e)
/-- A block of the thing, known whole. -/
def Blk (w : World) (ρ : Col) (c b : Nat) (o : Obj) : Prop := w.heap[b]? = some o ∧ ρ b = some c
theorem Blk.lt {w : World} {ρ : Col} {c b : Nat} {o : Obj} (h : Blk w ρ c b o) : b < w.heap.size := (Array.getElem?_eq_some_iff.1 h.1).1
theorem Blk.keep {w w' : World} {ρ ρ' σ : Col} {c b : Nat} {o : Obj} (h : Blk w ρ c b o) (he : Ext w ρ ρ') (k : Kept σ w w') (hσ : σ b = none) : Blk w' ρ' c b o :=
  ⟨(k.block b h.lt hσ).trans h.1, (he b h.lt).trans h.2⟩
/-- A row of the thing. -/
def Row (w : World) (ρ : Col) (c : Nat) (e : TypeId) (size : Nat) (v : Value) (n : Nat) (xs : List Value) : Prop :=
  w.ownsRow 0 e size v n xs ∧ ∀ g, v.ownBlock = some g → ρ g = some c
theorem ownsRow_of_block {w w' : World} {base : Nat} {e : TypeId} {size : Nat} {v : Value} {n : Nat} {xs : List Value} (h : w.ownsRow base e size v n xs) (hk : ∀ g, v.ownBlock = some g → w'.heap[g]? = w.heap[g]?) : w'.ownsRow base e size v n xs := by
  refine ⟨h.1, ?_⟩
  rcases h.2 with h0 | ⟨g, cap, cur, rfl, hb, hg, r⟩
  · exact .inl h0
  · exact .inr ⟨g, cap, cur, rfl, hb, (hk g rfl).trans hg, r⟩
theorem Row.keep {w w' : World} {ρ ρ' σ : Col} {c : Nat} {e : TypeId} {size : Nat} {v : Value} {n : Nat} {xs : List Value} (h : Row w ρ c e size v n xs) (he : Ext w ρ ρ') (k : Kept σ w w') (hσ : ∀ g, ρ g = some c → σ g = none) : Row w' ρ' c e size v n xs :=
  ⟨ownsRow_of_block h.1 fun g hg => k.block g (h.1.lt g hg).2 (hσ g (h.2 g hg)), fun g hg => (he g (h.1.lt g hg).2).trans (h.2 g hg)⟩
theorem Row.nil (w : World) (ρ : Col) (c : Nat) (e : TypeId) (size : Nat) : Row w ρ c e size (.slice none 0 0) 0 [] :=
  ⟨World.ownsRow_nil w 0 e size, fun g hg => by simp [Value.ownBlock] at hg⟩
/-- A map of the thing. -/
def MapIs (w : World) (ρ : Col) (c : Nat) (P : Program) (k : TypeId) (R : Value → Option (DataW Unit × List MemPlace)) (b n : Nat) (D : DataW Unit) : Prop := w.ownsMap P k R b n D ∧ ρ b = some c
theorem ownsMap_of_block {H : Type} {w w' : World} {P : Program} {k : TypeId} {R : Value → Option (DataW H × List MemPlace)} {b n : Nat} {D : DataW H} (h : w.ownsMap P k R b n D) (hk : w'.heap[b]? = w.heap[b]?) : w'.ownsMap P k R b n D := by
  obtain ⟨es, clock, hb, r⟩ := h
  exact ⟨es, clock, hk.trans hb, r⟩
theorem MapIs.keep {w w' : World} {ρ ρ' σ : Col} {c : Nat} {P : Program} {k : TypeId} {R : Value → Option (DataW Unit × List MemPlace)} {b n : Nat} {D : DataW Unit} (h : MapIs w ρ c P k R b n D) (he : Ext w ρ ρ') (ke : Kept σ w w') (hσ : σ b = none) : MapIs w' ρ' c P k R b n D :=
  ⟨ownsMap_of_block h.1 (ke.block b h.1.lt hσ), (he b h.1.lt).trans h.2⟩
/-- A new block gets a colour. -/
def paint (ρ : Col) (b c : Nat) : Col := fun k => if k = b then some c else ρ k
theorem paint_here (ρ : Col) (b c : Nat) : paint ρ b c b = some c := if_pos rfl
theorem paint_else (ρ : Col) {b c k : Nat} (h : k ≠ b) : paint ρ b c k = ρ k := if_neg h
theorem paint_ext {w : World} (ρ : Col) {b : Nat} (c : Nat) (h : w.heap.size ≤ b) : Ext w ρ (paint ρ b c) := fun k hk => paint_else ρ (by omega)
/-- Nothing beyond the heap has a colour. -/
def Fits (w : World) (ρ : Col) : Prop := ∀ k, ρ k ≠ none → k < w.heap.size
theorem Fits.more {w w' : World} {ρ : Col} (h : Fits w ρ) (hs : w.heap.size ≤ w'.heap.size) : Fits w' ρ := fun k hk => Nat.lt_of_lt_of_le (h k hk) hs
theorem Fits.paint {w : World} {ρ : Col} {b c : Nat} (h : Fits w ρ) (hb : b < w.heap.size) : Fits w (paint ρ b c) := fun k hk => by
  by_cases e : k = b
  · rw [e]; exact hb
  · exact h k (by rw [paint_else ρ e] at hk; exact hk)
/-- Behind an append: the row lies where it lay, or in a new block, which gets the row's colour. -/
theorem Row.append {w w' : World} {ρ : Col} {c : Nat} {e : TypeId} {size : Nat} {v : Value} {n : Nat} {xs : List Value} (h : Row w ρ c e size v n xs)
    {g m cap : Nat} {ys : List Value} (hown : w'.ownsRow 0 e size (.slice (some ⟨g, 0, none⟩) m cap) m ys) (hgrow : w.grownBy w' v.ownBlock) (hat : v.ownBlock = some g ∨ w.heap.size ≤ g) :
    Row w' (paint ρ g c) c e size (.slice (some ⟨g, 0, none⟩) m cap) m ys ∧ Ext w ρ (paint ρ g c) ∧ Kept (Only c ρ) w w' := by
  refine ⟨⟨hown, fun g' hg' => ?_⟩, fun k hk => ?_, Kept.grown hgrow fun k hk => ?_⟩
  · simp only [Value.ownBlock, Option.some.injEq] at hg'
    rw [← hg']; exact paint_here _ _ _
  · by_cases e : k = g
    · rw [e, paint_here]
      rcases hat with hat | hat
      · exact (h.2 g hat).symm
      · omega
    · exact paint_else ρ e
  · rw [only_some (h.2 k hk)]; exact fun e => by cases e
/-- Only the blocks of some colours (and new ones) have changed. -/
def Those (p : Nat → Bool) (ρ : Col) : Col := fun k => (ρ k).filter p
theorem those_none {p : Nat → Bool} {ρ : Col} {k : Nat} (h : ∀ c, ρ k = some c → p c = false) : Those p ρ k = none := by
  unfold Those
  cases hk : ρ k with
  | none => rfl
  | some c => simp [Option.filter, h c hk]
theorem those_at {p : Nat → Bool} {ρ : Col} {k c : Nat} (h : ρ k = some c) (hp : p c = false) : Those p ρ k = none := those_none fun c' h' => by rw [h] at h'; cases h'; exact hp
theorem those_some {p : Nat → Bool} {ρ : Col} {k c : Nat} (h : ρ k = some c) (hp : p c = true) : Those p ρ k = some c := by
  unfold Those; rw [h]; simp [Option.filter, hp]
theorem Ext.those {w : World} {ρ ρ' : Col} (h : Ext w ρ ρ') (p : Nat → Bool) : Ext w (Those p ρ) (Those p ρ') := fun k hk => by unfold Those; rw [h k hk]
theorem Kept.only {p : Nat → Bool} {ρ : Col} {c : Nat} {w w' : World} (h : Kept (Only c ρ) w w') (hp : p c = true) : Kept (Those p ρ) w w' :=
  h.mono fun k hk => only_none fun e => by rw [those_some e hp] at hk; cases hk
theorem Kept.those {p : Nat → Bool} {ρ : Col} {w w' : World} (h : Kept (Those p ρ) w w') : Kept ρ w w' :=
  h.mono fun k hk => those_none fun c hc => by rw [hk] at hc; cases hc
theorem Kept.thoseTrans {p : Nat → Bool} {ρ ρ' : Col} {a b c : World} (h : Kept (Those p ρ) a b) (he : Ext a ρ ρ') (k : Kept (Those p ρ') b c) : Kept (Those p ρ) a c := h.trans (he.those p) k
end Go.Proofs.YthfcmgbkhjnfjaaGreatDoor

namespace Go.Proofs.YthfcmgbkhjnfjaaGreatDoor
open Go.RowKit

def Wt.cells (w : Wt) : List Value := [.string w.text, .int .i64 w.place, .bool w.cut]
def En.cells (e : En) : List Value := [.string e.put, .string e.take, .int .i64 e.file]
def Ac.cells (a : Ac) : List Value := [.int .i64 a.kind, .string a.name, .string a.other, .string a.bytes, .int .i64 a.place]
/-- The values that the disk's block holds, and its files' blocks and rows. -/
structure Lay where
  vf : Value
  mb : Nat
  vw : Value
  va : Value
  fs : List (Nat × Value)
def Dk.cells (D : Dk) (L : Lay) : Array Value := #[.int .i64 D.units, .int .i64 D.left, .bool D.armed, .bool D.gone, .int .i64 D.room, L.vf, .map (some L.mb), L.vw, L.va]
/-- A file lies in its block. -/
def FileAt (w : World) (ρ : Col) (i : Nat) (f : Nat × Value) (F : Fl) : Prop :=
  Blk w ρ (5 + 2 * i) f.1 (.cells #[.string F.sure, f.2] 100 (0, 0)) ∧ Row w ρ (6 + 2 * i) 103 3 f.2 F.waits.length (F.waits.flatMap Wt.cells)
/-- The disk lies in block b. -/
structure DiskAt (w : World) (ρ : Col) (b : Nat) (D : Dk) (L : Lay) : Prop where
  blk : Blk w ρ 0 b (.cells (D.cells L) 70 (0, 0))
  map : MapIs w ρ 1 Tryz.prog 9 (plainElem Tryz.prog 3) L.mb (Maps.size D.dir) D.dir
  rowF : Row w ρ 2 97 1 L.vf D.files.length (L.fs.map fun f => .pointer (some ⟨f.1, 0, none⟩))
  rowW : Row w ρ 3 95 3 L.vw D.waits.length (D.waits.flatMap En.cells)
  rowA : Row w ρ 4 88 5 L.va D.acts.length (D.acts.flatMap Ac.cells)
  len : L.fs.length = D.files.length
  files : ∀ (i : Nat) f F, L.fs[i]? = some f → D.files[i]? = some F → FileAt w ρ i f F
  fits : Fits w ρ
theorem FileAt.keep {w w' : World} {ρ ρ' σ : Col} {i : Nat} {f : Nat × Value} {F : Fl} (h : FileAt w ρ i f F) (he : Ext w ρ ρ') (k : Kept σ w w') (hσ : ∀ g, ρ g = some (5 + 2 * i) ∨ ρ g = some (6 + 2 * i) → σ g = none) : FileAt w' ρ' i f F :=
  ⟨h.1.keep he k (hσ _ (.inl h.1.2)), h.2.keep he k fun g hg => hσ g (.inr hg)⟩
/-- What changes nothing of the disk leaves it where it lies. -/
theorem DiskAt.keep {w w' : World} {ρ ρ' σ : Col} {b : Nat} {D : Dk} {L : Lay} (h : DiskAt w ρ b D L) (he : Ext w ρ ρ') (k : Kept σ w w') (hσ : ∀ g, ρ g ≠ none → σ g = none) (hf : Fits w' ρ') : DiskAt w' ρ' b D L where
  blk := h.blk.keep he k (hσ _ (by rw [h.blk.2]; simp))
  map := h.map.keep he k (hσ _ (by rw [h.map.2]; simp))
  rowF := h.rowF.keep he k fun g hg => hσ g (by rw [hg]; simp)
  rowW := h.rowW.keep he k fun g hg => hσ g (by rw [hg]; simp)
  rowA := h.rowA.keep he k fun g hg => hσ g (by rw [hg]; simp)
  len := h.len
  files := fun i f F h1 h2 => (h.files i f F h1 h2).keep he k fun g hg => hσ g (by rcases hg with hg | hg <;> rw [hg] <;> simp)
  fits := hf
theorem kept_none {w w' : World} (h : Below w.heap.size w w') : Kept (fun _ => none) w w' := Kept.below h
theorem DiskAt.below {w w' : World} {ρ : Col} {b : Nat} {D : Dk} {L : Lay} (h : DiskAt w ρ b D L) (hb : Below w.heap.size w w') : DiskAt w' ρ b D L :=
  h.keep (Ext.refl _ _) (kept_none hb) (fun _ _ => rfl) (h.fits.more hb.size)
/-- The disk D lies in block b, somehow. -/
def IsDisk (w : World) (ρ : Col) (b : Nat) (D : Dk) : Prop := ∃ L, DiskAt w ρ b D L
theorem IsDisk.below {w w' : World} {ρ : Col} {b : Nat} {D : Dk} (h : IsDisk w ρ b D) (hb : Below w.heap.size w w') : IsDisk w' ρ b D := let ⟨L, hL⟩ := h; ⟨L, hL.below hb⟩
/-- A call turned the disk into D'; what is not the disk's is as it was. -/
def Turned (w : World) (ρ : Col) (b : Nat) (D' : Dk) (w' : World) : Prop := ∃ ρ', IsDisk w' ρ' b D' ∧ Ext w ρ ρ' ∧ Kept ρ w w'
theorem Turned.same {w w' : World} {ρ : Col} {b : Nat} {D : Dk} (h : IsDisk w ρ b D) (hb : Below w.heap.size w w') : Turned w ρ b D w' := ⟨ρ, h.below hb, Ext.refl _ _, Kept.below hb⟩
theorem Turned.below {w w' w'' : World} {ρ : Col} {b : Nat} {D : Dk} (h : Turned w ρ b D w') (hb : Below w'.heap.size w' w'') : Turned w ρ b D w'' := by
  obtain ⟨ρ', h1, h2, h3⟩ := h
  exact ⟨ρ', h1.below hb, h2, h3.trans h2 (Kept.below hb)⟩
theorem Turned.next {w w' w'' : World} {ρ ρ' : Col} {b : Nat} {D : Dk} (he : Ext w ρ ρ') (hk : Kept ρ w w') (h : Turned w' ρ' b D w'') : Turned w ρ b D w'' := by
  obtain ⟨ρ'', h1, h2, h3⟩ := h
  exact ⟨ρ'', h1, he.trans h2 hk.size, hk.trans he h3⟩
/-- The disk's own cells, for a walk. -/
structure DiskCells (w : World) (b : Nat) (D : Dk) (L : Lay) : Prop where
  c0 : w.cell? ⟨b, 0, none⟩ = some (.int .i64 D.units)
  c1 : w.cell? ⟨b, 1, none⟩ = some (.int .i64 D.left)
  c2 : w.cell? ⟨b, 2, none⟩ = some (.bool D.armed)
  c3 : w.cell? ⟨b, 3, none⟩ = some (.bool D.gone)
  c4 : w.cell? ⟨b, 4, none⟩ = some (.int .i64 D.room)
  c5 : w.cell? ⟨b, 5, none⟩ = some L.vf
  c6 : w.cell? ⟨b, 6, none⟩ = some (.map (some L.mb))
  c7 : w.cell? ⟨b, 7, none⟩ = some L.vw
  c8 : w.cell? ⟨b, 8, none⟩ = some L.va
  f0 : w.frozen? ⟨b, 0, none⟩ = false
  f1 : w.frozen? ⟨b, 1, none⟩ = false
  f2 : w.frozen? ⟨b, 2, none⟩ = false
  f3 : w.frozen? ⟨b, 3, none⟩ = false
  f5 : w.frozen? ⟨b, 5, none⟩ = false
  f6 : w.frozen? ⟨b, 6, none⟩ = false
  f7 : w.frozen? ⟨b, 7, none⟩ = false
  f8 : w.frozen? ⟨b, 8, none⟩ = false
theorem DiskAt.cells {w : World} {ρ : Col} {b : Nat} {D : Dk} {L : Lay} (h : DiskAt w ρ b D L) : DiskCells w b D L := by
  have c := fun j => cell_of_row w b j _ _ _ h.blk.1
  have f := fun j => frozen_of_row w b j _ _ h.blk.1
  exact ⟨c 0, c 1, c 2, c 3, c 4, c 5, c 6, c 7, c 8, f 0, f 1, f 2, f 3, f 5, f 6, f 7, f 8⟩
/-- A store into a block that is known whole. -/
theorem Blk.store {w : World} {ρ : Col} {c b i : Nat} {cs : Array Value} {T : TypeId} {v : Value} (h : Blk w ρ c b (.cells cs T (0, 0))) : Blk (w.setCell ⟨b, i, none⟩ v) ρ c b (.cells (cs.setIfInBounds i v) T (0, 0)) ∧ Kept (Only c ρ) w (w.setCell ⟨b, i, none⟩ v) := by
  refine ⟨⟨?_, h.2⟩, Kept.setCell (by rw [only_some h.2]; simp)⟩
  simp only [World.setCell, Array.getElem?_modify]
  rw [if_pos trivial, h.1]
  rfl
/-- The disk behind a change of its own block alone. -/
theorem DiskAt.change {w w' : World} {ρ : Col} {b : Nat} {D D' : Dk} {L : Lay} (h : DiskAt w ρ b D L) (k : Kept (Only 0 ρ) w w') (hb : w'.heap[b]? = some (.cells (D'.cells L) 70 (0, 0)))
    (h1 : D'.files = D.files) (h2 : D'.dir = D.dir) (h3 : D'.waits = D.waits) (h4 : D'.acts = D.acts) : DiskAt w' ρ b D' L where
  blk := ⟨hb, h.blk.2⟩
  map := by rw [h2]; exact h.map.keep (Ext.refl _ _) k (only_none (by rw [h.map.2]; simp))
  rowF := by rw [h1]; exact h.rowF.keep (Ext.refl _ _) k fun g hg => only_none (by rw [hg]; simp)
  rowW := by rw [h3]; exact h.rowW.keep (Ext.refl _ _) k fun g hg => only_none (by rw [hg]; simp)
  rowA := by rw [h4]; exact h.rowA.keep (Ext.refl _ _) k fun g hg => only_none (by rw [hg]; simp)
  len := by rw [h1]; exact h.len
  files := by rw [h1]; exact fun i f F a b => (h.files i f F a b).keep (Ext.refl _ _) k fun g hg => only_none (by rcases hg with hg | hg <;> rw [hg] <;> simp <;> omega)
  fits := h.fits.more k.size
/-- The parts of the disk that a change of some colours leaves as they were. -/
theorem DiskAt.parts {w w' : World} {ρ ρ' : Col} {b : Nat} {D : Dk} {L : Lay} {p : Nat → Bool} (h : DiskAt w ρ b D L) (he : Ext w ρ ρ') (K : Kept (Those p ρ) w w') :
    (p 0 = false → Blk w' ρ' 0 b (.cells (D.cells L) 70 (0, 0))) ∧
    (p 1 = false → MapIs w' ρ' 1 Tryz.prog 9 (plainElem Tryz.prog 3) L.mb (Maps.size D.dir) D.dir) ∧
    (p 2 = false → Row w' ρ' 2 97 1 L.vf D.files.length (L.fs.map fun f => .pointer (some ⟨f.1, 0, none⟩))) ∧
    (p 3 = false → Row w' ρ' 3 95 3 L.vw D.waits.length (D.waits.flatMap En.cells)) ∧
    (p 4 = false → Row w' ρ' 4 88 5 L.va D.acts.length (D.acts.flatMap Ac.cells)) ∧
    (∀ (i : Nat) f F, L.fs[i]? = some f → D.files[i]? = some F → p (5 + 2 * i) = false → p (6 + 2 * i) = false → FileAt w' ρ' i f F) :=
  ⟨fun hp => h.blk.keep he K (those_at h.blk.2 hp), fun hp => h.map.keep he K (those_at h.map.2 hp), fun hp => h.rowF.keep he K fun g hg => those_at hg hp, fun hp => h.rowW.keep he K fun g hg => those_at hg hp, fun hp => h.rowA.keep he K fun g hg => those_at hg hp,
    fun i f F a b h5 h6 => (h.files i f F a b).keep he K fun g hg => by rcases hg with hg | hg; exact those_at hg h5; exact those_at hg h6⟩
end Go.Proofs.YthfcmgbkhjnfjaaGreatDoor

namespace Go.Proofs.YthfcmgbkhjnfjaaGreatDoor
open Go.RowKit

/-- How many of n units there is power for. -/
def Dk.spent (D : Dk) (n : Int) : Int := if D.armed = true ∧ D.left < n then D.left else n
/-- The disk behind the spending of n units. -/
def Dk.spend (D : Dk) (n : Int) : Dk := { D with units := D.units + D.spent n, left := if D.armed then D.left - D.spent n else D.left, gone := D.gone || (D.armed && decide (D.left < n)) }
/-- An error by its number; 0: none. -/
def errV (k : Nat) : Value := if k = 0 then .nilIface else .iface 31 (.int .i64 k)
theorem reti {a b : Int} (h : a = b) : Ending.returned (.int .i64 a) = .returned (.int .i64 b) := by rw [h]
theorem set_eq {w : World} {b : Nat} {cs cs' : Array Value} {T : TypeId} (h : w.heap[b]? = some (.cells cs T (0, 0))) (e : cs = cs') : w.heap[b]? = some (.cells cs' T (0, 0)) := e ▸ h
set_option maxHeartbeats 400000 in
theorem spend_any (n : Int) (w : World) (ρ : Col) (b : Nat) (D : Dk) (L : Lay) (h : DiskAt w ρ b D L) (hn0 : 0 ≤ n) (hn1 : n ≤ 1000000000) (hu0 : 0 ≤ D.units) (hu1 : D.units ≤ 1000000000) (hl0 : 0 ≤ D.left) (hl1 : D.left ≤ 9223372036854775807) :
    Calls Tryz.prog 52 #[.pointer (some ⟨b, 0, none⟩), .int .i64 n] w fun e w' => e = .returned (.int .i64 (D.spent n)) ∧ DiskAt w' ρ b (D.spend n) L ∧ Kept (Only 0 ρ) w w' := by
  obtain ⟨c0, c1, c2, c3, -, -, -, -, -, f0, f1, f2, f3, -, -, -, -⟩ := h.cells
  have HD := Lib.hid h
  have B := h.blk
  clear h
  obtain ⟨un, le, ar, go, ro, fi, di, wa, ac⟩ := D
  simp only at *
  cases ar with
  | false =>
    have HB := Lib.hid B
    clear B
    go_enter Tryz.func52, Tryz.ntmps52
    go_wp2
    go_ret
    have S1 := HB.out.store (i := 0) (v := .int .i64 (un + n))
    refine ⟨reti (by simp [Dk.spent]), HD.out.change S1.2 (set_eq S1.1.1 ?_) rfl rfl rfl rfl, S1.2⟩
    simp [Dk.cells, Dk.spend, Dk.spent]
  | true =>
    by_cases hn : le < n
    · have HB := Lib.hid B
      clear B
      go_enter Tryz.func52, Tryz.ntmps52
      go_wp2
      go_ret
      have S1 := HB.out.store (i := 3) (v := .bool true)
      have S2 := S1.1.store (i := 1) (v := .int .i64 0)
      have S3 := S2.1.store (i := 0) (v := .int .i64 (un + le))
      have K := (S1.2.then S2.2).then S3.2
      refine ⟨reti (by simp [Dk.spent, hn]), HD.out.change K (set_eq S3.1.1 ?_) rfl rfl rfl rfl, K⟩
      simp [Dk.cells, Dk.spend, Dk.spent, hn]
    · have HB := Lib.hid B
      clear B
      go_enter Tryz.func52, Tryz.ntmps52
      go_wp2
      go_ret
      have S2 := HB.out.store (i := 1) (v := .int .i64 (le - n))
      have S3 := S2.1.store (i := 0) (v := .int .i64 (un + n))
      have K := S2.2.then S3.2
      have hn' : ¬ le < n := by omega
      refine ⟨reti (by simp [Dk.spent]; intro h; omega), HD.out.change K (set_eq S3.1.1 ?_) rfl rfl rfl rfl, K⟩
      simp [Dk.cells, Dk.spend, Dk.spent, hn']
theorem step_any (w : World) (ρ : Col) (b : Nat) (D : Dk) (L : Lay) (h : DiskAt w ρ b D L) (hu0 : 0 ≤ D.units) (hu1 : D.units ≤ 1000000000) (hl0 : 0 ≤ D.left) (hl1 : D.left ≤ 9223372036854775807) :
    Calls Tryz.prog 50 #[.pointer (some ⟨b, 0, none⟩)] w fun e w' => e = .returned (errV (if D.spent 1 < 1 then 3 else 0)) ∧ DiskAt w' ρ b (D.spend 1) L ∧ Kept (Only 0 ρ) w w' := by
  have S := Lib.hid (spend_any 1 w ρ b D L h (by decide) (by decide) hu0 hu1 hl0 hl1)
  clear h
  by_cases hs : D.spent 1 < 1
  · go_enter Tryz.func50, Tryz.ntmps50
    go_wp2_with fail
    refine S.out.mono ?_
    rintro e w' ⟨rfl, h1, h2⟩
    have H1 := Lib.hid h1
    have H2 := Lib.hid h2
    clear h1 h2
    go_wp2_with fail
    go_ret
    exact ⟨rfl, H1.out, H2.out⟩
  · have hs' : 1 ≤ D.spent 1 := by omega
    go_enter Tryz.func50, Tryz.ntmps50
    go_wp2_with fail
    refine S.out.mono ?_
    rintro e w' ⟨rfl, h1, h2⟩
    have H1 := Lib.hid h1
    have H2 := Lib.hid h2
    clear h1 h2
    go_wp2_with fail
    go_ret
    exact ⟨rfl, H1.out, H2.out⟩
end Go.Proofs.YthfcmgbkhjnfjaaGreatDoor
