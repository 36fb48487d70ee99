/- How many bytes are free: Free, a range over the names' map in whatever order. -/
import Derived.Test.YtalonkenchcfbaaDoorSyncDir
import Derived.Maps.RangeWalk
namespace Go.Proofs.YtalonkenchcfbaaDoor
open Go.RowKit Go.Maps

/-- How long the text is to which an entry leads. -/
def lenOf (fs : List Fl) : DataW Unit → Int
  | .lit (.int _ i) => match fs[i.toNat]? with
    | some F => F.seen.size
    | none => 0
  | _ => 0
/-- What of the entries is still to come. -/
def restSum (f : DataW Unit → Int) (left : Lit → Bool) : List (Lit × DataW Unit) → Int
  | [] => 0
  | p :: t => (if left p.1 then f p.2 else 0) + restSum f left t
theorem rest_same {f : DataW Unit → Int} {l m : Lit → Bool} : ∀ {es : List (Lit × DataW Unit)}, (∀ p ∈ es, l p.1 = m p.1) → restSum f l es = restSum f m es
  | [], _ => rfl
  | p :: t, h => by
    unfold restSum
    rw [h p (List.mem_cons_self ..), rest_same fun q hq => h q (List.mem_cons_of_mem _ hq)]
theorem rest_step {f : DataW Unit → Int} {left : Lit → Bool} {kl : Lit} {y : DataW Unit} (hl : left kl = true) : ∀ {es : List (Lit × DataW Unit)}, es.Pairwise (fun p q => p.1 ≠ q.1) → (∃ p ∈ es, p.1 = kl ∧ p.2 = y) → (∀ p ∈ es, WideAt.IsKeyLit p.1) →
    restSum f left es = f y + restSum f (fun z => left z && !z.sameKey kl) es
  | [], _, ⟨p, hp, _⟩, _ => by cases hp
  | p :: t, hw, ⟨q, hq, hk, hy⟩, hkey => by
    obtain ⟨hw1, hw2⟩ := List.pairwise_cons.1 hw
    unfold restSum
    by_cases hpk : p.1 = kl
    · have hq' : q = p := by
        rcases List.mem_cons.1 hq with h | h
        · exact h
        · exact absurd (hpk.trans hk.symm) (hw1 q h)
      subst hq'
      have hs : q.1.sameKey kl = true := by rw [hk]; rw [← hk]; exact WideAt.sameKey_self (hkey q (List.mem_cons_self ..))
      have ht : restSum f (fun z => left z && !z.sameKey kl) t = restSum f left t := by
        refine rest_same fun z hz => ?_
        have : z.1.sameKey kl = false := sameKey_ne fun e => hw1 z hz (hpk.trans e.symm)
        rw [this]; simp
      rw [ht, hs, hk, hl, hy]
      simp
    · have hqt : q ∈ t := by
        rcases List.mem_cons.1 hq with h | h
        · exact absurd (h ▸ hk) hpk
        · exact h
      rw [rest_step hl hw2 ⟨q, hqt, hk, hy⟩ fun z hz => hkey z (List.mem_cons_of_mem _ hz), sameKey_ne hpk]
      simp
      omega
theorem rest_none {f : DataW Unit → Int} {left : Lit → Bool} (h : ∀ kl, left kl = false) : ∀ es : List (Lit × DataW Unit), restSum f left es = 0
  | [] => rfl
  | p :: t => by unfold restSum; rw [h, rest_none h t]; rfl
/-- An entry that a look-up finds. -/
theorem entry_of {es : List (Lit × DataW Unit)} {kl : Lit} {y : DataW Unit} (h : ∀ zd, (DataW.map es).atKey kl zd = y) : ∃ p ∈ es, p.1 = kl ∧ p.2 = y := by
  have h1 := h (.lit (.bool true))
  have h2 := h (.lit (.bool false))
  unfold DataW.atKey at h1 h2
  simp only at h1 h2
  cases hf : es.find? (fun p => p.1.sameKey kl) with
  | none => rw [hf] at h1 h2; rw [← h2] at h1; cases h1
  | some p =>
    rw [hf] at h1
    exact ⟨p, List.mem_of_find?_eq_some hf, WideAt.sameKey_eq (by simpa using List.find?_some hf), h1⟩
/-- How many bytes the names' files have. -/
def usedOf (fs : List Fl) : DataW Unit → Int
  | .map es => restSum (lenOf fs) (fun _ => true) es
  | _ => 0
def Dk.free (D : Dk) : Int := max 0 (D.room - usedOf D.files D.dirOf)
theorem rest_bound {f : DataW Unit → Int} {B : Int} (hB : 0 ≤ B) : ∀ (es : List (Lit × DataW Unit)) (left : Lit → Bool), (∀ p ∈ es, 0 ≤ f p.2 ∧ f p.2 ≤ B) → 0 ≤ restSum f left es ∧ restSum f left es ≤ B * es.length
  | [], _, _ => by simp [restSum]
  | p :: t, left, h => by
    have h1 := h p (List.mem_cons_self ..)
    have h2 := rest_bound hB t left fun q hq => h q (List.mem_cons_of_mem _ hq)
    unfold restSum
    rw [List.length_cons]
    have : B * ((t.length + 1 : Nat) : Int) = B * t.length + B := by rw [Int.natCast_add, Int.mul_add]; simp
    rw [this]
    split <;> omega
theorem rest_le {f : DataW Unit → Int} (left : Lit → Bool) : ∀ (es : List (Lit × DataW Unit)), (∀ p ∈ es, 0 ≤ f p.2) → restSum f left es ≤ restSum f (fun _ => true) es
  | [], _ => Int.le_refl _
  | p :: t, h => by
    have h1 := h p (List.mem_cons_self ..)
    have h2 := rest_le left t fun q hq => h q (List.mem_cons_of_mem _ hq)
    unfold restSum
    rw [if_pos rfl]
    split <;> omega
theorem lenOf_bound {fs : List Fl} (h : ∀ F ∈ fs, F.Ok) (d : DataW Unit) : 0 ≤ lenOf fs d ∧ lenOf fs d ≤ 10000000 := by
  unfold lenOf
  split
  · rename_i k i
    cases hf : fs[i.toNat]? with
    | none => simp
    | some F =>
      have h1 := (h F (List.mem_of_getElem? hf)).mass
      have h2 : F.seen.size ≤ F.mass := Fl.behind_size F (-1)
      simp only
      omega
  · simp
theorem key_inv (key : Value) (kl : Lit) (h : keyOf Tryd.prog 9 key = some kl) : ∃ s : ByteArray, key = .string s :=
  let ⟨s, hs, _⟩ := WideMaps.string_of_keyOf Tryd.underlying9 h
  ⟨s, hs⟩
theorem elem_inv (v : Value) (y : DataW Unit × List MemPlace) (h : RI v = some y) : ∃ c : Int, v = .int .i64 c :=
  let ⟨c, hc, _⟩ := plainElem_int_inv Tryd.underlying3 h
  ⟨c, hc⟩
theorem total_left {f : DataW Unit → Int} (left : Lit → Bool) {es : List (Lit × DataW Unit)} (h : ∀ p ∈ es, left p.1 = true) : restSum f left es = restSum f (fun _ => true) es := rest_same fun p hp => h p hp
/-- The loop's relation. -/
def FreeRel (w : World) (mb r n : Nat) (es : List (Lit × DataW Unit)) (f : DataW Unit → Int) (room : Int) (v : Value) (wr : World) : Prop :=
  ∃ (left : Lit → Bool) (cnt : Nat), v = .int .i64 (room - restSum f (fun _ => true) es + restSum f left es) ∧ Hid (wr.ranges Tryd.prog 9 RI mb r n (.map es) left cnt) ∧ Hid (Below w.heap.size w wr)
set_option maxHeartbeats 3200000 in
set_option maxRecDepth 20000 in
theorem free_any (w : World) (ρ : Col) (b : Nat) (D : Dk) (L : Lay) (h : DiskAt w ρ b D L) (ok : D.Ok) (hr0 : 0 ≤ D.room) (hr1 : D.room ≤ 9223372036854775807) :
    Calls Tryd.prog 15 #[.pointer (some ⟨b, 0, none⟩)] w fun e w' => e = .returned (.int .i64 D.free) ∧ Below w.heap.size w w' := by
  have R := Lib.hid (dir_any w ρ b D L h (Nat.le_trans ok.names (by omega)) (Nat.le_trans ok.many (by omega)) ok.fits)
  have hb := h.blk.lt
  have c4 := h.cells.c4
  have c5 := h.cells.c5
  have HP := Lib.hid (play_points D.waits D.dir (h.map.1.tidy keyed) ok.points ok.waits)
  obtain ⟨fo, fc, hvf⟩ := h.rowF.shape
  rw [hvf] at c5
  have HROW := Lib.hid (hvf ▸ h.rowF.1)
  have HD := Lib.hid h
  have OK := Lib.hid ok
  have hlots := ok.lots
  clear h ok hvf
  go_enter Tryd.func15, Tryd.ntmps15
  go_wp2_with fail
  refine R.out.mono ?_
  rintro e w1 ⟨rfl, m1, b1⟩
  have M1 := Lib.hid m1
  have B1 := Lib.hid b1
  obtain ⟨es, hes, hpw, hkl⟩ := m1.entries keyed
  have hsz := m1.size_le
  rw [hes] at hsz
  have hbd := fun left => rest_bound (f := lenOf D.files) (B := 10000000) (by omega) es left fun p _ => lenOf_bound OK.out.files p.2
  have hlen : es.length ≤ 2000000 := by
    have h1 := OK.out.names
    have h2 := OK.out.many
    rw [Maps.size_eq] at hsz
    omega
  have hfree : Hid (D.free = max 0 (D.room - restSum (lenOf D.files) (fun _ => true) es)) := Lib.hid (by unfold Dk.free usedOf; rw [hes])
  have HES := Lib.hid hes
  have HPW := Lib.hid hpw
  have HKL := Lib.hid hkl
  have HBD := Lib.hid hbd
  have hml : w.heap.size < w1.heap.size := m1.lt
  clear m1 b1 hes hpw hkl hsz hbd
  go_wp2_with (at_range; refine wpList_range_own _ rfl _ 59 rfl 9 3 keyed Tryd.underlying59 _ _ _ _ rfl M1.out ?_; intro w2 hrg2 hg2 hs2)
  have hrl : w.heap.size ≤ w1.heap.size := by omega
  have HB2 : Hid (Below w.heap.size w w2) := Lib.hid (B1.out.grown hg2 hrl (fun k hk => by cases hk))
  have HR2 := Lib.hid hrg2
  clear hrg2 hg2 hs2
  go_frame
  go_loopw [3] (FreeRel w w.heap.size w1.heap.size (Maps.size D.dir + D.waits.length) es (lenOf D.files) D.room) (fun _ wr => wr.rangeLeft w.heap.size w1.heap.size)
  case atStart =>
    have ht := total_left (f := lenOf D.files) (Maps.has D.dirOf) (es := es) fun p hp => by
      rw [HES.out]
      show (es.any fun q => q.1.sameKey p.1) = true
      rw [List.any_eq_true]
      exact ⟨p, hp, WideAt.sameKey_self (HKL.out p hp)⟩
    refine ⟨Maps.has D.dirOf, _, ?_, by rw [← HES.out]; exact HR2.out, HB2.out⟩
    rw [ht]
    congr 1
    omega
  case round =>
    obtain ⟨left, cnt, rfl, hrg, hbw⟩ := hrel
    go_wp2_with (at_next; refine wpList_next_ranges _ rfl _ rfl 9 keyed RI Value.string (Value.int .i64) key_inv elem_inv w.heap.size w1.heap.size _ _ left cnt rfl hrg.out ?_ ?_)
    · intro _ hl0
      have hz := rest_none (f := lenOf D.files) hl0 es
      rw [hz]
      have hf := hfree.out
      have hbd := HBD.out fun _ => true
      generalize restSum (lenOf D.files) (fun _ => true) es = T at *
      have e : D.room - T + 0 = D.room - T := by omega
      rw [e]
      have HF := Lib.hid hf
      clear hf hz hl0 e
      by_cases hx : 0 ≤ D.room - T
      · have E : Hid (max 0 (D.room - T) = D.room - T) := Lib.hid (by omega)
        go_wp2_with fail
        go_ret
        exact ⟨reti (by rw [HF.out, E.out]), hbw.out⟩
      · have E : Hid (max 0 (D.room - T) = 0) := Lib.hid (by omega)
        go_wp2_with fail
        go_ret
        exact ⟨reti (by rw [HF.out, E.out]), hbw.out⟩
    · intro x c kl yd yp w3 cnt3 hkey hlk hv hat hrg3 hlt hg3 hs3 hen
      obtain ⟨c', hc', hy, hwf⟩ := plainElem_int_inv Tryd.underlying3 hv
      cases hc'
      cases hy
      obtain ⟨p, hp, hpk, hpy⟩ := entry_of hat
      have hat2 := hat
      rw [← HES.out] at hat2
      obtain ⟨i, hi, hz⟩ := HP.out.1 kl (Maps.has_true_of_atKey hat2)
      have hci : c = i := by have := (hat2 (.lit (.bool true))).symm.trans (hz _); cases this; rfl
      subst hci
      have hrs := rest_step (f := lenOf D.files) hlk HPW.out ⟨p, hp, hpk, hpy⟩ HKL.out
      obtain ⟨f, hf⟩ : ∃ f, L.fs[i]? = some f := ⟨_, List.getElem?_eq_getElem (by rw [HD.out.len]; exact hi)⟩
      obtain ⟨F, hF⟩ : ∃ F, D.files[i]? = some F := ⟨_, List.getElem?_eq_getElem hi⟩
      have hlen1 : lenOf D.files (.lit (.int .i64 (i : Int))) = F.seen.size := by
        show (match D.files[((i : Int)).toNat]? with | some F => (F.seen.size : Int) | none => 0) = _
        rw [Int.toNat_natCast, hF]
      have hb3 : Hid (Below w.heap.size w w3) := Lib.hid (hbw.out.grown hg3 hbw.out.size (fun j hj => by cases hj; exact hrl))
      have d3 := HD.out.below hb3.out
      have S := Lib.hid (seen_any w3 ρ i f F (d3.files i f F hf hF) (OK.out.files F (List.mem_of_getElem? hF)))
      have hFs : F.seen.size ≤ 10000000 := Nat.le_trans (Fl.behind_size F (-1)) (OK.out.files F (List.mem_of_getElem? hF)).mass
      obtain ⟨g, cp, hvf, -, hg⟩ := HROW.out.form (by omega)
      have hcell := HROW.out.cells (g := g) (by rw [hvf]; rfl) i _ (by rw [List.getElem?_map, hf]; rfl)
      rw [add_at] at hcell
      cases hvf
      have k5 := (hb3.out.cell (p := ⟨b, 5, none⟩) hb).trans c5
      have kr := (hb3.out.cell (p := ⟨g, i, none⟩) hg).trans hcell
      have hiL : (i : Int) < (D.files.length : Int) := by omega
      have hbd1 := HBD.out fun _ => true
      have hbd2 := HBD.out left
      have hbd3 := HBD.out fun z => left z && !z.sameKey kl
      rw [hlen1] at hrs
      have hmo := rest_le left es fun p _ => (lenOf_bound OK.out.files p.2).1
      have HRG3 := Lib.hid hrg3
      have HRS : Hid (D.room - restSum (lenOf D.files) (fun _ => true) es + restSum (lenOf D.files) left es - (F.seen.size : Int) = D.room - restSum (lenOf D.files) (fun _ => true) es + restSum (lenOf D.files) (fun z => left z && !z.sameKey kl) es) := Lib.hid (by omega)
      have HW : Hid (wrap64 (D.room - restSum (lenOf D.files) (fun _ => true) es + restSum (lenOf D.files) left es - (F.seen.size : Int)) = D.room - restSum (lenOf D.files) (fun _ => true) es + restSum (lenOf D.files) left es - (F.seen.size : Int)) := Lib.hid (IntWalk.wrap64_in _ ⟨by omega, by omega⟩)
      have hms : Hid (w3.rangeLeft w.heap.size w1.heap.size < wr.rangeLeft w.heap.size w1.heap.size) := Lib.hid (by rw [hrg3.left_eq, hrg.out.left_eq]; exact hlt)
      clear hat hat2 hz hv hkey hlk hrg3 hlt hg3 hs3 hrs hlen1 hcell hmo hbd1 hbd2 hbd3 d3 hf hF hp hpk hpy hwf
      go_wp2_with fail
      refine S.out.mono ?_
      rintro e w4 ⟨rfl, b4⟩
      have hb4 : Hid (Below w.heap.size w w4) := Lib.hid (hb3.out.trans (b4.mono hb3.out.size))
      have hr3 := HRG3.out.lt
      have hrg4 : Hid (w4.ranges Tryd.prog 9 RI w.heap.size w1.heap.size (Maps.size D.dir + D.waits.length) (.map es) (fun z => left z && !z.sameKey kl) cnt3) := Lib.hid (HRG3.out.kept ⟨b4.os, b4.tape, b4.output, b4.size, fun k hk _ => b4.block k hk⟩ (row := none) (by simp) (by simp))
      have hms4 : Hid (w4.rangeLeft w.heap.size w1.heap.size < wr.rangeLeft w.heap.size w1.heap.size) := Lib.hid (by have := hms.out; rw [HRG3.out.left_eq] at this; rw [hrg4.out.left_eq]; exact this)
      clear b4
      go_wp2_with fail
      go_roundw
      case rel => exact ⟨fun z => left z && !z.sameKey kl, cnt3, by rw [HW.out, HRS.out], hrg4.out, hb4.out⟩
      case measure => exact hms4.out
end Go.Proofs.YtalonkenchcfbaaDoor
