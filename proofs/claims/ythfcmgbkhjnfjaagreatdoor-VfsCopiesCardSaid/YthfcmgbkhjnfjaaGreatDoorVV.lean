/- The plain law of a disk with one file: what creating, syncing, writing and a crash make of it. The methods' contracts at a disk with one file that the call itself has made. The fixed fact of the layer's statements. Scripts: what the law reads of its row of operations; and whether it is long. The law's rows of operations: out of the condition that they can be read. The law's rows of operations, with the numbers of each operation's Keep. -/
import Derived.Test.YthfcmgbkhjnfjaaGreatDoorCrash
import Derived.Test.YthfcmgbkhjnfjaaGreatDoorVP
import Derived.Deep.Slices
import Derived.Deep.Fields
import Derived.ChangeSame
namespace Go.Proofs.YthfcmgbkhjnfjaaGreatDoor
open Go.RowKit Go.Maps

/-- The names' map with one name. -/
def soloDir (s : ByteArray) : DataW Unit := .map [(nameK s, .lit (.int .i64 0))]
theorem solo_put (s : ByteArray) : (DataW.map [] : DataW Unit).put (nameK s) (.lit (.int .i64 0)) = soloDir s := rfl
theorem sameK (s : ByteArray) : (nameK s).sameKey (nameK s) = true := WideAt.sameKey_self (isKey_name s)
theorem solo_has (s : ByteArray) : Maps.has (soloDir s) (nameK s) = true := by
  show ([(nameK s, DataW.lit (Lit.int .i64 0))].any fun p => p.1.sameKey (nameK s)) = true
  simp [sameK]
theorem solo_at (s : ByteArray) (z : DataW Unit) : (soloDir s).atKey (nameK s) z = .lit (.int .i64 0) := by
  unfold soloDir DataW.atKey
  simp [sameK]
/-- A disk with one name and one file, all power on. -/
structure Solo (D : Dk) (s : ByteArray) (room : Int) (F : Fl) (u : Int) (na : Nat) : Prop where
  files : D.files = [F]
  dir : D.dir = soloDir s
  waits : D.waits = []
  armed : D.armed = false
  gone : D.gone = false
  room : D.room = room
  units : D.units = u
  left : D.left = 0
  acts : D.acts.length = na
section
variable {D : Dk} {s : ByteArray} {room : Int} {F : Fl} {u : Int} {na : Nat}
theorem Solo.dirOf (h : Solo D s room F u na) : D.dirOf = soloDir s := by unfold Dk.dirOf; rw [h.waits, h.dir]; rfl
theorem Solo.ok (h : Solo D s room F u na) (hF : F.Ok) (h0 : 0 ≤ u) (h1 : u ≤ 100000000) (hn : na ≤ 1000000) : D.Ok where
  points := fun k hk => by
    rw [h.dir] at hk ⊢
    have hk' : k = nameK s := by
      have : ([(nameK s, DataW.lit (H := Unit) (Lit.int .i64 0))].any fun p => p.1.sameKey k) = true := hk
      simp at this
      exact (WideAt.sameKey_eq this).symm
    exact ⟨0, by rw [h.files]; simp, fun z => by rw [hk']; exact solo_at s z⟩
  waits := by rw [h.waits]; simp
  fits := by rw [h.waits]; simp
  names := by rw [h.dir]; show 1 ≤ 1000000; decide
  many := by rw [h.waits]; simp
  files := by rw [h.files]; simpa using hF
  lots := by rw [h.files]; simp
  acts := by rw [h.acts]; exact hn
  units0 := by rw [h.units]; exact h0
  units1 := by rw [h.units]; exact h1
  left0 := by rw [h.left]; decide
  left1 := by rw [h.left]; decide
theorem Solo.idx (h : Solo D s room F u na) : D.idx s = 0 := by unfold Dk.idx; rw [h.dirOf, solo_at]; rfl
theorem Solo.asked (h : Solo D s room F u na) (hg : goodName s.data.toList = true) : D.askedN [s] = 0 := by unfold Dk.askedN; rw [h.gone]; simp [hg]
theorem Solo.fileN (h : Solo D s room F u na) (hg : goodName s.data.toList = true) : D.fileN s = 0 := by
  unfold Dk.fileN; rw [h.asked hg, if_pos rfl, h.dirOf, solo_has, if_pos rfl]
theorem Solo.text (h : Solo D s room F u na) : D.text s = F.seen := by unfold Dk.text; rw [h.idx, h.files]; rfl
theorem Solo.fileAt (h : Solo D s room F u na) : D.fileAt s = F := by unfold Dk.fileAt; rw [h.idx, h.files]; rfl
theorem Solo.free (h : Solo D s room F u na) : D.free = max 0 (room - F.seen.size) := by
  unfold Dk.free
  rw [h.dirOf, h.room, h.files]
  show max 0 (room - restSum (lenOf [F]) (fun _ => true) [(nameK s, .lit (.int .i64 0))]) = _
  simp [restSum, lenOf]
theorem Solo.spent (h : Solo D s room F u na) (n : Int) : D.spent n = n := by unfold Dk.spent; rw [h.armed]; simp
theorem Solo.read (h : Solo D s room F u na) (hg : goodName s.data.toList = true) : D.readN s = 0 := by unfold Dk.readN; rw [h.gone]; simpa using h.fileN hg
theorem Solo.sync (h : Solo D s room F u na) (hg : goodName s.data.toList = true) : (D.sync s).1 = 0 ∧ Solo (D.sync s).2 s room ⟨F.seen, []⟩ (u + 1) (na + 1) := by
  have e : D.sync s = (0, ((D.spend 1).setFile 0 ⟨F.seen, []⟩).did ⟨4, s, ⟨#[]⟩, ⟨#[]⟩, 0⟩) := by
    unfold Dk.sync
    rw [if_neg (by rw [h.fileN hg]; simp), h.spent, if_neg (by decide), h.idx, h.text]
  rw [e]
  refine ⟨rfl, ⟨?_, h.dir, h.waits, h.armed, ?_, h.room, ?_, ?_, ?_⟩⟩
  · show D.files.set 0 _ = _
    rw [h.files]; rfl
  · show (D.gone || (D.armed && decide (D.left < 1))) = false
    rw [h.gone, h.armed]; rfl
  · show D.units + D.spent 1 = u + 1
    rw [h.units, h.spent]
  · show (if D.armed = true then D.left - D.spent 1 else D.left) = 0
    rw [h.armed, h.left]; rfl
  · show (D.acts ++ [_]).length = na + 1
    rw [List.length_append, h.acts]; rfl
theorem full_text (t : ByteArray) : t.extract 0 ((t.size : Int)).toNat = t := by rw [Int.toNat_natCast]; simp
theorem Solo.write (h : Solo D s room F u na) (hg : goodName s.data.toList = true) (t : ByteArray) (hr : (F.seen.size : Int) + t.size ≤ room) :
    (D.write s t).1 = 0 ∧ Solo (D.write s t).2 s room (if 0 < t.size then F.push ⟨t, 0, false⟩ else F) (u + t.size) (if 0 < t.size then na + 1 else na) := by
  have e : D.write s t = (0, D.wrote s t t.size) := by
    unfold Dk.write
    rw [if_neg (by rw [h.fileN hg]; simp), h.free, if_neg (by omega), h.spent, if_neg (by omega)]
  rw [e]
  refine ⟨rfl, ?_⟩
  unfold Dk.wrote
  by_cases ht : 0 < t.size
  · rw [if_pos (by omega), if_pos ht, if_pos ht, h.idx, h.fileAt, full_text]
    refine ⟨?_, h.dir, h.waits, h.armed, ?_, h.room, ?_, ?_, ?_⟩
    · show D.files.set 0 _ = _
      rw [h.files]; rfl
    · show (D.gone || (D.armed && decide (D.left < t.size))) = false
      rw [h.gone, h.armed]; rfl
    · show D.units + D.spent t.size = _
      rw [h.units, h.spent]
    · show (if D.armed = true then D.left - D.spent t.size else D.left) = 0
      rw [h.armed, h.left]; rfl
    · show (D.acts ++ [_]).length = na + 1
      rw [List.length_append, h.acts]; rfl
  · rw [if_neg (by omega), if_neg ht, if_neg ht]
    refine ⟨h.files, h.dir, h.waits, h.armed, ?_, h.room, ?_, ?_, h.acts⟩
    · show (D.gone || (D.armed && decide (D.left < t.size))) = false
      rw [h.gone, h.armed]; rfl
    · show D.units + D.spent t.size = _
      rw [h.units, h.spent]
    · show (if D.armed = true then D.left - D.spent t.size else D.left) = 0
      rw [h.armed, h.left]; rfl
theorem Solo.crash (h : Solo D s room F u na) (k : Int) : Solo (D.crash 0 [k]) s room ⟨F.behind (max 0 k), []⟩ u na := by
  have hc : cutN D 0 = 0 := by unfold cutN; rw [h.waits]; rfl
  refine ⟨?_, ?_, rfl, rfl, rfl, h.room, h.units, h.left, h.acts⟩
  · show crashFiles D.files [k] D.files.length = _
    rw [h.files]
    rfl
  · show play D.dir (D.waits.take (cutN D 0)) = _
    rw [hc, h.dir]; rfl
end
/-! ### The beginning -/
theorem fresh_ok (room : Int) : (Dk.fresh room).Ok where
  points := fun k hk => by cases hk
  waits := by intro e h; cases h
  fits := by intro e h; cases h
  names := by show 0 ≤ 1000000; decide
  many := by show 0 ≤ 1000000; decide
  files := by intro e h; cases h
  lots := by show 0 ≤ 1000000; decide
  acts := by show 0 ≤ 1000000; decide
  units0 := by show (0 : Int) ≤ 0; decide
  units1 := by show (0 : Int) ≤ 100000000; decide
  left0 := by show (0 : Int) ≤ 0; decide
  left1 := by show (0 : Int) ≤ 9223372036854775807; decide
/-- The disk with one file that was made, and not yet made sure. -/
def Dk.first (room : Int) (s : ByteArray) : Dk := ⟨1, 0, false, false, room, [Fl.fresh], .map [], [En.made s 0], [⟨1, s, ⟨#[]⟩, ⟨#[]⟩, 0⟩]⟩
theorem fresh_fileN (room : Int) (s : ByteArray) (hg : goodName s.data.toList = true) : (Dk.fresh room).fileN s = 7 := by
  have ha : (Dk.fresh room).askedN [s] = 0 := by unfold Dk.askedN Dk.fresh; simp [hg]
  unfold Dk.fileN
  rw [ha, if_pos rfl]
  rfl
theorem fresh_create (room : Int) (s : ByteArray) (hg : goodName s.data.toList = true) : (Dk.fresh room).create s = (0, Dk.first room s) := by
  unfold Dk.create
  rw [fresh_fileN room s hg]
  rfl
theorem fl_fresh_ok : Fl.fresh.Ok := ⟨(by intro x h; cases h), by decide, by decide⟩
theorem first_ok (room : Int) (s : ByteArray) (hs : s.size ≤ 1000) : (Dk.first room s).Ok where
  points := fun k hk => by cases hk
  waits := by
    intro e he
    have : e = En.made s 0 := by simpa [Dk.first] using he
    subst this
    intro _
    show 0 < 1
    decide
  fits := by
    intro e he
    have : e = En.made s 0 := by simpa [Dk.first] using he
    subst this
    exact ⟨hs, by show 0 ≤ 1000; decide, by show 0 ≤ 10000000; decide⟩
  names := by show 0 ≤ 1000000; decide
  many := by show 1 ≤ 1000000; decide
  files := by
    intro F hF
    have : F = Fl.fresh := by simpa [Dk.first] using hF
    subst this
    exact fl_fresh_ok
  lots := by show 1 ≤ 1000000; decide
  acts := by show 1 ≤ 1000000; decide
  units0 := by show (0 : Int) ≤ 1; decide
  units1 := by show (1 : Int) ≤ 100000000; decide
  left0 := by show (0 : Int) ≤ 0; decide
  left1 := by show (0 : Int) ≤ 9223372036854775807; decide
theorem good_pos {s : ByteArray} (hg : goodName s.data.toList = true) : s.size ≠ 0 := by
  intro h
  have : s.data.toList = [] := List.length_eq_zero_iff.1 (by rw [← Lib.size_eq]; exact h)
  rw [this] at hg
  cases hg
theorem first_syncDir (room : Int) (s : ByteArray) (hg : goodName s.data.toList = true) : (Dk.first room s).syncDir.1 = 0 ∧ Solo (Dk.first room s).syncDir.2 s room Fl.fresh 2 2 := by
  have hd : (Dk.first room s).dirOf = soloDir s := by
    show playOne (.map []) (En.made s 0) = _
    unfold playOne
    rw [if_neg (show ¬ (En.made s 0).put.size = 0 from good_pos hg)]
    rfl
  have e : (Dk.first room s).syncDir = (0, (((Dk.first room s).spend 1).named (soloDir s)).did ⟨7, ⟨#[]⟩, ⟨#[]⟩, ⟨#[]⟩, 0⟩) := by
    unfold Dk.syncDir
    rw [hd]
    rfl
  rw [e]
  exact ⟨rfl, ⟨rfl, rfl, rfl, rfl, rfl, rfl, rfl, rfl, rfl⟩⟩
/-! ### What a file's text is -/
/-- The bytes of the writes that wait. -/
def texts (l : List Wt) : List UInt8 := l.flatMap fun x => x.text.data.toList
theorem app_data (a b : ByteArray) : (a ++ b).data.toList = a.data.toList ++ b.data.toList := by simp
theorem ext_data (t : ByteArray) (m : Nat) : (t.extract 0 m).data.toList = t.data.toList.take m := by rw [Lib.extract_data]; simp
/-- u units of the writes that wait. -/
theorem fold_behind (l : List Wt) : (∀ x ∈ l, x.cut = false) → ∀ (s : ByteArray) (u : Int), 0 ≤ u →
    (l.foldl stepW (s, u)).1.data.toList = s.data.toList ++ (texts l).take u.toNat := by
  induction l with
  | nil => intro _ s u _; simp [texts]
  | cons x t ih =>
    intro h s u hu
    have hx := h x (List.mem_cons_self ..)
    have hxu : x.units = x.text.size := by unfold Wt.units; rw [hx]; rfl
    have honto : ∀ (m : Int), x.onto s m = s ++ x.text.extract 0 m.toNat := fun m => by unfold Wt.onto; rw [hx]; rfl
    have hstep : (stepW (s, u) x).1.data.toList = s.data.toList ++ x.text.data.toList.take u.toNat ∧ (stepW (s, u) x).2 = u - min (x.text.size : Int) u := by
      unfold stepW
      simp only
      rw [if_pos hu, hxu, honto]
      refine ⟨?_, rfl⟩
      split
      · rw [app_data, ext_data]
        congr 1
        rcases Int.le_total (x.text.size : Int) u with hle | hle
        · rw [List.take_of_length_le (by rw [← Lib.size_eq]; omega), List.take_of_length_le (by rw [← Lib.size_eq]; omega)]
        · rw [show (min (x.text.size : Int) u).toNat = u.toNat by omega]
      · rcases Int.lt_or_le 0 u with h0 | h0
        · have : x.text.data.toList = [] := List.length_eq_zero_iff.1 (by rw [← Lib.size_eq]; omega)
          rw [this]; simp
        · rw [show u.toNat = 0 by omega]; simp
    have e : (x :: t).foldl stepW (s, u) = t.foldl stepW ((stepW (s, u) x).1, (stepW (s, u) x).2) := rfl
    rw [e, ih (fun y hy => h y (List.mem_cons_of_mem _ hy)) _ _ (by rw [hstep.2]; omega), hstep.1, hstep.2]
    unfold texts
    rw [List.flatMap_cons, List.append_assoc, List.take_append]
    congr 2
    rw [← Lib.size_eq]
    congr 1
    omega
theorem fold_seen (l : List Wt) : (∀ x ∈ l, x.cut = false) → ∀ s : ByteArray, (l.foldl stepW (s, -1)).1.data.toList = s.data.toList ++ texts l ∧ (l.foldl stepW (s, -1)).2 = -1 := by
  induction l with
  | nil => intro _ s; simp [texts]
  | cons x t ih =>
    intro h s
    have hx := h x (List.mem_cons_self ..)
    have hxu : x.units = x.text.size := by unfold Wt.units; rw [hx]; rfl
    have hstep : (stepW (s, -1) x).1.data.toList = s.data.toList ++ x.text.data.toList ∧ (stepW (s, -1) x).2 = -1 := by
      unfold stepW
      simp only
      rw [if_neg (by decide), hxu]
      refine ⟨?_, rfl⟩
      split
      · unfold Wt.onto
        rw [hx]
        show (s ++ x.text.extract 0 ((x.text.size : Int)).toNat).data.toList = _
        rw [full_text, app_data]
      · have : x.text.data.toList = [] := List.length_eq_zero_iff.1 (by rw [← Lib.size_eq]; omega)
        rw [this]; simp
    have e : (x :: t).foldl stepW (s, -1) = t.foldl stepW ((stepW (s, -1) x).1, (stepW (s, -1) x).2) := rfl
    rw [e, hstep.2]
    obtain ⟨i1, i2⟩ := ih (fun y hy => h y (List.mem_cons_of_mem _ hy)) (stepW (s, -1) x).1
    refine ⟨?_, i2⟩
    rw [i1, hstep.1]
    unfold texts
    rw [List.flatMap_cons, List.append_assoc]
/-- A file in which writes alone wait. -/
structure Plain (F : Fl) (sure all : List UInt8) : Prop where
  uncut : ∀ x ∈ F.waits, x.cut = false
  hsure : F.sure.data.toList = sure
  hall : all = sure ++ texts F.waits
theorem Plain.seen {F : Fl} {sure all : List UInt8} (h : Plain F sure all) : F.seen.data.toList = all := by
  unfold Fl.seen Fl.behind
  rw [(fold_seen F.waits h.uncut F.sure).1, h.hsure, h.hall]
theorem Plain.behind {F : Fl} {sure all : List UInt8} (h : Plain F sure all) (u : Int) (hu : 0 ≤ u) : (F.behind u).data.toList = all.take (sure.length + u.toNat) := by
  unfold Fl.behind
  rw [fold_behind F.waits h.uncut F.sure u hu, h.hsure, h.hall, List.take_append]
  congr 1
  · rw [List.take_of_length_le (by omega)]
  · congr 1; omega
theorem Plain.push {F : Fl} {sure all : List UInt8} (h : Plain F sure all) (t : ByteArray) : Plain (F.push ⟨t, 0, false⟩) sure (all ++ t.data.toList) where
  uncut := by
    intro x hx
    rcases List.mem_append.1 hx with hx | hx
    · exact h.uncut x hx
    · have : x = ⟨t, 0, false⟩ := by simpa using hx
      rw [this]
  hsure := h.hsure
  hall := by
    show _ = sure ++ texts (F.waits ++ [_])
    rw [h.hall]
    unfold texts
    simp
theorem Plain.synced {F : Fl} {sure all : List UInt8} (h : Plain F sure all) : Plain ⟨F.seen, []⟩ all all where
  uncut := by intro x hx; cases hx
  hsure := h.seen
  hall := by simp [texts]
theorem Plain.fresh : Plain Fl.fresh [] [] where
  uncut := by intro x hx; cases hx
  hsure := rfl
  hall := rfl
/-- How long all the texts of a plain file are. -/
theorem Plain.mass {F : Fl} {sure all : List UInt8} (h : Plain F sure all) : F.mass = all.length := by
  have hs : ∀ l : List Wt, (texts l).length = (l.map fun w => w.text.size).sum := by
    intro l
    induction l with
    | nil => rfl
    | cons x t ih =>
      unfold texts at *
      rw [List.flatMap_cons, List.length_append, ih, ← Lib.size_eq]
      simp
  unfold Fl.mass
  rw [h.hall, List.length_append, hs, ← h.hsure, ← Lib.size_eq]
theorem Plain.ok {F : Fl} {sure all : List UInt8} (h : Plain F sure all) (hl : all.length ≤ 10000000) (hw : F.waits.length ≤ 10000000) : F.Ok where
  cuts := fun x hx hc => by rw [h.uncut x hx] at hc; cases hc
  mass := by rw [h.mass]; exact hl
  many := hw
end Go.Proofs.YthfcmgbkhjnfjaaGreatDoor

namespace Go.Proofs.YthfcmgbkhjnfjaaGreatDoor
open Go.RowKit Go.Maps

/-- A disk of the call's own: from block B on. -/
def DiskSt (B : Nat) (w : World) (b : Nat) (D : Dk) : Prop := ∃ ρ, IsDisk w ρ b D ∧ (∀ k, k < B → ρ k = none) ∧ B ≤ w.heap.size
theorem Turned.st {B b : Nat} {w w' : World} {ρ : Col} {D' : Dk} (h : Turned w ρ b D' w') (hρ : ∀ k, k < B → ρ k = none) (hB : B ≤ w.heap.size) : DiskSt B w' b D' ∧ Below B w w' := by
  obtain ⟨ρ', h1, h2, h3⟩ := h
  exact ⟨⟨ρ', h1, fun k hk => (h2 k (by omega)).trans (hρ k hk), Nat.le_trans hB h3.size⟩, h3.toBelow hB hρ⟩
theorem DiskSt.below {B b : Nat} {w w' : World} {D : Dk} (h : DiskSt B w b D) (hb : Below w.heap.size w w') : DiskSt B w' b D := by
  obtain ⟨ρ, h1, h2, h3⟩ := h
  exact ⟨ρ, h1.below hb, h2, Nat.le_trans h3 hb.size⟩
/-- A new disk. -/
def NewSt (room : Int) (w : World) (e : Ending) (w' : World) : Prop := ∃ b, e = .returned (.tuple #[.pointer (some ⟨b, 0, none⟩), .nilIface]) ∧ DiskSt w.heap.size w' b (Dk.fresh room) ∧ Below w.heap.size w w'
theorem new_st (room : Int) (h0 : 0 ≤ room) (w : World) : Calls Tryz.prog 7 #[.int .i64 room] w (NewSt room w) :=
  (new_ok room h0 w).mono fun _ _ ⟨b, ρ, he, hd, hρ, hb⟩ => ⟨b, he, ⟨ρ, hd, hρ, hb.size⟩, hb⟩
/-- A call that ends in this error, with the disk so. -/
def StPost (B b k : Nat) (D' : Dk) (w : World) (e : Ending) (w' : World) : Prop := e = .returned (errV k) ∧ DiskSt B w' b D' ∧ Below B w w'
theorem create_st (s : ByteArray) (hs : s.size ≤ 1000) (hg : goodName s.data.toList = true) (room : Int) {B b : Nat} {w : World} (h : DiskSt B w b (Dk.fresh room)) :
    Calls Tryz.prog 15 #[.pointer (some ⟨b, 0, none⟩), .string s] w (StPost B b 0 (Dk.first room s) w) := by
  obtain ⟨ρ, ⟨L, hd⟩, hρ, hB⟩ := h
  refine (create_any s hs w ρ b _ L hd (fresh_ok room)).mono fun e w' ⟨he, ht⟩ => ?_
  rw [fresh_create room s hg] at he ht
  obtain ⟨h1, h2⟩ := ht.st hρ hB
  exact ⟨he, h1, h2⟩
/-- A disk of the call's own with one name and one file. -/
structure SoloSt (B : Nat) (w : World) (b : Nat) (s : ByteArray) (room : Int) (sure all : List UInt8) (u : Int) (na nw : Nat) : Prop where
  ex : ∃ D F, DiskSt B w b D ∧ Solo D s room F u na ∧ Plain F sure all ∧ F.waits.length ≤ nw
  good : goodName s.data.toList = true
  size : s.size ≤ 1000
  room0 : 0 ≤ room
  room1 : room ≤ 9223372036854775807
  len : all.length ≤ 1000000
  u0 : 0 ≤ u
  u1 : u ≤ 10000000
  nna : na ≤ 100000
  nnw : nw ≤ 100000
section
variable {B b na nw : Nat} {w : World} {s : ByteArray} {room u : Int} {sure all : List UInt8}
theorem SoloSt.below {w' : World} (h : SoloSt B w b s room sure all u na nw) (hb : Below w.heap.size w w') : SoloSt B w' b s room sure all u na nw :=
  let ⟨D, F, h1, h2⟩ := h.ex
  { h with ex := ⟨D, F, h1.below hb, h2⟩ }
def SoloPost (B b : Nat) (s : ByteArray) (room : Int) (sure all : List UInt8) (u : Int) (na nw : Nat) (w : World) (e : Ending) (w' : World) : Prop :=
  e = .returned .nilIface ∧ SoloSt B w' b s room sure all u na nw ∧ Below B w w'
theorem syncDir_solo (s : ByteArray) (hs : s.size ≤ 1000) (hg : goodName s.data.toList = true) (room : Int) (hr0 : 0 ≤ room) (hr1 : room ≤ 9223372036854775807) (h : DiskSt B w b (Dk.first room s)) :
    Calls Tryz.prog 21 #[.pointer (some ⟨b, 0, none⟩)] w (SoloPost B b s room [] [] 2 2 0 w) := by
  obtain ⟨ρ, ⟨L, hd⟩, hρ, hB⟩ := h
  refine (syncDir_any w ρ b _ L hd (first_ok room s hs)).mono fun e w' ⟨he, ht⟩ => ?_
  obtain ⟨h1, h2⟩ := first_syncDir room s hg
  rw [h1] at he
  obtain ⟨h3, h4⟩ := ht.st hρ hB
  exact ⟨he, ⟨⟨_, _, h3, h2, Plain.fresh, Nat.le_refl _⟩, hg, hs, hr0, hr1, by simp, by decide, by decide, by decide, by decide⟩, h4⟩
/-- The blocks that came to be since w0 stand as they stood. -/
def Late (w0 w w' : World) : Prop := ∀ x, w0.heap.size ≤ x → x < w.heap.size → w'.heap[x]? = w.heap[x]?
/-- A write, where blocks were laid since the disk was last looked at. -/
theorem write_solo_over {w0 : World} (h : SoloSt B w0 b s room sure all u na nw) (hb : Below w0.heap.size w0 w) (t : ByteArray) (hr : (all.length : Int) + t.size ≤ room) (hl : all.length + t.size ≤ 1000000) (hu : u + t.size ≤ 10000000) (hna : na + 1 ≤ 100000) (hnw : nw + 1 ≤ 100000) :
    Calls Tryz.prog 16 #[.pointer (some ⟨b, 0, none⟩), .string s, .string t] w fun e w' => SoloPost B b s room sure (all ++ t.data.toList) (u + t.size) (if 0 < t.size then na + 1 else na) (nw + 1) w e w' ∧ Late w0 w w' := by
  obtain ⟨D, F, ⟨ρ, ⟨L, hd0⟩, hρ, hB0⟩, hS, hP, hw⟩ := h.ex
  have hd := hd0.below hb
  have hB := Nat.le_trans hB0 hb.size
  have hFok : F.Ok := hP.ok (by have := h.len; omega) (by have := h.nnw; omega)
  have hok := hS.ok hFok h.u0 (by have := h.u1; omega) (by have := h.nna; omega)
  have hz : F.seen.size = all.length := by rw [Lib.size_eq, hP.seen]
  refine (write_any s t h.size (by omega) w ρ b D L hd hok (by rw [hS.room]; exact h.room0) (by rw [hS.room]; exact h.room1)).mono fun e w' ⟨he, ht⟩ => ?_
  obtain ⟨h1, h2⟩ := hS.write h.good t (by rw [hz]; exact hr)
  rw [h1] at he
  have hlate : Late w0 w w' := by
    obtain ⟨ρ', -, -, hk⟩ := ht
    intro x hx1 hx2
    refine hk.block x hx2 ?_
    cases hh : ρ x with
    | none => rfl
    | some c => have := hd0.fits x (by rw [hh]; simp); omega
  obtain ⟨h3, h4⟩ := ht.st hρ hB
  refine ⟨⟨he, ⟨?_, h.good, h.size, h.room0, h.room1, ?_, by have := h.u0; omega, hu, by split <;> omega, hnw⟩, h4⟩, hlate⟩
  · by_cases htz : 0 < t.size
    · rw [if_pos htz] at h2
      rw [if_pos htz] at h2
      rw [if_pos htz]
      exact ⟨_, _, h3, h2, hP.push t, by show (F.waits ++ [_]).length ≤ _; rw [List.length_append]; simp; omega⟩
    · rw [if_neg htz] at h2
      rw [if_neg htz] at h2
      rw [if_neg htz]
      have e0 : t.data.toList = [] := List.length_eq_zero_iff.1 (by rw [← Lib.size_eq]; omega)
      rw [e0, List.append_nil]
      exact ⟨_, _, h3, h2, hP, by omega⟩
  · rw [List.length_append, ← Lib.size_eq]; exact hl
theorem write_solo (h : SoloSt B w b s room sure all u na nw) (t : ByteArray) (hr : (all.length : Int) + t.size ≤ room) (hl : all.length + t.size ≤ 1000000) (hu : u + t.size ≤ 10000000) (hna : na + 1 ≤ 100000) (hnw : nw + 1 ≤ 100000) :
    Calls Tryz.prog 16 #[.pointer (some ⟨b, 0, none⟩), .string s, .string t] w (SoloPost B b s room sure (all ++ t.data.toList) (u + t.size) (if 0 < t.size then na + 1 else na) (nw + 1) w) :=
  (write_solo_over h (Below.refl _ _) t hr hl hu hna hnw).mono fun _ _ h => h.1
theorem sync_solo (h : SoloSt B w b s room sure all u na nw) (hu : u + 1 ≤ 10000000) (hna : na + 1 ≤ 100000) :
    Calls Tryz.prog 18 #[.pointer (some ⟨b, 0, none⟩), .string s] w (SoloPost B b s room all all (u + 1) (na + 1) nw w) := by
  obtain ⟨D, F, ⟨ρ, ⟨L, hd⟩, hρ, hB⟩, hS, hP, hw⟩ := h.ex
  have hFok : F.Ok := hP.ok (by have := h.len; omega) (by have := h.nnw; omega)
  have hok := hS.ok hFok h.u0 (by have := h.u1; omega) (by have := h.nna; omega)
  refine (sync_any s h.size w ρ b D L hd hok).mono fun e w' ⟨he, ht⟩ => ?_
  obtain ⟨h1, h2⟩ := hS.sync h.good
  rw [h1] at he
  obtain ⟨h3, h4⟩ := ht.st hρ hB
  exact ⟨he, ⟨⟨_, _, h3, h2, hP.synced, Nat.zero_le _⟩, h.good, h.size, h.room0, h.room1, h.len, by have := h.u0; omega, hu, hna, h.nnw⟩, h4⟩
/-- What a crash leaves of a text. -/
def crashText (sure all : List UInt8) (k : Int) : List UInt8 := all.take (sure.length + (max 0 k).toNat)
def CrashPost (B b : Nat) (s : ByteArray) (room : Int) (all : List UInt8) (u : Int) (na nw : Nat) (w : World) (e : Ending) (w' : World) : Prop :=
  e = .returned (.tuple #[]) ∧ SoloSt B w' b s room all all u na nw ∧ Below B w w'
/-- One number in a row that is new. -/
theorem crash_solo (h : SoloSt B w b s room sure all u na nw) (k : Int) (hk : k ≤ 9223372036854775807) :
    Calls Tryz.prog 12 #[.pointer (some ⟨b, 0, none⟩), .int .i64 0, .slice (some ⟨w.heap.size, 0, none⟩) 1 1] (w.alloc (.cells #[.int .i64 k] 3)) (CrashPost B b s room (crashText sure all k) u na nw w) := by
  have hb1 : Below w.heap.size w (w.alloc (.cells #[.int .i64 k] 3)) := (Below.refl _ _).alloc (Nat.le_refl _) _
  obtain ⟨D, F, ⟨ρ, ⟨L, hd⟩, hρ, hB⟩, hS, hP, hw⟩ := h.ex
  have hFok : F.Ok := hP.ok (by have := h.len; omega) (by have := h.nnw; omega)
  have hok := hS.ok hFok h.u0 (by have := h.u1; omega) (by have := h.nna; omega)
  have hi : IntsAt (w.alloc (.cells #[.int .i64 k] 3)) ρ (.slice (some ⟨w.heap.size, 0, none⟩) 1 1) [k] := by
    refine ⟨_, _, rfl, (by simp), fun j d hj => ?_⟩
    cases j with
    | succ j => simp at hj
    | zero =>
      simp at hj
      subst hj
      refine ⟨_, 0, rfl, by simp, ?_, World.cell?_alloc_new _ _ _ _, hk⟩
      cases hh : ρ w.heap.size with
      | none => rfl
      | some c => have := hd.fits w.heap.size (by rw [hh]; simp); omega
  refine (crash_any 0 _ [k] _ ρ b D L (hd.below hb1) hok hi (by decide) (by decide)).mono fun e w' ⟨he, ht⟩ => ?_
  have h2 := hS.crash k
  obtain ⟨h3, h4⟩ := ht.st hρ (Nat.le_trans hB hb1.size)
  have hbe := hP.behind (max 0 k) (by omega)
  refine ⟨he, ⟨⟨_, _, h3, h2, ⟨(by intro x hx; cases hx), hbe, (by simp [texts, crashText])⟩, Nat.zero_le _⟩, h.good, h.size, h.room0, h.room1, ?_, h.u0, h.u1, h.nna, h.nnw⟩, (hb1.mono hB).trans h4⟩
  unfold crashText
  rw [List.length_take]
  have := h.len
  omega
theorem read_solo (h : SoloSt B w b s room sure all u na nw) :
    Calls Tryz.prog 13 #[.pointer (some ⟨b, 0, none⟩), .string s] w fun e w' => e = .returned (.tuple #[.string ⟨all.toArray⟩, .nilIface]) ∧ Below w.heap.size w w' := by
  obtain ⟨D, F, ⟨ρ, ⟨L, hd⟩, hρ, hB⟩, hS, hP, hw⟩ := h.ex
  have hFok : F.Ok := hP.ok (by have := h.len; omega) (by have := h.nnw; omega)
  have hok := hS.ok hFok h.u0 (by have := h.u1; omega) (by have := h.nna; omega)
  have ht : D.text s = ⟨all.toArray⟩ := by rw [hS.text, ← hP.seen, Lib.mk_data]
  rw [← ht]
  exact read_ok s h.size w ρ b D L hd hok (hS.read h.good)
theorem free_solo (h : SoloSt B w b s room sure all u na nw) :
    Calls Tryz.prog 24 #[.pointer (some ⟨b, 0, none⟩)] w fun e w' => e = .returned (.int .i64 (max 0 (room - all.length))) ∧ Below w.heap.size w w' := by
  obtain ⟨D, F, ⟨ρ, ⟨L, hd⟩, hρ, hB⟩, hS, hP, hw⟩ := h.ex
  have hFok : F.Ok := hP.ok (by have := h.len; omega) (by have := h.nnw; omega)
  have hok := hS.ok hFok h.u0 (by have := h.u1; omega) (by have := h.nna; omega)
  have hz : F.seen.size = all.length := by rw [Lib.size_eq, hP.seen]
  have hf := hS.free
  rw [hz] at hf
  rw [← hf]
  exact free_any w ρ b D L hd hok (by rw [hS.room]; exact h.room0) (by rw [hS.room]; exact h.room1)
theorem units_solo (h : SoloSt B w b s room sure all u na nw) :
    Calls Tryz.prog 25 #[.pointer (some ⟨b, 0, none⟩)] w fun e w' => e = .returned (.int .i64 u) ∧ w = w' := by
  obtain ⟨D, F, ⟨ρ, ⟨L, hd⟩, hρ, hB⟩, hS, hP, hw⟩ := h.ex
  rw [← hS.units]
  exact unitsD_any w ρ b D L hd
theorem acts_solo (h : SoloSt B w b s room sure all u na nw) (hn : 0 < na) :
    Calls Tryz.prog 27 #[.pointer (some ⟨b, 0, none⟩)] w (CountPost na w) := by
  obtain ⟨D, F, ⟨ρ, ⟨L, hd⟩, hρ, hB⟩, hS, hP, hw⟩ := h.ex
  have e := hS.acts
  subst e
  exact acts_any w ρ b D L hd hn (by have := h.nna; omega)
end
end Go.Proofs.YthfcmgbkhjnfjaaGreatDoor

namespace Go.Proofs.YthfcmgbkhjnfjaaGreatDoor
open Go.RowKit Go.Maps

theorem below_cat {a b c : World} (h : Below a.heap.size a b) (k : Below b.heap.size b c) : Below a.heap.size a c := h.trans (k.mono h.size)
set_option maxHeartbeats 1600000 in
set_option maxRecDepth 20000 in
theorem alive_any (w : World) : Calls Tryz.prog 5 #[] w fun e w' => e = .returned (.bool true) ∧ Below w.heap.size w w' := by
  go_enter Tryz.func5, Tryz.ntmps5
  go_wp2_with fail
  refine (new_st 100 (by decide) w).mono ?_
  rintro e w1 ⟨b, rfl, D1, b1⟩
  have D1 := Lib.hid D1
  have b1 := Lib.hid b1
  go_wp2_with fail
  refine (create_st ⟨#[97]⟩ (by decide) (by decide) 100 D1.out).mono ?_
  rintro e w2 ⟨rfl, D2, b2⟩
  clear D1
  have D2 := Lib.hid D2
  have b2 := Lib.hid b2
  rw [show errV 0 = .nilIface from rfl]
  go_wp2_with fail
  refine (syncDir_solo ⟨#[97]⟩ (by decide) (by decide) 100 (by decide) (by decide) D2.out).mono ?_
  rintro e w3 ⟨rfl, D3, b3⟩
  clear D2
  have D3 := Lib.hid D3
  have b3 := Lib.hid b3
  go_wp2_with fail
  refine (write_solo D3.out ⟨#[97, 98]⟩ (by decide) (by decide) (by decide) (by decide) (by decide)).mono ?_
  rintro e w4 ⟨rfl, D4, b4⟩
  clear D3
  have D4 := Lib.hid D4
  have b4 := Lib.hid b4
  go_wp2_with fail
  refine (sync_solo D4.out (by decide) (by decide)).mono ?_
  rintro e w5 ⟨rfl, D5, b5⟩
  clear D4
  have D5 := Lib.hid D5
  have b5 := Lib.hid b5
  go_wp2_with fail
  refine (write_solo D5.out ⟨#[99, 100]⟩ (by decide) (by decide) (by decide) (by decide) (by decide)).mono ?_
  rintro e w6 ⟨rfl, D6, b6⟩
  clear D5
  have D6 := Lib.hid D6
  have b6 := Lib.hid b6
  go_wp2_with fail
  refine (crash_solo D6.out 1 (by decide)).mono ?_
  rintro e w7 ⟨rfl, D7, b7⟩
  clear D6
  have D7 := Lib.hid D7
  have b7 := Lib.hid b7
  go_wp2_with fail
  have hr := read_solo D7.out
  rw [show (⟨(crashText ([] ++ [97, 98]) ([] ++ [97, 98] ++ [99, 100]) 1).toArray⟩ : ByteArray) = ⟨#[97, 98, 99]⟩ from rfl] at hr
  refine hr.mono ?_
  rintro e w8 ⟨rfl, b8⟩
  have b8 := Lib.hid b8
  have D8 := Lib.hid (D7.out.below b8.out)
  clear D7
  go_wp2_with fail
  refine (units_solo D8.out).mono ?_
  rintro e w9 ⟨rfl, rfl⟩
  go_wp2_with fail
  refine (acts_solo D8.out (by decide)).mono ?_
  rintro e w9 ⟨ao, cp, rfl, b9⟩
  have b9 := Lib.hid b9
  go_wp2_with fail
  go_ret
  refine ⟨rfl, ?_⟩
  have z1 := b1.out.size
  exact b1.out.trans (b2.out.trans (b3.out.trans (b4.out.trans (b5.out.trans (b6.out.trans (b7.out.trans ((b8.out.mono (by have := b7.out.size; have := b6.out.size; have := b5.out.size; have := b4.out.size; have := b3.out.size; have := b2.out.size; omega)).trans (b9.out.mono (by have := b8.out.size; have := b7.out.size; have := b6.out.size; have := b5.out.size; have := b4.out.size; have := b3.out.size; have := b2.out.size; omega)))))))))
end Go.Proofs.YthfcmgbkhjnfjaaGreatDoor

namespace Go.Proofs.YthfcmgbkhjnfjaaGreatDoor
open Go.RowKit Go.Maps

/-- A row of operations, as the law reads it: of operation i, its five cells. -/
structure OpC where
  kind : Int
  num : Int
  name : ByteArray
  text : ByteArray
  keepA : Option Addr
  keepL : Nat
  keepC : Nat
def OpC.cells (o : OpC) : List Value := [.int .i64 o.kind, .int .i64 o.num, .string o.name, .string o.text, .slice o.keepA o.keepL o.keepC]
structure OpC.Fit (o : OpC) : Prop where
  kl : -9223372036854775808 ≤ o.kind
  kh : o.kind ≤ 9223372036854775807
  nl : -9223372036854775808 ≤ o.num
  nh : o.num ≤ 9223372036854775807
  name : o.name.size ≤ 9223372036854775807
  text : o.text.size ≤ 9223372036854775807
  keep : o.keepL ≤ 9223372036854775807
theorem add_block (a : Addr) (n : Nat) : (a.add n).block = a.block := by unfold Addr.add; split <;> rfl
/-- The cells of an operation from address p on. -/
def OpAt (w : World) (p : Addr) (o : OpC) : Prop :=
  w.cell? p = some (.int .i64 o.kind) ∧ w.cell? ⟨p.block, p.off + 1, none⟩ = some (.int .i64 o.num) ∧ w.cell? ⟨p.block, p.off + 2, none⟩ = some (.string o.name) ∧ w.cell? ⟨p.block, p.off + 3, none⟩ = some (.string o.text) ∧ w.cell? ⟨p.block, p.off + 4, none⟩ = some (.slice o.keepA o.keepL o.keepC)
theorem OpAt.below {B : Nat} {w w' : World} {p : Addr} {o : OpC} (h : OpAt w p o) (hb : Below B w w') (hp : p.block < B) : OpAt w' p o := by
  obtain ⟨h0, h1, h2, h3, h4⟩ := h
  exact ⟨(hb.cell hp).trans h0, (hb.cell (p := ⟨p.block, _, none⟩) hp).trans h1, (hb.cell (p := ⟨p.block, _, none⟩) hp).trans h2, (hb.cell (p := ⟨p.block, _, none⟩) hp).trans h3, (hb.cell (p := ⟨p.block, _, none⟩) hp).trans h4⟩
/-- The script stands in memory below block B. -/
def ScriptAt (B : Nat) (w : World) (v : Value) (l : List OpC) : Prop :=
  ∃ (ao : Option Addr) (cap : Nat), v = .slice ao l.length cap ∧ l.length ≤ 9223372036854775807 ∧
    ∀ (k : Nat) (o : OpC), l[k]? = some o → ∃ a, ao = some a ∧ a.block < B ∧ o.Fit ∧ OpAt w (a.add (k * 5)) o
theorem ScriptAt.below {B : Nat} {w w' : World} {v : Value} {l : List OpC} (h : ScriptAt B w v l) (hb : Below B w w') : ScriptAt B w' v l :=
  let ⟨ao, cap, h1, h2, h3⟩ := h
  ⟨ao, cap, h1, h2, fun k o hk => let ⟨a, h4, h5, h6, h7⟩ := h3 k o hk; ⟨a, h4, h5, h6, h7.below hb (by rw [add_block]; exact h5)⟩⟩
theorem ScriptAt.up {B B' : Nat} {w : World} {v : Value} {l : List OpC} (h : ScriptAt B w v l) (hb : B ≤ B') : ScriptAt B' w v l :=
  let ⟨ao, cap, h1, h2, h3⟩ := h
  ⟨ao, cap, h1, h2, fun k o hk => let ⟨a, h4, h5, h6⟩ := h3 k o hk; ⟨a, h4, by omega, h6⟩⟩
/-- What a row is that is not long. -/
def Short (l : List OpC) : Prop := l.length ≤ 61 ∧ ∀ o ∈ l, o.text.size ≤ 200 ∧ o.name.size ≤ 100 ∧ o.keepL ≤ 60
def LongPost (l : List OpC) (w : World) (e : Ending) (w' : World) : Prop := ∃ r : Bool, e = .returned (.bool r) ∧ Below w.heap.size w w' ∧ (r = false → Short l)
theorem script_take {l : List OpC} {k : Nat} {o : OpC} (h : l[k]? = some o) : l.take (k + 1) = l.take k ++ [o] := by
  rw [List.take_add_one, h]; rfl
set_option maxHeartbeats 1600000 in
theorem long_any (v : Value) (l : List OpC) (w : World) (h : ScriptAt w.heap.size w v l) : Calls Tryz.prog 6 #[v] w (LongPost l w) := by
  obtain ⟨ao, cap, rfl, h4, h5⟩ := h
  have H5 := Lib.hid h5
  clear h5
  go_enter Tryz.func6, Tryz.ntmps6
  go_wp2
  go_loopw [7] (fun i wr => ∃ k : Nat, i = .int .i64 k ∧ k ≤ l.length ∧ k ≤ 61 ∧ Hid (∀ o ∈ l.take k, o.text.size ≤ 200 ∧ o.name.size ≤ 100 ∧ o.keepL ≤ 60) ∧ Hid (Below w.heap.size w wr)) (fun i _ => l.length - (intOf i).toNat)
  case atStart => exact ⟨0, rfl, Nat.zero_le _, Nat.zero_le _, (by intro o ho; simp at ho), Below.refl _ _⟩
  case round =>
    obtain ⟨k, rfl, hk, hk61, hall, hw⟩ := hrel
    by_cases hlt : k < l.length
    · obtain ⟨⟨okind, onum, oname, otext, okA, okL, okC⟩, ho⟩ : ∃ o, l[k]? = some o := ⟨_, List.getElem?_eq_getElem hlt⟩
      obtain ⟨a, rfl, h2, ⟨k0, k1, k2, k3, k4, k5, k6⟩, hc⟩ := H5.out k _ ho
      obtain ⟨c0, c1, c2, c3, c4⟩ := hc.below hw.out (by rw [add_block]; exact h2)
      simp only at k0 k1 k2 k3 k4 k5 k6 c0 c1 c2 c3 c4
      have ho := Lib.hid ho
      clear hc
      have bw := Lib.hid (hw.out.alloc (by have := hw.out.size; omega) (Obj.cells #[Value.int IntKind.i64 okind, Value.int IntKind.i64 onum, Value.string oname, Value.string otext, Value.slice okA okL okC] 40))
      go_wp2
      case roundEnd =>
        rename_i t
        refine ⟨⟨k + 1, by go_num, by omega, by omega, ?_, bw⟩, by simp [intOf]; omega⟩
        show ∀ o ∈ l.take (k + 1), _
        rw [script_take ho.out]
        intro o h
        rcases List.mem_append.1 h with h | h
        · exact hall.out o h
        · obtain rfl := List.mem_singleton.1 h
          exact ⟨by simp only; omega, by simp only; omega, by simp only; omega⟩
      all_goals
        go_ret
        exact ⟨true, rfl, bw.out, fun h => by cases h⟩
    · go_wp2
      go_ret
      exact ⟨false, rfl, hw.out, fun _ => ⟨by omega, by rw [List.take_of_length_le (by omega)] at hall; exact hall.out⟩⟩
end Go.Proofs.YthfcmgbkhjnfjaaGreatDoor

namespace Go.Proofs.YthfcmgbkhjnfjaaGreatDoor
open Go.RowKit Go.ChangeShapes Go.WideShapes Go.Deep

theorem list_of {α : Type} (n : Nat) (Q : Nat → α → Prop) (h : ∀ i, i < n → ∃ x, Q i x) : ∃ l : List α, l.length = n ∧ ∀ (k : Nat) (x : α), l[k]? = some x → Q k x := by
  induction n with
  | zero => exact ⟨[], rfl, fun k x hx => by simp at hx⟩
  | succ n ih =>
    obtain ⟨l, h1, h2⟩ := ih fun i hi => h i (by omega)
    obtain ⟨x, hx⟩ := h n (by omega)
    refine ⟨l ++ [x], by simp [h1], fun k y hy => ?_⟩
    rcases Nat.lt_or_ge k l.length with hk | hk
    · exact h2 k y (by rw [← hy, List.getElem?_append_left hk])
    · rw [List.getElem?_append_right hk] at hy
      have e : k = n := by
        have := (List.getElem?_eq_some_iff.1 hy).1
        simp at this
        omega
      subst e
      rw [h1] at hy
      simp at hy
      exact hy ▸ hx
theorem cellsOp : Tryz.prog.cellsOf 40 = 5 := by kernel_rfl
theorem maxLen_eq : maxLen = 9223372036854775807 := by kernel_rfl
theorem cell_block {w : World} {a : Addr} {v : Value} (h : w.cell? a = some v) : a.block < w.heap.size := by
  unfold World.cell? at h
  cases hh : w.heap[a.block]? with
  | none => rw [hh] at h; cases h
  | some o => exact (Array.getElem?_eq_some_iff.1 hh).1
section
variable {H : Type} {enc : TypeId × Value → H} {w : World} {base : Nat} {spare : Nat → Bool} {held : Bool}
/-- A number's bounds. -/
theorem i64_lo {n : Int} (h : (Lit.int .i64 n).wf = true) : -9223372036854775808 ≤ n ∧ n ≤ 9223372036854775807 := by
  have e1 : IntKind.i64.min = -9223372036854775808 := rfl
  have e2 : IntKind.i64.max = 9223372036854775807 := rfl
  simp [Lit.wf, e1, e2] at h
  omega
set_option maxRecDepth 20000 in
/-- One operation's cells. -/
theorem op_open {fuel : Nat} {cs : List Value} {x : DataW H × List MemPlace} (h : DataW.trod enc Tryz.prog w base spare held fuel 40 cs = some x) :
    ∃ o : OpC, o.Fit ∧ cs = o.cells := by
  obtain ⟨xs, n, -, -, hlen, hxl, hf⟩ := DataW.trod_struct Tryz.underlying40 h
  rw [cellsOp] at hlen
  match cs, hlen with
  | [c0, c1, c2, c3, c4], _ =>
    match xs, hxl with
    | [y0, y1, y2, y3, y4], _ =>
      have g0 := hf 0 _ rfl
      have g1 := hf 1 _ rfl
      have g2 := hf 2 _ rfl
      have g3 := hf 3 _ rfl
      have g4 := hf 4 _ rfl
      have e3 : Tryz.prog.cellsOf 3 = 1 := by kernel_rfl
      have e9 : Tryz.prog.cellsOf 9 = 1 := by kernel_rfl
      have e32 : Tryz.prog.cellsOf 38 = 1 := by kernel_rfl
      simp [e3, e9, e32] at g0 g1 g2 g3 g4
      obtain ⟨n0, k0, -, w0⟩ := DataW.trod_int Tryz.underlying3 g0
      obtain ⟨n1, k1, -, w1⟩ := DataW.trod_int Tryz.underlying3 g1
      obtain ⟨s2, k2, -, w2⟩ := DataW.trod_string Tryz.underlying9 g2
      obtain ⟨s3, k3, -, w3⟩ := DataW.trod_string Tryz.underlying9 g3
      have hk : ∃ ko kl kc, c4 = .slice ko kl kc ∧ kl ≤ 9223372036854775807 := by
        rcases open_slice Tryz.underlying38 g4 with ⟨h4, -⟩ | ⟨a, len, cap, m, n, D, Pl, h4, -, hl, hm, -⟩
        · exact ⟨none, 0, 0, by simpa using h4, Nat.zero_le _⟩
        · exact ⟨some a, len, cap, by simpa using h4, by have := maxLen_eq; omega⟩
      obtain ⟨ko, kl, kc, h4, hkl⟩ := hk
      simp at k0 k1 k2 k3
      subst k0 k1 k2 k3 h4
      have m0 := maxLen_eq
      exact ⟨⟨n0, n1, s2, s3, ko, kl, kc⟩, ⟨(i64_lo w0).1, (i64_lo w0).2, (i64_lo w1).1, (i64_lo w1).2, by simp only; omega, by simp only; omega, hkl⟩, rfl⟩
set_option maxRecDepth 20000 in
/-- The row of operations. -/
theorem script_open {v : Value} {d : DataW H} {p : List MemPlace} {base0 : Nat} (hval : Value.okWide Tryz.prog w .any base0 22 v) (h : DataW.Trod enc Tryz.prog w 0 (fun _ => true) true 22 v d p) :
    ∃ l, ScriptAt w.heap.size w v l := by
  obtain ⟨ao, len, cap, rfl⟩ := okWide_slice Tryz.underlying22 hval
  obtain ⟨fuel, hf⟩ := h
  have m0 := maxLen_eq
  rcases open_slice Tryz.underlying22 hf with ⟨hcs, hx⟩ | ⟨a, len', cap', m, n, D, Pl, hcs, -, hl, hm, hmm, -, hi⟩
  · simp [Value.cells] at hcs
    obtain ⟨rfl, rfl, rfl⟩ := hcs
    exact ⟨[], none, 0, rfl, Nat.zero_le _, fun k o hk => by simp at hk⟩
  · simp [Value.cells] at hcs
    obtain ⟨rfl, rfl, rfl⟩ := hcs
    simp only [if_true] at hmm
    obtain ⟨l, h1, h2⟩ := list_of len (fun i (o : OpC) => o.Fit ∧ OpAt w (a.add (i * 5)) o) fun i hi' => by
      obtain ⟨cs', hc, ht⟩ := hi i (by omega)
      rw [cellsOp] at hc
      obtain ⟨o, ho, rfl⟩ := op_open ht
      obtain ⟨-, -, hat⟩ := World.cells?_some hc
      exact ⟨o, ho, hat 0 (by omega), hat 1 (by omega), hat 2 (by omega), hat 3 (by omega), hat 4 (by omega)⟩
    refine ⟨l, some a, cap, by rw [h1], by omega, fun k o hk => ?_⟩
    obtain ⟨h3, h4⟩ := h2 k o hk
    refine ⟨a, rfl, ?_, h3, h4⟩
    have := cell_block h4.1
    rwa [add_block] at this
end
end Go.Proofs.YthfcmgbkhjnfjaaGreatDoor

namespace Go.Proofs.YthfcmgbkhjnfjaaGreatDoor
open Go.RowKit Go.ChangeShapes Go.WideShapes Go.Deep

/-- A row of numbers that was handed in. -/
def KeepAt (B : Nat) (w : World) (v : Value) (ds : List Int) : Prop := ∃ ao c, v = .slice ao ds.length c ∧ ds.length ≤ 9223372036854775807 ∧ ∀ k d, ds[k]? = some d → ∃ g o, ao = some ⟨g, o, none⟩ ∧ g < B ∧ w.cell? ⟨g, o + k, none⟩ = some (.int .i64 d) ∧ d ≤ 9223372036854775807
theorem KeepAt.below {B : Nat} {w w' : World} {v : Value} {ds : List Int} (h : KeepAt B w v ds) (hb : Below B w w') : KeepAt B w' v ds := by
  obtain ⟨ao, c, h1, h2, h3⟩ := h
  refine ⟨ao, c, h1, h2, fun k d hd => ?_⟩
  obtain ⟨g, o, q1, q2, q3, q4⟩ := h3 k d hd
  exact ⟨g, o, q1, q2, (hb.cell (p := ⟨g, o + k, none⟩) q2).trans q3, q4⟩
theorem KeepAt.ints {B : Nat} {w : World} {v : Value} {ds : List Int} (h : KeepAt B w v ds) {ρ : Col} (hB : B ≤ w.heap.size) (hρ : ∀ g, g < B → ρ g = none) : IntsAt w ρ v ds := by
  obtain ⟨ao, c, h1, h2, h3⟩ := h
  refine ⟨ao, c, h1, h2, fun k d hd => ?_⟩
  obtain ⟨g, o, q1, q2, q3, q4⟩ := h3 k d hd
  exact ⟨g, o, q1, Nat.lt_of_lt_of_le q2 hB, hρ g q2, q3, q4⟩
/-- The script, with its rows of numbers. -/
def ScriptK (B : Nat) (w : World) (v : Value) (l : List OpC) : Prop := ScriptAt B w v l ∧ ∀ o ∈ l, ∃ ds, KeepAt B w (.slice o.keepA o.keepL o.keepC) ds
theorem ScriptK.below {B : Nat} {w w' : World} {v : Value} {l : List OpC} (h : ScriptK B w v l) (hb : Below B w w') : ScriptK B w' v l :=
  ⟨h.1.below hb, fun o ho => let ⟨ds, hd⟩ := h.2 o ho; ⟨ds, hd.below hb⟩⟩
theorem KeepAt.up {B B' : Nat} {w : World} {v : Value} {ds : List Int} (h : KeepAt B w v ds) (hb : B ≤ B') : KeepAt B' w v ds :=
  let ⟨ao, c, h1, h2, h3⟩ := h; ⟨ao, c, h1, h2, fun k d hd => let ⟨g, o, q1, q2, q3⟩ := h3 k d hd; ⟨g, o, q1, by omega, q3⟩⟩
theorem cellsInt : Tryz.prog.cellsOf 3 = 1 := by kernel_rfl
theorem spot_none {w : World} {a : Addr} {v : Value} (h : w.cell? a = some v) : a = ⟨a.block, a.off, none⟩ := by
  obtain ⟨b, o, s⟩ := a
  cases s with
  | none => rfl
  | some s =>
    unfold World.cell? at h
    split at h <;> simp at h
section
variable {H : Type} {enc : TypeId × Value → H} {w : World}
set_option maxRecDepth 20000 in
theorem keep_open {fuel : Nat} {v : Value} {y : DataW H × List MemPlace} (h : DataW.trod enc Tryz.prog w 0 (fun _ => true) true fuel 38 [v] = some y) : ∃ ks, KeepAt w.heap.size w v ks := by
  have m0 := maxLen_eq
  rcases open_slice Tryz.underlying38 h with ⟨hcs, -⟩ | ⟨a, len, cap, m, n, D, Pl, hcs, -, hl, hm, hmm, -, hi⟩
  · simp at hcs
    subst hcs
    exact ⟨[], none, 0, rfl, Nat.zero_le _, fun k d hd => by simp at hd⟩
  · simp at hcs
    subst hcs
    simp only [if_true] at hmm
    obtain ⟨l, h1, h2⟩ := list_of len (fun i (d : Int) => w.cell? (a.add i) = some (.int .i64 d) ∧ d ≤ 9223372036854775807) fun i hi' => by
      obtain ⟨cs', hc, ht⟩ := hi i (by omega)
      rw [cellsInt, Nat.mul_one] at hc
      obtain ⟨d, rfl, -, hw⟩ := DataW.trod_int Tryz.underlying3 ht
      obtain ⟨-, -, hat⟩ := World.cells?_some hc
      exact ⟨d, hat 0 (by omega), (i64_lo hw).2⟩
    refine ⟨l, some a, cap, by rw [h1], by omega, fun k d hk => ?_⟩
    obtain ⟨h3, h4⟩ := h2 k d hk
    have hpos : 0 < l.length := by have := (List.getElem?_eq_some_iff.1 hk).1; omega
    obtain ⟨h5, -⟩ := h2 0 _ (List.getElem?_eq_getElem hpos)
    have ea : a = ⟨a.block, a.off, none⟩ := spot_none (by simpa [Addr.add] using h5)
    refine ⟨a.block, a.off, by rw [← ea], ?_, ?_, h4⟩
    · have := cell_block h3
      rwa [add_block] at this
    · rw [ea] at h3
      unfold Addr.add at h3
      split at h3
      · rename_i e; subst e; exact h3
      · exact h3
set_option maxRecDepth 20000 in
/-- One operation's row of numbers. -/
theorem opK_open {fuel : Nat} {cs : List Value} {x : DataW H × List MemPlace} (h : DataW.trod enc Tryz.prog w 0 (fun _ => true) true fuel 40 cs = some x) (o : OpC) (ho : cs = o.cells) :
    ∃ ds, KeepAt w.heap.size w (.slice o.keepA o.keepL o.keepC) ds := by
  obtain ⟨xs, n, -, -, hlen, hxl, hf⟩ := DataW.trod_struct Tryz.underlying40 h
  rw [cellsOp] at hlen
  subst ho
  match xs, hxl with
  | [y0, y1, y2, y3, y4], _ =>
    have g4 := hf 4 _ rfl
    have e32 : Tryz.prog.cellsOf 38 = 1 := by kernel_rfl
    simp [OpC.cells, e32] at g4
    exact keep_open g4
set_option maxRecDepth 20000 in
/-- The row of operations. -/
theorem scriptK_open {v : Value} {d : DataW H} {p : List MemPlace} {base0 : Nat} (hval : Value.okWide Tryz.prog w .any base0 22 v) (h : DataW.Trod enc Tryz.prog w 0 (fun _ => true) true 22 v d p) :
    ∃ l, ScriptK w.heap.size w v l := by
  obtain ⟨ao, len, cap, rfl⟩ := okWide_slice Tryz.underlying22 hval
  obtain ⟨fuel, hf⟩ := h
  have m0 := maxLen_eq
  rcases open_slice Tryz.underlying22 hf with ⟨hcs, hx⟩ | ⟨a, len', cap', m, n, D, Pl, hcs, -, hl, hm, hmm, -, hi⟩
  · simp [Value.cells] at hcs
    obtain ⟨rfl, rfl, rfl⟩ := hcs
    exact ⟨[], ⟨none, 0, rfl, Nat.zero_le _, fun k o hk => by simp at hk⟩, fun o ho => by cases ho⟩
  · simp [Value.cells] at hcs
    obtain ⟨rfl, rfl, rfl⟩ := hcs
    simp only [if_true] at hmm
    obtain ⟨l, h1, h2⟩ := list_of len (fun i (o : OpC) => o.Fit ∧ OpAt w (a.add (i * 5)) o ∧ ∃ ds, KeepAt w.heap.size w (.slice o.keepA o.keepL o.keepC) ds) fun i hi' => by
      obtain ⟨cs', hc, ht⟩ := hi i (by omega)
      rw [cellsOp] at hc
      obtain ⟨o, ho, hcs⟩ := op_open ht
      have hk := opK_open ht o hcs
      subst hcs
      obtain ⟨-, -, hat⟩ := World.cells?_some hc
      exact ⟨o, ho, ⟨hat 0 (by omega), hat 1 (by omega), hat 2 (by omega), hat 3 (by omega), hat 4 (by omega)⟩, hk⟩
    refine ⟨l, ⟨some a, cap, by rw [h1], by omega, fun k o hk => ?_⟩, fun o ho => ?_⟩
    · obtain ⟨h3, h4, -⟩ := h2 k o hk
      refine ⟨a, rfl, ?_, h3, h4⟩
      have := cell_block h4.1
      rwa [add_block] at this
    · obtain ⟨k, hk⟩ := List.getElem?_of_mem ho
      exact (h2 k o hk).2.2
end
end Go.Proofs.YthfcmgbkhjnfjaaGreatDoor
