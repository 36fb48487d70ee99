/- The plain law of a disk with one file: what creating, syncing, writing and a crash make of it. -/
import Derived.Test.YtalonkenchcfbaaDoorCrash
import Derived.Test.YtalonkenchcfbaaDoorActs
namespace Go.Proofs.YtalonkenchcfbaaDoor
open Go.RowKit Go.Maps

/-- The names' map with one name. -/
def soloDir (s : ByteArray) : DataW Unit := .map [(nameK s, .lit (.int .i64 0))]
theorem solo_put (s : ByteArray) : (DataW.map [] : DataW Unit).put (nameK s) (.lit (.int .i64 0)) = soloDir s := rfl
theorem sameK (s : ByteArray) : (nameK s).sameKey (nameK s) = true := WideAt.sameKey_self (isKey_name s)
theorem solo_has (s : ByteArray) : Maps.has (soloDir s) (nameK s) = true := by
  show ([(nameK s, DataW.lit (Lit.int .i64 0))].any fun p => p.1.sameKey (nameK s)) = true
  simp [sameK]
theorem solo_at (s : ByteArray) (z : DataW Unit) : (soloDir s).atKey (nameK s) z = .lit (.int .i64 0) := by
  unfold soloDir DataW.atKey
  simp [sameK]
/-- A disk with one name and one file, all power on. -/
structure Solo (D : Dk) (s : ByteArray) (room : Int) (F : Fl) (u : Int) (na : Nat) : Prop where
  files : D.files = [F]
  dir : D.dir = soloDir s
  waits : D.waits = []
  armed : D.armed = false
  gone : D.gone = false
  room : D.room = room
  units : D.units = u
  left : D.left = 0
  acts : D.acts.length = na
section
variable {D : Dk} {s : ByteArray} {room : Int} {F : Fl} {u : Int} {na : Nat}
theorem Solo.dirOf (h : Solo D s room F u na) : D.dirOf = soloDir s := by unfold Dk.dirOf; rw [h.waits, h.dir]; rfl
theorem Solo.ok (h : Solo D s room F u na) (hF : F.Ok) (h0 : 0 ≤ u) (h1 : u ≤ 100000000) (hn : na ≤ 1000000) : D.Ok where
  points := fun k hk => by
    rw [h.dir] at hk ⊢
    have hk' : k = nameK s := by
      have : ([(nameK s, DataW.lit (H := Unit) (Lit.int .i64 0))].any fun p => p.1.sameKey k) = true := hk
      simp at this
      exact (WideAt.sameKey_eq this).symm
    exact ⟨0, by rw [h.files]; simp, fun z => by rw [hk']; exact solo_at s z⟩
  waits := by rw [h.waits]; simp
  fits := by rw [h.waits]; simp
  names := by rw [h.dir]; show 1 ≤ 1000000; decide
  many := by rw [h.waits]; simp
  files := by rw [h.files]; simpa using hF
  lots := by rw [h.files]; simp
  acts := by rw [h.acts]; exact hn
  units0 := by rw [h.units]; exact h0
  units1 := by rw [h.units]; exact h1
  left0 := by rw [h.left]; decide
  left1 := by rw [h.left]; decide
theorem Solo.idx (h : Solo D s room F u na) : D.idx s = 0 := by unfold Dk.idx; rw [h.dirOf, solo_at]; rfl
theorem Solo.asked (h : Solo D s room F u na) (hg : goodName s.data.toList = true) : D.askedN [s] = 0 := by unfold Dk.askedN; rw [h.gone]; simp [hg]
theorem Solo.fileN (h : Solo D s room F u na) (hg : goodName s.data.toList = true) : D.fileN s = 0 := by
  unfold Dk.fileN; rw [h.asked hg, if_pos rfl, h.dirOf, solo_has, if_pos rfl]
theorem Solo.text (h : Solo D s room F u na) : D.text s = F.seen := by unfold Dk.text; rw [h.idx, h.files]; rfl
theorem Solo.fileAt (h : Solo D s room F u na) : D.fileAt s = F := by unfold Dk.fileAt; rw [h.idx, h.files]; rfl
theorem Solo.free (h : Solo D s room F u na) : D.free = max 0 (room - F.seen.size) := by
  unfold Dk.free
  rw [h.dirOf, h.room, h.files]
  show max 0 (room - restSum (lenOf [F]) (fun _ => true) [(nameK s, .lit (.int .i64 0))]) = _
  simp [restSum, lenOf]
theorem Solo.spent (h : Solo D s room F u na) (n : Int) : D.spent n = n := by unfold Dk.spent; rw [h.armed]; simp
theorem Solo.read (h : Solo D s room F u na) (hg : goodName s.data.toList = true) : D.readN s = 0 := by unfold Dk.readN; rw [h.gone]; simpa using h.fileN hg
theorem Solo.sync (h : Solo D s room F u na) (hg : goodName s.data.toList = true) : (D.sync s).1 = 0 ∧ Solo (D.sync s).2 s room ⟨F.seen, []⟩ (u + 1) (na + 1) := by
  have e : D.sync s = (0, ((D.spend 1).setFile 0 ⟨F.seen, []⟩).did ⟨4, s, ⟨#[]⟩, ⟨#[]⟩, 0⟩) := by
    unfold Dk.sync
    rw [if_neg (by rw [h.fileN hg]; simp), h.spent, if_neg (by decide), h.idx, h.text]
  rw [e]
  refine ⟨rfl, ⟨?_, h.dir, h.waits, h.armed, ?_, h.room, ?_, ?_, ?_⟩⟩
  · show D.files.set 0 _ = _
    rw [h.files]; rfl
  · show (D.gone || (D.armed && decide (D.left < 1))) = false
    rw [h.gone, h.armed]; rfl
  · show D.units + D.spent 1 = u + 1
    rw [h.units, h.spent]
  · show (if D.armed = true then D.left - D.spent 1 else D.left) = 0
    rw [h.armed, h.left]; rfl
  · show (D.acts ++ [_]).length = na + 1
    rw [List.length_append, h.acts]; rfl
theorem full_text (t : ByteArray) : t.extract 0 ((t.size : Int)).toNat = t := by rw [Int.toNat_natCast]; simp
theorem Solo.write (h : Solo D s room F u na) (hg : goodName s.data.toList = true) (t : ByteArray) (hr : (F.seen.size : Int) + t.size ≤ room) :
    (D.write s t).1 = 0 ∧ Solo (D.write s t).2 s room (if 0 < t.size then F.push ⟨t, 0, false⟩ else F) (u + t.size) (if 0 < t.size then na + 1 else na) := by
  have e : D.write s t = (0, D.wrote s t t.size) := by
    unfold Dk.write
    rw [if_neg (by rw [h.fileN hg]; simp), h.free, if_neg (by omega), h.spent, if_neg (by omega)]
  rw [e]
  refine ⟨rfl, ?_⟩
  unfold Dk.wrote
  by_cases ht : 0 < t.size
  · rw [if_pos (by omega), if_pos ht, if_pos ht, h.idx, h.fileAt, full_text]
    refine ⟨?_, h.dir, h.waits, h.armed, ?_, h.room, ?_, ?_, ?_⟩
    · show D.files.set 0 _ = _
      rw [h.files]; rfl
    · show (D.gone || (D.armed && decide (D.left < t.size))) = false
      rw [h.gone, h.armed]; rfl
    · show D.units + D.spent t.size = _
      rw [h.units, h.spent]
    · show (if D.armed = true then D.left - D.spent t.size else D.left) = 0
      rw [h.armed, h.left]; rfl
    · show (D.acts ++ [_]).length = na + 1
      rw [List.length_append, h.acts]; rfl
  · rw [if_neg (by omega), if_neg ht, if_neg ht]
    refine ⟨h.files, h.dir, h.waits, h.armed, ?_, h.room, ?_, ?_, h.acts⟩
    · show (D.gone || (D.armed && decide (D.left < t.size))) = false
      rw [h.gone, h.armed]; rfl
    · show D.units + D.spent t.size = _
      rw [h.units, h.spent]
    · show (if D.armed = true then D.left - D.spent t.size else D.left) = 0
      rw [h.armed, h.left]; rfl
theorem Solo.crash (h : Solo D s room F u na) (k : Int) : Solo (D.crash 0 [k]) s room ⟨F.behind (max 0 k), []⟩ u na := by
  have hc : cutN D 0 = 0 := by unfold cutN; rw [h.waits]; rfl
  refine ⟨?_, ?_, rfl, rfl, rfl, h.room, h.units, h.left, h.acts⟩
  · show crashFiles D.files [k] D.files.length = _
    rw [h.files]
    rfl
  · show play D.dir (D.waits.take (cutN D 0)) = _
    rw [hc, h.dir]; rfl
end
/-! ### The beginning -/
theorem fresh_ok (room : Int) : (Dk.fresh room).Ok where
  points := fun k hk => by cases hk
  waits := by intro e h; cases h
  fits := by intro e h; cases h
  names := by show 0 ≤ 1000000; decide
  many := by show 0 ≤ 1000000; decide
  files := by intro e h; cases h
  lots := by show 0 ≤ 1000000; decide
  acts := by show 0 ≤ 1000000; decide
  units0 := by show (0 : Int) ≤ 0; decide
  units1 := by show (0 : Int) ≤ 100000000; decide
  left0 := by show (0 : Int) ≤ 0; decide
  left1 := by show (0 : Int) ≤ 9223372036854775807; decide
/-- The disk with one file that was made, and not yet made sure. -/
def Dk.first (room : Int) (s : ByteArray) : Dk := ⟨1, 0, false, false, room, [Fl.fresh], .map [], [En.made s 0], [⟨1, s, ⟨#[]⟩, ⟨#[]⟩, 0⟩]⟩
theorem fresh_fileN (room : Int) (s : ByteArray) (hg : goodName s.data.toList = true) : (Dk.fresh room).fileN s = 7 := by
  have ha : (Dk.fresh room).askedN [s] = 0 := by unfold Dk.askedN Dk.fresh; simp [hg]
  unfold Dk.fileN
  rw [ha, if_pos rfl]
  rfl
theorem fresh_create (room : Int) (s : ByteArray) (hg : goodName s.data.toList = true) : (Dk.fresh room).create s = (0, Dk.first room s) := by
  unfold Dk.create
  rw [fresh_fileN room s hg]
  rfl
theorem fl_fresh_ok : Fl.fresh.Ok := ⟨(by intro x h; cases h), by decide, by decide⟩
theorem first_ok (room : Int) (s : ByteArray) (hs : s.size ≤ 1000) : (Dk.first room s).Ok where
  points := fun k hk => by cases hk
  waits := by
    intro e he
    have : e = En.made s 0 := by simpa [Dk.first] using he
    subst this
    intro _
    show 0 < 1
    decide
  fits := by
    intro e he
    have : e = En.made s 0 := by simpa [Dk.first] using he
    subst this
    exact ⟨hs, by show 0 ≤ 1000; decide, by show 0 ≤ 10000000; decide⟩
  names := by show 0 ≤ 1000000; decide
  many := by show 1 ≤ 1000000; decide
  files := by
    intro F hF
    have : F = Fl.fresh := by simpa [Dk.first] using hF
    subst this
    exact fl_fresh_ok
  lots := by show 1 ≤ 1000000; decide
  acts := by show 1 ≤ 1000000; decide
  units0 := by show (0 : Int) ≤ 1; decide
  units1 := by show (1 : Int) ≤ 100000000; decide
  left0 := by show (0 : Int) ≤ 0; decide
  left1 := by show (0 : Int) ≤ 9223372036854775807; decide
theorem good_pos {s : ByteArray} (hg : goodName s.data.toList = true) : s.size ≠ 0 := by
  intro h
  have : s.data.toList = [] := List.length_eq_zero_iff.1 (by rw [← Lib.size_eq]; exact h)
  rw [this] at hg
  cases hg
theorem first_syncDir (room : Int) (s : ByteArray) (hg : goodName s.data.toList = true) : (Dk.first room s).syncDir.1 = 0 ∧ Solo (Dk.first room s).syncDir.2 s room Fl.fresh 2 2 := by
  have hd : (Dk.first room s).dirOf = soloDir s := by
    show playOne (.map []) (En.made s 0) = _
    unfold playOne
    rw [if_neg (show ¬ (En.made s 0).put.size = 0 from good_pos hg)]
    rfl
  have e : (Dk.first room s).syncDir = (0, (((Dk.first room s).spend 1).named (soloDir s)).did ⟨7, ⟨#[]⟩, ⟨#[]⟩, ⟨#[]⟩, 0⟩) := by
    unfold Dk.syncDir
    rw [hd]
    rfl
  rw [e]
  exact ⟨rfl, ⟨rfl, rfl, rfl, rfl, rfl, rfl, rfl, rfl, rfl⟩⟩
/-! ### What a file's text is -/
/-- The bytes of the writes that wait. -/
def texts (l : List Wt) : List UInt8 := l.flatMap fun x => x.text.data.toList
theorem app_data (a b : ByteArray) : (a ++ b).data.toList = a.data.toList ++ b.data.toList := by simp
theorem ext_data (t : ByteArray) (m : Nat) : (t.extract 0 m).data.toList = t.data.toList.take m := by rw [Lib.extract_data]; simp
/-- u units of the writes that wait. -/
theorem fold_behind (l : List Wt) : (∀ x ∈ l, x.cut = false) → ∀ (s : ByteArray) (u : Int), 0 ≤ u →
    (l.foldl stepW (s, u)).1.data.toList = s.data.toList ++ (texts l).take u.toNat := by
  induction l with
  | nil => intro _ s u _; simp [texts]
  | cons x t ih =>
    intro h s u hu
    have hx := h x (List.mem_cons_self ..)
    have hxu : x.units = x.text.size := by unfold Wt.units; rw [hx]; rfl
    have honto : ∀ (m : Int), x.onto s m = s ++ x.text.extract 0 m.toNat := fun m => by unfold Wt.onto; rw [hx]; rfl
    have hstep : (stepW (s, u) x).1.data.toList = s.data.toList ++ x.text.data.toList.take u.toNat ∧ (stepW (s, u) x).2 = u - min (x.text.size : Int) u := by
      unfold stepW
      simp only
      rw [if_pos hu, hxu, honto]
      refine ⟨?_, rfl⟩
      split
      · rw [app_data, ext_data]
        congr 1
        rcases Int.le_total (x.text.size : Int) u with hle | hle
        · rw [List.take_of_length_le (by rw [← Lib.size_eq]; omega), List.take_of_length_le (by rw [← Lib.size_eq]; omega)]
        · rw [show (min (x.text.size : Int) u).toNat = u.toNat by omega]
      · rcases Int.lt_or_le 0 u with h0 | h0
        · have : x.text.data.toList = [] := List.length_eq_zero_iff.1 (by rw [← Lib.size_eq]; omega)
          rw [this]; simp
        · rw [show u.toNat = 0 by omega]; simp
    have e : (x :: t).foldl stepW (s, u) = t.foldl stepW ((stepW (s, u) x).1, (stepW (s, u) x).2) := rfl
    rw [e, ih (fun y hy => h y (List.mem_cons_of_mem _ hy)) _ _ (by rw [hstep.2]; omega), hstep.1, hstep.2]
    unfold texts
    rw [List.flatMap_cons, List.append_assoc, List.take_append]
    congr 2
    rw [← Lib.size_eq]
    congr 1
    omega
theorem fold_seen (l : List Wt) : (∀ x ∈ l, x.cut = false) → ∀ s : ByteArray, (l.foldl stepW (s, -1)).1.data.toList = s.data.toList ++ texts l ∧ (l.foldl stepW (s, -1)).2 = -1 := by
  induction l with
  | nil => intro _ s; simp [texts]
  | cons x t ih =>
    intro h s
    have hx := h x (List.mem_cons_self ..)
    have hxu : x.units = x.text.size := by unfold Wt.units; rw [hx]; rfl
    have hstep : (stepW (s, -1) x).1.data.toList = s.data.toList ++ x.text.data.toList ∧ (stepW (s, -1) x).2 = -1 := by
      unfold stepW
      simp only
      rw [if_neg (by decide), hxu]
      refine ⟨?_, rfl⟩
      split
      · unfold Wt.onto
        rw [hx]
        show (s ++ x.text.extract 0 ((x.text.size : Int)).toNat).data.toList = _
        rw [full_text, app_data]
      · have : x.text.data.toList = [] := List.length_eq_zero_iff.1 (by rw [← Lib.size_eq]; omega)
        rw [this]; simp
    have e : (x :: t).foldl stepW (s, -1) = t.foldl stepW ((stepW (s, -1) x).1, (stepW (s, -1) x).2) := rfl
    rw [e, hstep.2]
    obtain ⟨i1, i2⟩ := ih (fun y hy => h y (List.mem_cons_of_mem _ hy)) (stepW (s, -1) x).1
    refine ⟨?_, i2⟩
    rw [i1, hstep.1]
    unfold texts
    rw [List.flatMap_cons, List.append_assoc]
/-- A file in which writes alone wait. -/
structure Plain (F : Fl) (sure all : List UInt8) : Prop where
  uncut : ∀ x ∈ F.waits, x.cut = false
  hsure : F.sure.data.toList = sure
  hall : all = sure ++ texts F.waits
theorem Plain.seen {F : Fl} {sure all : List UInt8} (h : Plain F sure all) : F.seen.data.toList = all := by
  unfold Fl.seen Fl.behind
  rw [(fold_seen F.waits h.uncut F.sure).1, h.hsure, h.hall]
theorem Plain.behind {F : Fl} {sure all : List UInt8} (h : Plain F sure all) (u : Int) (hu : 0 ≤ u) : (F.behind u).data.toList = all.take (sure.length + u.toNat) := by
  unfold Fl.behind
  rw [fold_behind F.waits h.uncut F.sure u hu, h.hsure, h.hall, List.take_append]
  congr 1
  · rw [List.take_of_length_le (by omega)]
  · congr 1; omega
theorem Plain.push {F : Fl} {sure all : List UInt8} (h : Plain F sure all) (t : ByteArray) : Plain (F.push ⟨t, 0, false⟩) sure (all ++ t.data.toList) where
  uncut := by
    intro x hx
    rcases List.mem_append.1 hx with hx | hx
    · exact h.uncut x hx
    · have : x = ⟨t, 0, false⟩ := by simpa using hx
      rw [this]
  hsure := h.hsure
  hall := by
    show _ = sure ++ texts (F.waits ++ [_])
    rw [h.hall]
    unfold texts
    simp
theorem Plain.synced {F : Fl} {sure all : List UInt8} (h : Plain F sure all) : Plain ⟨F.seen, []⟩ all all where
  uncut := by intro x hx; cases hx
  hsure := h.seen
  hall := by simp [texts]
theorem Plain.fresh : Plain Fl.fresh [] [] where
  uncut := by intro x hx; cases hx
  hsure := rfl
  hall := rfl
/-- How long all the texts of a plain file are. -/
theorem Plain.mass {F : Fl} {sure all : List UInt8} (h : Plain F sure all) : F.mass = all.length := by
  have hs : ∀ l : List Wt, (texts l).length = (l.map fun w => w.text.size).sum := by
    intro l
    induction l with
    | nil => rfl
    | cons x t ih =>
      unfold texts at *
      rw [List.flatMap_cons, List.length_append, ih, ← Lib.size_eq]
      simp
  unfold Fl.mass
  rw [h.hall, List.length_append, hs, ← h.hsure, ← Lib.size_eq]
theorem Plain.ok {F : Fl} {sure all : List UInt8} (h : Plain F sure all) (hl : all.length ≤ 10000000) (hw : F.waits.length ≤ 10000000) : F.Ok where
  cuts := fun x hx hc => by rw [h.uncut x hx] at hc; cases hc
  mass := by rw [h.mass]; exact hl
  many := hw
end Go.Proofs.YtalonkenchcfbaaDoor
