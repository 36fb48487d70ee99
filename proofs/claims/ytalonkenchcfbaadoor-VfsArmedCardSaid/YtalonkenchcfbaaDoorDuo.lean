/- A disk with its power on: what each method makes of its files and its names. And the methods' contracts there. -/
import Derived.Test.YtalonkenchcfbaaDoorSoloAt
import Derived.Test.YtalonkenchcfbaaDoorRename
namespace Go.Proofs.YtalonkenchcfbaaDoor
open Go.RowKit Go.Maps

/-- A disk with its power on. -/
structure St (D : Dk) (room : Int) (files : List Fl) (dir : DataW Unit) (waits : List En) (u na : Nat) : Prop where
  files : D.files = files
  dir : D.dir = dir
  waits : D.waits = waits
  armed : D.armed = false
  gone : D.gone = false
  room : D.room = room
  u0 : 0 ≤ D.units
  units : D.units ≤ u
  left : D.left = 0
  acts : D.acts.length ≤ na
/-- What of it can be looked at without the disk. -/
structure StOk (files : List Fl) (dir : DataW Unit) (waits : List En) : Prop where
  points : Points dir files.length
  fits : ∀ e ∈ waits, EnFits e
  names : Maps.size dir ≤ 1000
  many : waits.length ≤ 1000
  lots : files.length ≤ 1000
  sound : ∀ e ∈ waits, EnOk files.length e
  each : ∀ F ∈ files, F.Ok
section
variable {D : Dk} {room : Int} {files : List Fl} {dir : DataW Unit} {waits : List En} {u na : Nat}
theorem St.ok (h : St D room files dir waits u na) (k : StOk files dir waits) (hu : u ≤ 1000000) (hn : na ≤ 1000) : D.Ok where
  points := by rw [h.dir, h.files]; exact k.points
  waits := by rw [h.waits, h.files]; exact k.sound
  fits := by rw [h.waits]; exact k.fits
  names := by rw [h.dir]; have := k.names; omega
  many := by rw [h.waits]; have := k.many; omega
  files := by rw [h.files]; exact k.each
  lots := by rw [h.files]; have := k.lots; omega
  acts := by have := h.acts; omega
  units0 := h.u0
  units1 := by have := h.units; omega
  left0 := by rw [h.left]; decide
  left1 := by rw [h.left]; decide
theorem St.dirOf (h : St D room files dir waits u na) : D.dirOf = play dir waits := by unfold Dk.dirOf; rw [h.waits, h.dir]
theorem St.spent (h : St D room files dir waits u na) (n : Int) : D.spent n = n := by unfold Dk.spent; rw [h.armed]; simp
theorem St.asked (h : St D room files dir waits u na) {zs : List ByteArray} (hg : zs.any (fun s => !goodName s.data.toList) = false) : D.askedN zs = 0 := by unfold Dk.askedN; rw [h.gone, hg]; simp
theorem good_one {s : ByteArray} (hg : goodName s.data.toList = true) : [s].any (fun s => !goodName s.data.toList) = false := by simp [hg]
theorem St.fileN (h : St D room files dir waits u na) {s : ByteArray} (hg : goodName s.data.toList = true) : D.fileN s = if Maps.has (play dir waits) (nameK s) then 0 else 7 := by
  unfold Dk.fileN; rw [h.asked (good_one hg), if_pos rfl, h.dirOf]
theorem St.idx (h : St D room files dir waits u na) {s : ByteArray} {i : Nat} (hi : (play dir waits).atKey (nameK s) (.lit (.int .i64 0)) = .lit (.int .i64 i)) : D.idx s = i := by unfold Dk.idx; rw [h.dirOf, hi]; simp
/-- One unit more. -/
theorem St.step (h : St D room files dir waits u na) (n : Int) (k : Nat) (h0 : 0 ≤ n) (h1 : n ≤ k) : St (D.spend n) room files dir waits (u + k) na where
  files := h.files
  dir := h.dir
  waits := h.waits
  armed := h.armed
  gone := by show (D.gone || (D.armed && decide (D.left < n))) = false; rw [h.gone, h.armed]; rfl
  room := h.room
  u0 := by show 0 ≤ D.units + D.spent n; rw [h.spent]; have := h.u0; omega
  units := by show D.units + D.spent n ≤ _; rw [h.spent]; have := h.units; omega
  left := by show (if D.armed = true then D.left - D.spent n else D.left) = 0; rw [h.armed, h.left]; rfl
  acts := h.acts
theorem St.did (h : St D room files dir waits u na) (a : Ac) : St (D.did a) room files dir waits u (na + 1) :=
  { h with acts := by show (D.acts ++ [_]).length ≤ _; rw [List.length_append]; have := h.acts; simp; omega }
theorem St.weak (h : St D room files dir waits u na) {na' : Nat} (hn : na ≤ na') : St D room files dir waits u na' := { h with acts := Nat.le_trans h.acts hn }
theorem St.create (h : St D room files dir waits u na) {s : ByteArray} (hg : goodName s.data.toList = true) (hno : Maps.has (play dir waits) (nameK s) = false) :
    (D.create s).1 = 0 ∧ St (D.create s).2 room (files ++ [Fl.fresh]) dir (waits ++ [En.made s files.length]) (u + 1) (na + 1) := by
  have hf := h.fileN hg
  rw [hno] at hf
  simp at hf
  unfold Dk.create
  rw [if_neg (by omega), if_neg (by omega), h.spent, if_neg (by decide)]
  have h1 := h.step 1 1 (by decide) (by decide)
  have h2 : St (((D.spend 1).moved (En.made s D.files.length)).grew) room (files ++ [Fl.fresh]) dir (waits ++ [En.made s files.length]) (u + 1) na :=
    { h1 with
      files := by show D.files ++ _ = _; rw [h.files]
      waits := by show D.waits ++ [En.made s D.files.length] = _; rw [h.waits, h.files] }
  exact ⟨rfl, h2.did _⟩
theorem St.sync (h : St D room files dir waits u na) {s : ByteArray} (hg : goodName s.data.toList = true) (hh : Maps.has (play dir waits) (nameK s) = true) {i : Nat} (hi : (play dir waits).atKey (nameK s) (.lit (.int .i64 0)) = .lit (.int .i64 i)) {F : Fl} (hF : files[i]? = some F) :
    (D.sync s).1 = 0 ∧ St (D.sync s).2 room (files.set i ⟨F.seen, []⟩) dir waits (u + 1) (na + 1) := by
  have hf := h.fileN hg
  rw [hh] at hf
  simp at hf
  have ht : D.text s = F.seen := by unfold Dk.text; rw [h.idx hi, h.files, hF]
  unfold Dk.sync
  rw [if_neg (by omega), h.spent, if_neg (by decide), h.idx hi, ht]
  have h1 := h.step 1 1 (by decide) (by decide)
  have h2 : St ((D.spend 1).setFile i ⟨F.seen, []⟩) room (files.set i ⟨F.seen, []⟩) dir waits (u + 1) na := { h1 with files := by show D.files.set _ _ = _; rw [h.files] }
  exact ⟨rfl, h2.did _⟩
theorem St.syncDir (h : St D room files dir waits u na) : D.syncDir.1 = 0 ∧ St D.syncDir.2 room files (play dir waits) [] (u + 1) (na + 1) := by
  unfold Dk.syncDir
  rw [if_neg (by rw [h.gone]; simp), h.spent, if_neg (by decide), h.dirOf]
  have h1 := h.step 1 1 (by decide) (by decide)
  have h2 : St ((D.spend 1).named (play dir waits)) room files (play dir waits) [] (u + 1) na := { h1 with dir := rfl, waits := rfl }
  exact ⟨rfl, h2.did _⟩
theorem St.write (h : St D room files dir waits u na) {s : ByteArray} (hg : goodName s.data.toList = true) (hh : Maps.has (play dir waits) (nameK s) = true) {i : Nat} (hi : (play dir waits).atKey (nameK s) (.lit (.int .i64 0)) = .lit (.int .i64 i)) {F : Fl} (hF : files[i]? = some F) (t : ByteArray)
    (hr : usedOf files (play dir waits) + t.size ≤ room) {sure all : List UInt8} (hP : Plain F sure all) :
    (D.write s t).1 = 0 ∧ ∃ F', Plain F' sure (all ++ t.data.toList) ∧ F'.waits.length ≤ F.waits.length + 1 ∧ St (D.write s t).2 room (files.set i F') dir waits (u + t.size) (na + 1) := by
  have hf := h.fileN hg
  rw [hh] at hf
  simp at hf
  have hfree : ¬ D.free < t.size := by unfold Dk.free; rw [h.room, h.files, h.dirOf]; omega
  have hat : D.fileAt s = F := by unfold Dk.fileAt; rw [h.idx hi, h.files, List.getD_eq_getElem?_getD, hF]; rfl
  unfold Dk.write
  rw [if_neg (by omega), if_neg hfree, h.spent, if_neg (by omega)]
  refine ⟨rfl, ?_⟩
  have h1 := h.step t.size t.size (by omega) (by omega)
  unfold Dk.wrote
  by_cases htz : 0 < t.size
  · rw [if_pos (by omega), h.idx hi, hat, full_text]
    refine ⟨F.push ⟨t, 0, false⟩, hP.push t, by show (F.waits ++ [_]).length ≤ _; simp, ?_⟩
    have h2 : St ((D.spend t.size).setFile i (F.push ⟨t, 0, false⟩)) room (files.set i (F.push ⟨t, 0, false⟩)) dir waits (u + t.size) na := { h1 with files := by show D.files.set _ _ = _; rw [h.files] }
    exact h2.did _
  · rw [if_neg (by omega)]
    have e0 : t.data.toList = [] := List.length_eq_zero_iff.1 (by rw [← Lib.size_eq]; omega)
    refine ⟨F, by rw [e0, List.append_nil]; exact hP, by omega, ?_⟩
    have e1 : files.set i F = files := by
      obtain ⟨hlt, rfl⟩ := List.getElem?_eq_some_iff.1 hF
      exact List.set_getElem_self hlt
    rw [e1]
    exact h1.weak (by omega)
theorem St.rename (h : St D room files dir waits u na) {s t : ByteArray} (hg : [s, t].any (fun s => !goodName s.data.toList) = false) (hh : Maps.has (play dir waits) (nameK s) = true) {i : Nat} (hi : (play dir waits).atKey (nameK s) (.lit (.int .i64 0)) = .lit (.int .i64 i)) (hne : s ≠ t) :
    (D.rename s t).1 = 0 ∧ St (D.rename s t).2 room files dir (waits ++ [⟨t, s, i⟩]) (u + 1) (na + 1) := by
  unfold Dk.rename Dk.renamed
  rw [if_neg (by rw [h.asked hg]; simp), if_neg (by rw [h.dirOf, hh]; simp), h.spent, if_neg (by decide), if_neg hne, h.idx hi]
  have h1 := h.step 1 1 (by decide) (by decide)
  have h2 : St ((D.spend 1).moved ⟨t, s, i⟩) room files dir (waits ++ [⟨t, s, i⟩]) (u + 1) na := { h1 with waits := by show D.waits ++ _ = _; rw [h.waits] }
  exact ⟨rfl, h2.did _⟩
theorem St.crash (h : St D room files dir waits u na) (n : Int) (ks : List Int) : St (D.crash n ks) room (crashFiles files ks files.length) (play dir (waits.take (max 0 (min n waits.length)).toNat)) [] u na := by
  refine ⟨?_, ?_, rfl, rfl, rfl, h.room, h.u0, h.units, h.left, h.acts⟩
  · show crashFiles D.files ks D.files.length = _
    rw [h.files]
  · show play D.dir (D.waits.take (cutN D n)) = _
    unfold cutN
    rw [h.dir, h.waits]
theorem St.read (h : St D room files dir waits u na) {s : ByteArray} (hg : goodName s.data.toList = true) : D.readN s = if Maps.has (play dir waits) (nameK s) then 0 else 7 := by
  unfold Dk.readN; rw [h.gone]; simpa using h.fileN hg
theorem St.text (h : St D room files dir waits u na) {s : ByteArray} {i : Nat} (hi : (play dir waits).atKey (nameK s) (.lit (.int .i64 0)) = .lit (.int .i64 i)) {F : Fl} (hF : files[i]? = some F) : D.text s = F.seen := by unfold Dk.text; rw [h.idx hi, h.files, hF]
end
theorem fresh_st (room : Int) : St (Dk.fresh room) room [] (.map []) [] 0 0 := ⟨rfl, rfl, rfl, rfl, rfl, rfl, Int.le_refl _, Int.le_refl _, rfl, Nat.le_refl _⟩
/-! ### In memory -/
def StAt (B : Nat) (w : World) (b : Nat) (room : Int) (files : List Fl) (dir : DataW Unit) (waits : List En) (u na : Nat) : Prop := ∃ D, DiskSt B w b D ∧ St D room files dir waits u na ∧ StOk files dir waits ∧ u ≤ 1000000 ∧ na ≤ 1000
section
variable {B b : Nat} {w : World} {room : Int} {files : List Fl} {dir : DataW Unit} {waits : List En} {u na : Nat}
theorem StAt.below {w' : World} (h : StAt B w b room files dir waits u na) (hb : Below w.heap.size w w') : StAt B w' b room files dir waits u na :=
  let ⟨D, h1, h2⟩ := h
  ⟨D, h1.below hb, h2⟩
def AtPost (B b : Nat) (room : Int) (files : List Fl) (dir : DataW Unit) (waits : List En) (u na : Nat) (w : World) (v : Value) (e : Ending) (w' : World) : Prop := e = .returned v ∧ StAt B w' b room files dir waits u na ∧ Below B w w'
theorem create_at (h : StAt B w b room files dir waits u na) {s : ByteArray} (hs : s.size ≤ 1000) (hg : goodName s.data.toList = true) (hno : Maps.has (play dir waits) (nameK s) = false) (hk : StOk (files ++ [Fl.fresh]) dir (waits ++ [En.made s files.length])) (hu : u + 1 ≤ 1000000) (hn : na + 1 ≤ 1000) :
    Calls Tryd.prog 9 #[.pointer (some ⟨b, 0, none⟩), .string s] w (AtPost B b room (files ++ [Fl.fresh]) dir (waits ++ [En.made s files.length]) (u + 1) (na + 1) w .nilIface) := by
  obtain ⟨D, ⟨ρ, ⟨L, hd⟩, hρ, hB⟩, h1, h2, h3, h4⟩ := h
  refine (create_any s hs w ρ b D L hd (h1.ok h2 h3 h4)).mono fun e w' ⟨he, ht⟩ => ?_
  obtain ⟨k1, k2⟩ := h1.create hg hno
  rw [k1] at he
  obtain ⟨q1, q2⟩ := ht.st hρ hB
  exact ⟨he, ⟨_, q1, k2, hk, hu, hn⟩, q2⟩
theorem sync_at (h : StAt B w b room files dir waits u na) {s : ByteArray} (hs : s.size ≤ 1000) (hg : goodName s.data.toList = true) (hh : Maps.has (play dir waits) (nameK s) = true) {i : Nat} (hi : (play dir waits).atKey (nameK s) (.lit (.int .i64 0)) = .lit (.int .i64 i)) {F : Fl} (hF : files[i]? = some F)
    (hk : StOk (files.set i ⟨F.seen, []⟩) dir waits) (hu : u + 1 ≤ 1000000) (hn : na + 1 ≤ 1000) :
    Calls Tryd.prog 12 #[.pointer (some ⟨b, 0, none⟩), .string s] w (AtPost B b room (files.set i ⟨F.seen, []⟩) dir waits (u + 1) (na + 1) w .nilIface) := by
  obtain ⟨D, ⟨ρ, ⟨L, hd⟩, hρ, hB⟩, h1, h2, h3, h4⟩ := h
  refine (sync_any s hs w ρ b D L hd (h1.ok h2 h3 h4)).mono fun e w' ⟨he, ht⟩ => ?_
  obtain ⟨k1, k2⟩ := h1.sync hg hh hi hF
  rw [k1] at he
  obtain ⟨q1, q2⟩ := ht.st hρ hB
  exact ⟨he, ⟨_, q1, k2, hk, hu, hn⟩, q2⟩
theorem syncDir_at (h : StAt B w b room files dir waits u na) (hk : StOk files (play dir waits) []) (hu : u + 1 ≤ 1000000) (hn : na + 1 ≤ 1000) :
    Calls Tryd.prog 10 #[.pointer (some ⟨b, 0, none⟩)] w (AtPost B b room files (play dir waits) [] (u + 1) (na + 1) w .nilIface) := by
  obtain ⟨D, ⟨ρ, ⟨L, hd⟩, hρ, hB⟩, h1, h2, h3, h4⟩ := h
  refine (syncDir_any w ρ b D L hd (h1.ok h2 h3 h4)).mono fun e w' ⟨he, ht⟩ => ?_
  obtain ⟨k1, k2⟩ := h1.syncDir
  rw [k1] at he
  obtain ⟨q1, q2⟩ := ht.st hρ hB
  exact ⟨he, ⟨_, q1, k2, hk, hu, hn⟩, q2⟩
def WrotePost (B b : Nat) (room : Int) (files : List Fl) (i : Nat) (F : Fl) (sure all : List UInt8) (dir : DataW Unit) (waits : List En) (u na : Nat) (w : World) (e : Ending) (w' : World) : Prop :=
  ∃ F', Plain F' sure all ∧ F'.waits.length ≤ F.waits.length + 1 ∧ AtPost B b room (files.set i F') dir waits u na w .nilIface e w'
theorem write_at (h : StAt B w b room files dir waits u na) {s : ByteArray} (hs : s.size ≤ 1000) (hg : goodName s.data.toList = true) (hh : Maps.has (play dir waits) (nameK s) = true) {i : Nat} (hi : (play dir waits).atKey (nameK s) (.lit (.int .i64 0)) = .lit (.int .i64 i)) {F : Fl} (hF : files[i]? = some F) (t : ByteArray) (ht : t.size ≤ 1000000) (hr0 : 0 ≤ room) (hr1 : room ≤ 9223372036854775807)
    (hr : usedOf files (play dir waits) + t.size ≤ room) {sure all : List UInt8} (hP : Plain F sure all) (hk : ∀ F', Plain F' sure (all ++ t.data.toList) → F'.waits.length ≤ F.waits.length + 1 → StOk (files.set i F') dir waits) (hu : u + t.size ≤ 1000000) (hn : na + 1 ≤ 1000) :
    Calls Tryd.prog 11 #[.pointer (some ⟨b, 0, none⟩), .string s, .string t] w (WrotePost B b room files i F sure (all ++ t.data.toList) dir waits (u + t.size) (na + 1) w) := by
  obtain ⟨D, ⟨ρ, ⟨L, hd⟩, hρ, hB⟩, h1, h2, h3, h4⟩ := h
  refine (write_any s t hs ht w ρ b D L hd (h1.ok h2 h3 h4) (by rw [h1.room]; exact hr0) (by rw [h1.room]; exact hr1)).mono fun e w' ⟨he, ht⟩ => ?_
  obtain ⟨k1, F', k2, k3, k4⟩ := h1.write hg hh hi hF t hr hP
  rw [k1] at he
  obtain ⟨q1, q2⟩ := ht.st hρ hB
  exact ⟨F', k2, k3, he, ⟨_, q1, k4, hk F' k2 k3, hu, hn⟩, q2⟩
theorem rename_at (h : StAt B w b room files dir waits u na) {s t : ByteArray} (hs : s.size ≤ 1000) (ht : t.size ≤ 1000) (hg : [s, t].any (fun s => !goodName s.data.toList) = false) (hh : Maps.has (play dir waits) (nameK s) = true) {i : Nat} (hi : (play dir waits).atKey (nameK s) (.lit (.int .i64 0)) = .lit (.int .i64 i)) (hne : s ≠ t)
    (hk : StOk files dir (waits ++ [⟨t, s, i⟩])) (hu : u + 1 ≤ 1000000) (hn : na + 1 ≤ 1000) :
    Calls Tryd.prog 31 #[.pointer (some ⟨b, 0, none⟩), .string s, .string t] w (AtPost B b room files dir (waits ++ [⟨t, s, i⟩]) (u + 1) (na + 1) w .nilIface) := by
  obtain ⟨D, ⟨ρ, ⟨L, hd⟩, hρ, hB⟩, h1, h2, h3, h4⟩ := h
  refine (rename_any s t hs ht w ρ b D L hd (h1.ok h2 h3 h4)).mono fun e w' ⟨he, ht⟩ => ?_
  obtain ⟨k1, k2⟩ := h1.rename hg hh hi hne
  rw [k1] at he
  obtain ⟨q1, q2⟩ := ht.st hρ hB
  exact ⟨he, ⟨_, q1, k2, hk, hu, hn⟩, q2⟩
theorem read_at (h : StAt B w b room files dir waits u na) {s : ByteArray} (hs : s.size ≤ 1000) (hg : goodName s.data.toList = true) (hh : Maps.has (play dir waits) (nameK s) = true) {i : Nat} (hi : (play dir waits).atKey (nameK s) (.lit (.int .i64 0)) = .lit (.int .i64 i)) {F : Fl} (hF : files[i]? = some F) :
    Calls Tryd.prog 14 #[.pointer (some ⟨b, 0, none⟩), .string s] w fun e w' => e = .returned (.tuple #[.string F.seen, .nilIface]) ∧ Below w.heap.size w w' := by
  obtain ⟨D, ⟨ρ, ⟨L, hd⟩, hρ, hB⟩, h1, h2, h3, h4⟩ := h
  have hr := h1.read hg
  rw [hh] at hr
  rw [← h1.text hi hF]
  exact read_ok s hs w ρ b D L hd (h1.ok h2 h3 h4) hr
theorem read_no (h : StAt B w b room files dir waits u na) {s : ByteArray} (hs : s.size ≤ 1000) (hg : goodName s.data.toList = true) (hh : Maps.has (play dir waits) (nameK s) = false) :
    Calls Tryd.prog 14 #[.pointer (some ⟨b, 0, none⟩), .string s] w fun e w' => e = .returned (.tuple #[.string ⟨#[]⟩, .iface 57 (.int .i64 7)]) ∧ Below w.heap.size w w' := by
  obtain ⟨D, ⟨ρ, ⟨L, hd⟩, hρ, hB⟩, h1, h2, h3, h4⟩ := h
  have hr := h1.read hg
  rw [hh] at hr
  have hr' : D.readN s = 7 := hr
  have := read_err s hs w ρ b D L hd (h1.ok h2 h3 h4) (by rw [hr']; decide)
  rw [hr'] at this
  exact this
/-- Numbers that the call was handed. -/
def HandedInts (B : Nat) (w : World) (v : Value) (ds : List Int) : Prop := ∃ ao c, v = .slice ao ds.length c ∧ ds.length ≤ 9223372036854775807 ∧ ∀ (k : Nat) d, ds[k]? = some d → ∃ g o, ao = some ⟨g, o, none⟩ ∧ g < B ∧ w.cell? ⟨g, o + k, none⟩ = some (.int .i64 d) ∧ d ≤ 9223372036854775807
theorem HandedInts.below {w' : World} {v : Value} {ds : List Int} (h : HandedInts B w v ds) (hb : Below B w w') : HandedInts B w' v ds :=
  let ⟨ao, c, h1, h2, h3⟩ := h
  ⟨ao, c, h1, h2, fun k d hd => let ⟨g, o, k1, k2, k3, k4⟩ := h3 k d hd; ⟨g, o, k1, k2, (hb.cell (p := ⟨g, o + k, none⟩) k2).trans k3, k4⟩⟩
theorem crash_at (h : StAt B w b room files dir waits u na) (n : Int) (v : Value) (ks : List Int) (hv : HandedInts B w v ks) (hn0 : -9223372036854775808 ≤ n) (hn1 : n ≤ 9223372036854775807)
    (hk : StOk (crashFiles files ks files.length) (play dir (waits.take (max 0 (min n waits.length)).toNat)) []) :
    Calls Tryd.prog 13 #[.pointer (some ⟨b, 0, none⟩), .int .i64 n, v] w (AtPost B b room (crashFiles files ks files.length) (play dir (waits.take (max 0 (min n waits.length)).toNat)) [] u na w (.tuple #[])) := by
  obtain ⟨D, ⟨ρ, ⟨L, hd⟩, hρ, hB⟩, h1, h2, h3, h4⟩ := h
  obtain ⟨ao, c, e1, e2, e3⟩ := hv
  refine (crash_any n v ks w ρ b D L hd (h1.ok h2 h3 h4) ⟨ao, c, e1, e2, fun k d hd => ?_⟩ hn0 hn1).mono fun e w' ⟨he, ht⟩ => ?_
  · obtain ⟨g, o, k1, k2, k3, k4⟩ := e3 k d hd
    exact ⟨g, o, k1, by omega, hρ g k2, k3, k4⟩
  · obtain ⟨q1, q2⟩ := ht.st hρ hB
    exact ⟨he, ⟨_, q1, h1.crash n ks, hk, h3, h4⟩, q2⟩
end
end Go.Proofs.YtalonkenchcfbaaDoor
