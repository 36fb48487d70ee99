/- The plain law of an armed disk: whatever is done, the units done and the units left come to what it was armed with; and where the power is gone none is left. -/
import Derived.Test.YtalonkenchcfbaaDoorDoParts
import Derived.Test.YtalonkenchcfbaaDoorCrash
namespace Go.Proofs.YtalonkenchcfbaaDoor
open Go.RowKit Go.Maps

/-- What a disk is made of, behind k operations. -/
structure Keeps (k : Nat) (D : Dk) : Prop where
  tidy : Maps.Tidy D.dir
  points : Points D.dir D.files.length
  waits : ∀ e ∈ D.waits, EnOk D.files.length e ∧ EnFits e
  names : Maps.size D.dir + D.waits.length ≤ k
  files : ∀ F ∈ D.files, (∀ x ∈ F.waits, x.cut = true → 0 ≤ x.place) ∧ F.mass ≤ 200 * k ∧ F.waits.length ≤ k
  lots : D.files.length ≤ k
  acts : D.acts.length ≤ k
  room : D.room = 1073741824
/-- Its power, behind k operations. -/
structure Power (n : Int) (k : Nat) (D : Dk) : Prop where
  armed : D.armed = true
  units0 : 0 ≤ D.units
  units1 : D.units ≤ 200 * k
  sum : D.units + D.left = n
  left0 : 0 ≤ D.left
  gone : D.gone = true → D.left = 0
theorem Keeps.ok {n : Int} {k : Nat} {D : Dk} (h : Keeps k D) (p : Power n k D) (hk : k ≤ 100) (hn : n ≤ 9223372036854775807) : D.Ok where
  points := h.points
  waits := fun e he => (h.waits e he).1
  fits := fun e he => (h.waits e he).2
  names := by have := h.names; omega
  many := by have := h.names; omega
  files := fun F hF => ⟨(h.files F hF).1, by have := (h.files F hF).2.1; omega, by have := (h.files F hF).2.2; omega⟩
  lots := by have := h.lots; omega
  acts := by have := h.acts; omega
  units0 := p.units0
  units1 := by have := p.units1; omega
  left0 := p.left0
  left1 := by have := p.sum; have := p.units0; omega
theorem points_up {M : DataW Unit} {n m : Nat} (h : Points M n) (hn : n ≤ m) : Points M m := fun k hk => let ⟨i, hi, hz⟩ := h k hk; ⟨i, by omega, hz⟩
theorem enOk_up {n m : Nat} {e : En} (h : EnOk n e) (hn : n ≤ m) : EnOk m e := fun hp => by have := h hp; omega
theorem Keeps.up {k m : Nat} {D : Dk} (h : Keeps k D) (hk : k ≤ m) : Keeps m D where
  tidy := h.tidy
  points := h.points
  waits := h.waits
  names := by have := h.names; omega
  files := fun F hF => ⟨(h.files F hF).1, by have := (h.files F hF).2.1; omega, by have := (h.files F hF).2.2; omega⟩
  lots := by have := h.lots; omega
  acts := by have := h.acts; omega
  room := h.room
theorem Keeps.spend {k : Nat} {D : Dk} (h : Keeps k D) (m : Int) : Keeps k (D.spend m) := ⟨h.tidy, h.points, h.waits, h.names, h.files, h.lots, h.acts, h.room⟩
theorem Power.up {n : Int} {k m : Nat} {D : Dk} (h : Power n k D) (hk : k ≤ m) : Power n m D := ⟨h.armed, h.units0, by have := h.units1; omega, h.sum, h.left0, h.gone⟩
theorem spent_armed {n : Int} {k : Nat} {D : Dk} (h : Power n k D) (m : Int) : D.spent m = min D.left m := by
  unfold Dk.spent
  split
  · omega
  · rename_i hx; have := h.armed; have : ¬ D.left < m := fun hl => hx ⟨this, hl⟩; omega
theorem Power.spend {n : Int} {k : Nat} {D : Dk} (h : Power n k D) (m : Int) (h0 : 0 ≤ m) (h1 : m ≤ 200) : Power n (k + 1) (D.spend m) := by
  have hs := spent_armed h m
  have hu0 := h.units0
  have hu1 := h.units1
  have hsum := h.sum
  have hl := h.left0
  have e1 : (D.spend m).units = D.units + min D.left m := by show D.units + D.spent m = _; rw [hs]
  have e2 : (D.spend m).left = D.left - min D.left m := by show (if D.armed = true then D.left - D.spent m else D.left) = _; rw [if_pos h.armed, hs]
  refine ⟨h.armed, by omega, by omega, by omega, by omega, fun hg => ?_⟩
  have hg' : (D.gone || (D.armed && decide (D.left < m))) = true := hg
  rw [Bool.or_eq_true] at hg'
  rcases hg' with g | g
  · have := h.gone g; omega
  · rw [Bool.and_eq_true] at g; have := of_decide_eq_true g.2; omega
theorem gone_spend {n : Int} {k : Nat} {D : Dk} (h : Power n k D) (m : Int) (h0 : 0 ≤ m) (hg : D.gone = true) : (D.spend m).units = D.units := by
  show D.units + D.spent m = _
  rw [spent_armed h m]
  have := h.gone hg
  omega
/-- A step of the law. -/
structure Step (n : Int) (k : Nat) (D D' : Dk) : Prop where
  keeps : Keeps (k + 1) D'
  power : Power n (k + 1) D'
  still : D.gone = true → D'.units = D.units
theorem Step.same {n : Int} {k : Nat} {D : Dk} (h : Keeps k D) (p : Power n k D) : Step n k D D := ⟨h.up (by omega), p.up (by omega), fun _ => rfl⟩
theorem Step.spend {n : Int} {k : Nat} {D : Dk} (h : Keeps k D) (p : Power n k D) (m : Int) (h0 : 0 ≤ m) (h1 : m ≤ 200) : Step n k D (D.spend m) := ⟨(h.spend m).up (by omega), p.spend m h0 h1, gone_spend p m h0⟩
/-- A step that changes what the disk is made of, too. -/
theorem Step.of {n : Int} {k : Nat} {D D' : Dk} (p : Power n k D) (m : Int) (h0 : 0 ≤ m) (h1 : m ≤ 200) (hk : Keeps (k + 1) D') (ha : D'.armed = (D.spend m).armed) (hu : D'.units = (D.spend m).units) (hl : D'.left = (D.spend m).left) (hg : D'.gone = (D.spend m).gone) : Step n k D D' := by
  have q := p.spend m h0 h1
  refine ⟨hk, ⟨ha.trans q.armed, hu ▸ q.units0, hu ▸ q.units1, by rw [hu, hl]; exact q.sum, hl ▸ q.left0, fun g => hl.trans (q.gone (hg ▸ g))⟩, fun g => hu.trans (gone_spend p m h0 g)⟩
/-! ### What the methods make -/
theorem Fl.push_mass (F : Fl) (x : Wt) : (F.push x).mass = F.mass + x.text.size := by
  unfold Fl.mass Fl.push
  simp [List.map_append, List.sum_append]
  omega
theorem play_size : ∀ (l : List En) (M : DataW Unit) (n : Nat), Maps.Tidy M → Points M n → (∀ e ∈ l, EnOk n e) → Maps.size (play M l) ≤ Maps.size M + l.length
  | [], M, n, t, _, _ => Nat.le_refl _
  | e :: l, M, n, t, h, he => by
    have h1 := play_points (n := n) [e] M t h (fun x hx => he x (by simp at hx; simp [hx]))
    have h2 := play_size l (playOne M e) n h1.2 h1.1 fun x hx => he x (List.mem_cons_of_mem _ hx)
    have h3 := playOne_size e t
    show Maps.size (play (playOne M e) l) ≤ _
    simp only [List.length_cons]
    omega
section
variable {k : Nat} {D : Dk} (h : Keeps k D)
include h
theorem Keeps.dirOf : Points D.dirOf D.files.length ∧ Maps.Tidy D.dirOf := play_points D.waits D.dir h.tidy h.points fun e he => (h.waits e he).1
theorem Keeps.idx {s : ByteArray} (hh : Maps.has D.dirOf (nameK s) = true) : D.idx s < D.files.length := by
  obtain ⟨i, hi, hz⟩ := h.dirOf.1 _ hh
  unfold Dk.idx
  rw [hz]
  simpa using hi
theorem Keeps.set {i : Nat} {F : Fl} (hF : (∀ x ∈ F.waits, x.cut = true → 0 ≤ x.place) ∧ F.mass ≤ 200 * (k + 1) ∧ F.waits.length ≤ k + 1) (m : Int) (a : Ac) : Keeps (k + 1) (((D.spend m).setFile i F).did a) where
  tidy := h.tidy
  points := by show Points D.dir (D.files.set i F).length; rw [List.length_set]; exact h.points
  waits := by show ∀ e ∈ D.waits, EnOk (D.files.set i F).length e ∧ EnFits e; rw [List.length_set]; exact h.waits
  names := by have := h.names; show Maps.size D.dir + D.waits.length ≤ _; omega
  files := by
    show ∀ G ∈ D.files.set i F, _
    intro G hG
    rcases List.mem_or_eq_of_mem_set hG with hG | rfl
    · obtain ⟨g1, g2, g3⟩ := h.files G hG
      exact ⟨g1, by omega, by omega⟩
    · exact hF
  lots := by have := h.lots; show (D.files.set i F).length ≤ _; rw [List.length_set]; omega
  acts := by have := h.acts; show (D.acts ++ [a]).length ≤ _; rw [List.length_append]; simp; omega
  room := h.room
theorem Keeps.move {e : En} (he : EnOk D.files.length e ∧ EnFits e) (m : Int) (a : Ac) : Keeps (k + 1) (((D.spend m).moved e).did a) where
  tidy := h.tidy
  points := h.points
  waits := by
    show ∀ x ∈ D.waits ++ [e], _
    intro x hx
    rcases List.mem_append.1 hx with hx | hx
    · exact h.waits x hx
    · obtain rfl := List.mem_singleton.1 hx; exact he
  names := by have := h.names; show Maps.size D.dir + (D.waits ++ [e]).length ≤ _; rw [List.length_append]; simp; omega
  files := fun G hG => by
    obtain ⟨g1, g2, g3⟩ := h.files G hG
    exact ⟨g1, by omega, by omega⟩
  lots := by have := h.lots; show D.files.length ≤ _; omega
  acts := by have := h.acts; show (D.acts ++ [a]).length ≤ _; rw [List.length_append]; simp; omega
  room := h.room
theorem Keeps.note (m : Int) (a : Ac) : Keeps (k + 1) ((D.spend m).did a) where
  tidy := h.tidy
  points := h.points
  waits := h.waits
  names := by have := h.names; show Maps.size D.dir + D.waits.length ≤ _; omega
  files := fun G hG => by
    obtain ⟨g1, g2, g3⟩ := h.files G hG
    exact ⟨g1, by omega, by omega⟩
  lots := by have := h.lots; show D.files.length ≤ _; omega
  acts := by have := h.acts; show (D.acts ++ [a]).length ≤ _; rw [List.length_append]; simp; omega
  room := h.room
theorem Keeps.make (hk : k ≤ 100) {s : ByteArray} (hs : s.size ≤ 1000) (m : Int) (a : Ac) : Keeps (k + 1) ((((D.spend m).moved (En.made s D.files.length)).grew).did a) where
  tidy := h.tidy
  points := by show Points D.dir (D.files ++ [Fl.fresh]).length; exact points_up h.points (by rw [List.length_append]; simp)
  waits := by
    show ∀ x ∈ D.waits ++ [En.made s D.files.length], EnOk (D.files ++ [Fl.fresh]).length x ∧ EnFits x
    have hl : (D.files ++ [Fl.fresh]).length = D.files.length + 1 := by rw [List.length_append]; rfl
    rw [hl]
    intro x hx
    rcases List.mem_append.1 hx with hx | hx
    · exact ⟨enOk_up (h.waits x hx).1 (by omega), (h.waits x hx).2⟩
    · obtain rfl := List.mem_singleton.1 hx
      have := h.lots
      exact ⟨fun _ => Nat.lt_succ_self _, hs, by show 0 ≤ 1000; decide, by show D.files.length ≤ 10000000; omega⟩
  names := by have := h.names; show Maps.size D.dir + (D.waits ++ [_]).length ≤ _; rw [List.length_append]; simp; omega
  files := by
    show ∀ G ∈ D.files ++ [Fl.fresh], _
    intro G hG
    rcases List.mem_append.1 hG with hG | hG
    · obtain ⟨g1, g2, g3⟩ := h.files G hG
      exact ⟨g1, by omega, by omega⟩
    · obtain rfl := List.mem_singleton.1 hG
      exact ⟨(by intro x hx; cases hx), by show 0 ≤ _; omega, by show 0 ≤ _; omega⟩
  lots := by have := h.lots; show (D.files ++ [Fl.fresh]).length ≤ _; rw [List.length_append]; simp; omega
  acts := by have := h.acts; show (D.acts ++ [a]).length ≤ _; rw [List.length_append]; simp; omega
  room := h.room
theorem Keeps.name (m : Int) (a : Ac) : Keeps (k + 1) (((D.spend m).named D.dirOf).did a) where
  tidy := h.dirOf.2
  points := h.dirOf.1
  waits := by intro e he; cases he
  names := by
    have h1 := h.names
    have h2 := play_size D.waits D.dir D.files.length h.tidy h.points fun e he => (h.waits e he).1
    show Maps.size (play D.dir D.waits) + 0 ≤ _
    omega
  files := fun G hG => by
    obtain ⟨g1, g2, g3⟩ := h.files G hG
    exact ⟨g1, by omega, by omega⟩
  lots := by have := h.lots; show D.files.length ≤ _; omega
  acts := by have := h.acts; show (D.acts ++ [a]).length ≤ _; rw [List.length_append]; simp; omega
  room := h.room
theorem Keeps.fileAt (s : ByteArray) : (∀ x ∈ (D.fileAt s).waits, x.cut = true → 0 ≤ x.place) ∧ (D.fileAt s).mass ≤ 200 * k ∧ (D.fileAt s).waits.length ≤ k := by
  unfold Dk.fileAt
  rw [List.getD_eq_getElem?_getD]
  cases hg : D.files[D.idx s]? with
  | none => exact ⟨(by intro x hx; cases hx), by show 0 ≤ _; omega, by show 0 ≤ _; omega⟩
  | some F => exact h.files F (List.mem_of_getElem? hg)
theorem Keeps.text (s : ByteArray) : (D.text s).size ≤ 200 * k := by
  unfold Dk.text
  split
  · rename_i F hF
    have h1 := (h.files F (List.mem_of_getElem? hF)).2.1
    have h2 := F.behind_size (-1)
    exact Nat.le_trans h2 h1
  · show 0 ≤ _; omega
end
theorem has_of_fileN {D : Dk} {s : ByteArray} (h : D.fileN s = 0) : Maps.has D.dirOf (nameK s) = true := by
  unfold Dk.fileN at h
  split at h
  · split at h
    · assumption
    · cases h
  · rename_i hx; exact absurd h hx
set_option maxHeartbeats 800000 in
theorem act_step {n : Int} {k : Nat} {D : Dk} (h : Keeps k D) (p : Power n k D) (hk : k ≤ 100) (kd m : Int) {nm tx : ByteArray} (hnm : nm.size ≤ 100) (htx : tx.size ≤ 200) : Step n k D (D.act kd m nm tx) := by
  have S := Step.same h p
  have S1 := Step.spend h p 1 (by decide) (by decide)
  unfold Dk.act
  split
  · unfold Dk.create
    split; · exact S
    split; · exact S
    split; · exact S1
    exact Step.of p 1 (by decide) (by decide) (h.make hk (by omega) 1 _) rfl rfl rfl rfl
  split
  · unfold Dk.write
    split; · exact S
    split; · exact S
    show Step n k D (D.wrote nm tx (D.spent tx.size))
    unfold Dk.wrote
    split
    · have hx : (tx.extract 0 (D.spent tx.size).toNat).size ≤ 200 := by rw [ByteArray.size_extract]; omega
      obtain ⟨f1, f2, f3⟩ := h.fileAt nm
      refine Step.of p tx.size (by omega) (by omega) (h.set ⟨?_, ?_, ?_⟩ _ _) rfl rfl rfl rfl
      · show ∀ x ∈ (D.fileAt nm).waits ++ [_], _
        intro x hx
        rcases List.mem_append.1 hx with hx | hx
        · exact f1 x hx
        · obtain rfl := List.mem_singleton.1 hx; intro hc; cases hc
      · rw [Fl.push_mass]; show _ + (tx.extract 0 (D.spent tx.size).toNat).size ≤ _; omega
      · show ((D.fileAt nm).waits ++ [_]).length ≤ _; rw [List.length_append]; simp; omega
    · exact Step.spend h p _ (by omega) (by omega)
  split
  · unfold Dk.cutFile
    split; · exact S
    split; · exact S
    rename_i hcut
    split; · exact S1
    obtain ⟨f1, f2, f3⟩ := h.fileAt nm
    refine Step.of p 1 (by decide) (by decide) (h.set ⟨?_, ?_, ?_⟩ _ _) rfl rfl rfl rfl
    · show ∀ x ∈ (D.fileAt nm).waits ++ [_], _
      intro x hx
      rcases List.mem_append.1 hx with hx | hx
      · exact f1 x hx
      · obtain rfl := List.mem_singleton.1 hx; intro _; show 0 ≤ m; omega
    · rw [Fl.push_mass]; show _ + 0 ≤ _; omega
    · show ((D.fileAt nm).waits ++ [_]).length ≤ _; rw [List.length_append]; simp; omega
  split
  · unfold Dk.sync
    split; · exact S
    split; · exact S1
    refine Step.of p 1 (by decide) (by decide) (h.set ⟨(by intro x hx; cases hx), ?_, by show 0 ≤ _; omega⟩ _ _) rfl rfl rfl rfl
    have := h.text nm
    show (D.text nm).size + 0 ≤ _
    omega
  split
  · unfold Dk.rename
    split; · exact S
    split; · exact S
    rename_i hh
    split; · exact S1
    have hh' : Maps.has D.dirOf (nameK nm) = true := by simpa using hh
    have hi := h.idx hh'
    have hl := h.lots
    show Step n k D (D.renamed nm tx)
    unfold Dk.renamed
    split
    · exact Step.of p 1 (by decide) (by decide) (h.note 1 _) rfl rfl rfl rfl
    · exact Step.of p 1 (by decide) (by decide) (h.move ⟨fun _ => hi, by show tx.size ≤ 1000; omega, by show nm.size ≤ 1000; omega, by show D.idx nm ≤ 10000000; omega⟩ 1 _) rfl rfl rfl rfl
  split
  · unfold Dk.remove
    split; · exact S
    split; · exact S1
    exact Step.of p 1 (by decide) (by decide) (h.move ⟨fun hp => absurd rfl hp, by show 0 ≤ 1000; decide, by show nm.size ≤ 1000; omega, by show 0 ≤ 10000000; decide⟩ 1 _) rfl rfl rfl rfl
  split
  · unfold Dk.syncDir
    split; · exact S
    split; · exact S1
    exact Step.of p 1 (by decide) (by decide) (h.name 1 _) rfl rfl rfl rfl
  · exact S
/-- Behind a crash at the beginning of what waits: the names can be made sure. -/
theorem crash_dir {n : Int} {k : Nat} {D : Dk} (h : Keeps k D) (p : Power n k D) (hk : k ≤ 100) (hn : n ≤ 9223372036854775807) : (D.crash 0 []).Ok ∧ (D.crash 0 []).gone = false ∧ (D.crash 0 []).syncDir.1 = 0 := by
  have hok := h.ok p hk hn
  have hc : cutN D 0 = 0 := by unfold cutN; omega
  have hd : (D.crash 0 []).dir = D.dir := by show play D.dir (D.waits.take (cutN D 0)) = _; rw [hc]; rfl
  have hf : (D.crash 0 []).files = crashFiles D.files [] D.files.length := rfl
  have hl : (D.crash 0 []).files.length = D.files.length := by rw [hf]; exact crash_len _ _ _
  refine ⟨⟨?_, ?_, ?_, ?_, ?_, ?_, ?_, hok.acts, hok.units0, hok.units1, hok.left0, hok.left1⟩, rfl, ?_⟩
  · rw [hd, hl]; exact h.points
  · intro e he; cases he
  · intro e he; cases he
  · rw [hd]; exact hok.names
  · show 0 ≤ 1000000; decide
  · rw [hf]
    intro F hF
    unfold crashFiles at hF
    rw [List.mem_mapIdx] at hF
    obtain ⟨i, hi, rfl⟩ := hF
    have hG := hok.files _ (List.getElem_mem hi)
    rw [if_pos hi]
    refine ⟨(by intro x hx; cases hx), ?_, by show 0 ≤ 10000000; decide⟩
    have h1 := (D.files[i]).behind_size (unitsAt [] i)
    have h2 := hG.mass
    show (Fl.behind _ _).size + 0 ≤ _
    omega
  · rw [hl]; exact hok.lots
  · unfold Dk.syncDir
    have hs : (D.crash 0 []).spent 1 = 1 := by
      unfold Dk.spent
      exact if_neg fun hx => by have := hx.1; cases this
    rw [if_neg (by intro hg; cases hg), if_neg (by rw [hs]; decide)]
theorem fresh_keeps (m : Nat) : Keeps 0 ((Dk.fresh 1073741824).arm m) where
  tidy := Maps.tidy_empty
  points := (fresh_ok 1073741824).points
  waits := by intro e he; cases he
  names := by show 0 ≤ 0; decide
  files := by intro e he; cases he
  lots := by show 0 ≤ 0; decide
  acts := by show 0 ≤ 0; decide
  room := rfl
end Go.Proofs.YtalonkenchcfbaaDoor
