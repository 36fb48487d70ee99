/- What an index answers, by the stanzas that it has been told of. -/
import Derived.Test.YtklbbcemacpimaaGreatDoorICount
namespace Go.Proofs.YtklbbcemacpimaaGreatDoor.I
open Go Go.Maps Go.Proofs Go.RowKit Go.Sort Go.Shelf

theorem IntAns.iff {w : World} {p q : Int → Prop} {e : Ending} {w' : World} (h : IntAns w p e w') (hpq : ∀ i, p i ↔ q i) : IntAns w q e w' :=
  let ⟨v, ss, h1, h2, h3, h4⟩ := h
  ⟨v, ss, h1, h2, fun x => (h3 x).trans (hpq x), h4⟩
theorem StrAns.iff {w : World} {p q : L8 → Prop} {e : Ending} {w' : World} (h : StrAns w p e w') (hpq : ∀ i, p i ↔ q i) : StrAns w q e w' :=
  let ⟨v, ss, h1, h2, h3, h4⟩ := h
  ⟨v, ss, h1, h2, fun x => (h3 x).trans (hpq x), h4⟩
theorem Live.both {vb : Vb} {cb : Cb} {cf : Cf} {C : Cn} (h : Live vb cb cf C) (k v : L8) (i : Int) : (cb k v ≠ none ∧ cf k v i ≠ none) ↔ C k v i ≠ 0 := by
  rw [h.cf]
  have : nz (C k v i) ≠ none ↔ C k v i ≠ 0 := by rw [ne_eq, nz_none]
  rw [this]
  exact ⟨fun h => h.2, fun e => ⟨(h.cb k v).2 ⟨i, e⟩, e⟩⟩
section
variable {own : Nat → Prop} {w : World} {xb n : Nat} {m : Ms}
theorem equal_at (h : XAt own w xb n m) (hn : n ≤ 1000000) (key val : ByteArray) (hk : key.size ≤ maxLen) (hv : val.size ≤ maxLen) :
    Calls Tryz.prog 11 #[.pointer (some ⟨xb, 0, none⟩), .string key, .string val] w (IntAns w fun i => cM m key.data.toList val.data.toList i ≠ 0) := by
  obtain ⟨kb, sb, vb, cb, cf, sf, h⟩ := h
  exact (equal_any _ key val n _ _ _ w (gives_some h key hk) (ValsOf.of h.ix key.data.toList) hv hn).mono fun e w' ha => ha.iff fun i => h.lv.both _ _ i
theorem with_at (h : XAt own w xb n m) (hn : n ≤ 1000000) (key : ByteArray) (hk : key.size ≤ maxLen) :
    Calls Tryz.prog 9 #[.pointer (some ⟨xb, 0, none⟩), .string key] w (IntAns w fun i => ∃ v, cM m key.data.toList v i ≠ 0) := by
  obtain ⟨kb, sb, vb, cb, cf, sf, h⟩ := h
  exact (with_any _ key n _ _ _ w (gives_some h key hk) (ValsOf.of h.ix key.data.toList) hn).mono fun e w' ha => ha.iff fun i =>
    ⟨fun ⟨v, hv⟩ => ⟨v, (h.lv.both _ _ i).1 hv⟩, fun ⟨v, hv⟩ => ⟨v, (h.lv.both _ _ i).2 hv⟩⟩
theorem between_at (h : XAt own w xb n m) (hn : n ≤ 1000000) (key lo hi : ByteArray) (hk : key.size ≤ maxLen) :
    Calls Tryz.prog 14 #[.pointer (some ⟨xb, 0, none⟩), .string key, .string lo, .string hi] w (IntAns w fun i => ∃ v, inR lo.data.toList hi.data.toList v = true ∧ cM m key.data.toList v i ≠ 0) := by
  obtain ⟨kb, sb, vb, cb, cf, sf, h⟩ := h
  have hg := gives_some h key hk
  have hV := ValsOf.of h.ix key.data.toList
  cases hb : vb key.data.toList with
  | none =>
    rw [hb] at hg hV
    refine (between_nil _ key lo hi w hg).mono fun e w' ha => ha.iff fun i => ⟨fun h => h.elim, fun ⟨v, h1, h2⟩ => ?_⟩
    exact absurd (hV v) (((h.lv.both _ _ i).2 h2).1)
  | some b =>
    rw [hb] at hg hV
    exact (between_any _ key lo hi n b _ _ w hg hV hn).mono fun e w' ha => ha.iff fun i =>
      ⟨fun ⟨v, h1, h2, h3⟩ => ⟨v, h2, (h.lv.both _ _ i).1 ⟨h1, h3⟩⟩, fun ⟨v, h2, h3⟩ => ⟨v, ((h.lv.both _ _ i).2 h3).1, h2, ((h.lv.both _ _ i).2 h3).2⟩⟩
theorem values_at (h : XAt own w xb n m) (hn : n ≤ 1000000) (key : ByteArray) (hk : key.size ≤ maxLen) :
    Calls Tryz.prog 8 #[.pointer (some ⟨xb, 0, none⟩), .string key] w (StrAns w fun v => ∃ i, cM m key.data.toList v i ≠ 0) := by
  obtain ⟨kb, sb, vb, cb, cf, sf, h⟩ := h
  exact (values_any _ key n _ _ _ w (gives_some h key hk) (ValsOf.of h.ix key.data.toList) hn).mono fun e w' ha => ha.iff fun v => h.lv.cb _ v
theorem keys_at (h : XAt own w xb n m) (hn : n ≤ 1000000) :
    Calls Tryz.prog 24 #[.pointer (some ⟨xb, 0, none⟩)] w (StrAns w fun k => ∃ v i, cM m k v i ≠ 0) := by
  obtain ⟨kb, sb, vb, cb, cf, sf, h⟩ := h
  exact (keys_any h hn).mono fun e w' ha => ha.iff fun k => h.lv.vb k
theorem count_at (h : XAt own w xb n m) (hn : n ≤ 1000000) (key val : ByteArray) (hk : key.size ≤ maxLen) (hv : val.size ≤ maxLen) :
    Calls Tryz.prog 12 #[.pointer (some ⟨xb, 0, none⟩), .string key, .string val] w fun e w' => e = .returned (.int .i64 (rCount key.data.toList val.data.toList m)) ∧ Below w.heap.size w w' := by
  obtain ⟨kb, sb, vb, cb, cf, sf, h⟩ := h
  have hg := gives_some h key hk
  have hV := ValsOf.of h.ix key.data.toList
  cases hb : cb key.data.toList val.data.toList with
  | none =>
    refine (count_nil _ key val n _ _ _ w hg hV hv hb).mono fun e w' ⟨h1, h2⟩ => ⟨?_, h2⟩
    rw [h1]
    have := rCount_sum (k := key.data.toList) (v := val.data.toList) h.rise (is := []) List.nodup_nil fun i => ⟨fun h => (by cases h), fun hi => absurd hb (((h.lv.both _ _ i).2 hi).1)⟩
    rw [← this]
    rfl
  | some r =>
    have hcf : ∀ i, cf key.data.toList val.data.toList i = nz (cM m key.data.toList val.data.toList i) := fun i => h.lv.cf _ _ i
    refine (count_any _ key val n r _ _ _ w hg hV hv hb hn fun i a ha => ?_).mono fun e w' ⟨is, h1, h2, h3, h4⟩ => ⟨?_, h4⟩
    · rw [hcf] at ha
      unfold nz at ha
      split at ha
      · cases ha
      · rename_i hne
        injection ha with ha
        subst ha
        obtain ⟨s, hs, rfl, -⟩ := (cM_mem h.rise).1 hne
        rw [cM_self h.rise s hs]
        have := cntF_nonneg key.data.toList val.data.toList s.2
        have h5 := cntF_le key.data.toList val.data.toList s.2
        have h6 := (h.fine s hs).few
        omega
    · rw [h3]
      have e1 : ∀ i, i ∈ is ↔ cM m key.data.toList val.data.toList i ≠ 0 := fun i => by
        rw [h2, hcf, ne_eq, nz_none]
      rw [← rCount_sum h.rise h1 e1]
      congr 3
      refine List.map_congr_left fun i _ => ?_
      rw [hcf]
      unfold nz
      split
      · rename_i h0; rw [h0]; rfl
      · rfl
end
end Go.Proofs.YtklbbcemacpimaaGreatDoor.I
