/- What an index answers: With, Equal, Keys, Values, Len. -/
import Derived.Test.YtklbbcemacpimaaGreatDoorIValues
namespace Go.Proofs.YtklbbcemacpimaaGreatDoor.I
open Go Go.Maps Go.Proofs Go.RowKit Go.Sort Go.Shelf

abbrev Vk := L8 → Option Nat
abbrev Ck := L8 → Int → Option Int
/-- The values of a key: a map of maps, or nil. -/
def ValsOf (w : World) (n : Nat) (mb : Option Nat) (cbk : Vk) (cfk : Ck) : Prop := match mb with
  | none => ∀ v, cbk v = none
  | some b => KMap tys w b n cbk ∧ ∀ v r, cbk v = some r → CMap tys w r n (cfk v)
/-- index.values answers with that. -/
def Gives (xp : Option Addr) (key : ByteArray) (mb : Option Nat) (w : World) : Prop :=
  Calls Tryz.prog 31 #[.pointer xp, .string key] w fun e w' => e = .returned (.map mb) ∧ w' = w
theorem gives_nil (key : ByteArray) (w : World) : Gives none key none w := by
  unfold Gives
  go_enter Tryz.func31, Tryz.ntmps31
  go_wp2_with fail
  go_ret
  exact ⟨rfl, rfl⟩
theorem gives_some {own : Nat → Prop} {w : World} {xb kb sb n : Nat} {vb : Vb} {cb : Cb} {cf : Cf} {sf : Int → Option (Option (Nat × Nat × Nat))} {m : Ms} (h : XIn own w xb kb sb n vb cb cf sf m) (key : ByteArray) (hk : key.size ≤ maxLen) : Gives (some ⟨xb, 0, none⟩) key (vb key.data.toList) w := by
  unfold Gives
  have x0 : w.cell? ⟨xb, 0, none⟩ = some (.map (some kb)) := by simp [World.cell?, h.hx]
  have l := ixKey h.ix key hk
  clear h
  go_enter Tryz.func31, Tryz.ntmps31
  go_wp2_with fail
  go_ret
  exact ⟨rfl, rfl⟩
theorem ValsOf.of {w : World} {kb n : Nat} {vb : Vb} {cb : Cb} {cf : Cf} (h : Ix tys w 0 kb vb cb cf n) (key : L8) : ValsOf w n (vb key) (cb key) (cf key) := by
  unfold ValsOf
  cases e : vb key with
  | none =>
    intro v
    cases e2 : cb key v with
    | none => rfl
    | some r => obtain ⟨s, hs⟩ := h.up _ _ _ e2; rw [e] at hs; cases hs
  | some b => exact ⟨h.vals _ _ e, fun v r hr => h.cnts _ _ _ hr⟩
theorem ValsOf.keep {w w' : World} {n : Nat} {mb : Option Nat} {cbk : Vk} {cfk : Ck} (h : ValsOf w n mb cbk cfk) (hb : Below w.heap.size w w') : ValsOf w' n mb cbk cfk := by
  unfold ValsOf at h ⊢
  cases mb with
  | none => exact h
  | some b => exact ⟨MF.block h.1 (hb.block b (MF.lt h.1)), fun v r hr => MF.block (h.2 v r hr) (hb.block r (MF.lt (h.2 v r hr)))⟩
theorem lookNil (w : World) (v : ByteArray) (hv : v.size ≤ maxLen) : (Instr.lookup 82 (.map none) (.string v) false).run Tryz.prog w = .ok (.map none) w := by
  have hkey : mapKey Tryz.prog 9 (.string v) = some (.string v.data.toList) := by
    have := keyS tys v hv
    simpa [keyOf, mkS] using this
  obtain ⟨desc, hdesc, hik, -⟩ := WideShapes.mapKey_isKey hkey
  have h1 : Instr.findNow desc (.string v) ([] : List MapEntry) 0 = some none := rfl
  simp [Instr.lookup, run_underlying Tryz.underlying82, MapKept.run_checkKey hdesc hik, MapKept.run_findKey hdesc h1, tys.zC, Result.andThen]
theorem ValsOf.look {w : World} {n : Nat} {mb : Option Nat} {cbk : Vk} {cfk : Ck} (h : ValsOf w n mb cbk cfk) (v : ByteArray) (hv : v.size ≤ maxLen) : (Instr.lookup 82 (.map mb) (.string v) false).run Tryz.prog w = .ok (.map (cbk v.data.toList)) w := by
  unfold ValsOf at h
  cases mb with
  | none => rw [lookNil w v hv, h]
  | some b =>
    have := MF.look h.1 (string_keyed tys.hs) tys.hV none (tys.zC w) (keyS tys v hv)
    rw [this]
    cases cbk v.data.toList <;> rfl
theorem ValsOf.cnt {w : World} {n : Nat} {mb : Option Nat} {cbk : Vk} {cfk : Ck} (h : ValsOf w n mb cbk cfk) (v : L8) : CntIs w n (cbk v, fun i => if cbk v = none then none else cfk v i) := by
  unfold CntIs
  cases e : cbk v with
  | none => simp
  | some r =>
    unfold ValsOf at h
    cases mb with
    | none => rw [h] at e; cases e
    | some b =>
      show CMap tys w r n _
      exact MF.eq (h.2 v r e) fun i => by simp
set_option maxRecDepth 100000 in
set_option maxHeartbeats 1600000 in
/-- Index.Equal. -/
theorem equal_any (xp : Option Addr) (key val : ByteArray) (n : Nat) (mb : Option Nat) (cbk : Vk) (cfk : Ck) (w : World) (hg : Gives xp key mb w) (hV : ValsOf w n mb cbk cfk) (hv : val.size ≤ maxLen) (hn : n ≤ 1000000) :
    Calls Tryz.prog 11 #[.pointer xp, .string key, .string val] w (IntAns w fun i => cbk val.data.toList ≠ none ∧ cfk val.data.toList i ≠ none) := by
  have l := hV.look val hv
  obtain ⟨r, hr⟩ : ∃ r, cbk val.data.toList = r := ⟨_, rfl⟩
  rw [hr] at l
  obtain ⟨w1, hw1⟩ : ∃ w1, w.alloc (.cells #[.map r] 84) = w1 := ⟨_, rfl⟩
  have hb1 : Below w.heap.size w w1 := by rw [← hw1]; exact below_grow1 w _
  have hc1 : w1.cell? ⟨w.heap.size, 0, none⟩ = some (.map r) := by rw [← hw1]; simp
  have hC : CntsAt w1 n (.slice (some ⟨w.heap.size, 0, none⟩) 1 1) [(r, fun i => if r = none then none else cfk val.data.toList i)] := ⟨_, 1, rfl, fun k p hp => by
    cases k with
    | succ k => simp at hp
    | zero =>
      simp at hp
      subst hp
      refine ⟨_, rfl, hc1, ?_⟩
      have := hV.cnt val.data.toList
      rw [hr] at this
      exact CntIs.keep this fun b _ hb => hb1.block b hb⟩
  have UN := Lib.hid (united_any _ n _ w1 hC hn (by simp))
  have HG := Lib.hid hg
  have HW1 := Lib.hid hw1
  have HB1 := Lib.hid hb1
  have HR := Lib.hid hr
  clear hg hV hC hw1 hb1 hc1 hr
  go_enter Tryz.func11, Tryz.ntmps11
  go_wp2_with fail
  refine Calls.mono HG.out ?_
  rintro e w' ⟨rfl, hw⟩
  subst hw
  go_wp2_with fail
  rw [HW1.out]
  refine UN.out.mono ?_
  rintro e w2 ⟨u, ss, rfl, h1, h2, h3, h4⟩
  have FIN := Lib.hid (And.intro h1 (And.intro h2 (And.intro (rowLow (lo := w'.heap.size) h3 HB1.out.size) (HB1.out.trans (h4.mono HB1.out.size)))))
  clear h1 h2 h3 h4 UN
  go_wp2_with fail
  go_ret
  refine ⟨u, ss, rfl, FIN.out.1, fun x => (FIN.out.2.1 x).trans ?_, FIN.out.2.2.1, FIN.out.2.2.2⟩
  rw [HR.out]
  simp only [List.mem_singleton, exists_eq_left]
  by_cases hn : r = none
  · simp [hn]
  · simp [hn]
set_option maxRecDepth 100000 in
set_option maxHeartbeats 1600000 in
/-- Index.With. -/
theorem with_any (xp : Option Addr) (key : ByteArray) (n : Nat) (mb : Option Nat) (cbk : Vk) (cfk : Ck) (w : World) (hg : Gives xp key mb w) (hV : ValsOf w n mb cbk cfk) (hn : n ≤ 1000000) :
    Calls Tryz.prog 9 #[.pointer xp, .string key] w (IntAns w fun i => ∃ v, cbk v ≠ none ∧ cfk v i ≠ none) := by
  obtain ⟨w1, hw1⟩ : ∃ w1, w.alloc (.cells #[.map mb] 82) = w1 := ⟨_, rfl⟩
  have hb1 : Below w.heap.size w w1 := by rw [← hw1]; exact below_grow1 w _
  have CO : Hid (Calls Tryz.prog 33 #[.func (.func 54) #[] #[.pointer (some ⟨w.heap.size, 0, none⟩)]] w1 fun e w' => ∃ (v : Value) (rs : List (Option Nat)), e = .returned v ∧ AllVals n cbk rs ∧ w'.ownsRow w.heap.size 84 1 v rs.length (rs.map Value.map) ∧ Below w.heap.size w w') := Lib.hid (by
    rw [← hw1]
    unfold ValsOf at hV
    cases mb with
    | none =>
      refine (collect_nil w).mono fun e w' h => ?_
      obtain ⟨v, rs, h1, h2, h3, h4⟩ := h
      exact ⟨v, rs, h1, ⟨by rw [h2]; simp, [], by rw [h2]; rfl, fun p hp => (by cases hp), fun x hx => absurd (hV x) hx⟩, h3, h4⟩
    | some b => exact collect_any b n cbk w hV.1 (by omega))
  have HG := Lib.hid hg
  have HW1 := Lib.hid hw1
  have HV := Lib.hid hV
  clear hg hV hw1 hb1
  go_enter Tryz.func9, Tryz.ntmps9
  go_wp2_with fail
  refine Calls.mono HG.out ?_
  rintro e w' ⟨rfl, hw⟩
  subst hw
  go_wp2_with fail
  refine (valuesV_any mb _).mono ?_
  rintro e w2 ⟨rfl, rfl⟩
  go_wp2_with fail
  rw [HW1.out]
  refine CO.out.mono ?_
  rintro e w3 ⟨v, rs, rfl, ⟨hrl, ps, hps, hp1, hp2⟩, hrow, hb3⟩
  have hC : CntsAt w3 n v (ps.map fun p => (p.2, fun i => if cbk p.1 = none then none else cfk p.1 i)) := by
    have hlen : rs.length = ps.length := by rw [hps, List.length_map]
    rcases hrow.2 with ⟨h0, h1⟩ | ⟨g, cap, cur, hv, hrest⟩
    · refine ⟨none, 0, by rw [h0, List.length_map, ← hlen, h1], fun k p hk => ?_⟩
      have := (List.getElem?_eq_some_iff.1 hk).1
      rw [List.length_map] at this
      omega
    · refine ⟨_, cap, by rw [hv, List.length_map, ← hlen], fun k p hk => ⟨g, rfl, ?_⟩⟩
      rw [List.getElem?_map] at hk
      cases hpk : ps[k]? with
      | none => rw [hpk] at hk; cases hk
      | some q =>
        rw [hpk] at hk
        simp at hk
        subst hk
        have hc := hrow.cells (g := g) (by rw [hv]; rfl) k (.map q.2) (by rw [hps]; simp [hpk])
        rw [addr_add, Nat.zero_add] at hc
        refine ⟨hc, ?_⟩
        have hq := hp1 q (List.mem_of_getElem? hpk)
        have hcn := HV.out.cnt q.1
        have hq2 : cbk q.1 = q.2 := by
          cases e : cbk q.1 with
          | none => rw [e] at hq; cases hq
          | some r => rw [e] at hq; injection hq
        rw [hq2] at hcn
        show CntIs w3 n (q.2, fun i => if cbk q.1 = none then none else cfk q.1 i)
        rw [hq2]
        exact CntIs.keep hcn fun b _ hb => hb3.block b hb
  have UN := Lib.hid (united_any v n _ w3 hC hn (by rw [List.length_map]; rw [hps, List.length_map] at hrl; omega))
  have HB3 := Lib.hid hb3
  have HP : Hid (∀ x, (∃ p ∈ ps.map (fun p => (p.2, fun i => if cbk p.1 = none then none else cfk p.1 i)), p.2 x ≠ none) ↔ ∃ v, cbk v ≠ none ∧ cfk v x ≠ none) := Lib.hid fun x => by
    constructor
    · rintro ⟨p, hp, hne⟩
      obtain ⟨q, hq, rfl⟩ := List.mem_map.1 hp
      by_cases hn : cbk q.1 = none
      · simp [hn] at hne
      · simp [hn] at hne
        exact ⟨q.1, hn, hne⟩
    · rintro ⟨v, h1, h2⟩
      obtain ⟨q, hq, rfl⟩ := List.mem_map.1 (hp2 v h1)
      exact ⟨_, List.mem_map.2 ⟨q, hq, rfl⟩, by simp [h1, h2]⟩
  clear hC hrow hb3 hps hp1 hp2 hrl CO
  go_wp2_with fail
  refine UN.out.mono ?_
  rintro e w4 ⟨u, ss, rfl, h1, h2, h3, h4⟩
  have FIN := Lib.hid (And.intro h1 (And.intro h2 (And.intro (rowLow (lo := w'.heap.size) h3 HB3.out.size) (HB3.out.trans (h4.mono HB3.out.size)))))
  clear h1 h2 h3 h4 UN
  go_wp2_with fail
  go_ret
  exact ⟨u, ss, rfl, FIN.out.1, fun x => (FIN.out.2.1 x).trans (HP.out x), FIN.out.2.2.1, FIN.out.2.2.2⟩
end Go.Proofs.YtklbbcemacpimaaGreatDoor.I
