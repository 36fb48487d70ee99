/- What an index answers: Keys, Values, Len. -/
import Derived.Test.YtklbbcemacpimaaGreatDoorIAsk
namespace Go.Proofs.YtklbbcemacpimaaGreatDoor.I
open Go Go.Maps Go.Proofs Go.RowKit Go.Sort Go.Shelf

/-- 'len(m)' of a map whose keys are known. -/
theorem MF.lenOf {w : World} {b n : Nat} {α : Type} {E : El α} {f : Int → Option α} (h : MF Tryz.prog 3 E mkN w b n f) {t e : TypeId} (ht : Tryz.prog.underlying t = some (.map 3 e)) {L : List Int} (hn : L.Nodup) (hL : ∀ x, x ∈ L ↔ f x ≠ none) :
    ∀ ty, (Builtin.len_ #[t] ty #[.map (some b)]).run Tryz.prog w = .ok (.int .i64 L.length) w := by
  obtain ⟨D, h1, h2, h3, h4⟩ := h.has
  obtain ⟨k1, k2⟩ := intKeys_facts h1 tys.hi
  have hp : L.Perm (intKeys D) := (List.perm_ext_iff_of_nodup hn k1).2 fun x => by
    rw [hL, k2]
    have := h4 x
    rw [show Maps.has D (Lit.int .i64 x) = Maps.has D (mkN x) from rfl, this]
    cases hfx : f x <;> simp
  have hsz : (intKeys D).length = Maps.size D := by
    obtain ⟨es, rfl⟩ := h2
    show (es.map _).length = es.length
    rw [List.length_map]
  rw [hp.length_eq, hsz]
  exact fun ty => h1.len ht ty
theorem XIn.ids {own : Nat → Prop} {w : World} {xb kb sb n : Nat} {vb : Vb} {cb : Cb} {cf : Cf} {sf : Int → Option (Option (Nat × Nat × Nat))} {m : Ms} (h : XIn own w xb kb sb n vb cb cf sf m) : (m.map (·.1)).Nodup ∧ ∀ x, x ∈ m.map (·.1) ↔ sf x ≠ none := by
  constructor
  · exact (List.pairwise_map.2 h.rise).imp fun hab => by omega
  · intro x
    constructor
    · intro hx e
      obtain ⟨s, hs, rfl⟩ := List.mem_map.1 hx
      exact h.no _ e s hs rfl
    · intro hx
      cases e : sf x with
      | none => exact absurd e hx
      | some u =>
        obtain ⟨fs, h1, -⟩ := h.yes x u e
        exact List.mem_map.2 ⟨_, h1, rfl⟩
theorem len_any {own : Nat → Prop} {w : World} {xb n : Nat} {m : Ms} (h : XAt own w xb n m) :
    Calls Tryz.prog 21 #[.pointer (some ⟨xb, 0, none⟩)] w fun e w' => e = .returned (.int .i64 m.length) ∧ w' = w := by
  obtain ⟨kb, sb, vb, cb, cf, sf, h⟩ := h
  have x1 : w.cell? ⟨xb, 1, none⟩ = some (.map (some sb)) := by simp [World.cell?, h.hx]
  have hl := h.st.lenOf Tryz.underlying73 h.ids.1 h.ids.2
  rw [List.length_map] at hl
  clear h
  go_enter Tryz.func21, Tryz.ntmps21
  go_wp2_with fail
  go_ret
  exact ⟨rfl, rfl⟩
theorem len_nil (w : World) :
    Calls Tryz.prog 21 #[.pointer none] w fun e w' => e = .returned (.int .i64 0) ∧ w' = w := by
  go_enter Tryz.func21, Tryz.ntmps21
  go_wp2_with fail
  go_ret
  exact ⟨rfl, rfl⟩
set_option maxRecDepth 100000 in
set_option maxHeartbeats 1600000 in
/-- Index.Values. -/
theorem values_any (xp : Option Addr) (key : ByteArray) (n : Nat) (mb : Option Nat) (cbk : Vk) (cfk : Ck) (w : World) (hg : Gives xp key mb w) (hV : ValsOf w n mb cbk cfk) (hn : n ≤ 1000000) :
    Calls Tryz.prog 8 #[.pointer xp, .string key] w (StrAns w fun v => cbk v ≠ none) := by
  obtain ⟨w1, hw1⟩ : ∃ w1, w.alloc (.cells #[.map mb] 82) = w1 := ⟨_, rfl⟩
  have hb1 : Below w.heap.size w w1 := by rw [← hw1]; exact below_grow1 w _
  have SO : Hid (Calls Tryz.prog 29 #[.func (.func 49) #[] #[.pointer (some ⟨w.heap.size, 0, none⟩)]] w1 (StrAns w1 fun v => cbk v ≠ none)) := Lib.hid (by
    rw [← hw1]
    unfold ValsOf at hV
    cases mb with
    | none =>
      refine (sortedV_nil w).mono fun e w' h => ?_
      obtain ⟨v, ss, h1, h2, h3, h4, h5⟩ := h
      exact ⟨v, ss, h1, h2, fun x => (h3 x).trans ⟨fun h => h.elim, fun h => absurd (hV x) h⟩, h4, h5⟩
    | some b => exact sortedV_any b n cbk w hV.1 (by omega))
  have HG := Lib.hid hg
  have HW1 := Lib.hid hw1
  have HB1 := Lib.hid hb1
  clear hg hV hw1 hb1
  go_enter Tryz.func8, Tryz.ntmps8
  go_wp2_with fail
  refine Calls.mono HG.out ?_
  rintro e w' ⟨rfl, hw⟩
  subst hw
  go_wp2_with fail
  refine (keysV_any mb _).mono ?_
  rintro e w2 ⟨rfl, rfl⟩
  go_wp2_with fail
  rw [HW1.out]
  refine SO.out.mono ?_
  rintro e w3 ⟨u, ss, rfl, h1, h2, h3, h4⟩
  have FIN := Lib.hid (And.intro h1 (And.intro h2 (And.intro (rowLow (lo := w'.heap.size) h3 HB1.out.size) (HB1.out.trans (h4.mono HB1.out.size)))))
  clear h1 h2 h3 h4 SO
  go_wp2_with fail
  go_ret
  exact ⟨u, ss, rfl, FIN.out.1, FIN.out.2.1, FIN.out.2.2.1, FIN.out.2.2.2⟩
set_option maxRecDepth 100000 in
set_option maxHeartbeats 1600000 in
/-- Index.Keys. -/
theorem keys_any {own : Nat → Prop} {w : World} {xb kb sb n : Nat} {vb : Vb} {cb : Cb} {cf : Cf} {sf : Int → Option (Option (Nat × Nat × Nat))} {m : Ms} (h : XIn own w xb kb sb n vb cb cf sf m) (hn : n ≤ 1000000) :
    Calls Tryz.prog 24 #[.pointer (some ⟨xb, 0, none⟩)] w (StrAns w fun k => vb k ≠ none) := by
  obtain ⟨w1, hw1⟩ : ∃ w1, w.alloc (.cells #[.map (some kb)] 72) = w1 := ⟨_, rfl⟩
  have hb1 : Below w.heap.size w w1 := by rw [← hw1]; exact below_grow1 w _
  have x0 : w.cell? ⟨xb, 0, none⟩ = some (.map (some kb)) := by simp [World.cell?, h.hx]
  have SO := Lib.hid (sortedK_any kb n vb w h.ix.keys (by omega))
  rw [hw1] at SO
  have HW1 := Lib.hid hw1
  have HB1 := Lib.hid hb1
  clear hw1 hb1 h
  go_enter Tryz.func24, Tryz.ntmps24
  go_wp2_with fail
  refine (keysK_any (some kb) w).mono ?_
  rintro e w2 ⟨rfl, rfl⟩
  go_wp2_with fail
  rw [HW1.out]
  refine SO.out.mono ?_
  rintro e w3 ⟨u, ss, rfl, h1, h2, h3, h4⟩
  have FIN := Lib.hid (And.intro h1 (And.intro h2 (And.intro (rowLow (lo := w.heap.size) h3 HB1.out.size) (HB1.out.trans (h4.mono HB1.out.size)))))
  clear h1 h2 h3 h4 SO
  go_wp2_with fail
  go_ret
  exact ⟨u, ss, rfl, FIN.out.1, FIN.out.2.1, FIN.out.2.2.1, FIN.out.2.2.2⟩
theorem keys_nil (w : World) :
    Calls Tryz.prog 24 #[.pointer none] w fun e w' => e = .returned (.slice none 0 0) ∧ w' = w := by
  go_enter Tryz.func24, Tryz.ntmps24
  go_wp2_with fail
  go_ret
  exact ⟨rfl, rfl⟩
end Go.Proofs.YtklbbcemacpimaaGreatDoor.I
