/- Index.Drop, Index.Put, Index.Len. -/
import Derived.Test.YtklbbcemacpimaaGreatDoorICopy
namespace Go.Proofs.YtklbbcemacpimaaGreatDoor.I
open Go Go.Maps Go.Proofs Go.RowKit

theorem cM_zero {k v : L8} {i : Int} : ∀ {m : Ms}, (∀ s ∈ m, s.1 ≠ i) → cM m k v i = 0
  | [], _ => rfl
  | a :: r, h => by rw [cM, if_neg (h a (by simp)), cM_zero fun s hs => h s (by simp [hs])]; rfl
/-- A stanza's fields, or none where there is no stanza. -/
def HasOr (m : Ms) (id : Int) (fs : List Fld) : Prop := (id, fs) ∈ m ∨ (fs = [] ∧ ∀ s ∈ m, s.1 ≠ id)
theorem HasOr.count {m : Ms} (h : Rising m) {id : Int} {fs : List Fld} (hf : HasOr m id fs) (k v : L8) : cM m k v id = cntF k v fs := by
  rcases hf with hf | ⟨rfl, hf⟩
  · exact cM_self h _ hf
  · exact cM_zero hf
theorem drop_law {m : Ms} (h : Rising m) {id : Int} {fs : List Fld} (hf : HasOr m id fs) : addAll (cM m) id (-1) fs = cM (rDrop m id) := by
  funext k v i
  rw [addAll_eq, cM_drop]
  by_cases hi : i = id
  · subst hi
    rw [if_pos rfl, if_pos rfl, hf.count h]
    omega
  · rw [if_neg hi, if_neg hi]; omega
theorem put_law (m : Ms) (id : Int) (fs : List Fld) : addAll (cM (rDrop m id)) id 1 fs = cM (rPut m id fs) := by
  funext k v i
  rw [addAll_eq, cM_drop, cM_put]
  by_cases hi : i = id
  · rw [if_pos hi, if_pos hi, if_pos hi]; omega
  · rw [if_neg hi, if_neg hi, if_neg hi]; omega
theorem Ix.lt {w : World} {N kb n : Nat} {vb : Vb} {cb : Cb} {cf : Cf} (h : Ix tys w N kb vb cb cf n) {b : Nat} (hb : Own kb vb cb b) : b < w.heap.size := by
  obtain ⟨es, clock, e⟩ := h.isMap hb
  exact (Array.getElem?_eq_some_iff.1 e).1
section
variable {own : Nat → Prop} {w w1 w2 : World} {xb kb sb n n1 : Nat} {id : Int} {vb : Vb} {cb : Cb} {cf : Cf} {sf : Int → Option (Option (Nat × Nat × Nat))} {m : Ms}
theorem XIn.sbMap (h : XIn own w xb kb sb n vb cb cf sf m) : ∃ es clock, w.heap[sb]? = some (.map es clock) := h.st.isMap
theorem keptRow {w w' : World} {r : Nat} (hg : w.grownBy w' (some r)) (hr : ∃ es clock, w.heap[r]? = some (.map es clock)) : Kept w w' := fun b cs T f hb => by
  refine (hg.block b (Array.getElem?_eq_some_iff.1 hb).1 (fun e => ?_)).trans hb
  injection e with e
  obtain ⟨es, clock, hm⟩ := hr
  rw [← e, hb] at hm
  cases hm
theorem Kept.fldsIn {own : Nat → Prop} {w w' : World} (h : Kept w w') {v : Value} {fs : List Fld} (hf : FldsIn own w v fs) : FldsIn own w' v fs := ⟨h.flds hf.1, hf.2⟩
/-- Behind a delete of a stanza. -/
theorem XIn.dropped (h : XIn own w xb kb sb n vb cb cf sf m) (hA : AddPost 0 kb n1 (cM (rDrop m id)) vb cb w w1) (hst : SMap w2 sb n1 (fun y => if y = id then none else sf y)) (hg : w1.grownBy w2 (some sb)) : XPost own xb n1 (rDrop m id) w w2 := by
  obtain ⟨vb', cb', cf', hI, hL, hU, hO⟩ := hA
  have hK1 : Kept w w1 := hU.kept h.ix
  have hsb1 : w1.heap[sb]? = w.heap[sb]? := hU.block sb h.st.lt h.apart
  have hmap1 : ∃ es clock, w1.heap[sb]? = some (.map es clock) := by rw [hsb1]; exact h.sbMap
  have hK2 : Kept w1 w2 := keptRow hg hmap1
  have hap : ¬ Own kb vb' cb' sb := fun ho => (hO sb ho).elim h.apart fun h' => by have := h.st.lt; omega
  refine ⟨fun b => own b ∨ (w.heap.size ≤ b ∧ b < w2.heap.size), ⟨kb, sb, vb', cb', cf', fun y => if y = id then none else sf y, ?_⟩, ?_, fun b hb => hb.elim .inl fun h => .inr h.1, hK1.trans hK2⟩
  · exact {
      hx := hK2 _ _ _ _ (hK1 _ _ _ _ h.hx)
      ix := hI.keep fun b hb ho => hg.block b hb (fun e => hap (by injection e with e; rw [← e]; exact ho))
      lv := hL
      st := hst
      no := fun i hi s hs => by
        obtain ⟨h1, h2⟩ := mem_drop.1 hs
        by_cases e : i = id
        · rw [e]; exact h2
        · rw [if_neg e] at hi; exact h.no i hi s h1
      yes := fun i e hi => by
        by_cases e1 : i = id
        · rw [if_pos e1] at hi; cases hi
        · rw [if_neg e1] at hi
          obtain ⟨fs, h1, h2⟩ := h.yes i e hi
          exact ⟨fs, mem_drop.2 ⟨h1, e1⟩, (hK2.fldsIn (hK1.fldsIn h2)).wide fun b => .inl⟩
      ox := .inl h.ox
      os := .inl h.os
      oi := fun b hb => by
        rcases hO b hb with h1 | h1
        · exact .inl (h.oi b h1)
        · exact .inr ⟨h1, Nat.lt_of_lt_of_le (hI.lt hb) hg.size⟩
      apart := hap
      low := fun b hb => by
        rcases hb with h1 | h1
        · have := h.low b h1; have := hU.size; have := hg.size; omega
        · exact h1.2
      rise := rising_drop h.rise id
      fine := fun s hs => h.fine s (mem_drop.1 hs).1 }
  · exact (hU.wide h.oi).grown hg h.os
/-- Behind a store of a stanza that was not there. -/
theorem XIn.stored (h : XIn own w xb kb sb n vb cb cf sf m) (hdrop : ∀ s ∈ m, s.1 ≠ id) {fs : List Fld} {u : Option (Nat × Nat × Nat)} {w3 w4 : World} (hb : Below w.heap.size w w2) (hu : FldsIn (fun b => w.heap.size ≤ b ∧ b < w2.heap.size) w2 (slEl.enc u) fs) (hst : SMap w3 sb n1 (fun y => if y = id then some u else sf y)) (hg : w2.grownBy w3 (some sb)) (hA : AddPost 0 kb n1 (cM (rIns id fs m)) vb cb w3 w4) (hf : Fine (id, fs)) : XPost own xb n1 (rIns id fs m) w w4 := by
  obtain ⟨vb', cb', cf', hI, hL, hU, hO⟩ := hA
  have hsb2 : w2.heap[sb]? = w.heap[sb]? := hb.block sb h.st.lt
  have hmap2 : ∃ es clock, w2.heap[sb]? = some (.map es clock) := by rw [hsb2]; exact h.sbMap
  have hK1 : Kept w w2 := fun b cs T f e => (hb.block b (Array.getElem?_eq_some_iff.1 e).1).trans e
  have hK2 : Kept w2 w3 := keptRow hg hmap2
  have hI3 : Ix tys w3 0 kb vb cb cf n := (h.ix.keep (w' := w2) fun b hb' _ => hb.block b hb').keep fun b hb' ho => hg.block b hb' (fun e => h.apart (by injection e with e; rw [← e]; exact ho))
  have hK3 : Kept w3 w4 := hU.kept hI3
  have hz2 := hb.size
  have hz3 := hg.size
  have hz4 := hU.size
  have hsl := h.st.lt
  have hap : ¬ Own kb vb' cb' sb := fun ho => (hO sb ho).elim h.apart fun h' => by omega
  have hU' : Upd own w w4 := by
    have h1 : Upd (fun b => own b ∨ w.heap.size ≤ b) w w3 := ((Upd.refl _ w).below hb).grown hg (.inl h.os)
    exact (h1.trans (hU.wide fun b hb' => .inl (h.oi b hb'))).narrow
  refine ⟨fun b => own b ∨ (w.heap.size ≤ b ∧ b < w4.heap.size), ⟨kb, sb, vb', cb', cf', fun y => if y = id then some u else sf y, ?_⟩, hU', fun b hb => hb.elim .inl fun h => .inr h.1, hK1.trans (hK2.trans hK3)⟩
  exact {
      hx := hK3 _ _ _ _ (hK2 _ _ _ _ (hK1 _ _ _ _ h.hx))
      ix := hI
      lv := hL
      st := hst.block (hU.block sb (by omega) h.apart)
      no := fun i hi s hs => by
        by_cases e : i = id
        · rw [if_pos e] at hi; cases hi
        · rw [if_neg e] at hi
          rcases mem_ins.1 hs with rfl | hs
          · exact fun e' => e e'.symm
          · exact h.no i hi s hs
      yes := fun i e hi => by
        by_cases e1 : i = id
        · rw [if_pos e1] at hi
          injection hi with hi
          subst hi
          exact ⟨fs, mem_ins.2 (.inl (by rw [e1])), (hK3.fldsIn (hK2.fldsIn hu)).wide fun b hb' => .inr ⟨hb'.1, by have := hb'.2; omega⟩⟩
        · rw [if_neg e1] at hi
          obtain ⟨fs', h1, h2⟩ := h.yes i e hi
          exact ⟨fs', mem_ins.2 (.inr h1), (hK3.fldsIn (hK2.fldsIn (hK1.fldsIn h2))).wide fun b => .inl⟩
      ox := .inl h.ox
      os := .inl h.os
      oi := fun b hb => by
        rcases hO b hb with h1 | h1
        · exact .inl (h.oi b h1)
        · exact .inr ⟨by omega, hI.lt hb⟩
      apart := hap
      low := fun b hb' => by
        rcases hb' with h1 | h1
        · have := h.low b h1; omega
        · exact h1.2
      rise := rising_ins h.rise hdrop
      fine := fun s hs => by
        rcases mem_ins.1 hs with rfl | hs
        · exact hf
        · exact h.fine s hs }
end
set_option maxRecDepth 100000 in
set_option maxHeartbeats 1600000 in
theorem drop_any (own : Nat → Prop) (xb n : Nat) (m : Ms) (id : Int) (w : World) (h : XAt own w xb n m) (hid : (Lit.int .i64 id).wf = true) (hn : n + 3000 < maxLen) :
    Calls Tryz.prog 19 #[.pointer (some ⟨xb, 0, none⟩), .int .i64 id] w fun e w' => e = .returned (.bool (m.any fun s => s.1 == id)) ∧ XPost own xb (n + 3000) (rDrop m id) w w' := by
  obtain ⟨kb, sb, vb, cb, cf, sf, h⟩ := h
  have x1 : w.cell? ⟨xb, 1, none⟩ = some (.map (some sb)) := by simp [World.cell?, h.hx]
  obtain ⟨vf, fs, b0, hF, hm, hb0, hl3⟩ : ∃ vf fs b0, FldsAt w vf fs ∧ HasOr m id fs ∧ b0 = (m.any fun s => s.1 == id) ∧ (Instr.lookup 73 (.map (some sb)) (.int .i64 id) true).run Tryz.prog w = .ok (.tuple #[vf, .bool b0]) w := by
    have hl := h.st.look2 (int_keyed Tryz.underlying3) Tryz.underlying73 none (by kernel_rfl) (keyN tys id hid)
    cases hsf : sf id with
    | none =>
      refine ⟨.slice none 0 0, [], false, FldsAt.nil, .inr ⟨rfl, h.no id hsf⟩, ?_, ?_⟩
      · symm
        rw [List.any_eq_false]
        intro s hs
        have := h.no id hsf s hs
        simpa using this
      · rw [hl, hsf]; rfl
    | some e =>
      obtain ⟨fs, h1, h2⟩ := h.yes id e hsf
      refine ⟨slEl.enc e, fs, true, h2.1, .inl h1, ?_, ?_⟩
      · symm
        rw [List.any_eq_true]
        exact ⟨_, h1, by simp⟩
      · rw [hl, hsf]; rfl
  have hfine : fs.length ≤ 1000 ∧ ∀ f ∈ fs, f.key.length ≤ maxLen ∧ f.val.length ≤ maxLen := by
    rcases hm with hm | ⟨rfl, -⟩
    · exact ⟨(h.fine _ hm).few, (h.fine _ hm).small⟩
    · exact ⟨by simp, fun f hf => by cases hf⟩
  have hC : ∀ k v, -1000000000000 ≤ cM m k v id ∧ cM m k v id ≤ 1000000000000 := fun k v => by
    rw [hm.count h.rise]
    have h1 := cntF_nonneg k v fs
    have h2 := cntF_le k v fs
    have := hfine.1
    omega
  have AD := Lib.hid (add_any xb kb sb 0 n vb cb cf (cM m) id (-1) vf fs w h.hx (Nat.zero_le _) h.ix h.lv hF hfine.2 hid (.inr rfl) hC (by have := hfine.1; omega) (by have := hfine.1; omega))
  have HH := Lib.hid h
  have HM := Lib.hid hm
  have HFL := Lib.hid hfine.1
  clear h hF hfine hC hm
  go_enter Tryz.func19, Tryz.ntmps19
  go_wp2_with fail
  refine AD.out.mono ?_
  rintro e w1 ⟨rfl, hA⟩
  rw [drop_law HH.out.rise HM.out] at hA
  have hA' : AddPost 0 kb (n + 3000) (cM (rDrop m id)) vb cb w w1 := by
    obtain ⟨vb', cb', cf', h1, h2⟩ := hA
    exact ⟨vb', cb', cf', h1.more (by have := HFL.out; omega), h2⟩
  obtain ⟨vb', cb', cf', hI1, hL1, hU1, hO1⟩ := hA'
  have hx1 := hU1.kept HH.out.ix _ _ _ _ HH.out.hx
  have x1' : w1.cell? ⟨xb, 1, none⟩ = some (.map (some sb)) := by simp [World.cell?, hx1]
  have hst1 : SMap w1 sb (n + 3000) sf := (HH.out.st.block (hU1.block sb HH.out.st.lt HH.out.apart)).more (by omega)
  obtain ⟨w2, hdel, hst2, hg2, hz2⟩ := hst1.del (int_keyed Tryz.underlying3) Tryz.underlying73 mkN_inj (keyN tys id hid)
  have FIN := Lib.hid (HH.out.dropped ⟨vb', cb', cf', hI1, hL1, hU1, hO1⟩ hst2 hg2)
  clear hA hI1 hL1 hU1 hO1 hx1 hst1 hst2 hg2 hz2
  go_wp2_with fail
  go_ret
  exact ⟨rfl, FIN.out⟩
set_option maxRecDepth 100000 in
set_option maxHeartbeats 3200000 in
theorem put_any (own : Nat → Prop) (xb n : Nat) (m : Ms) (id : Int) (vf : Value) (fs : List Fld) (w : World) (h : XAt own w xb n m) (hF : FldsAt w vf fs) (hf : Fine (id, fs)) (h1 : 1 ≤ id) (hn : n + 7000 < maxLen) :
    Calls Tryz.prog 17 #[.pointer (some ⟨xb, 0, none⟩), .int .i64 id, vf] w fun e w' => e = .returned .nilIface ∧ XPost own xb (n + 7000) (rPut m id fs) w w' := by
  have hidz : ¬ id < 1 := by omega
  have DR := Lib.hid (drop_any own xb n m id w h hf.id (by omega))
  have HF := Lib.hid hF
  have HFI := Lib.hid hf
  clear h hF
  go_enter Tryz.func17, Tryz.ntmps17
  go_wp2_with fail
  refine DR.out.mono ?_
  rintro e w1 ⟨rfl, own1, ⟨kb, sb, vb, cb, cf, sf, h1⟩, hU1, hO1, hK1⟩
  have hF1 : FldsAt w1.drew vf fs := hK1.flds HF.out
  have P1 : w1.cell? ⟨xb, 1, none⟩ = some (.map (some sb)) := by simp [World.cell?, h1.hx]
  have CL := Lib.hid (clone_any vf fs w1.drew hF1 (by have := hf.few; simp only at this; omega))
  have HX1 := Lib.hid h1
  have HU1 := Lib.hid hU1
  have HO1 := Lib.hid hO1
  have HK1 := Lib.hid hK1
  clear h1 hU1 hO1 hK1 hF1 DR
  go_wp2_with fail
  go_region_held3 (fun W' => W'.cell? ⟨xb, 1, none⟩ = some (.map (some sb))) (first | exact P1 | exact P2 | exact P3)
    (first
      | (go_at_call 38; refine CL.out.mono ?_; rintro e w2 ⟨u, rfl, hu, hb2⟩; have hB2 : Below w1.heap.size w1 w2 := (Below.refl _ _).drew.trans hb2; have P2 : w2.cell? ⟨xb, 1, none⟩ = some (.map (some sb)) := (by rw [hB2.cell (p := ⟨xb, 1, none⟩) (World.block_lt_of_cell? _ _ P1)]; exact P1); obtain ⟨w3, hup, hst3, hg3, hz3⟩ := ((HX1.out.st.more (Nat.le_add_right _ 3000)).block (hB2.block sb HX1.out.st.lt)).put (int_keyed Tryz.underlying3) Tryz.underlying73 (by omega) mkN_inj mkN_key (keyN tys id hf.id) u; have P3 : w3.cell? ⟨xb, 1, none⟩ = some (.map (some sb)) := ((keptRow hg3 (by rw [hB2.block sb HX1.out.st.lt]; exact HX1.out.sbMap)).cell P2); have HU := Lib.hid hu; have HB2 := Lib.hid hB2; have HST3 := Lib.hid hst3; have HG3 := Lib.hid hg3; clear hu hb2 hB2 hst3 hg3 hz3))
  all_goals
    have hK12 : Kept w1 w2 := fun b cs T f e => (HB2.out.block b (Array.getElem?_eq_some_iff.1 e).1).trans e
    have hsb2 : w2.heap[sb]? = w1.heap[sb]? := HB2.out.block sb HX1.out.st.lt
    have hK23 : Kept w2 w3 := keptRow HG3.out (by rw [hsb2]; exact HX1.out.sbMap)
    have hI3 : Ix tys w3 0 kb vb cb cf (n + 3000) := (HX1.out.ix.keep (w' := w2) fun b hb' _ => HB2.out.block b hb').keep fun b hb' ho => HG3.out.block b hb' (fun e => HX1.out.apart (by injection e with e; rw [← e]; exact ho))
    have hdrop : ∀ s ∈ rDrop m id, s.1 ≠ id := fun s hs => (mem_drop.1 hs).2
    have AD := Lib.hid (add_any xb kb sb 0 (n + 3000) vb cb cf (cM (rDrop m id)) id 1 vf fs w3 (hK23 _ _ _ _ (hK12 _ _ _ _ HX1.out.hx)) (Nat.zero_le _) hI3 HX1.out.lv (hK23.flds (hK12.flds (HK1.out.flds HF.out))) HFI.out.small hf.id (.inl rfl) (fun k v => by rw [cM_zero hdrop]; omega) (by have := HFI.out.few; simp only at this; omega) (by have := HFI.out.few; simp only at this; omega))
    clear hK12 hsb2 hK23 hI3
    go_wp2_with fail
    refine AD.out.mono ?_
    rintro e w4 ⟨rfl, hA⟩
    rw [put_law] at hA
    have hA' : AddPost 0 kb (n + 7000) (cM (rPut m id fs)) vb cb w3 w4 := by
      obtain ⟨vb', cb', cf', h1, h2⟩ := hA
      exact ⟨vb', cb', cf', h1.more (by have := HFI.out.few; simp only at this; omega), h2⟩
    have FIN : Hid (XPost own xb (n + 7000) (rPut m id fs) w w4) := Lib.hid (XPost.trans HU1.out HO1.out HK1.out (HX1.out.stored hdrop HB2.out (by
      obtain ⟨h1, h2⟩ := HU.out
      exact ⟨h1, fun h0 => let ⟨g, o, n', c, e, hg⟩ := h2 h0; ⟨g, o, n', c, e, hg⟩⟩) (HST3.out.more (by omega)) HG3.out hA' HFI.out))
    clear hA hA'
    go_wp2_with fail
    go_ret
    exact ⟨rfl, FIN.out⟩
end Go.Proofs.YtklbbcemacpimaaGreatDoor.I
