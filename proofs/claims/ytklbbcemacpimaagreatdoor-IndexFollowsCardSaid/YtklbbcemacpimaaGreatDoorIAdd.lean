/- index.add, walked. -/
import Derived.Test.YtklbbcemacpimaaGreatDoorITidy
namespace Go.Proofs.YtklbbcemacpimaaGreatDoor.I
open Go Go.Maps Go.Proofs Go.RowKit

def iOf : Value → Int
  | .int _ i => i
  | _ => 0
theorem addAll_snoc (i y : Int) (f : Fld) : ∀ (l : List Fld) (C : Cn), addAll C i y (l ++ [f]) = bump (addAll C i y l) f.key f.val i y
  | [], _ => rfl
  | g :: r, C => addAll_snoc i y f r (bump C g.key g.val i y)
theorem cntF_le (k v : L8) : ∀ fs, cntF k v fs ≤ (fs.length : Int)
  | [] => Int.le_refl _
  | f :: r => by
    have := cntF_le k v r
    rw [cntF, List.length_cons]
    split <;> omega
/-- Fields lie in memory. -/
def FldsAt (w : World) (v : Value) (fs : List Fld) : Prop :=
  ∃ (ao : Option Addr) (cp : Nat), v = .slice ao fs.length cp ∧ fs.length ≤ 9223372036854775807 ∧ ∀ (k : Nat) (f : Fld), fs[k]? = some f → ∃ g o, ao = some ⟨g, o, none⟩ ∧ w.cell? ⟨g, o + k * 2, none⟩ = some (.string ⟨f.key.toArray⟩) ∧ w.cell? ⟨g, o + k * 2 + 1, none⟩ = some (.string ⟨f.val.toArray⟩)
def Kept (w w' : World) : Prop := ∀ (b : Nat) (cs : Array Value) (T : TypeId) (f : Nat × Nat), w.heap[b]? = some (Obj.cells cs T f) → w'.heap[b]? = some (Obj.cells cs T f)
theorem cell_block {w : World} {p : Addr} {v : Value} (h : w.cell? p = some v) : ∃ cs T f, w.heap[p.block]? = some (.cells cs T f) := by
  unfold World.cell? at h
  split at h
  · rename_i cs T f hb; exact ⟨cs, T, f, hb⟩
  all_goals cases h
theorem Kept.cell {w w' : World} (h : Kept w w') {g o : Nat} {v : Value} (hc : w.cell? ⟨g, o, none⟩ = some v) : w'.cell? ⟨g, o, none⟩ = some v := by
  obtain ⟨cs, T, f, hb⟩ := cell_block hc
  have := h _ _ _ _ hb
  rw [← hc]
  simp only at hb this
  simp [World.cell?, hb, this]
theorem Kept.refl (w : World) : Kept w w := fun _ _ _ _ h => h
theorem Kept.trans {w w' w2 : World} (h : Kept w w') (k : Kept w' w2) : Kept w w2 := fun b cs T f e => k _ _ _ _ (h b cs T f e)
theorem Kept.flds {w w' : World} (h : Kept w w') {v : Value} {fs : List Fld} (hf : FldsAt w v fs) : FldsAt w' v fs :=
  let ⟨ao, cp, h1, h2, h3⟩ := hf
  ⟨ao, cp, h1, h2, fun k f hk => let ⟨g, o, e1, e2, e3⟩ := h3 k f hk; ⟨g, o, e1, h.cell e2, h.cell e3⟩⟩
theorem Upd.kept {w w' : World} {N kb n : Nat} {vb : Vb} {cb : Cb} {cf : Cf} (h : Upd (Own kb vb cb) w w') (hI : Ix tys w N kb vb cb cf n) : Kept w w' := fun b cs T f hb => by
  refine (h.block b (Array.getElem?_eq_some_iff.1 hb).1 fun ho => ?_).trans hb
  obtain ⟨es, clock, hm⟩ := hI.isMap ho
  rw [hb] at hm; cases hm
theorem Upd.narrow {own : Nat → Prop} {w w' : World} (h : Upd (fun b => own b ∨ w.heap.size ≤ b) w w') : Upd own w w' :=
  ⟨h.os, h.tape, h.output, h.size, fun b h1 h2 => h.block b h1 fun h3 => h3.elim h2 fun h4 => absurd h1 (by omega)⟩
theorem Upd.wide {own : Nat → Prop} {w w' : World} (h : Upd own w w') {own' : Nat → Prop} (k : ∀ b, own b → own' b) : Upd own' w w' :=
  ⟨h.os, h.tape, h.output, h.size, fun b h1 h2 => h.block b h1 fun h3 => h2 (k b h3)⟩
theorem ixKey2 {w : World} {N kb n : Nat} {vb : Vb} {cb : Cb} {cf : Cf} (h : Ix tys w N kb vb cb cf n) (k : ByteArray) (hk : k.size ≤ maxLen) : (Instr.lookup 72 (.map (some kb)) (.string k) true).run Tryz.prog w = .ok (.tuple #[.map (vb k.data.toList), .bool (vb k.data.toList).isSome]) w := by
  have := h.keys.look2 (string_keyed tys.hs) tys.hK none (tys.zV w) (keyS tys k hk)
  rw [this]
  cases vb k.data.toList <;> rfl
theorem ixVal2 {w : World} {N kb n : Nat} {vb : Vb} {cb : Cb} {cf : Cf} (h : Ix tys w N kb vb cb cf n) {k : L8} {s : Nat} (hs : vb k = some s) (v : ByteArray) (hv : v.size ≤ maxLen) : (Instr.lookup 82 (.map (some s)) (.string v) true).run Tryz.prog w = .ok (.tuple #[.map (cb k v.data.toList), .bool (cb k v.data.toList).isSome]) w := by
  have := (h.vals k s hs).look2 (string_keyed tys.hs) tys.hV none (tys.zC w) (keyS tys v hv)
  rw [this]
  cases cb k v.data.toList <;> rfl
/-- What add leaves. -/
def AddPost (N kb n : Nat) (C : Cn) (vb : Vb) (cb : Cb) (w w' : World) : Prop :=
  ∃ vb' cb' cf', Ix tys w' N kb vb' cb' cf' n ∧ Live vb' cb' cf' C ∧ Upd (Own kb vb cb) w w' ∧ ∀ b, Own kb vb' cb' b → Own kb vb cb b ∨ w.heap.size ≤ b
/-- Where a round ends. -/
theorem addPost_step {N kb n m : Nat} {C' : Cn} {vb vb2 : Vb} {cb cb2 : Cb} {w w2 w3 : World} (hnm : n ≤ m)
    (hU : Upd (fun b => Own kb vb cb b ∨ w.heap.size ≤ b) w w2) (ho : ∀ b, Own kb vb2 cb2 b → Own kb vb cb b ∨ w.heap.size ≤ b) (h : TidyPost N kb n C' vb2 cb2 w2 w3) : AddPost N kb m C' vb cb w w3 := by
  obtain ⟨vb', cb', cf', hI, hL, hU', hs⟩ := h
  exact ⟨vb', cb', cf', hI.more hnm, hL, (hU.trans (hU'.wide ho)).narrow, fun b hb => ho b (hs b hb)⟩
theorem Ix.addKey {w W : World} {N kb n : Nat} {vb : Vb} {cb : Cb} {cf : Cf} (h : Ix tys w N kb vb cb cf n) (hN : N ≤ w.heap.size) (hW : W.heap = (w.alloc (.map #[] 0)).heap) (k : ByteArray) (hk : k.size ≤ maxLen) (h0 : vb k.data.toList = none) (hn : n < maxLen) :
    ∃ w', (Instr.mapUpdate 72 (.map (some kb)) (.string k) (.map (some w.heap.size))).run Tryz.prog W = .ok () w' ∧ Ix tys w' N kb (vbSet vb k.data.toList w.heap.size) cb cf (n + 1) ∧ W.grownBy w' (some kb) ∧ w'.heap.size = W.heap.size :=
  Ix.newKey ((h.alloc (.map #[] 0)).keep (w' := W) fun k _ _ => by rw [hW]) (((MF.made Tryz.prog tys.ts ptrEl mkS w).more (Nat.zero_le n)).block (w' := W) (by rw [hW])) hN (by have := h.keys.lt; omega) (fun x e => by have := h.vlt e; omega) (fun x y e => by have := h.clt e; omega) k hk h0 hn
theorem Ix.addVal {w W : World} {N kb n : Nat} {vb : Vb} {cb : Cb} {cf : Cf} (h : Ix tys w N kb vb cb cf n) (hN : N ≤ w.heap.size) (hW : W.heap = (w.alloc (.map #[] 0)).heap) {k : L8} {s : Nat} (hs : vb k = some s) (v : ByteArray) (hv : v.size ≤ maxLen) (h0 : cb k v.data.toList = none) (hc : ∀ i, cf k v.data.toList i = none) (hn : n < maxLen) :
    ∃ w', (Instr.mapUpdate 82 (.map (some s)) (.string v) (.map (some w.heap.size))).run Tryz.prog W = .ok () w' ∧ Ix tys w' N kb vb (cbSet cb k v.data.toList w.heap.size) cf (n + 1) ∧ W.grownBy w' (some s) ∧ w'.heap.size = W.heap.size :=
  Ix.newVal ((h.alloc (.map #[] 0)).keep (w' := W) fun k _ _ => by rw [hW]) (((MF.made Tryz.prog tys.ti numEl mkN w).more (Nat.zero_le n)).block (w' := W) (by rw [hW])) hN (by have := h.keys.lt; omega) (fun x e => by have := h.vlt e; omega) (fun x y e => by have := h.clt e; omega) hs v hv h0 hc hn
/-- A value that is new, and its first count. -/
theorem Ix.valStep {w : World} {N kb n : Nat} {vb : Vb} {cb : Cb} {cf : Cf} (h : Ix tys w N kb vb cb cf n) (hN : N ≤ w.heap.size) {k : L8} {s : Nat} (hs : vb k = some s) (v : ByteArray) (hv : v.size ≤ maxLen) (h0 : cb k v.data.toList = none) (hc : ∀ i, cf k v.data.toList i = none) (hn : n + 1 < maxLen) (id a : Int) (hid : (Lit.int .i64 id).wf = true) :
    ∃ w5 w6, (Instr.mapUpdate 82 (.map (some s)) (.string v) (.map (some w.heap.size))).run Tryz.prog (w.alloc (.map #[] 0)) = .ok () w5 ∧ (Instr.lookup 84 (.map (some w.heap.size)) (.int .i64 id) false).run Tryz.prog w5 = .ok (.int .i64 0) w5 ∧ (Instr.mapUpdate 84 (.map (some w.heap.size)) (.int .i64 id) (.int .i64 a)).run Tryz.prog w5 = .ok () w6 ∧ Ix tys w6 N kb vb (cbSet cb k v.data.toList w.heap.size) (cfSet cf k v.data.toList id a) (n + 2) ∧ Upd (fun b => Own kb vb cb b ∨ w.heap.size ≤ b) w w6 := by
  obtain ⟨w5, r5, hI5, hg5, hz5⟩ := h.addVal hN rfl hs v hv h0 hc (by omega)
  have hr : cbSet cb k v.data.toList w.heap.size k v.data.toList = some w.heap.size := by unfold cbSet; rw [if_pos ⟨rfl, rfl⟩]
  obtain ⟨w6, r6, hI6, hg6, hz6⟩ := hI5.setCnt hr id a hid hn
  refine ⟨w5, w6, r5, ?_, r6, hI6, ?_⟩
  · have := ixCnt hI5 hr id hid
    rw [hc] at this
    exact this
  · exact (((Upd.refl _ w).below (below_grow1 w _)).grown hg5 (.inl (.inr (.inl ⟨_, hs⟩)))).grown hg6 (.inr (Nat.le_refl _))
theorem Own.vbSet {kb r : Nat} {vb : Vb} {cb : Cb} {k : L8} {b : Nat} (h : Own kb (vbSet vb k r) cb b) : Own kb vb cb b ∨ b = r := by
  rcases h with h | ⟨k', h⟩ | h
  · exact .inl (.inl h)
  · unfold I.vbSet at h
    split at h
    · injection h with h; exact .inr h.symm
    · exact .inl (.inr (.inl ⟨k', h⟩))
  · exact .inl (.inr (.inr h))
theorem Own.cbSet {kb r : Nat} {vb : Vb} {cb : Cb} {k v : L8} {b : Nat} (h : Own kb vb (cbSet cb k v r) b) : Own kb vb cb b ∨ b = r := by
  rcases h with h | h | ⟨k', v', h⟩
  · exact .inl (.inl h)
  · exact .inl (.inr (.inl h))
  · unfold I.cbSet at h
    split at h
    · injection h with h; exact .inr h.symm
    · exact .inl (.inr (.inr ⟨k', v', h⟩))
theorem Kept.upd {w w' : World} {N kb n : Nat} {vb : Vb} {cb : Cb} {cf : Cf} (h : Upd (fun b => Own kb vb cb b ∨ w.heap.size ≤ b) w w') (hI : Ix tys w N kb vb cb cf n) : Kept w w' := h.narrow.kept hI
set_option maxRecDepth 100000 in
set_option maxHeartbeats 3200000 in
theorem add_any (xb kb sb N n : Nat) (vb : Vb) (cb : Cb) (cf : Cf) (C : Cn) (id y : Int) (vf : Value) (fs : List Fld) (w : World) (hx : w.heap[xb]? = some (.cells #[.map (some kb), .map (some sb)] 75 (0, 0))) (hN : N ≤ w.heap.size) (hI : Ix tys w N kb vb cb cf n) (hL : Live vb cb cf C) (hF : FldsAt w vf fs) (hS : ∀ f ∈ fs, f.key.length ≤ maxLen ∧ f.val.length ≤ maxLen) (hid : (Lit.int .i64 id).wf = true) (hy : y = 1 ∨ y = -1) (hC : ∀ k v, -1000000000000 ≤ C k v id ∧ C k v id ≤ 1000000000000) (hfl : fs.length ≤ 1000000000000) (hn : n + 3 * fs.length < maxLen) :
    Calls Tryz.prog 28 #[.pointer (some ⟨xb, 0, none⟩), .int .i64 id, .int .i64 y, vf] w fun e w' => e = .returned (.tuple #[]) ∧ AddPost N kb (n + 3 * fs.length) (addAll C id y fs) vb cb w w' := by
  obtain ⟨ao, cp, rfl, hfm, hF⟩ := hF
  have HF := Lib.hid hF
  have HX := Lib.hid hx
  have HI := Lib.hid hI
  have HL := Lib.hid hL
  have HS := Lib.hid hS
  have HC := Lib.hid hC
  have HN := Lib.hid hN
  have HM := Lib.hid hn
  clear hF hx hI hL hS hC hN hn
  go_enter Tryz.func28, Tryz.ntmps28
  go_wp2_with fail
  go_loopw [15] (fun i wr => ∃ j : Nat, i = .int .i64 j ∧ j ≤ fs.length ∧ Hid (AddPost N kb (n + 3 * j) (addAll C id y (fs.take j)) vb cb w wr)) (fun i _ => fs.length - (iOf i).toNat)
  case atStart => exact ⟨0, rfl, Nat.zero_le _, Lib.hid ⟨vb, cb, cf, HI.out, HL.out, Upd.refl _ _, fun _ h => .inl h⟩⟩
  case round =>
    obtain ⟨j, rfl, hj, hpost⟩ := hrel
    by_cases hlt : j < fs.length
    · obtain ⟨f, hf⟩ : ∃ f, fs[j]? = some f := ⟨_, List.getElem?_eq_getElem hlt⟩
      obtain ⟨vb', cb', cf', hI', hL', hU', hO'⟩ := hpost.out
      obtain ⟨ga, oa, rfl, c1, c2⟩ := HF.out j f hf
      have hnj : n + 3 * j + 3 < maxLen := by have := HM.out; omega
      have hz := HS.out f (List.mem_of_getElem? hf)
      have htk : addAll C id y (fs.take (j + 1)) = bump (addAll C id y (fs.take j)) f.key f.val id y := by
        rw [List.take_add_one, hf]; exact addAll_snoc _ _ _ _ _
      have hKp := hU'.kept HI.out
      have q1 := hKp.cell c1
      have q2 := hKp.cell c2
      obtain ⟨kk, hkk⟩ : ∃ kk : ByteArray, (⟨f.key.toArray⟩ : ByteArray) = kk := ⟨_, rfl⟩
      obtain ⟨vv, hvv⟩ : ∃ vv : ByteArray, (⟨f.val.toArray⟩ : ByteArray) = vv := ⟨_, rfl⟩
      have ekk : kk.data.toList = f.key := by rw [← hkk]
      have evv : vv.data.toList = f.val := by rw [← hvv]
      have hk : kk.size ≤ maxLen := by rw [← hkk]; exact hz.1
      have hv : vv.size ≤ maxLen := by rw [← hvv]; exact hz.2
      rw [hkk] at q1
      rw [hvv] at q2
      rw [← ekk, ← evv] at htk
      obtain ⟨c0, hc0⟩ : ∃ c0, addAll C id y (fs.take j) kk.data.toList vv.data.toList id = c0 := ⟨_, rfl⟩
      have hc0b : -3000000000000 ≤ c0 + y ∧ c0 + y ≤ 3000000000000 := by
        have h1 := HC.out kk.data.toList vv.data.toList
        have h2 := cntF_nonneg kk.data.toList vv.data.toList (fs.take j)
        have h3 := cntF_le kk.data.toList vv.data.toList (fs.take j)
        have h4 : (fs.take j).length ≤ fs.length := by rw [List.length_take]; omega
        rw [← hc0, addAll_eq, if_pos rfl]
        rcases hy with rfl | rfl <;> omega
      have HTK := Lib.hid htk
      have HZ := Lib.hid hc0
      clear hz htk hKp c1 c2 hkk hvv ekk evv hc0 hf
      have hxb : wr.heap[xb]? = some (.cells #[.map (some kb), .map (some sb)] 75 (0, 0)) := hU'.kept HI.out _ _ _ _ HX.out
      obtain ⟨w1, hw1⟩ : ∃ w1, wr.alloc (.cells #[.string kk, .string vv] 57) = w1 := ⟨_, rfl⟩
      have hE : w1.heap[wr.heap.size]? = some (.cells #[.string kk, .string vv] 57 (0, 0)) := by rw [← hw1]; exact heap_alloc_new wr _
      have hI1 : Ix tys w1 N kb vb' cb' cf' (n + 3 * j) := by rw [← hw1]; exact hI'.alloc _
      have hx1 : w1.heap[xb]? = some (.cells #[.map (some kb), .map (some sb)] 75 (0, 0)) := by rw [← hw1]; exact (Below.heap_alloc _ _ _ (Array.getElem?_eq_some_iff.1 hxb).1).trans hxb
      have hU1 : Upd (fun b => Own kb vb cb b ∨ w.heap.size ≤ b) w w1 := by rw [← hw1]; exact (hU'.wide fun _ h => .inl h).below (below_grow1 wr _)
      have x0 : w1.cell? ⟨xb, 0, none⟩ = some (.map (some kb)) := by simp [World.cell?, hx1]
      have y0 : w1.cell? ⟨wr.heap.size, 0, none⟩ = some (.string kk) := by simp [World.cell?, hE]
      have y1 : w1.cell? ⟨wr.heap.size, 1, none⟩ = some (.string vv) := by simp [World.cell?, hE]
      have l1 : ∀ m, (Instr.lookup 72 (.map (some kb)) (.string kk) true).run Tryz.prog (w1.drewN m) = .ok (.tuple #[.map (vb' kk.data.toList), .bool (vb' kk.data.toList).isSome]) (w1.drewN m) := fun m => ixKey2 (hI1.drewN m) kk hk
      have HI1 := Lib.hid hI1
      have HU1 := Lib.hid hU1
      have HW1 := Lib.hid hw1
      have HX1 := Lib.hid hx1
      have HE := Lib.hid hE
      have HL1 := Lib.hid hL'
      have HO1 := Lib.hid hO'
      clear hI' hL' hU' hO' hpost hI1 hU1 hw1 hE hx1 hxb
      by_cases hvk : vb' kk.data.toList = none
      · rw [hvk] at l1
        have HVK := Lib.hid hvk
        clear hvk
        go_wp2_with fail
        try rw [HW1.out]
        go_quiet (fail)
        obtain ⟨w2, hw2⟩ : ∃ w2, w1.drewN nq = w2 := ⟨_, rfl⟩
        have hI2 : Ix tys w2 N kb vb' cb' cf' (n + 3 * j) := hw2 ▸ HI1.out.drewN nq
        have hx2 : w2.heap[xb]? = some (.cells #[.map (some kb), .map (some sb)] 75 (0, 0)) := hw2 ▸ HX1.out
        have hy2 : w2.heap[wr.heap.size]? = some (.cells #[.string kk, .string vv] 57 (0, 0)) := hw2 ▸ HE.out
        have hU2 : Upd (fun b => Own kb vb cb b ∨ w.heap.size ≤ b) w w2 := hw2 ▸ HU1.out.below (below_dn (Below.refl _ _) nq)
        rw [hw2]
        clear hw2 x0 y0 y1 l1 HI1 HX1 HU1 HE HW1
        obtain ⟨w3, hw3⟩ : ∃ w3, w2.alloc (.map #[] 0) = w3 := ⟨_, rfl⟩
        have hNw : N ≤ w2.heap.size := Nat.le_trans HN.out hU2.size
        obtain ⟨w4, hup4, hI4, hg4, hz4⟩ := hI2.addKey (W := w3.drew) hNw (by rw [← hw3]; rfl) kk hk HVK.out (by omega)
        have hx3 : w3.heap[xb]? = some (.cells #[.map (some kb), .map (some sb)] 75 (0, 0)) := by rw [← hw3]; exact (Below.heap_alloc _ _ _ (Array.getElem?_eq_some_iff.1 hx2).1).trans hx2
        have hy3 : w3.heap[wr.heap.size]? = some (.cells #[.string kk, .string vv] 57 (0, 0)) := by rw [← hw3]; exact (Below.heap_alloc _ _ _ (Array.getElem?_eq_some_iff.1 hy2).1).trans hy2
        have hI3d : Ix tys w3.drew N kb vb' cb' cf' (n + 3 * j) := by rw [← hw3]; exact (hI2.alloc _).keep fun _ _ _ => rfl
        have hx4 := hI3d.cells (.inl rfl) hg4 (b := xb) (show w3.drew.heap[xb]? = _ from hx3)
        have hy4 := hI3d.cells (.inl rfl) hg4 (b := wr.heap.size) (show w3.drew.heap[wr.heap.size]? = _ from hy3)
        have hU4 : Upd (fun b => Own kb vb cb b ∨ w.heap.size ≤ b) w w4 := by
          refine Upd.grown (w' := w3.drew) ?_ hg4 (.inl (.inl rfl))
          rw [← hw3]
          exact hU2.below ((below_grow1 _ _).trans (Below.refl _ _).drew)
        have hO4 : ∀ b, Own kb (vbSet vb' kk.data.toList w2.heap.size) cb' b → Own kb vb cb b ∨ w.heap.size ≤ b := fun b hb => by
          rcases hb.vbSet with h | h
          · exact HO1.out b h
          · right; rw [h]; exact hU2.size
        have hsz : w2.heap.size = w2.heap.size := rfl
        obtain ⟨s, hs0⟩ : ∃ s, w2.heap.size = s := ⟨_, rfl⟩
        have hs4 : vbSet vb' kk.data.toList w2.heap.size kk.data.toList = some s := by rw [← hs0]; unfold vbSet; rw [if_pos rfl]
        have P3 : w3.cell? ⟨xb, 0, none⟩ = some (.map (some kb)) ∧ w3.cell? ⟨wr.heap.size, 0, none⟩ = some (.string kk) := ⟨by simp [World.cell?, hx3], by simp [World.cell?, hy3]⟩
        have P4 : w4.cell? ⟨xb, 0, none⟩ = some (.map (some kb)) ∧ w4.cell? ⟨wr.heap.size, 0, none⟩ = some (.string kk) := ⟨by simp [World.cell?, hx4], by simp [World.cell?, hy4]⟩
        have y4 : w4.cell? ⟨wr.heap.size, 1, none⟩ = some (.string vv) := by simp [World.cell?, hy4]
        have hcn : cb' kk.data.toList vv.data.toList = none := HL1.out.up HVK.out
        have hcf : ∀ i, cf' kk.data.toList vv.data.toList i = none := HL1.out.no hcn
        have l7 : (Instr.lookup 82 (.map (some s)) (.string vv) true).run Tryz.prog w4 = .ok (.tuple #[.map none, .bool false]) w4 := by rw [ixVal2 hI4 hs4 vv hv, hcn]; rfl
        obtain ⟨w5, w6, r5, l6, r6, hI6, hU6⟩ := hI4.valStep (by have := hU4.size; have := HN.out; omega) hs4 vv hv hcn hcf (by omega) id y hid
        have hK6 : Kept w4 w6 := Kept.upd hU6 hI4
        have hx6 := hK6 _ _ _ _ hx4
        have hy6 := hK6 _ _ _ _ hy4
        have hc00 : c0 = 0 := by
          rw [← HZ.out]
          have := HL1.out.cf kk.data.toList vv.data.toList id
          rw [hcf] at this
          exact nz_none.1 this.symm
        subst hc00
        have hP6 := HL1.out.pend (vb' := vbSet vb' kk.data.toList w2.heap.size) (cb' := cbSet cb' kk.data.toList vv.data.toList w4.heap.size) kk.data.toList vv.data.toList id y (fun k' hk' => by unfold vbSet; rw [if_neg hk']) (by rw [hs4]; simp) (fun k' v' hk' => by unfold cbSet; rw [if_neg hk']) (by unfold cbSet; rw [if_pos ⟨rfl, rfl⟩]; simp)
        rw [HZ.out, Int.zero_add] at hP6
        have hUw6 : Upd (fun b => Own kb vb cb b ∨ w.heap.size ≤ b) w w6 := hU4.trans (hU6.wide fun b hb => by
          rcases hb with h | h
          · exact hO4 b h
          · right; have := hU4.size; omega)
        have hOw6 : ∀ b, Own kb (vbSet vb' kk.data.toList w2.heap.size) (cbSet cb' kk.data.toList vv.data.toList w4.heap.size) b → Own kb vb cb b ∨ w.heap.size ≤ b := fun b hb => by
          rcases hb.cbSet with h | h
          · exact hO4 b h
          · right; rw [h]; exact hU4.size
        have e6 : w6.cell? ⟨wr.heap.size, 0, none⟩ = some (.string kk) := by simp [World.cell?, hy6]
        have e6' : w6.cell? ⟨wr.heap.size, 1, none⟩ = some (.string vv) := by simp [World.cell?, hy6]
        have HI6 := Lib.hid hI6
        have HP6 := Lib.hid hP6
        have HX6 := Lib.hid hx6
        have HU6 := Lib.hid hUw6
        have HO6 := Lib.hid hOw6
        have lm3 : (Instr.makeMap 82 none).run Tryz.prog w2 = .ok (.map (some s)) w3 := by rw [← hw3, ← hs0]; rfl
        obtain ⟨w45, hw45⟩ : ∃ w45, w4.alloc (.map #[] 0) = w45 := ⟨_, rfl⟩
        have lm5 : (Instr.makeMap 84 none).run Tryz.prog w4 = .ok (.map (some w4.heap.size)) w45 := by rw [← hw45]; rfl
        rw [hw45] at r5
        have y45 : w45.cell? ⟨wr.heap.size, 1, none⟩ = some (.string vv) := by
          have : w45.heap[wr.heap.size]? = some (.cells #[.string kk, .string vv] 57 (0, 0)) := by rw [← hw45]; exact (Below.heap_alloc _ _ _ (Array.getElem?_eq_some_iff.1 hy4).1).trans hy4
          simp [World.cell?, this]
        have HW3 := Lib.hid hw3
        rw [hs0] at hup4
        clear hw3 hw45 hI2 hx2 hy2 hU2 hNw hI4 hg4 hz4 hx3 hy3 hI3d hx4 hy4 hU4 hO4 hcn hcf hI6 hU6 hK6 hx6 hy6 hP6 hUw6 hOw6 hsz hs4 hs0
        go_wp2_with fail
        go_region_held3 (fun W' => W'.cell? ⟨xb, 0, none⟩ = some (.map (some kb)) ∧ W'.cell? ⟨wr.heap.size, 0, none⟩ = some (.string kk)) (first | exact P3 | exact P4) (fail)
        all_goals
          go_wp2_with fail
          refine (tidy_any xb kb sb N _ _ _ _ _ kk vv id _ HX6.out HI6.out HP6.out hk hv hid).mono ?_
          rintro e w7 ⟨rfl, hT⟩
          have hA := addPost_step (m := n + 3 * (j + 1)) (by omega) HU6.out HO6.out hT
          rw [← HTK.out] at hA
          have HA := Lib.hid hA
          clear hT hA HI6 HP6 HX6 HU6 HO6
          go_wp2_with fail
          exact ⟨⟨j + 1, by go_num, by omega, HA⟩, by simp [iOf]; omega⟩
      · obtain ⟨s, hvk⟩ : ∃ s, vb' kk.data.toList = some s := by cases e : vb' kk.data.toList with | none => exact absurd e hvk | some s => exact ⟨s, rfl⟩
        rw [hvk] at l1
        have HVK := Lib.hid hvk
        clear hvk
        go_wp2_with fail
        try rw [HW1.out]
        go_quiet (fail)
        obtain ⟨w4, hw4⟩ : ∃ w4, w1.drewN nq = w4 := ⟨_, rfl⟩
        have hI4 : Ix tys w4 N kb vb' cb' cf' (n + 3 * j) := hw4 ▸ HI1.out.drewN nq
        have hx4 : w4.heap[xb]? = some (.cells #[.map (some kb), .map (some sb)] 75 (0, 0)) := hw4 ▸ HX1.out
        have hy4 : w4.heap[wr.heap.size]? = some (.cells #[.string kk, .string vv] 57 (0, 0)) := hw4 ▸ HE.out
        have hU4 : Upd (fun b => Own kb vb cb b ∨ w.heap.size ≤ b) w w4 := hw4 ▸ HU1.out.below (below_dn (Below.refl _ _) nq)
        rw [hw4]
        clear hw4 x0 y0 y1 l1 HI1 HX1 HU1 HE HW1
        have y4 : w4.cell? ⟨wr.heap.size, 1, none⟩ = some (.string vv) := by simp [World.cell?, hy4]
        by_cases hcn : cb' kk.data.toList vv.data.toList = none
        · have hcf : ∀ i, cf' kk.data.toList vv.data.toList i = none := HL1.out.no hcn
          have l7 : (Instr.lookup 82 (.map (some s)) (.string vv) true).run Tryz.prog w4 = .ok (.tuple #[.map none, .bool false]) w4 := by rw [ixVal2 hI4 HVK.out vv hv, hcn]; rfl
          obtain ⟨w5, w6, r5, l6, r6, hI6, hU6⟩ := hI4.valStep (by have := hU4.size; have := HN.out; omega) HVK.out vv hv hcn hcf (by omega) id y hid
          have hK6 : Kept w4 w6 := Kept.upd hU6 hI4
          have hx6 := hK6 _ _ _ _ hx4
          have hy6 := hK6 _ _ _ _ hy4
          have hc00 : c0 = 0 := by
            rw [← HZ.out]
            have := HL1.out.cf kk.data.toList vv.data.toList id
            rw [hcf] at this
            exact nz_none.1 this.symm
          subst hc00
          have hP6 := HL1.out.pend (vb' := vb') (cb' := cbSet cb' kk.data.toList vv.data.toList w4.heap.size) kk.data.toList vv.data.toList id y (fun k' _ => rfl) (by rw [HVK.out]; simp) (fun k' v' hk' => by unfold cbSet; rw [if_neg hk']) (by unfold cbSet; rw [if_pos ⟨rfl, rfl⟩]; simp)
          rw [HZ.out, Int.zero_add] at hP6
          have hUw6 : Upd (fun b => Own kb vb cb b ∨ w.heap.size ≤ b) w w6 := hU4.trans (hU6.wide fun b hb => by
            rcases hb with h | h
            · exact HO1.out b h
            · right; have := hU4.size; omega)
          have hOw6 : ∀ b, Own kb vb' (cbSet cb' kk.data.toList vv.data.toList w4.heap.size) b → Own kb vb cb b ∨ w.heap.size ≤ b := fun b hb => by
            rcases hb.cbSet with h | h
            · exact HO1.out b h
            · right; rw [h]; exact hU4.size
          have e6 : w6.cell? ⟨wr.heap.size, 0, none⟩ = some (.string kk) := by simp [World.cell?, hy6]
          have e6' : w6.cell? ⟨wr.heap.size, 1, none⟩ = some (.string vv) := by simp [World.cell?, hy6]
          have HI6 := Lib.hid hI6
          have HP6 := Lib.hid hP6
          have HX6 := Lib.hid hx6
          have HU6 := Lib.hid hUw6
          have HO6 := Lib.hid hOw6
          obtain ⟨w45, hw45⟩ : ∃ w45, w4.alloc (.map #[] 0) = w45 := ⟨_, rfl⟩
          have lm5 : (Instr.makeMap 84 none).run Tryz.prog w4 = .ok (.map (some w4.heap.size)) w45 := by rw [← hw45]; rfl
          rw [hw45] at r5
          have y45 : w45.cell? ⟨wr.heap.size, 1, none⟩ = some (.string vv) := by
            have : w45.heap[wr.heap.size]? = some (.cells #[.string kk, .string vv] 57 (0, 0)) := by rw [← hw45]; exact (Below.heap_alloc _ _ _ (Array.getElem?_eq_some_iff.1 hy4).1).trans hy4
            simp [World.cell?, this]
          clear hw45 hI4 hx4 hy4 hU4 hcn hcf hI6 hU6 hK6 hx6 hy6 hP6 hUw6 hOw6
          go_wp2_with fail
          refine (tidy_any xb kb sb N _ _ _ _ _ kk vv id _ HX6.out HI6.out HP6.out hk hv hid).mono ?_
          rintro e w7 ⟨rfl, hT⟩
          have hA := addPost_step (m := n + 3 * (j + 1)) (by omega) HU6.out HO6.out hT
          rw [← HTK.out] at hA
          have HA := Lib.hid hA
          clear hT hA HI6 HP6 HX6 HU6 HO6
          go_wp2_with fail
          exact ⟨⟨j + 1, by go_num, by omega, HA⟩, by simp [iOf]; omega⟩
        · obtain ⟨r, hcn⟩ : ∃ r, cb' kk.data.toList vv.data.toList = some r := by cases e : cb' kk.data.toList vv.data.toList with | none => exact absurd e hcn | some s => exact ⟨s, rfl⟩
          have l7 : (Instr.lookup 82 (.map (some s)) (.string vv) true).run Tryz.prog w4 = .ok (.tuple #[.map (some r), .bool true]) w4 := by rw [ixVal2 hI4 HVK.out vv hv, hcn]; rfl
          have l6 : (Instr.lookup 84 (.map (some r)) (.int .i64 id) false).run Tryz.prog w4 = .ok (.int .i64 c0) w4 := by
            rw [ixCnt hI4 hcn id hid, HL1.out.cf, HZ.out]
            congr 2
            unfold nz
            split
            · rename_i h; exact h.symm
            · rfl
          obtain ⟨w6, r6, hI6, hg6, hz6⟩ := hI4.setCnt hcn id (c0 + y) hid (by omega)
          have hI6' : Ix tys w6 N kb vb' cb' (cfSet cf' kk.data.toList vv.data.toList id (c0 + y)) (n + 3 * j + 1) := hI6
          have hx6 := hI4.cells (.inr (.inr ⟨_, _, hcn⟩)) hg6 hx4
          have hy6 := hI4.cells (.inr (.inr ⟨_, _, hcn⟩)) hg6 hy4
          have hP6 := HL1.out.pend (vb' := vb') (cb' := cb') kk.data.toList vv.data.toList id y (fun k' _ => rfl) (by rw [HVK.out]; simp) (fun k' v' _ => rfl) (by rw [hcn]; simp)
          rw [HZ.out] at hP6
          have hUw6 : Upd (fun b => Own kb vb cb b ∨ w.heap.size ≤ b) w w6 := hU4.grown hg6 (HO1.out _ (.inr (.inr ⟨_, _, hcn⟩)))
          have e6 : w6.cell? ⟨wr.heap.size, 0, none⟩ = some (.string kk) := by simp [World.cell?, hy6]
          have e6' : w6.cell? ⟨wr.heap.size, 1, none⟩ = some (.string vv) := by simp [World.cell?, hy6]
          have HI6 := Lib.hid hI6'
          have HP6 := Lib.hid hP6
          have HX6 := Lib.hid hx6
          have HU6 := Lib.hid hUw6
          clear hI4 hx4 hy4 hU4 hcn hI6 hI6' hx6 hy6 hP6 hUw6 hg6
          go_wp2_with fail
          refine (tidy_any xb kb sb N _ _ _ _ _ kk vv id _ HX6.out HI6.out HP6.out hk hv hid).mono ?_
          rintro e w7 ⟨rfl, hT⟩
          have hA := addPost_step (m := n + 3 * (j + 1)) (by omega) HU6.out HO1.out hT
          rw [← HTK.out] at hA
          have HA := Lib.hid hA
          clear hT hA HI6 HP6 HX6 HU6
          go_wp2_with fail
          exact ⟨⟨j + 1, by go_num, by omega, HA⟩, by simp [iOf]; omega⟩
    · obtain rfl : j = fs.length := by omega
      go_wp2_with fail
      go_end0
      rw [List.take_length] at hpost
      exact ⟨rfl, hpost.out⟩
end Go.Proofs.YtklbbcemacpimaaGreatDoor.I
