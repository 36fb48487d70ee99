/- index.tidy, walked. -/
import Derived.Test.YtklbbcemacpimaaGreatDoorILive
import Derived.Test.YtklbbcemacpimaaGreatDoorProg
import Derived.Handy
import Derived.Lib.Hide
import Derived.Deep.QuietTactic
import Derived.BigQuiet
import Derived.Outline
import Derived.BigRegion
import Derived.Deep.RegionLaw
import Derived.Deep.AppendLies
import Derived.Deep.RegionHeld3
namespace Go.Proofs.YtklbbcemacpimaaGreatDoor.I
open Go Go.Maps Go.Proofs Go.RowKit

theorem below_grow1 (w : World) (o : Obj) : Below w.heap.size w (w.alloc o) := (Below.refl _ _).alloc (Nat.le_refl _) _
theorem below_dn {B : Nat} {a w : World} (h : Below B a w) (n : Nat) : Below B a (w.drewN n) := h.trans ⟨rfl, rfl, rfl, Nat.le_refl _, fun _ _ => rfl⟩
@[reducible] def tys : Tys Tryz.prog where
  ts := 9
  ti := 3
  tK := 72
  tV := 82
  tC := 84
  hs := Tryz.underlying9
  hi := Tryz.underlying3
  hK := Tryz.underlying72
  hV := Tryz.underlying82
  hC := Tryz.underlying84
  zV := fun w => by kernel_rfl
  zC := fun w => by kernel_rfl
  zI := fun w => by kernel_rfl
/-- Nothing is turned but what is own. -/
structure Upd (own : Nat → Prop) (w w' : World) : Prop where
  os : w'.os = w.os
  tape : w'.tape = w.tape
  output : w'.output = w.output
  size : w.heap.size ≤ w'.heap.size
  block : ∀ b, b < w.heap.size → ¬ own b → w'.heap[b]? = w.heap[b]?
theorem Upd.refl (own : Nat → Prop) (w : World) : Upd own w w := ⟨rfl, rfl, rfl, Nat.le_refl _, fun _ _ _ => rfl⟩
theorem Upd.trans {own : Nat → Prop} {w w' w2 : World} (h : Upd own w w') (k : Upd own w' w2) : Upd own w w2 :=
  ⟨k.os.trans h.os, k.tape.trans h.tape, k.output.trans h.output, Nat.le_trans h.size k.size, fun b h1 h2 => (k.block b (Nat.lt_of_lt_of_le h1 h.size) h2).trans (h.block b h1 h2)⟩
theorem Upd.below {own : Nat → Prop} {w w' w2 : World} (h : Upd own w w') (hb : Below w'.heap.size w' w2) : Upd own w w2 :=
  h.trans ⟨hb.os, hb.tape, hb.output, hb.size, fun b h1 _ => hb.block b h1⟩
theorem Upd.grown {own : Nat → Prop} {w w' w2 : World} {r : Nat} (h : Upd own w w') (hg : w'.grownBy w2 (some r)) (hr : own r) : Upd own w w2 :=
  h.trans ⟨hg.os, hg.tape, hg.output, hg.size, fun b h1 h2 => hg.block b h1 (fun e => h2 (by injection e with e; rw [e]; exact hr))⟩
def Own (kb : Nat) (vb : Vb) (cb : Cb) (b : Nat) : Prop := b = kb ∨ (∃ k, vb k = some b) ∨ ∃ k v, cb k v = some b
theorem Ix.drewN {w : World} {N kb n : Nat} {vb : Vb} {cb : Cb} {cf : Cf} (h : Ix tys w N kb vb cb cf n) (m : Nat) : Ix tys (w.drewN m) N kb vb cb cf n := h.keep fun _ _ _ => rfl
theorem ixKey {w : World} {N kb n : Nat} {vb : Vb} {cb : Cb} {cf : Cf} (h : Ix tys w N kb vb cb cf n) (k : ByteArray) (hk : k.size ≤ maxLen) : (Instr.lookup 72 (.map (some kb)) (.string k) false).run Tryz.prog w = .ok (.map (vb k.data.toList)) w := by
  have := h.keys.look (string_keyed tys.hs) tys.hK none (tys.zV w) (keyS tys k hk)
  rw [this]
  cases vb k.data.toList <;> rfl
theorem ixVal {w : World} {N kb n : Nat} {vb : Vb} {cb : Cb} {cf : Cf} (h : Ix tys w N kb vb cb cf n) {k : L8} {s : Nat} (hs : vb k = some s) (v : ByteArray) (hv : v.size ≤ maxLen) : (Instr.lookup 82 (.map (some s)) (.string v) false).run Tryz.prog w = .ok (.map (cb k v.data.toList)) w := by
  have := (h.vals k s hs).look (string_keyed tys.hs) tys.hV none (tys.zC w) (keyS tys v hv)
  rw [this]
  cases cb k v.data.toList <;> rfl
theorem ixCnt {w : World} {N kb n : Nat} {vb : Vb} {cb : Cb} {cf : Cf} (h : Ix tys w N kb vb cb cf n) {k v : L8} {r : Nat} (hr : cb k v = some r) (i : Int) (hi : (Lit.int .i64 i).wf = true) : (Instr.lookup 84 (.map (some r)) (.int .i64 i) false).run Tryz.prog w = .ok (.int .i64 ((cf k v i).getD 0)) w :=
  (h.cnts k v r hr).look (int_keyed tys.hi) tys.hC 0 (tys.zI w) (keyN tys i hi)
theorem ixLenC {w : World} {N kb n : Nat} {vb : Vb} {cb : Cb} {cf : Cf} (h : Ix tys w N kb vb cb cf n) {k v : L8} {r : Nat} (hr : cb k v = some r) : ∃ m : Nat, m ≤ n ∧ (m = 0 ↔ ∀ i, cf k v i = none) ∧ ∀ ty, (Builtin.len_ #[84] ty #[.map (some r)]).run Tryz.prog w = .ok (.int .i64 m) w :=
  (h.cnts k v r hr).len0 (mkN_all tys.hi) mkN_same tys.hC
theorem ixLenV {w : World} {N kb n : Nat} {vb : Vb} {cb : Cb} {cf : Cf} (h : Ix tys w N kb vb cb cf n) {k : L8} {s : Nat} (hs : vb k = some s) : ∃ m : Nat, m ≤ n ∧ (m = 0 ↔ ∀ v, cb k v = none) ∧ ∀ ty, (Builtin.len_ #[82] ty #[.map (some s)]).run Tryz.prog w = .ok (.int .i64 m) w := by
  obtain ⟨m, h1, h2, h3⟩ := (h.vals k s hs).len0 (mkS_all tys.hs) mkS_same tys.hV
  refine ⟨m, h1, h2.trans ?_, h3⟩
  constructor
  · intro e v; have := e v; cases hc : cb k v with
    | none => rfl
    | some r => rw [hc] at this; cases this
  · intro e v; rw [e v]; rfl
theorem MF.isMap {α κ : Type} {P : Program} {k : TypeId} {E : El α} {mk : κ → Lit} {w : World} {b n : Nat} {f : κ → Option α} (h : MF P k E mk w b n f) : ∃ es clock, w.heap[b]? = some (.map es clock) := let ⟨_, ⟨es, clock, hb, _⟩, _⟩ := h; ⟨es, clock, hb⟩
theorem Ix.isMap {w : World} {N kb n : Nat} {vb : Vb} {cb : Cb} {cf : Cf} (h : Ix tys w N kb vb cb cf n) {b : Nat} (hb : Own kb vb cb b) : ∃ es clock, w.heap[b]? = some (.map es clock) := by
  rcases hb with rfl | ⟨k, hk⟩ | ⟨k, v, hk⟩
  · exact h.keys.isMap
  · exact (h.vals _ _ hk).isMap
  · exact (h.cnts _ _ _ hk).isMap
/-- A block of cells is none of the index's. -/
theorem Ix.cells {w w' : World} {N kb n b r : Nat} {vb : Vb} {cb : Cb} {cf : Cf} {cs : Array Value} {T : TypeId} {f : Nat × Nat} (h : Ix tys w N kb vb cb cf n) (hr : Own kb vb cb r) (hg : w.grownBy w' (some r)) (hb : w.heap[b]? = some (.cells cs T f)) : w'.heap[b]? = some (.cells cs T f) := by
  refine (hg.block b (Array.getElem?_eq_some_iff.1 hb).1 (fun e => ?_)).trans hb
  injection e with e
  obtain ⟨es, clock, hm⟩ := h.isMap hr
  rw [← e, hb] at hm
  cases hm
/-- What tidy leaves. -/
def TidyPost (N kb n : Nat) (C : Cn) (vb : Vb) (cb : Cb) (w w' : World) : Prop :=
  ∃ vb' cb' cf', Ix tys w' N kb vb' cb' cf' n ∧ Live vb' cb' cf' C ∧ Upd (Own kb vb cb) w w' ∧ ∀ b, Own kb vb' cb' b → Own kb vb cb b
set_option maxRecDepth 100000 in
set_option maxHeartbeats 3200000 in
theorem tidy_any (xb kb sb N n : Nat) (vb : Vb) (cb : Cb) (cf : Cf) (C : Cn) (k v : ByteArray) (id : Int) (w : World) (hx : w.heap[xb]? = some (.cells #[.map (some kb), .map (some sb)] 75 (0, 0))) (hI : Ix tys w N kb vb cb cf n) (hP : Pend vb cb cf C k.data.toList v.data.toList id) (hk : k.size ≤ maxLen) (hv : v.size ≤ maxLen) (hid : (Lit.int .i64 id).wf = true) :
    Calls Tryz.prog 46 #[.pointer (some ⟨xb, 0, none⟩), .agg #[.string k, .string v], .int .i64 id] w fun e w' => e = .returned (.tuple #[]) ∧ TidyPost N kb n C vb cb w w' := by
  obtain ⟨s, hs⟩ : ∃ s, vb k.data.toList = some s := by cases e : vb k.data.toList with | none => exact absurd e hP.vb2 | some s => exact ⟨s, rfl⟩
  obtain ⟨r, hr⟩ : ∃ r, cb k.data.toList v.data.toList = some r := by cases e : cb k.data.toList v.data.toList with | none => exact absurd e hP.cb2 | some s => exact ⟨s, rfl⟩
  obtain ⟨w1, hw1⟩ : ∃ w1, w.alloc (.cells #[.string k, .string v] 57) = w1 := ⟨_, rfl⟩
  have hE : w1.heap[w.heap.size]? = some (.cells #[.string k, .string v] 57 (0, 0)) := by rw [← hw1]; exact heap_alloc_new w _
  have hI1 : Ix tys w1 N kb vb cb cf n := by rw [← hw1]; exact hI.alloc _
  have hx1 : w1.heap[xb]? = some (.cells #[.map (some kb), .map (some sb)] 75 (0, 0)) := by rw [← hw1]; exact (Below.heap_alloc _ _ _ (Array.getElem?_eq_some_iff.1 hx).1).trans hx
  have hU1 : Upd (Own kb vb cb) w w1 := by rw [← hw1]; exact (Upd.refl _ _).below (below_grow1 w _)
  have x0 : w1.cell? ⟨xb, 0, none⟩ = some (.map (some kb)) := by simp [World.cell?, hx1]
  have x1 : w1.cell? ⟨xb, 1, none⟩ = some (.map (some sb)) := by simp [World.cell?, hx1]
  have y0 : w1.cell? ⟨w.heap.size, 0, none⟩ = some (.string k) := by simp [World.cell?, hE]
  have y1 : w1.cell? ⟨w.heap.size, 1, none⟩ = some (.string v) := by simp [World.cell?, hE]
  have l1 : ∀ m, (Instr.lookup 72 (.map (some kb)) (.string k) false).run Tryz.prog (w1.drewN m) = .ok (.map (some s)) (w1.drewN m) := fun m => by rw [ixKey (hI1.drewN m) k hk, hs]
  have HI1 := Lib.hid hI1
  have HU1 := Lib.hid hU1
  have HW1 := Lib.hid hw1
  have HX1 := Lib.hid hx1
  have HE := Lib.hid hE
  have HP := Lib.hid hP
  have HS := Lib.hid hs
  have HR := Lib.hid hr
  clear hx hI hP hI1 hU1 hw1 hE hx1 hs hr
  go_enter Tryz.func46, Tryz.ntmps46
  go_wp2_with fail
  try rw [HW1.out]
  go_quiet (fail)
  obtain ⟨w2, hw2⟩ : ∃ w2, w1.drewN nq = w2 := ⟨_, rfl⟩
  have hI2 : Ix tys w2 N kb vb cb cf n := hw2 ▸ HI1.out.drewN nq
  have hx2 : w2.heap[xb]? = some (.cells #[.map (some kb), .map (some sb)] 75 (0, 0)) := hw2 ▸ HX1.out
  have hy2 : w2.heap[w.heap.size]? = some (.cells #[.string k, .string v] 57 (0, 0)) := hw2 ▸ HE.out
  have hU2 : Upd (Own kb vb cb) w w2 := hw2 ▸ HU1.out.below (below_dn (Below.refl _ _) nq)
  rw [hw2]
  clear hw2 x0 x1 y0 y1 l1 HI1 HX1 HU1 HE HW1
  have y1 : w2.cell? ⟨w.heap.size, 1, none⟩ = some (.string v) := by simp [World.cell?, hy2]
  have l2 : (Instr.lookup 82 (.map (some s)) (.string v) false).run Tryz.prog w2 = .ok (.map (some r)) w2 := by rw [ixVal hI2 HS.out v hv, HR.out]
  have l3 : (Instr.lookup 84 (.map (some r)) (.int .i64 id) false).run Tryz.prog w2 = .ok (.int .i64 (C k.data.toList v.data.toList id)) w2 := by rw [ixCnt hI2 HR.out id hid, HP.out.cf2]; rfl
  have OR : Own kb vb cb r := .inr (.inr ⟨_, _, HR.out⟩)
  have OS : Own kb vb cb s := .inr (.inl ⟨_, HS.out⟩)
  obtain ⟨c, hc⟩ : ∃ c, C k.data.toList v.data.toList id = c := ⟨_, rfl⟩
  rw [hc] at l3
  have HC := Lib.hid hc
  clear hc
  by_cases h0 : c = 0
  · subst h0
    obtain ⟨w3, hdel, hI3, hg3, hz3⟩ := hI2.delCnt HR.out id hid
    have hI3' : Ix tys w3 N kb vb cb (cfDel cf k.data.toList v.data.toList id) n := hI3
    have hx3 := hI2.cells OR hg3 hx2
    have hy3 := hI2.cells OR hg3 hy2
    have hU3 := hU2.grown hg3 OR
    have y3 : w3.cell? ⟨w.heap.size, 1, none⟩ = some (.string v) := by simp [World.cell?, hy3]
    have l4 : (Instr.lookup 82 (.map (some s)) (.string v) false).run Tryz.prog w3 = .ok (.map (some r)) w3 := by rw [ixVal hI3' HS.out v hv, HR.out]
    obtain ⟨m3, -, hm3, hlen3⟩ := ixLenC hI3' HR.out
    have HM3 := Lib.hid (hm3.trans (HP.out.empty1 HC.out))
    have HI3 := Lib.hid hI3'
    have HU3 := Lib.hid hU3
    have HX3 := Lib.hid hx3
    have HY3 := Lib.hid hy3
    by_cases h1 : ∀ i, C k.data.toList v.data.toList i = 0
    · have hmz : ((m3 : Int) == 0) = true := by rw [HM3.out.2 h1]; rfl
      obtain ⟨w4, hdel2, hI4, hg4, hz4⟩ := hI3'.delVal HS.out v hv
      have hI4' : Ix tys w4 N kb vb (cbDel cb k.data.toList v.data.toList) (cfDel cf k.data.toList v.data.toList id) n := hI4
      have hx4 := hI3'.cells OS hg4 hx3
      have hy4 := hI3'.cells OS hg4 hy3
      have hU4 := hU3.grown hg4 OS
      obtain ⟨m4, -, hm4, hlen4⟩ := ixLenV hI4' HS.out
      have HM4 := Lib.hid (hm4.trans (HP.out.empty2 h1))
      have HI4 := Lib.hid hI4'
      have HU4 := Lib.hid hU4
      have SUB : Hid (∀ b, Own kb vb (cbDel cb k.data.toList v.data.toList) b → Own kb vb cb b) := Lib.hid fun b hb => by
        rcases hb with hb | hb | ⟨k', v', hb⟩
        · exact .inl hb
        · exact .inr (.inl hb)
        · unfold cbDel at hb
          split at hb
          · cases hb
          · exact .inr (.inr ⟨k', v', hb⟩)
      by_cases h2 : ∀ v' i, C k.data.toList v' i = 0
      · have hmz4 : ((m4 : Int) == 0) = true := by rw [HM4.out.2 h2]; rfl
        have hnone : ∀ v', cbDel cb k.data.toList v.data.toList k.data.toList v' = none := (HP.out.empty2 h1).2 h2
        have OK : Own kb vb cb kb := .inl rfl
        obtain ⟨w5, hdel3, hI5, hg5, hz5⟩ := (hI4'.keep (w' := w4.drew) fun _ _ _ => rfl).delKey k hk hnone
        have hI5' : Ix tys w5 N kb (vbDel vb k.data.toList) (cbDel cb k.data.toList v.data.toList) (cfDel cf k.data.toList v.data.toList id) n := hI5
        have x4 : w4.cell? ⟨xb, 0, none⟩ = some (.map (some kb)) := by simp [World.cell?, hx4]
        have y4 : w4.cell? ⟨w.heap.size, 0, none⟩ = some (.string k) := by simp [World.cell?, hy4]
        have hI4d : Ix tys w4.drew N kb vb (cbDel cb k.data.toList v.data.toList) (cfDel cf k.data.toList v.data.toList id) n := hI4'.keep fun _ _ _ => rfl
        have OK' : Own kb vb (cbDel cb k.data.toList v.data.toList) kb := .inl rfl
        have hx5 := hI4d.cells OK' hg5 (b := xb) (show w4.drew.heap[xb]? = _ from hx4)
        have hy5 := hI4d.cells OK' hg5 (b := w.heap.size) (show w4.drew.heap[w.heap.size]? = _ from hy4)
        have x5 : w5.cell? ⟨xb, 0, none⟩ = some (.map (some kb)) := by simp [World.cell?, hx5]
        have y5 : w5.cell? ⟨w.heap.size, 0, none⟩ = some (.string k) := by simp [World.cell?, hy5]
        have P4 := And.intro x4 y4
        have P5 := And.intro x5 y5
        have FIN : Hid (TidyPost N kb n C vb cb w w5) := Lib.hid ⟨_, _, _, hI5', HP.out.gone h2, (hU4.below (Below.refl _ _).drew).grown hg5 OK, fun b hb => SUB.out b (by
          rcases hb with hb | ⟨k', hb⟩ | hb
          · exact .inl hb
          · unfold vbDel at hb
            split at hb
            · cases hb
            · exact .inr (.inl ⟨k', hb⟩)
          · exact .inr (.inr hb))⟩
        clear hI2 hI3 hI3' hI4 hI4' hI5 hI5' hg3 hg4 hg5 hz3 hz4 hz5 hU2 hU3 hU4 hx2 hx3 hx4 hy2 hy3 hy4 hm3 hm4 HM3 HM4 HP h1 h2 hnone OK OR OS HX3 HY3 hI4d OK' hx5 hy5
        go_wp2_with fail
        go_region_held3 (fun W' => W'.cell? ⟨xb, 0, none⟩ = some (.map (some kb)) ∧ W'.cell? ⟨w.heap.size, 0, none⟩ = some (.string k)) (first | exact P4 | exact P5) (fail)
        all_goals
          go_wp2_with fail
          go_end0
          exact ⟨rfl, FIN.out⟩
      · have hmz4 : ((m4 : Int) == 0) = false := by rw [beq_eq_false_iff_ne]; intro e; exact h2 (HM4.out.1 (by omega))
        have FIN : Hid (TidyPost N kb n C vb cb w w4) := Lib.hid ⟨_, _, _, hI4', HP.out.keepKey h1 h2, hU4, SUB.out⟩
        clear hI2 hI3 hI3' hI4 hI4' hg3 hg4 hz3 hz4 hU2 hU3 hU4 hx2 hx3 hx4 hy2 hy3 hy4 hm3 hm4 HM3 HM4 HP h1 h2 OR OS HX3 HY3
        go_wp2_with fail
        go_end0
        exact ⟨rfl, FIN.out⟩
    · have hmz : ((m3 : Int) == 0) = false := by rw [beq_eq_false_iff_ne]; intro e; exact h1 (HM3.out.1 (by omega))
      obtain ⟨m4, -, hm4, hlen4⟩ := ixLenV hI3' HS.out
      have hmz4 : ((m4 : Int) == 0) = false := by rw [beq_eq_false_iff_ne]; intro e; have := hm4.1 (by omega) v.data.toList; rw [HR.out] at this; cases this
      have FIN : Hid (TidyPost N kb n C vb cb w w3) := Lib.hid ⟨_, _, _, hI3', HP.out.keepVal HC.out h1, hU3, fun _ h => h⟩
      clear hI2 hI3 hI3' hg3 hz3 hU2 hU3 hx2 hx3 hy2 hy3 hm3 hm4 HM3 HP h1 OR OS HX3 HY3
      go_wp2_with fail
      go_end0
      exact ⟨rfl, FIN.out⟩
  · have hc0 : (c == 0) = false := by rw [beq_eq_false_iff_ne]; exact h0
    obtain ⟨m3, -, hm3, hlen3⟩ := ixLenC hI2 HR.out
    have hmz : ((m3 : Int) == 0) = false := by rw [beq_eq_false_iff_ne]; intro e; have := hm3.1 (by omega) id; rw [HP.out.cf2] at this; cases this
    obtain ⟨m4, -, hm4, hlen4⟩ := ixLenV hI2 HS.out
    have hmz4 : ((m4 : Int) == 0) = false := by rw [beq_eq_false_iff_ne]; intro e; have := hm4.1 (by omega) v.data.toList; rw [HR.out] at this; cases this
    have FIN : Hid (TidyPost N kb n C vb cb w w2) := Lib.hid ⟨_, _, _, hI2, HP.out.some (by rw [HC.out]; exact h0), hU2, fun _ h => h⟩
    clear hI2 hU2 hx2 hy2 hm3 hm4 HP h0 OR OS
    go_wp2_with fail
    go_end0
    exact ⟨rfl, FIN.out⟩
end Go.Proofs.YtklbbcemacpimaaGreatDoor.I
