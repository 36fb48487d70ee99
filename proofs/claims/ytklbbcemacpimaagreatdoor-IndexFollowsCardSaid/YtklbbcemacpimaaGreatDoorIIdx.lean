/- The index in memory: maps of maps of maps. -/
import Derived.Test.YtklbbcemacpimaaGreatDoorILaw
namespace Go.Proofs.YtklbbcemacpimaaGreatDoor.I
open Go Go.Maps Go.Proofs Go.RowKit

/-- The types of the index's maps. -/
structure Tys (P : Program) where
  ts : TypeId
  ti : TypeId
  tK : TypeId
  tV : TypeId
  tC : TypeId
  hs : P.underlying ts = some .string
  hi : P.underlying ti = some (.int .i64)
  hK : P.underlying tK = some (.map ts tV)
  hV : P.underlying tV = some (.map ts tC)
  hC : P.underlying tC = some (.map ti ti)
  zV : ∀ w, (zeroValue tV).run P w = .ok (.map none) w
  zC : ∀ w, (zeroValue tC).run P w = .ok (.map none) w
  zI : ∀ w, (zeroValue ti).run P w = .ok (.int .i64 0) w
section
variable {P : Program} (Y : Tys P)
abbrev KMap (w : World) (b n : Nat) (f : L8 → Option Nat) : Prop := MF P Y.ts ptrEl mkS w b n (fun k => (f k).map some)
abbrev CMap (w : World) (b n : Nat) (f : Int → Option Int) : Prop := MF P Y.ti numEl mkN w b n f
/-- The maps of an index: of keys, of values, of counts. -/
structure Ix (w : World) (N kb : Nat) (vb : L8 → Option Nat) (cb : L8 → L8 → Option Nat) (cf : L8 → L8 → Int → Option Int) (n : Nat) : Prop where
  keys : KMap Y w kb n vb
  vals : ∀ k r, vb k = some r → KMap Y w r n (cb k)
  cnts : ∀ k v r, cb k v = some r → CMap Y w r n (cf k v)
  kN : N ≤ kb
  vN : ∀ k r, vb k = some r → N ≤ r ∧ r ≠ kb
  cN : ∀ k v r, cb k v = some r → N ≤ r ∧ r ≠ kb
  vinj : ∀ k k' r, vb k = some r → vb k' = some r → k = k'
  cinj : ∀ k v k' v' r, cb k v = some r → cb k' v' = some r → k = k' ∧ v = v'
  apart : ∀ k r k' v', vb k = some r → cb k' v' ≠ some r
  up : ∀ k v r, cb k v = some r → ∃ s, vb k = some s
variable {Y} {w w' : World} {N kb n : Nat} {vb : L8 → Option Nat} {cb : L8 → L8 → Option Nat} {cf : L8 → L8 → Int → Option Int}
theorem Ix.more (h : Ix Y w N kb vb cb cf n) {m : Nat} (hm : n ≤ m) : Ix Y w N kb vb cb cf m :=
  ⟨h.keys.more hm, fun k r e => (h.vals k r e).more hm, fun k v r e => (h.cnts k v r e).more hm, h.kN, h.vN, h.cN, h.vinj, h.cinj, h.apart, h.up⟩
/-- It lies in its blocks. -/
theorem Ix.keep (h : Ix Y w N kb vb cb cf n) (hb : ∀ k, k < w.heap.size → (k = kb ∨ (∃ x, vb x = some k) ∨ ∃ x y, cb x y = some k) → w'.heap[k]? = w.heap[k]?) : Ix Y w' N kb vb cb cf n :=
  ⟨h.keys.block (hb _ h.keys.lt (.inl rfl)), fun k r e => (h.vals k r e).block (hb _ (h.vals k r e).lt (.inr (.inl ⟨k, e⟩))), fun k v r e => (h.cnts k v r e).block (hb _ (h.cnts k v r e).lt (.inr (.inr ⟨k, v, e⟩))), h.kN, h.vN, h.cN, h.vinj, h.cinj, h.apart, h.up⟩
theorem keyS (Y : Tys P) (s : ByteArray) (hs : s.size ≤ maxLen) : keyOf P Y.ts (.string s) = some (mkS s.data.toList) := WideMaps.keyOf_string_mk Y.hs hs
theorem keyN (Y : Tys P) (i : Int) (hi : (Lit.int .i64 i).wf = true) : keyOf P Y.ti (.int .i64 i) = some (mkN i) := keyOf_int_mk Y.hi hi
/-- 'c[i] = a', in the counts of a key's value. -/
theorem Ix.setCnt (h : Ix Y w N kb vb cb cf n) {k v : L8} {r : Nat} (hr : cb k v = some r) (i a : Int) (hi : (Lit.int .i64 i).wf = true) (hn : n < maxLen) :
    ∃ w', (Instr.mapUpdate Y.tC (.map (some r)) (.int .i64 i) (.int .i64 a)).run P w = .ok () w' ∧ Ix Y w' N kb vb cb (fun k' v' i' => if k' = k ∧ v' = v ∧ i' = i then some a else cf k' v' i') (n + 1) ∧ w.grownBy w' (some r) ∧ w'.heap.size = w.heap.size := by
  obtain ⟨w', hrun, hm, hg, hs⟩ := (h.cnts k v r hr).put (int_keyed Y.hi) Y.hC hn mkN_inj mkN_key (keyN Y i hi) a
  refine ⟨w', hrun, ?_, hg, hs⟩
  have h' := h.more (Nat.le_succ n)
  have oth : ∀ b, b < w.heap.size → b ≠ r → w'.heap[b]? = w.heap[b]? := fun b hb hne => hg.block b hb (fun e => hne (by injection e))
  refine ⟨h'.keys.block (oth _ h.keys.lt (fun e => (h.cN _ _ _ hr).2 e.symm)), fun k' r' e => (h'.vals k' r' e).block (oth _ (h.vals k' r' e).lt (fun e2 => h.apart _ _ _ _ e (e2 ▸ hr))), fun k' v' r' e => ?_, h.kN, h.vN, h.cN, h.vinj, h.cinj, h.apart, h.up⟩
  by_cases hc : k' = k ∧ v' = v
  · obtain ⟨rfl, rfl⟩ := hc
    rw [hr] at e
    injection e with e
    subst e
    exact hm.eq fun x => by
      by_cases hx : x = i
      · rw [if_pos hx, if_pos ⟨rfl, rfl, hx⟩]
      · rw [if_neg hx, if_neg (fun hh => hx hh.2.2)]
  · have hne : r' ≠ r := fun e2 => hc (h.cinj _ _ _ _ _ (e2 ▸ e) hr)
    exact ((h'.cnts k' v' r' e).block (oth _ (h.cnts k' v' r' e).lt hne)).eq fun x => by rw [if_neg (fun hh => hc ⟨hh.1, hh.2.1⟩)]
/-- 'delete(c, i)'. -/
theorem Ix.delCnt (h : Ix Y w N kb vb cb cf n) {k v : L8} {r : Nat} (hr : cb k v = some r) (i : Int) (hi : (Lit.int .i64 i).wf = true) :
    ∃ w', (∀ ty, (Builtin.delete_ #[Y.tC, Y.ti] ty #[.map (some r), .int .i64 i]).run P w = .ok (.tuple #[]) w') ∧ Ix Y w' N kb vb cb (fun k' v' i' => if k' = k ∧ v' = v ∧ i' = i then none else cf k' v' i') n ∧ w.grownBy w' (some r) ∧ w'.heap.size = w.heap.size := by
  obtain ⟨w', hrun, hm, hg, hs⟩ := (h.cnts k v r hr).del (int_keyed Y.hi) Y.hC mkN_inj (keyN Y i hi)
  refine ⟨w', hrun, ?_, hg, hs⟩
  have oth : ∀ b, b < w.heap.size → b ≠ r → w'.heap[b]? = w.heap[b]? := fun b hb hne => hg.block b hb (fun e => hne (by injection e))
  refine ⟨h.keys.block (oth _ h.keys.lt (fun e => (h.cN _ _ _ hr).2 e.symm)), fun k' r' e => (h.vals k' r' e).block (oth _ (h.vals k' r' e).lt (fun e2 => h.apart _ _ _ _ e (e2 ▸ hr))), fun k' v' r' e => ?_, h.kN, h.vN, h.cN, h.vinj, h.cinj, h.apart, h.up⟩
  by_cases hc : k' = k ∧ v' = v
  · obtain ⟨rfl, rfl⟩ := hc
    rw [hr] at e
    injection e with e
    subst e
    exact hm.eq fun x => by
      by_cases hx : x = i
      · rw [if_pos hx, if_pos ⟨rfl, rfl, hx⟩]
      · rw [if_neg hx, if_neg (fun hh => hx hh.2.2)]
  · have hne : r' ≠ r := fun e2 => hc (h.cinj _ _ _ _ _ (e2 ▸ e) hr)
    exact ((h.cnts k' v' r' e).block (oth _ (h.cnts k' v' r' e).lt hne)).eq fun x => by rw [if_neg (fun hh => hc ⟨hh.1, hh.2.1⟩)]
/-- 'delete(v, value)'. -/
theorem Ix.delVal (h : Ix Y w N kb vb cb cf n) {k : L8} {s : Nat} (hs : vb k = some s) (v : ByteArray) (hv : v.size ≤ maxLen) :
    ∃ w', (∀ ty, (Builtin.delete_ #[Y.tV, Y.ts] ty #[.map (some s), .string v]).run P w = .ok (.tuple #[]) w') ∧ Ix Y w' N kb vb (fun k' v' => if k' = k ∧ v' = v.data.toList then none else cb k' v') cf n ∧ w.grownBy w' (some s) ∧ w'.heap.size = w.heap.size := by
  obtain ⟨w', hrun, hm, hg, hz⟩ := (h.vals k s hs).del (string_keyed Y.hs) Y.hV mkS_inj (keyS Y v hv)
  refine ⟨w', hrun, ?_, hg, hz⟩
  have oth : ∀ b, b < w.heap.size → b ≠ s → w'.heap[b]? = w.heap[b]? := fun b hb hne => hg.block b hb (fun e => hne (by injection e))
  have sub : ∀ {k' v' r}, (if k' = k ∧ v' = v.data.toList then none else cb k' v') = some r → cb k' v' = some r := fun {k' v' r} e => by
    split at e
    · cases e
    · exact e
  refine ⟨h.keys.block (oth _ h.keys.lt (fun e => (h.vN _ _ hs).2 e.symm)), fun k' r' e => ?_, fun k' v' r' e => (h.cnts k' v' r' (sub e)).block (oth _ (h.cnts k' v' r' (sub e)).lt (fun e2 => h.apart _ _ _ _ hs (e2 ▸ sub e))), h.kN, h.vN, fun k' v' r e => h.cN _ _ _ (sub e), h.vinj, fun k1 v1 k2 v2 r e1 e2 => h.cinj _ _ _ _ _ (sub e1) (sub e2), fun k1 r k2 v2 e1 e2 => h.apart _ _ _ _ e1 (sub e2), fun k' v' r e => h.up _ _ _ (sub e)⟩
  by_cases hc : k' = k
  · subst hc
    rw [hs] at e
    injection e with e
    subst e
    exact hm.eq fun x => by
      by_cases hx : x = v.data.toList
      · simp [hx]
      · simp [hx]
  · have hne : r' ≠ s := fun e2 => hc (h.vinj _ _ _ (e2 ▸ e) hs)
    exact ((h.vals k' r' e).block (oth _ (h.vals k' r' e).lt hne)).eq fun x => by simp [hc]
/-- 'delete(x.keys, key)': behind it no value of the key is there. -/
theorem Ix.delKey (h : Ix Y w N kb vb cb cf n) (k : ByteArray) (hk : k.size ≤ maxLen) (h0 : ∀ v, cb k.data.toList v = none) :
    ∃ w', (∀ ty, (Builtin.delete_ #[Y.tK, Y.ts] ty #[.map (some kb), .string k]).run P w = .ok (.tuple #[]) w') ∧ Ix Y w' N kb (fun k' => if k' = k.data.toList then none else vb k') cb cf n ∧ w.grownBy w' (some kb) ∧ w'.heap.size = w.heap.size := by
  obtain ⟨w', hrun, hm, hg, hz⟩ := h.keys.del (string_keyed Y.hs) Y.hK mkS_inj (keyS Y k hk)
  refine ⟨w', hrun, ?_, hg, hz⟩
  have oth : ∀ b, b < w.heap.size → b ≠ kb → w'.heap[b]? = w.heap[b]? := fun b hb hne => hg.block b hb (fun e => hne (by injection e))
  have sub : ∀ {k' r}, (if k' = k.data.toList then none else vb k') = some r → vb k' = some r := fun {k' r} e => by
    split at e
    · cases e
    · exact e
  refine ⟨hm.eq fun x => ?_, fun k' r' e => (h.vals k' r' (sub e)).block (oth _ (h.vals k' r' (sub e)).lt (h.vN _ _ (sub e)).2), fun k' v' r' e => (h.cnts k' v' r' e).block (oth _ (h.cnts k' v' r' e).lt (h.cN _ _ _ e).2), h.kN, fun k' r e => h.vN _ _ (sub e), h.cN, fun k1 k2 r e1 e2 => h.vinj _ _ _ (sub e1) (sub e2), h.cinj, fun k1 r k2 v2 e1 => h.apart _ _ _ _ (sub e1), fun k' v' r e => ?_⟩
  · by_cases hx : x = k.data.toList
    · simp [hx]
    · simp [hx]
  · obtain ⟨s, hs⟩ := h.up _ _ _ e
    refine ⟨s, ?_⟩
    rw [if_neg (fun hx => by rw [hx, h0] at e; cases e)]
    exact hs
theorem Ix.alloc (h : Ix Y w N kb vb cb cf n) (o : Obj) : Ix Y (w.alloc o) N kb vb cb cf n := h.keep fun k hk _ => Below.heap_alloc w o k hk
theorem Ix.vlt (h : Ix Y w N kb vb cb cf n) {k : L8} {r : Nat} (e : vb k = some r) : r < w.heap.size := (h.vals k r e).lt
theorem Ix.clt (h : Ix Y w N kb vb cb cf n) {k v : L8} {r : Nat} (e : cb k v = some r) : r < w.heap.size := (h.cnts k v r e).lt
/-- A key that is new: 'v = values{}; x.keys[key] = v'. -/
theorem Ix.newKey (h : Ix Y w N kb vb cb cf n) {r0 : Nat} (hm0 : KMap Y w r0 n (fun _ => none)) (hN : N ≤ r0) (hkb : r0 ≠ kb) (hvb : ∀ x, vb x ≠ some r0) (hcb : ∀ x y, cb x y ≠ some r0) (k : ByteArray) (hk : k.size ≤ maxLen) (h0 : vb k.data.toList = none) (hn : n < maxLen) :
    ∃ w', (Instr.mapUpdate Y.tK (.map (some kb)) (.string k) (.map (some r0))).run P w = .ok () w' ∧ Ix Y w' N kb (fun k' => if k' = k.data.toList then some r0 else vb k') cb cf (n + 1) ∧ w.grownBy w' (some kb) ∧ w'.heap.size = w.heap.size := by
  have h1 := h
  obtain ⟨w', hrun, hm, hg, hz⟩ := h1.keys.put (string_keyed Y.hs) Y.hK hn mkS_inj mkS_key (keyS Y k hk) (some r0)
  refine ⟨w', hrun, ?_, hg, hz⟩
  have hm0 := hm0.more (Nat.le_succ n)
  have h2 := h1.more (Nat.le_succ n)
  have hnone : ∀ v, cb k.data.toList v = none := fun v => by
    cases e : cb k.data.toList v with
    | none => rfl
    | some r => obtain ⟨s, hs⟩ := h.up _ _ _ e; rw [h0] at hs; cases hs
  have oth : ∀ b, b < w.heap.size → b ≠ kb → w'.heap[b]? = w.heap[b]? := fun b hb hne => hg.block b hb (fun e => hne (by injection e))
  have hkl := h.keys.lt
  have cases2 : ∀ {k' r}, (if k' = k.data.toList then some r0 else vb k') = some r → (k' = k.data.toList ∧ r = r0) ∨ (k' ≠ k.data.toList ∧ vb k' = some r) := fun {k' r} e => by
    split at e
    · rename_i hx; injection e with e; exact .inl ⟨hx, e.symm⟩
    · rename_i hx; exact .inr ⟨hx, e⟩
  refine ⟨hm.eq fun x => ?_, fun k' r' e => ?_, fun k' v' r' e => (h2.cnts k' v' r' e).block (oth _ (h1.clt e) (h.cN _ _ _ e).2), h.kN, fun k' r e => ?_, h.cN, fun k1 k2 r e1 e2 => ?_, h.cinj, fun k1 r k2 v2 e1 e2 => ?_, fun k' v' r e => ?_⟩
  · by_cases hx : x = k.data.toList <;> simp [hx]
  · rcases cases2 e with ⟨rfl, rfl⟩ | ⟨hx, e⟩
    · exact (hm0.block (oth _ hm0.lt hkb)).eq fun v => by rw [hnone]; try rfl
    · exact (h2.vals k' r' e).block (oth _ (h1.vlt e) (h.vN _ _ e).2)
  · rcases cases2 e with ⟨rfl, rfl⟩ | ⟨hx, e⟩
    · exact ⟨hN, hkb⟩
    · exact h.vN _ _ e
  · rcases cases2 e1 with ⟨rfl, rfl⟩ | ⟨hx, e1⟩
    · rcases cases2 e2 with ⟨rfl, _⟩ | ⟨_, e2⟩
      · rfl
      · exact absurd e2 (hvb _)
    · rcases cases2 e2 with ⟨_, e3⟩ | ⟨_, e2⟩
      · rw [e3] at e1; exact absurd e1 (hvb _)
      · exact h.vinj _ _ _ e1 e2
  · rcases cases2 e1 with ⟨_, e3⟩ | ⟨_, e1⟩
    · rw [e3] at e2; exact hcb _ _ e2
    · exact h.apart _ _ _ _ e1 e2
  · obtain ⟨s, hs⟩ := h.up _ _ _ e
    refine ⟨s, ?_⟩
    rw [if_neg (fun hx => by rw [hx, hnone] at e; cases e)]
    exact hs
/-- A value that is new: 'c = counts{}; v[value] = c'. -/
theorem Ix.newVal (h : Ix Y w N kb vb cb cf n) {r0 : Nat} (hm0 : CMap Y w r0 n (fun _ => none)) (hN : N ≤ r0) (hkb : r0 ≠ kb) (hvb : ∀ x, vb x ≠ some r0) (hcb : ∀ x y, cb x y ≠ some r0) {k : L8} {s : Nat} (hs : vb k = some s) (v : ByteArray) (hv : v.size ≤ maxLen) (h0 : cb k v.data.toList = none) (hc : ∀ i, cf k v.data.toList i = none) (hn : n < maxLen) :
    ∃ w', (Instr.mapUpdate Y.tV (.map (some s)) (.string v) (.map (some r0))).run P w = .ok () w' ∧ Ix Y w' N kb vb (fun k' v' => if k' = k ∧ v' = v.data.toList then some r0 else cb k' v') cf (n + 1) ∧ w.grownBy w' (some s) ∧ w'.heap.size = w.heap.size := by
  have h1 := h
  obtain ⟨w', hrun, hm, hg, hz⟩ := (h1.vals k s hs).put (string_keyed Y.hs) Y.hV hn mkS_inj mkS_key (keyS Y v hv) (some r0)
  refine ⟨w', hrun, ?_, hg, hz⟩
  have hm0 := hm0.more (Nat.le_succ n)
  have h2 := h1.more (Nat.le_succ n)
  have oth : ∀ b, b < w.heap.size → b ≠ s → w'.heap[b]? = w.heap[b]? := fun b hb hne => hg.block b hb (fun e => hne (by injection e))
  have hkl := h.keys.lt
  have hsl := h.vlt hs
  have cases2 : ∀ {k' v' r}, (if k' = k ∧ v' = v.data.toList then some r0 else cb k' v') = some r → ((k' = k ∧ v' = v.data.toList) ∧ r = r0) ∨ (¬ (k' = k ∧ v' = v.data.toList) ∧ cb k' v' = some r) := fun {k' v' r} e => by
    split at e
    · rename_i hx; injection e with e; exact .inl ⟨hx, e.symm⟩
    · rename_i hx; exact .inr ⟨hx, e⟩
  refine ⟨h2.keys.block (oth _ h1.keys.lt (fun e => (h.vN _ _ hs).2 e.symm)), fun k' r' e => ?_, fun k' v' r' e => ?_, h.kN, h.vN, fun k' v' r e => ?_, h.vinj, fun k1 v1 k2 v2 r e1 e2 => ?_, fun k1 r k2 v2 e1 e2 => ?_, fun k' v' r e => ?_⟩
  · by_cases hx : k' = k
    · subst hx
      rw [hs] at e
      injection e with e
      subst e
      exact hm.eq fun x => by by_cases hx : x = v.data.toList <;> simp [hx]
    · have hne : r' ≠ s := fun e2 => hx (h.vinj _ _ _ (e2 ▸ e) hs)
      exact ((h2.vals k' r' e).block (oth _ (h1.vlt e) hne)).eq fun x => by simp [hx]
  · rcases cases2 e with ⟨⟨rfl, rfl⟩, rfl⟩ | ⟨_, e⟩
    · exact (hm0.block (oth _ hm0.lt (fun e => hvb _ (e ▸ hs)))).eq fun i => (hc i).symm
    · exact (h2.cnts k' v' r' e).block (oth _ (h1.clt e) (fun e2 => h.apart _ _ _ _ hs (e2 ▸ e)))
  · rcases cases2 e with ⟨_, rfl⟩ | ⟨_, e⟩
    · exact ⟨hN, hkb⟩
    · exact h.cN _ _ _ e
  · rcases cases2 e1 with ⟨hx, e3⟩ | ⟨_, e1⟩
    · rcases cases2 e2 with ⟨hy, _⟩ | ⟨_, e2⟩
      · exact ⟨hx.1.trans hy.1.symm, hx.2.trans hy.2.symm⟩
      · rw [e3] at e2; exact absurd e2 (hcb _ _)
    · rcases cases2 e2 with ⟨_, e3⟩ | ⟨_, e2⟩
      · rw [e3] at e1; exact absurd e1 (hcb _ _)
      · exact h.cinj _ _ _ _ _ e1 e2
  · rcases cases2 e2 with ⟨_, e3⟩ | ⟨_, e2⟩
    · rw [e3] at e1; exact absurd e1 (hvb _)
    · exact h.apart _ _ _ _ e1 e2
  · rcases cases2 e with ⟨⟨rfl, _⟩, _⟩ | ⟨_, e⟩
    · exact ⟨s, hs⟩
    · exact h.up _ _ _ e
end
end Go.Proofs.YtklbbcemacpimaaGreatDoor.I
