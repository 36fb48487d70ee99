/- Maps in memory as functions: whatever their elements are (numbers, other maps, slices). -/
import Derived.Maps.OwnOps
import Derived.Below
import Derived.Maps.OwnSet
import Derived.Maps.RangeWalk
import Derived.Maps.Views
import Derived.Sort.KeysCollected
import Derived.Lib.SlKeysI
namespace Go.Proofs.YtklbbcemacpimaaGreatDoor.I
open Go Go.Maps Go.MapKept Go.ChangeMaps

/-- How elements are told: what reads as what. -/
structure El (α : Type) where
  R : Value → Option (DataW Unit × List MemPlace)
  enc : α → Value
  dat : α → DataW Unit
  read : ∀ a, R (enc a) = some (dat a, [])
  inv : ∀ v y, R v = some y → ∃ a, v = enc a ∧ y = (dat a, [])
  inj : ∀ a a', dat a = dat a' → a = a'
section
variable {α κ : Type} {P : Program} {k : TypeId} (E : El α) (mk : κ → Lit)
/-- The map in block b holds f. -/
def MF (P : Program) (k : TypeId) (E : El α) (mk : κ → Lit) (w : World) (b n : Nat) (f : κ → Option α) : Prop :=
  ∃ D, w.ownsMap P k E.R b n D ∧ IsMap D ∧ ∀ x z, D.atKey (mk x) z = match f x with | some a => E.dat a | none => z
variable {E} {mk} {w w' : World} {b n : Nat} {f g : κ → Option α}
theorem MF.eq (h : MF P k E mk w b n f) (e : ∀ x, f x = g x) : MF P k E mk w b n g :=
  let ⟨D, h1, h2, h3⟩ := h
  ⟨D, h1, h2, fun x z => by rw [h3, e]⟩
theorem MF.lt (h : MF P k E mk w b n f) : b < w.heap.size := let ⟨_, h1, _⟩ := h; h1.lt
theorem MF.block (h : MF P k E mk w b n f) (hk : w'.heap[b]? = w.heap[b]?) : MF P k E mk w' b n f :=
  let ⟨D, ⟨es, clock, hb, hr⟩, h2⟩ := h
  ⟨D, ⟨es, clock, hk.trans hb, hr⟩, h2⟩
theorem MF.more (h : MF P k E mk w b n f) {m : Nat} (hm : n ≤ m) : MF P k E mk w b m f :=
  let ⟨D, h1, h2⟩ := h
  ⟨D, h1.mono hm, h2⟩
theorem MF.made (P : Program) (k : TypeId) (E : El α) (mk : κ → Lit) (w : World) : MF P k E mk (w.alloc (.map #[] 0)) w.heap.size 0 (fun _ => none) :=
  ⟨.map [], World.ownsMap_made _ _ _ _, isMap_empty, fun _ _ => rfl⟩
theorem MF.has (h : MF P k E mk w b n f) : ∃ D : DataW Unit, w.ownsMap P k E.R b n D ∧ IsMap D ∧ (∀ x z, D.atKey (mk x) z = match f x with | some a => E.dat a | none => z) ∧ ∀ x, Maps.has D (mk x) = (f x).isSome := by
  obtain ⟨D, h1, h2, h3⟩ := h
  refine ⟨D, h1, h2, h3, fun x => ?_⟩
  cases hx : f x with
  | none => exact has_false_of_atKey fun z => by rw [h3, hx]
  | some a => exact has_true_of_atKey (y := E.dat a) fun z => by rw [h3, hx]
/-- 'm[k]'. -/
theorem MF.look (h : MF P k E mk w b n f) (K : Keyed P k) {t e : TypeId} (ht : P.underlying t = some (.map k e)) (z0 : α) (hz : (zeroValue e).run P w = .ok (E.enc z0) w) {key : Value} {x : κ} (hkey : keyOf P k key = some (mk x)) :
    (Instr.lookup t (.map (some b)) key false).run P w = .ok (E.enc ((f x).getD z0)) w := by
  obtain ⟨D, h1, h2, h3⟩ := h
  obtain ⟨v, ps, hrun, hv⟩ := h1.lookup K ht hz (E.read z0) hkey
  rw [h3] at hv
  obtain ⟨a, rfl, ha⟩ := E.inv _ _ hv
  rw [hrun]
  congr 2
  cases hx : f x with
  | none => rw [hx] at ha; injection ha with ha _; exact E.inj _ _ ha.symm
  | some c => rw [hx] at ha; injection ha with ha _; exact E.inj _ _ ha.symm
/-- 'v, ok := m[k]'. -/
theorem MF.look2 (h : MF P k E mk w b n f) (K : Keyed P k) {t e : TypeId} (ht : P.underlying t = some (.map k e)) (z0 : α) (hz : (zeroValue e).run P w = .ok (E.enc z0) w) {key : Value} {x : κ} (hkey : keyOf P k key = some (mk x)) :
    (Instr.lookup t (.map (some b)) key true).run P w = .ok (.tuple #[E.enc ((f x).getD z0), .bool (f x).isSome]) w := by
  obtain ⟨D, h1, h2, h3, h4⟩ := h.has
  obtain ⟨v, ps, hrun, hv⟩ := h1.look_ok K ht hz (E.read z0) hkey
  rw [h3] at hv
  obtain ⟨a, rfl, ha⟩ := E.inv _ _ hv
  rw [hrun, h4]
  congr 4
  cases hx : f x with
  | none => rw [hx] at ha; injection ha with ha _; exact congrArg E.enc (E.inj _ _ ha.symm)
  | some c => rw [hx] at ha; injection ha with ha _; exact congrArg E.enc (E.inj _ _ ha.symm)
/-- 'm[k] = v'. -/
theorem MF.put [DecidableEq κ] (h : MF P k E mk w b n f) (K : Keyed P k) {t e : TypeId} (ht : P.underlying t = some (.map k e)) (hn : n < maxLen) (mkI : ∀ x y, mk x = mk y → x = y) (mkL : ∀ x, WideAt.IsKeyLit (mk x)) {key : Value} {x : κ} (hkey : keyOf P k key = some (mk x)) (a : α) :
    ∃ w', (Instr.mapUpdate t (.map (some b)) key (E.enc a)).run P w = .ok () w' ∧ MF P k E mk w' b (n + 1) (fun y => if y = x then some a else f y) ∧ w.grownBy w' (some b) ∧ w'.heap.size = w.heap.size := by
  obtain ⟨D, h1, h2, h3⟩ := h
  obtain ⟨w', hrun, h4, h5⟩ := h1.store K ht hn hkey (E.read a)
  refine ⟨w', hrun, ⟨_, h4, h2.put _ _, fun y z => ?_⟩, ?_, ?_⟩
  · by_cases e : y = x
    · subst e
      rw [atKey_put_same h2 (mkL y)]
      simp
    · rw [atKey_put_other (fun k => e (mkI _ _ k)), h3]
      simp [e]
  · obtain ⟨es, clock, es', clock', hb, rfl⟩ := h5
    exact ⟨rfl, rfl, rfl, by simp [setBlock], fun i _ hi => heap_setBlock_other hb _ (fun e => hi (by rw [e]))⟩
  · obtain ⟨es, clock, es', clock', hb, rfl⟩ := h5
    simp [setBlock]
/-- 'delete(m, k)'. -/
theorem MF.del [DecidableEq κ] (h : MF P k E mk w b n f) (K : Keyed P k) {t e : TypeId} (ht : P.underlying t = some (.map k e)) (mkI : ∀ x y, mk x = mk y → x = y) {key : Value} {x : κ} (hkey : keyOf P k key = some (mk x)) :
    ∃ w', (∀ ty, (Builtin.delete_ #[t, k] ty #[.map (some b), key]).run P w = .ok (.tuple #[]) w') ∧ MF P k E mk w' b n (fun y => if y = x then none else f y) ∧ w.grownBy w' (some b) ∧ w'.heap.size = w.heap.size := by
  obtain ⟨D, h1, h2, h3⟩ := h
  obtain ⟨w', hrun, h4, h5⟩ := h1.drop K ht hkey 0
  refine ⟨w', fun ty => hrun, ⟨_, h4, h2.del _, fun y z => ?_⟩, ?_, ?_⟩
  · by_cases e : y = x
    · subst e
      rw [atKey_del_same]
      simp
    · rw [atKey_del_other (fun k => e (mkI _ _ k)), h3]
      simp [e]
  · obtain ⟨es, clock, es', clock', hb, rfl⟩ := h5
    exact ⟨rfl, rfl, rfl, by simp [setBlock], fun i _ hi => heap_setBlock_other hb _ (fun e => hi (by rw [e]))⟩
  · obtain ⟨es, clock, es', clock', hb, rfl⟩ := h5
    simp [setBlock]
/-- 'len(m)'. -/
theorem MF.len (h : MF P k E mk w b n f) {t e : TypeId} (ht : P.underlying t = some (.map k e)) : ∃ m : Nat, m ≤ n ∧ ∀ ty, (Builtin.len_ #[t] ty #[.map (some b)]).run P w = .ok (.int .i64 m) w := by
  obtain ⟨D, h1, h2, h3⟩ := h
  exact ⟨Maps.size D, h1.size_le, fun ty => h1.len ht ty⟩
/-- 'len(m)', and when it is 0. -/
theorem MF.len0 (h : MF P k E mk w b n f) (mkS : ∀ v kl, keyOf P k v = some kl → ∃ x, kl = mk x) (mkL : ∀ x, (mk x).sameKey (mk x) = true) {t e : TypeId} (ht : P.underlying t = some (.map k e)) : ∃ m : Nat, m ≤ n ∧ (m = 0 ↔ ∀ x, f x = none) ∧ ∀ ty, (Builtin.len_ #[t] ty #[.map (some b)]).run P w = .ok (.int .i64 m) w := by
  obtain ⟨D, h1, h2, h3, h4⟩ := h.has
  refine ⟨Maps.size D, h1.size_le, ?_, fun ty => h1.len ht ty⟩
  obtain ⟨es, rfl, hko⟩ := h1.keysOf
  constructor
  · intro h0 x
    have he : es = [] := List.eq_nil_of_length_eq_zero h0
    have := h4 x
    rw [he] at this
    cases hx : f x with
    | none => rfl
    | some a => rw [hx] at this; cases this
  · intro hx
    show es.length = 0
    cases es with
    | nil => rfl
    | cons p r =>
      obtain ⟨v, hv⟩ := hko p (by simp)
      obtain ⟨x, e⟩ := mkS v _ hv
      have := h4 x
      rw [hx x, has_eq] at this
      simp [e, mkL] at this
end
/-- Elements that are numbers. -/
def numEl : El Int where
  R := fun v => match v with
    | .int .i64 a => some (.lit (.int .i64 a), [])
    | _ => none
  enc := fun a => .int .i64 a
  dat := fun a => .lit (.int .i64 a)
  read := fun _ => rfl
  inv := fun v y h => by
    split at h
    · rename_i a; injection h with h; exact ⟨a, rfl, h.symm⟩
    · cases h
  inj := fun a a' h => by injection h with h; injection h
/-- Elements that are slices: block, length, capacity. -/
def slEl : El (Option (Nat × Nat × Nat)) where
  R := fun v => match v with
    | .slice (some ⟨g, 0, none⟩) n c => some (.agg [.lit (.int .i64 g), .lit (.int .i64 n), .lit (.int .i64 c)], [])
    | .slice none 0 0 => some (.nil, [])
    | _ => none
  enc := fun a => match a with
    | some (g, n, c) => .slice (some ⟨g, 0, none⟩) n c
    | none => .slice none 0 0
  dat := fun a => match a with
    | some (g, n, c) => .agg [.lit (.int .i64 g), .lit (.int .i64 n), .lit (.int .i64 c)]
    | none => .nil
  read := fun a => by cases a <;> rfl
  inv := fun v y h => by
    split at h
    · rename_i g n c; injection h with h; exact ⟨some (g, n, c), rfl, h.symm⟩
    · injection h with h; exact ⟨none, rfl, h.symm⟩
    · cases h
  inj := fun a a' h => by
    cases a <;> cases a' <;> simp at h ⊢
    rename_i a a'
    obtain ⟨g, n, c⟩ := a
    obtain ⟨g', n', c'⟩ := a'
    simp at h ⊢
    omega
/-- Elements that are maps: their blocks. -/
def ptrEl : El (Option Nat) where
  R := fun v => match v with
    | .map (some r) => some (.lit (.int .i64 r), [])
    | .map none => some (.nil, [])
    | _ => none
  enc := fun r => .map r
  dat := fun r => match r with
    | some r => .lit (.int .i64 r)
    | none => .nil
  read := fun a => by cases a <;> rfl
  inv := fun v y h => by
    split at h
    · rename_i r; injection h with h; exact ⟨some r, rfl, h.symm⟩
    · injection h with h; exact ⟨none, rfl, h.symm⟩
    · cases h
  inj := fun a a' h => by
    cases a <;> cases a' <;> simp at h ⊢
    omega
/-! ### Keys that are texts, keys that are numbers -/
def mkS (l : List UInt8) : Lit := .string l
def mkN (i : Int) : Lit := .int .i64 i
theorem mkS_inj : ∀ x y, mkS x = mkS y → x = y := fun x y h => by injection h
theorem mkN_inj : ∀ x y, mkN x = mkN y → x = y := fun x y h => by injection h
theorem mkS_key : ∀ x, WideAt.IsKeyLit (mkS x) := fun _ => trivial
theorem mkN_key : ∀ x, WideAt.IsKeyLit (mkN x) := fun _ => trivial
theorem mkS_same : ∀ x, (mkS x).sameKey (mkS x) = true := fun x => by simp [mkS, Lit.sameKey]
theorem mkN_same : ∀ x, (mkN x).sameKey (mkN x) = true := fun x => by simp [mkN, Lit.sameKey]
theorem mkS_all {P : Program} {k : TypeId} (hk : P.underlying k = some .string) : ∀ v kl, keyOf P k v = some kl → ∃ x, kl = mkS x := fun v kl h => by
  obtain ⟨x, _, e, _⟩ := Maps.keyOf_str hk h
  exact ⟨x, e⟩
theorem mkN_all {P : Program} {k : TypeId} (hk : P.underlying k = some (.int .i64)) : ∀ v kl, keyOf P k v = some kl → ∃ x, kl = mkN x := fun v kl h => by
  obtain ⟨x, _, e, _⟩ := Maps.keyOf_i64 hk h
  exact ⟨x, e⟩
end Go.Proofs.YtklbbcemacpimaaGreatDoor.I
