/- Items side by side: stanzakeepnum.Fields, stanzakeepnum.Items, where they are the same. -/
import Derived.Test.YticafcaoalmdiaaDoorBParsed
import Derived.Deep.QuietTactic
import Derived.BigQuiet
namespace Go.Proofs.YticafcaoalmdiaaDoor.B
open Go.RowKit

/-- Fields lie in a slice. -/
def FieldsAt (w : World) (v : Value) (fs : List Fd) : Prop :=
  ∃ (ao : Option Addr) (cp : Nat), v = .slice ao fs.length cp ∧ fs.length ≤ 9223372036854775807 ∧ ∀ (k : Nat) f, fs[k]? = some f → ∃ g, ao = some ⟨g, 0, none⟩ ∧ w.cell? ⟨g, k * 2, none⟩ = some (.string ⟨f.key.toArray⟩) ∧ w.cell? ⟨g, k * 2 + 1, none⟩ = some (.string ⟨f.val.toArray⟩)
theorem flat_fields : ∀ (fs : List Fd) (k : Nat) (f : Fd), fs[k]? = some f → (fs.flatMap Fd.cells)[k * 2]? = some (.string ⟨f.key.toArray⟩) ∧ (fs.flatMap Fd.cells)[k * 2 + 1]? = some (.string ⟨f.val.toArray⟩)
  | [], k, f, h => by simp at h
  | x :: r, 0, f, h => by simp at h; subst h; exact ⟨rfl, rfl⟩
  | x :: r, k + 1, f, h => by
    obtain ⟨h1, h2⟩ := flat_fields r k f (by simpa using h)
    have e1 : (k + 1) * 2 = k * 2 + 1 + 1 := by omega
    rw [e1]
    exact ⟨by simpa [Fd.cells] using h1, by simpa [Fd.cells] using h2⟩
theorem addr_add (g k : Nat) : (⟨g, 0, none⟩ : Addr).add k = ⟨g, k, none⟩ := by cases k <;> simp [Addr.add]
theorem row_max {w : World} {ρ : Col} {c : Nat} {e : TypeId} {size n : Nat} {v : Value} {xs : List Value} (h : Row w ρ c e size v n xs) : n ≤ 9223372036854775807 := by
  have hm : maxLen = 9223372036854775807 := by kernel_rfl
  rcases h.1.2 with ⟨-, h0⟩ | ⟨g, cp, cur, -, -, -, h1, h2, -⟩
  · omega
  · omega
theorem FieldsAt.of {w : World} {ρ : Col} {c : Nat} {v : Value} {fs : List Fd} (h : Row w ρ c 62 2 v fs.length (fs.flatMap Fd.cells)) : FieldsAt w v fs := by
  have hn := row_max h
  rcases h.1.2 with ⟨rfl, h0⟩ | ⟨g, cp, cur, hv, -⟩
  · refine ⟨none, 0, by rw [h0], hn, fun k f hk => ?_⟩
    have := (List.getElem?_eq_some_iff.1 hk).1
    omega
  · refine ⟨some ⟨g, 0, none⟩, cp, hv, hn, fun k f hk => ?_⟩
    obtain ⟨h1, h2⟩ := flat_fields fs k f hk
    have e1 := h.1.cells (g := g) (by rw [hv]; rfl) _ _ h1
    have e2 := h.1.cells (g := g) (by rw [hv]; rfl) _ _ h2
    rw [addr_add] at e1 e2
    exact ⟨g, rfl, e1, e2⟩
theorem FieldsAt.drew {w : World} {v : Value} {fs : List Fd} (h : FieldsAt w v fs) (n : Nat) : FieldsAt (w.drewN n) v fs := h
set_option maxRecDepth 20000 in
set_option maxHeartbeats 1600000 in
theorem fields_same (va vb : Value) (fs : List Fd) (w : World) (ha : FieldsAt w va fs) (hb : FieldsAt w vb fs) :
    Calls Tryd.prog 13 #[va, vb] w fun e w' => e = .returned (.bool true) ∧ ∃ n, w' = w.drewN n := by
  obtain ⟨ao, ca, rfl, hn, hA⟩ := ha
  obtain ⟨bo, cb, rfl, -, hB⟩ := hb
  have HA := Lib.hid hA
  have HB := Lib.hid hB
  clear hA hB
  go_enter Tryd.func13, Tryd.ntmps13
  go_wp2
  go_loopw [13] (fun i wr => ∃ k : Nat, i = .int .i64 k ∧ k ≤ fs.length ∧ Hid (∃ n, wr = w.drewN n)) (fun i _ => fs.length - (intOf i).toNat)
  case atStart => exact ⟨0, rfl, Nat.zero_le _, Lib.hid ⟨0, rfl⟩⟩
  case round =>
    obtain ⟨k, rfl, hk, hw⟩ := hrel
    by_cases hlt : k < fs.length
    · obtain ⟨f, hf⟩ : ∃ f, fs[k]? = some f := ⟨_, List.getElem?_eq_getElem hlt⟩
      obtain ⟨ga, rfl, a1, a2⟩ := HA.out k f hf
      obtain ⟨gb, rfl, b1, b2⟩ := HB.out k f hf
      obtain ⟨n, hwn⟩ := hw.out
      have x1 : wr.cell? ⟨ga, k * 2, none⟩ = some (.string ⟨f.key.toArray⟩) := by rw [hwn]; exact a1
      have x2 : wr.cell? ⟨ga, k * 2 + 1, none⟩ = some (.string ⟨f.val.toArray⟩) := by rw [hwn]; exact a2
      have y1 : wr.cell? ⟨gb, k * 2, none⟩ = some (.string ⟨f.key.toArray⟩) := by rw [hwn]; exact b1
      have y2 : wr.cell? ⟨gb, k * 2 + 1, none⟩ = some (.string ⟨f.val.toArray⟩) := by rw [hwn]; exact b2
      obtain ⟨s1, hs1⟩ : ∃ s1 : ByteArray, (⟨f.key.toArray⟩ : ByteArray) = s1 := ⟨_, rfl⟩
      obtain ⟨s2, hs2⟩ : ∃ s2 : ByteArray, (⟨f.val.toArray⟩ : ByteArray) = s2 := ⟨_, rfl⟩
      rw [hs1] at x1 y1
      rw [hs2] at x2 y2
      have HN := Lib.hid hwn
      clear a1 a2 b1 b2 hs1 hs2 hwn hf
      go_wp2
      go_quiet (fail)
      go_wp2
      exact ⟨⟨k + 1, by go_num, by omega, Lib.hid ⟨n + nq, by rw [HN.out, World.drewN_drewN]⟩⟩, by simp [intOf]; omega⟩
    · go_wp2
      go_ret
      exact ⟨rfl, hw.out⟩
/-- Items lie in a slice. -/
def ItemsIn (w : World) (v : Value) (xs : List It) : Prop :=
  ∃ (ao : Option Addr) (cp : Nat), v = .slice ao xs.length cp ∧ xs.length ≤ 9223372036854775807 ∧ ∀ (k : Nat) x, xs[k]? = some x → ∃ g o u, ao = some ⟨g, o, none⟩ ∧ w.cell? ⟨g, o + k * 3, none⟩ = some (.int .i64 x.kind) ∧ w.cell? ⟨g, o + k * 3 + 1, none⟩ = some (.string ⟨x.raw.toArray⟩) ∧ w.cell? ⟨g, o + k * 3 + 2, none⟩ = some u ∧ FieldsAt w u x.fields
theorem itemCells_get : ∀ (xs : List It) (vs : List Value) (k : Nat) (x : It) (u : Value), xs[k]? = some x → vs[k]? = some u → (itemCells xs vs)[k * 3]? = some (.int .i64 x.kind) ∧ (itemCells xs vs)[k * 3 + 1]? = some (.string ⟨x.raw.toArray⟩) ∧ (itemCells xs vs)[k * 3 + 2]? = some u
  | [], vs, k, x, u, h, _ => by simp at h
  | y :: r, [], k, x, u, _, h => by simp at h
  | y :: r, v :: t, 0, x, u, h, h' => by simp at h h'; subst h; subst h'; exact ⟨rfl, rfl, rfl⟩
  | y :: r, v :: t, k + 1, x, u, h, h' => by
    obtain ⟨h1, h2, h3⟩ := itemCells_get r t k x u (by simpa using h) (by simpa using h')
    have e1 : (k + 1) * 3 = k * 3 + 1 + 1 + 1 := by omega
    rw [e1]
    have e : itemCells (y :: r) (v :: t) = .int .i64 y.kind :: .string ⟨y.raw.toArray⟩ :: v :: itemCells r t := rfl
    rw [e]
    exact ⟨by simpa using h1, by simpa using h2, by simpa using h3⟩
/-- What an item's cells hold, of a row of items. -/
theorem ItemsAt.get {w : World} {ρ : Col} {v : Value} {xs : List It} {vs : List Value} (h : ItemsAt w ρ v xs vs) {k : Nat} {x : It} (hk : xs[k]? = some x) :
    ∃ g u, v.ownBlock = some g ∧ w.cell? ⟨g, k * 3, none⟩ = some (.int .i64 x.kind) ∧ w.cell? ⟨g, k * 3 + 1, none⟩ = some (.string ⟨x.raw.toArray⟩) ∧ w.cell? ⟨g, k * 3 + 2, none⟩ = some u ∧ FieldsAt w u x.fields := by
  have hlt := (List.getElem?_eq_some_iff.1 hk).1
  obtain ⟨u, hu⟩ : ∃ u, vs[k]? = some u := ⟨_, List.getElem?_eq_getElem (by rw [h.len]; exact hlt)⟩
  obtain ⟨h1, h2, h3⟩ := itemCells_get xs vs k x u hk hu
  rcases h.row.1.2 with ⟨-, h0⟩ | ⟨g, cp, cur, hv, -⟩
  · omega
  · have hg : v.ownBlock = some g := by rw [hv]; rfl
    have e1 := h.row.1.cells hg _ _ h1
    have e2 := h.row.1.cells hg _ _ h2
    have e3 := h.row.1.cells hg _ _ h3
    rw [addr_add] at e1 e2 e3
    exact ⟨g, u, hg, e1, e2, e3, FieldsAt.of (h.its k u x hu hk)⟩
theorem ItemsAt.below {w w' : World} {ρ : Col} {v : Value} {xs : List It} {vs : List Value} (h : ItemsAt w ρ v xs vs) (hb : Below w.heap.size w w') : ItemsAt w' ρ v xs vs where
  row := h.row.keep (Ext.refl _ _) (σ := fun _ => none) (Kept.below hb) fun _ _ => rfl
  len := h.len
  its := fun i u x a c => (h.its i u x a c).keep (Ext.refl _ _) (σ := fun _ => none) (Kept.below hb) fun _ _ => rfl
  fits := h.fits.more hb.size
/-- The items from the n-th on, as a slice of them. -/
theorem ItemsAt.slice {w : World} {ρ : Col} {v : Value} {pre xs : List It} {vs : List Value} (h : ItemsAt w ρ v (pre ++ xs) vs) {g cp : Nat} (hv : v.ownBlock = some g) : ItemsIn w (.slice (some ⟨g, pre.length * 3, none⟩) xs.length cp) xs := by
  have hm := row_max h.row
  rw [List.length_append] at hm
  refine ⟨_, _, rfl, by omega, fun k x hk => ?_⟩
  obtain ⟨g', u, e1, e2, e3, e4, e5⟩ := h.get (k := pre.length + k) (x := x) (by rw [List.getElem?_append_right (by omega)]; simpa using hk)
  rw [hv] at e1
  cases e1
  have ek : (pre.length + k) * 3 = pre.length * 3 + k * 3 := by omega
  rw [ek] at e2 e3 e4
  exact ⟨g, _, u, rfl, e2, e3, e4, e5⟩
theorem itemsIn_nil (w : World) (ao : Option Addr) (cp : Nat) : ItemsIn w (.slice ao 0 cp) [] := ⟨_, _, rfl, by decide, fun k x h => by simp at h⟩
set_option maxRecDepth 20000 in
set_option maxHeartbeats 1600000 in
theorem items_same (va vb : Value) (xs : List It) (w : World) (ha : ItemsIn w va xs) (hb : ItemsIn w vb xs) :
    Calls Tryd.prog 7 #[va, vb] w fun e w' => e = .returned (.bool true) ∧ ∃ n, w' = w.drewN n := by
  obtain ⟨ao, ca, rfl, hn, hA⟩ := ha
  obtain ⟨bo, cb, rfl, -, hB⟩ := hb
  have HA := Lib.hid hA
  have HB := Lib.hid hB
  clear hA hB
  go_enter Tryd.func7, Tryd.ntmps7
  go_wp2
  go_loopw [13] (fun i wr => ∃ k : Nat, i = .int .i64 k ∧ k ≤ xs.length ∧ Hid (∃ n, wr = w.drewN n)) (fun i _ => xs.length - (intOf i).toNat)
  case atStart => exact ⟨0, rfl, Nat.zero_le _, Lib.hid ⟨0, rfl⟩⟩
  case round =>
    obtain ⟨k, rfl, hk, hw⟩ := hrel
    by_cases hlt : k < xs.length
    · obtain ⟨x, hx⟩ : ∃ x, xs[k]? = some x := ⟨_, List.getElem?_eq_getElem hlt⟩
      obtain ⟨ga, oa, ua, rfl, a1, a2, a3, a4⟩ := HA.out k x hx
      obtain ⟨gb, ob, ub, rfl, b1, b2, b3, b4⟩ := HB.out k x hx
      obtain ⟨n, hwn⟩ := hw.out
      have x1 : wr.cell? ⟨ga, oa + k * 3, none⟩ = some (.int .i64 x.kind) := by rw [hwn]; exact a1
      have x2 : wr.cell? ⟨ga, oa + k * 3 + 1, none⟩ = some (.string ⟨x.raw.toArray⟩) := by rw [hwn]; exact a2
      have x3 : wr.cell? ⟨ga, oa + k * 3 + 2, none⟩ = some ua := by rw [hwn]; exact a3
      have y1 : wr.cell? ⟨gb, ob + k * 3, none⟩ = some (.int .i64 x.kind) := by rw [hwn]; exact b1
      have y2 : wr.cell? ⟨gb, ob + k * 3 + 1, none⟩ = some (.string ⟨x.raw.toArray⟩) := by rw [hwn]; exact b2
      have y3 : wr.cell? ⟨gb, ob + k * 3 + 2, none⟩ = some ub := by rw [hwn]; exact b3
      obtain ⟨s1, hs1⟩ : ∃ s1 : ByteArray, (⟨x.raw.toArray⟩ : ByteArray) = s1 := ⟨_, rfl⟩
      rw [hs1] at x2 y2
      have HN := Lib.hid hwn
      have FF : Hid (∀ m, Calls Tryd.prog 13 #[ua, ub] (wr.drewN m) fun e w' => e = .returned (.bool true) ∧ ∃ n, w' = (wr.drewN m).drewN n) := Lib.hid fun m => fields_same ua ub x.fields _ (by rw [hwn, World.drewN_drewN]; exact a4.drew _) (by rw [hwn, World.drewN_drewN]; exact b4.drew _)
      obtain ⟨fa, c1, hua, -⟩ := a4
      obtain ⟨fb, c2, hub, -⟩ := b4
      subst hua hub
      clear a1 a2 a3 b1 b2 b3 hs1 hwn hx
      go_wp2
      go_quiet ((go_at_call 13; exact Calls.quiet_of (FF.out _)))
      go_wp2
      exact ⟨⟨k + 1, by go_num, by omega, Lib.hid ⟨n + nq, by rw [HN.out, World.drewN_drewN]⟩⟩, by simp [intOf]; omega⟩
    · go_wp2
      go_ret
      exact ⟨rfl, hw.out⟩
end Go.Proofs.YticafcaoalmdiaaDoor.B
