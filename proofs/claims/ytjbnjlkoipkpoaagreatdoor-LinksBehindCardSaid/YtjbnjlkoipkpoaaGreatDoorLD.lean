/- Rows of numbers: slices.Index, Contains, IndexFunc, ContainsFunc at int; stanzakeepref30.has. links.from, walked: to which stanzas each one's links go. The two closures of links.order, and slices.IndexFunc, ContainsFunc at them. The outer closure of links.order: is a stanza next? slices.IndexFunc at the stanzas and links.order's outer closure. -/
import Derived.Test.YtjbnjlkoipkpoaaGreatDoorLC
import Derived.Maps.OwnRows
import Derived.Maps.GroupsBeside
namespace Go.Proofs.YtjbnjlkoipkpoaaGreatDoor.T
open Go.RowKit Go.Shelf
open Go.Proofs.YtjbnjlkoipkpoaaGreatDoor.B

/-- Numbers lie in memory below block B. -/
def ZsAt (B : Nat) (w : World) (v : Value) (zs : List Int) : Prop :=
  ∃ (ao : Option Addr) (cp : Nat), v = .slice ao zs.length cp ∧ ∀ (k : Nat) (z : Int), zs[k]? = some z → ∃ a, ao = some a ∧ a.block < B ∧ w.cell? (a.add k) = some (.int .i64 z)
theorem ZsAt.below {B C : Nat} {w w' : World} {v : Value} {zs : List Int} (h : ZsAt B w v zs) (hb : Below C w w') (hB : B ≤ C) : ZsAt B w' v zs :=
  let ⟨ao, cp, h1, h2⟩ := h
  ⟨ao, cp, h1, fun k s hk => let ⟨a, h3, h4, h5⟩ := h2 k s hk; ⟨a, h3, h4, (hb.cell (p := a.add k) (by rw [add_block]; omega)).trans h5⟩⟩
theorem ZsAt.up {B C : Nat} {w : World} {v : Value} {zs : List Int} (h : ZsAt B w v zs) (hB : B ≤ C) : ZsAt C w v zs :=
  let ⟨ao, cp, h1, h2⟩ := h
  ⟨ao, cp, h1, fun k s hk => let ⟨a, h3, h4, h5⟩ := h2 k s hk; ⟨a, h3, by omega, h5⟩⟩
def zVals (zs : List Int) : List Value := zs.map (Value.int .i64)
/-- A row of numbers of its own. -/
def ZRow (B : Nat) (w : World) (v : Value) (zs : List Int) : Prop := w.ownsRow B 3 1 v zs.length (zVals zs)
theorem ZRow.at_ {B : Nat} {w : World} {v : Value} {zs : List Int} (h : ZRow B w v zs) : ZsAt w.heap.size w v zs := by
  rcases h.2 with ⟨h0, h1⟩ | ⟨g, cap, cur, hv, hB, hr⟩
  · exact ⟨none, 0, by rw [h1, h0], fun k z hz => by have := (List.getElem?_eq_some_iff.1 hz).1; omega⟩
  · refine ⟨_, _, hv, fun k z hz => ⟨⟨g, 0, none⟩, rfl, (World.ownsRow.lt h g (by rw [hv]; rfl)).2, ?_⟩⟩
    exact World.ownsRow.cells h (g := g) (by rw [hv]; rfl) k _ (by unfold zVals; rw [List.getElem?_map, hz]; rfl)
theorem zfind_take {zs : List Int} {p : Int → Bool} {k : Nat} {z : Int} (h : (zs.take k).any p = false) (hz : zs[k]? = some z) (hp : p z = false) : (zs.take (k + 1)).any p = false := by
  rw [List.take_add_one, hz]; simp only [Option.toList_some, List.any_append, h, List.any_cons, hp, List.any_nil, Bool.or_self]
def ZIdx (zs : List Int) (p : Int → Bool) (i : Int) : Prop := (0 ≤ i ↔ zs.any p = true) ∧ -1 ≤ i ∧ i ≤ 100000000
theorem ZIdx.hit {zs : List Int} {p : Int → Bool} {k : Nat} {z : Int} (hz : zs[k]? = some z) (hp : p z = true) (hk : k ≤ 100000000) : ZIdx zs p k :=
  ⟨⟨fun _ => by rw [List.any_eq_true]; exact ⟨z, List.mem_of_getElem? hz, hp⟩, fun _ => by omega⟩, by omega, by omega⟩
theorem ZIdx.none {zs : List Int} {p : Int → Bool} (h : zs.any p = false) : ZIdx zs p (-1) := ⟨⟨fun h => by omega, fun k => by rw [h] at k; cases k⟩, by omega, by omega⟩
set_option maxHeartbeats 1600000 in
theorem index_ints (v : Value) (zs : List Int) (n : Int) (w : World) (h : ZsAt w.heap.size w v zs) (hn : zs.length ≤ 100000000) :
    Calls Tryz.prog 127 #[v, .int .i64 n] w fun e w' => (∃ i : Int, e = .returned (.int .i64 i) ∧ ZIdx zs (fun z => n == z) i) ∧ w = w' := by
  obtain ⟨ao, c, rfl, hc⟩ := h
  have HC := Lib.hid hc
  clear hc
  go_enter Tryz.func127, Tryz.ntmps127
  go_wp2
  go_loop [8] (fun i => ∃ k : Nat, i = .int .i64 k ∧ k ≤ zs.length ∧ Hid ((zs.take k).any (fun z => n == z) = false)) (fun i => zs.length - (intOf i).toNat)
  case atStart => exact ⟨0, rfl, Nat.zero_le _, Lib.hid rfl⟩
  case round =>
    obtain ⟨k, rfl, hk, ha⟩ := hrel
    by_cases hlt : k < zs.length
    · obtain ⟨z, hz⟩ : ∃ z, zs[k]? = some z := ⟨_, List.getElem?_eq_getElem hlt⟩
      obtain ⟨a, rfl, hg, n0⟩ := HC.out k z hz
      have HZ := Lib.hid hz
      clear hz
      by_cases he : n = z
      · have HH : Hid (ZIdx zs (fun z => n == z) k) := Lib.hid (ZIdx.hit HZ.out (by simpa using he) (by omega))
        subst he
        clear ha
        go_wp2
        go_ret
        exact ⟨⟨_, rfl, HH.out⟩, rfl⟩
      · have he2 : (n == z) = false := by rw [beq_eq_false_iff_ne]; exact he
        have HT := Lib.hid (zfind_take ha.out HZ.out (p := fun z => n == z) he2)
        clear ha
        go_wp2
        exact ⟨⟨k + 1, by go_num, by omega, HT⟩, by simp [intOf]; omega⟩
    · have h1 := ha.out
      rw [List.take_of_length_le (by omega)] at h1
      have HH := Lib.hid (ZIdx.none h1)
      clear ha h1
      go_wp2
      go_ret
      exact ⟨⟨_, rfl, HH.out⟩, rfl⟩
theorem contains_ints (v : Value) (zs : List Int) (n : Int) (w : World) (h : ZsAt w.heap.size w v zs) (hn : zs.length ≤ 100000000) :
    Calls Tryz.prog 82 #[v, .int .i64 n] w fun e w' => e = .returned (.bool (zs.contains n)) ∧ w = w' := by
  have I := Lib.hid (index_ints v zs n w h hn)
  have hv : ∃ ao c, v = .slice ao zs.length c := let ⟨ao, c, h1, _⟩ := h; ⟨ao, c, h1⟩
  obtain ⟨ao, c, rfl⟩ := hv
  clear h
  go_enter Tryz.func82, Tryz.ntmps82
  go_wp2_with fail
  refine I.out.mono ?_
  rintro e w' ⟨⟨i, rfl, hi, h0, h1⟩, rfl⟩
  have HI := Lib.hid hi
  clear hi
  go_wp2_with fail
  go_ret
  refine ⟨retb2 ?_, rfl⟩
  have e : zs.any (fun z => n == z) = zs.contains n := by
    rw [List.contains_eq_any_beq]
  rw [← e, Bool.eq_iff_iff, decide_eq_true_iff]
  exact HI.out
set_option maxHeartbeats 1600000 in
theorem has_any (v : Value) (zs : List Int) (n : Int) (w : World) (h : ZsAt w.heap.size w v zs) (hn : zs.length ≤ 100000000) :
    Calls Tryz.prog 79 #[v, .int .i64 n] w fun e w' => e = .returned (.bool (zs.contains n)) ∧ w = w' := by
  obtain ⟨ao, c, rfl, hc⟩ := h
  have HC := Lib.hid hc
  clear hc
  have HE := Lib.hid (show zs.contains n = zs.any (fun z => n == z) from List.contains_eq_any_beq)
  obtain ⟨b, hb⟩ : ∃ b, zs.contains n = b := ⟨_, rfl⟩
  rw [hb]
  have HB := Lib.hid hb
  clear hb
  go_enter Tryz.func79, Tryz.ntmps79
  go_wp2
  go_loop [5] (fun i => ∃ k : Nat, i = .int .i64 k ∧ k ≤ zs.length ∧ Hid ((zs.take k).any (fun z => n == z) = false)) (fun i => zs.length - (intOf i).toNat)
  case atStart => exact ⟨0, rfl, Nat.zero_le _, Lib.hid rfl⟩
  case round =>
    obtain ⟨k, rfl, hk, ha⟩ := hrel
    by_cases hlt : k < zs.length
    · obtain ⟨z, hz⟩ : ∃ z, zs[k]? = some z := ⟨_, List.getElem?_eq_getElem hlt⟩
      obtain ⟨a, rfl, hg, n0⟩ := HC.out k z hz
      have HZ := Lib.hid hz
      clear hz
      by_cases he : z = n
      · have HH : Hid (zs.contains n = true) := Lib.hid (by rw [HE.out]; exact List.any_eq_true.2 ⟨z, List.mem_of_getElem? HZ.out, by simp [he]⟩)
        have HB2 : Hid (b = true) := Lib.hid (HB.out.symm.trans HH.out)
        clear HB HE
        subst he
        clear ha
        go_wp2
        go_ret
        exact ⟨by rw [HB2.out]; rfl, rfl⟩
      · have he1 : (n == z) = false := by rw [beq_eq_false_iff_ne]; exact fun e => he e.symm
        have he2 : (z == n) = false := by rw [beq_eq_false_iff_ne]; exact he
        have HT := Lib.hid (zfind_take ha.out HZ.out (p := fun z => n == z) he1)
        clear ha he1
        go_wp2
        exact ⟨⟨k + 1, by go_num, by omega, HT⟩, by simp [intOf]; omega⟩
    · have h1 := ha.out
      rw [List.take_of_length_le (by omega)] at h1
      have HH : Hid (zs.contains n = false) := Lib.hid (by rw [HE.out]; exact h1)
      have HB2 : Hid (b = false) := Lib.hid (HB.out.symm.trans HH.out)
      clear ha h1
      go_wp2
      go_ret
      exact ⟨by rw [HB2.out]; rfl, rfl⟩
/-- A function value that tells of a number whether it is so: whatever memory it makes is new. -/
def TellsZ (N : Nat) (w : World) (F : FuncId) (caps : Array Value) (p : Int → Bool) (zs : List Int) : Prop :=
  ∀ (w' : World) (z : Int), z ∈ zs → Below N w w' → Calls Tryz.prog F (#[.int .i64 z] ++ caps) w' fun e w2 => e = .returned (.bool (p z)) ∧ Below w'.heap.size w' w2
end Go.Proofs.YtjbnjlkoipkpoaaGreatDoor.T

namespace Go.Proofs.YtjbnjlkoipkpoaaGreatDoor.T
open Go.RowKit Go.Shelf Go.Maps Go.ChangeShapes
open Go.Proofs.YtjbnjlkoipkpoaaGreatDoor.B

/-- Whereto the links of a stanza go. -/
def nextF (ps : List (Int × Int)) (k : Int) : List Int := (ps.filter fun p => p.2 != 0 && p.1 == k).map (·.2)
theorem nextF_snoc (ps : List (Int × Int)) (p : Int × Int) (k : Int) : nextF (ps ++ [p]) k = if p.2 ≠ 0 ∧ p.1 = k then nextF ps k ++ [p.2] else nextF ps k := by
  unfold nextF
  rw [List.filter_append, List.map_append]
  by_cases h : p.2 ≠ 0 ∧ p.1 = k
  · rw [if_pos h]; simp [h.1, h.2]
  · rw [if_neg h]
    have : (p.2 != 0 && p.1 == k) = false := by
      rw [Bool.eq_false_iff]; intro e; apply h; simpa using e
    simp [this]
/-- Links lie in memory below block B; what is looked at: from where, whereto. -/
def LsAt (B : Nat) (w : World) (v : Value) (ps : List (Int × Int)) : Prop :=
  ∃ (ao : Option Addr) (cp : Nat), v = .slice ao ps.length cp ∧ ∀ (k : Nat) (p : Int × Int), ps[k]? = some p → ∃ g s, ao = some ⟨g, 0, none⟩ ∧ g < B ∧ w.cell? ⟨g, k * 3, none⟩ = some (.int .i64 p.1) ∧ w.cell? ⟨g, k * 3 + 1, none⟩ = some (.int .i64 p.2) ∧ w.cell? ⟨g, k * 3 + 2, none⟩ = some (.string s)
theorem LsAt.below {B C : Nat} {w w' : World} {v : Value} {ps : List (Int × Int)} (h : LsAt B w v ps) (hb : Below C w w') (hB : B ≤ C) : LsAt B w' v ps :=
  let ⟨ao, cp, h1, h2⟩ := h
  ⟨ao, cp, h1, fun k p hk => let ⟨g, s, h3, h4, h5, h6, h7⟩ := h2 k p hk; ⟨g, s, h3, h4, (hb.cell (p := ⟨g, _, none⟩) (by show g < C; omega)).trans h5, (hb.cell (p := ⟨g, _, none⟩) (by show g < C; omega)).trans h6, (hb.cell (p := ⟨g, _, none⟩) (by show g < C; omega)).trans h7⟩⟩
theorem LsAt.up {B C : Nat} {w : World} {v : Value} {ps : List (Int × Int)} (h : LsAt B w v ps) (hB : B ≤ C) : LsAt C w v ps :=
  let ⟨ao, cp, h1, h2⟩ := h
  ⟨ao, cp, h1, fun k p hk => let ⟨g, s, h3, h4, h5⟩ := h2 k p hk; ⟨g, s, h3, by omega, h5⟩⟩
/-- What a slice of numbers in a map reads as. -/
def GD (zs : List Int) : DataW Unit := if zs = [] then .nil else .slice (lits .i64 zs) []
theorem lits_inj {a b : List Int} (h : lits (H := Unit) .i64 a = lits .i64 b) : a = b := by
  unfold lits at h
  exact (List.map_inj_right (fun x y e => by cases e; rfl)).1 h
theorem GD_read {w : World} {base : Nat} {v : Value} {zs ys : List Int} (h : w.ownsInts base 3 .i64 v zs) (e : GD ys = rowDatum (H := Unit) .i64 v zs) : zs = ys := by
  unfold GD at e
  rcases h.datum (H := Unit) with ⟨h1, h2⟩ | h1
  · rw [h1] at e
    split at e
    · rename_i h3; rw [h2, h3]
    · cases e
  · rw [h1] at e
    split at e
    · cases e
    · injection e with e; exact (lits_inj e).symm
/-- A map from numbers to rows of numbers. -/
def GMap (w : World) (base mb n : Nat) (f : Int → List Int) : Prop :=
  ∃ D : DataW Unit, w.ownsGroups Tryz.prog 3 base 3 .i64 mb n D ∧ IsMap D ∧ ∀ k : Int, D.atKey (.int .i64 k) .nil = GD (f k)
theorem keyedI : Keyed Tryz.prog 3 := int_keyed Tryz.underlying3
theorem zeroSl (w : World) : (zeroValue 68).run Tryz.prog w = .ok (.slice none 0 0) w := by kernel_rfl
/-- A look-up in a map of rows, in a region that draws its order. -/
theorem step_lookup_groups {H : Type} {P : Program} {w : World} {ops : Array Oper} {o : Oper} {a : Act} {K : Act → World → Prop} {Q : Exit → Act → World → Prop} {E0 : Prop}
    (hg : o.guard = none) (m x : Operand) (t : TypeId) (hop : o.op = Op.lookup t m x false)
    (k E e : TypeId) (q : IntKind) (Ky : Keyed P k) (ht : P.underlying t = some (.map k E)) (hz : (zeroValue E).run P w = .ok (.slice none 0 0) w) (base b n : Nat) (D : DataW H)
    (hm : a.eval m = .map (some b)) (hown : w.ownsGroups P k base e q b n D) (hn : n < maxLen) (key : Value) (kl : Lit) (hx : a.eval x = key) (hkey : keyOf P k key = some kl)
    (hK : ∀ v zs, D.atKey kl .nil = rowDatum q v zs → w.ownsInts base e q v zs → zs.length ≤ n → w.groupBack P t k base e q b n D key kl v → K (a.put o.dst v) w) :
    if Region.wanted o (yielded ops a.tmps) = true then Oper.wp P o a w K Q else E0 := by
  have hw : Region.wanted o (yielded ops a.tmps) = true := by simp [Region.wanted, hg]
  rw [if_pos hw]
  obtain ⟨v, zs, hrun, hat, hoi, hzl, hback⟩ := hown.at Ky ht hz hn hkey
  unfold Oper.wp
  simp [execOp, hop, hm, hx, hrun, Result.andThen]
  exact hK v zs hat hoi hzl hback
theorem step_mapUpdate_back {H : Type} {P : Program} {w : World} {ops : Array Oper} {o : Oper} {a : Act} {K : Act → World → Prop} {Q : Exit → Act → World → Prop} {E0 : Prop}
    (hg : o.guard = none) (m x v : Operand) (t : TypeId) (hop : o.op = Op.mapUpdate t m x v)
    {w0 : World} {k : TypeId} {base : Nat} {e : TypeId} {q : IntKind} {b n : Nat} {D : DataW H} {key : Value} {kl : Lit} {u v' : Value} {zs' : List Int}
    (hback : w0.groupBack P t k base e q b n D key kl u) (hm : a.eval m = .map (some b)) (hx : a.eval x = key) (hv : a.eval v = v')
    (hgr : w0.grownBy w u.ownBlock) (hown' : w.ownsInts base e q v' zs') (hl' : zs'.length ≤ n + 1) (hloc : v'.ownBlock = u.ownBlock ∨ ∃ g, v'.ownBlock = some g ∧ w0.heap.size ≤ g)
    (hK : ∀ w2, w2.ownsGroups P k base e q b (n + 1) (D.put kl (rowDatum q v' zs')) → w.grownBy w2 (some b) → K (a.put o.dst undef) w2) :
    if Region.wanted o (yielded ops a.tmps) = true then Oper.wp P o a w K Q else E0 := by
  have hw : Region.wanted o (yielded ops a.tmps) = true := by simp [Region.wanted, hg]
  rw [if_pos hw]
  obtain ⟨w2, hrun, r1, r2⟩ := hback w v' zs' hgr hown' hl' hloc
  unfold Oper.wp
  simp [execOp, hop, hm, hx, hv, hrun, Result.andThen]
  exact hK w2 r1 r2
theorem groups_drew {H : Type} {P : Program} {w : World} {k e : TypeId} {base b n : Nat} {q : IntKind} {D : DataW H} (h : w.ownsGroups P k base e q b n D) : w.drew.ownsGroups P k base e q b n D :=
  h.kept (row := none) ⟨rfl, rfl, rfl, Nat.le_refl _, fun _ _ _ => rfl⟩ (by simp) (fun es clock _ x _ => by cases x.val.ownBlock <;> simp)
theorem groups_alloc {H : Type} {P : Program} {w : World} {k e : TypeId} {base b n : Nat} {q : IntKind} {D : DataW H} (h : w.ownsGroups P k base e q b n D) (o : Obj) : (w.alloc o).ownsGroups P k base e q b n D :=
  h.kept (World.grownBy_alloc w o none) (by simp) (fun es clock _ x _ => by cases x.val.ownBlock <;> simp)
theorem groups_more {H : Type} {P : Program} {w : World} {k e : TypeId} {base b n : Nat} {q : IntKind} {D : DataW H} (h : w.ownsGroups P k base e q b n D) : w.ownsGroups P k base e q b (n + 1) D := by
  obtain ⟨es, clock, hb, F, hs, hD, hbb, hlen, hap⟩ := h
  exact ⟨es, clock, hb, F, Nat.le_succ_of_le hs, hD, hbb, fun x hx zs ho => Nat.le_succ_of_le (hlen x hx zs ho), hap⟩
theorem own_apart {w : World} {base size n k : Nat} {T T' : TypeId} {v : Value} {xs : List Value} {cs : Array Value} {f : Nat × Nat} (h : w.ownsRow base T size v n xs) (hk : w.heap[k]? = some (.cells cs T' f)) (ht : T' ≠ T) : v.ownBlock ≠ some k := by
  intro e
  rcases h.2 with ⟨h0, _⟩ | ⟨g, cap, cur, hv, hb, hg, _⟩
  · rw [h0] at e; simp [Value.ownBlock] at e
  · rw [hv] at e
    simp [Value.ownBlock] at e
    rw [e, hk] at hg
    injection hg with hg
    injection hg with _ hg _
    exact ht hg
def WfP (p : Int × Int) : Prop := (Lit.int .i64 p.1).wf = true ∧ (Lit.int .i64 p.2).wf = true
def FrRel (ps : List (Int × Int)) (B : Nat) (w1 : World) (i : Value) (wr : World) : Prop :=
  ∃ k : Nat, i = .int .i64 k ∧ k ≤ ps.length ∧ Hid (GMap wr (B + 1) B k (nextF (ps.take k))) ∧ Hid (Below B w1 wr)
set_option maxRecDepth 100000 in
set_option maxHeartbeats 3200000 in
theorem from_any (v : Value) (ps : List (Int × Int)) (w : World) (h : LsAt w.heap.size w v ps) (hn : ps.length ≤ 40040000) (hwf : ∀ p ∈ ps, WfP p) :
    Calls Tryz.prog 75 #[v] w fun e w' => e = .returned (.map (some w.heap.size)) ∧ GMap w' (w.heap.size + 1) w.heap.size ps.length (nextF ps) ∧ Below w.heap.size w w' := by
  obtain ⟨i0, hi0, hz0, hz1, hz2⟩ := info_parts infoI
  have hmm := @run_makeMap Tryz.prog
  obtain ⟨ao, cp, rfl, hc⟩ := h
  have HC := Lib.hid hc
  have HWF := Lib.hid hwf
  have hM1 : GMap (w.alloc (.map #[] 0)) (w.heap.size + 1) w.heap.size 0 (nextF []) := ⟨.map [], World.ownsGroups_made _ _ _ _ _, isMap_empty, fun k => rfl⟩
  have hb1 := below_grow1 w (.map #[] 0)
  obtain ⟨w1, hw1⟩ : ∃ w1, w.alloc (.map #[] 0) = w1 := ⟨_, rfl⟩
  have hs1 : w1.heap.size = w.heap.size + 1 := by rw [← hw1]; simp
  rw [hw1] at hM1 hb1
  have HM1 := Lib.hid hM1
  have HW1 := Lib.hid hw1
  have HB1 := Lib.hid hb1
  obtain ⟨B, hB⟩ : ∃ B, w.heap.size = B := ⟨_, rfl⟩
  rw [hB] at HM1 HC HB1 hs1
  have HB := Lib.hid hB
  rw [hB]
  clear hc hwf hM1 hb1 hw1
  go_enter Tryz.func75, Tryz.ntmps75
  go_wp2
  rw [HW1.out]
  try simp only [hB]
  clear hmm hB
  go_loopw [9] (fun i W => FrRel ps B w1 i W) (fun i _ => ps.length - (intOf i).toNat)
  case atStart => exact ⟨0, rfl, Nat.zero_le _, HM1, Lib.hid (Below.refl _ _)⟩
  case round =>
    clear HM1
    obtain ⟨k, rfl, hk, hM, hW⟩ := hrel
    have hzr : B + 1 ≤ wr.heap.size := by have := hW.out.size; omega
    by_cases hlt : k < ps.length
    · obtain ⟨p, hp⟩ : ∃ p, ps[k]? = some p := ⟨_, List.getElem?_eq_getElem hlt⟩
      obtain ⟨g, s, rfl, hg, e1, e2, e3⟩ := HC.out k p hp
      have hbl := HB1.out.trans hW.out
      have e1 := (hbl.cell (p := ⟨g, k * 3, none⟩) hg).trans e1
      have e2 := (hbl.cell (p := ⟨g, k * 3 + 1, none⟩) hg).trans e2
      have e3 := (hbl.cell (p := ⟨g, k * 3 + 2, none⟩) hg).trans e3
      have hw := HWF.out p (List.mem_of_getElem? hp)
      have HN : Hid (∀ x, nextF (ps.take (k + 1)) x = if p.2 ≠ 0 ∧ p.1 = x then nextF (ps.take k) x ++ [p.2] else nextF (ps.take k) x) := Lib.hid fun x => by
        rw [List.take_add_one, hp]; exact nextF_snoc _ _ _
      obtain ⟨pf, pt⟩ := p
      simp only at e1 e2 HN
      obtain ⟨hw1, hw2⟩ := hw
      simp only at hw1 hw2
      have HKEY := Lib.hid (keyOf_int_mk Tryz.underlying3 hw1)
      have HWT := Lib.hid hw2
      obtain ⟨D, hown, hism, hat0⟩ := hM.out
      have hgr := World.grownBy_alloc wr (.cells #[.int .i64 pf, .int .i64 pt, .string s] 66) none
      have hown2 := hown.kept hgr (by simp) (fun es clock _ x _ => by cases x.val.ownBlock <;> simp)
      obtain ⟨W1, hW1⟩ : ∃ W1, wr.alloc (.cells #[.int .i64 pf, .int .i64 pt, .string s] 66) = W1 := ⟨_, rfl⟩
      rw [hW1] at hown2
      have hb4 : Below wr.heap.size wr W1 := by rw [← hW1]; exact below_grow1 wr _
      have hE : W1.heap[wr.heap.size]? = some (.cells #[.int .i64 pf, .int .i64 pt, .string s] 66 (0, 0)) := by rw [← hW1]; exact heap_alloc_new wr _
      have q0 : W1.cell? ⟨wr.heap.size, 0, none⟩ = some (.int .i64 pf) := _root_.Go.Proofs.YtjbnjlkoipkpoaaGreatDoor.B.cell_of_row _ _ 0 _ _ hE
      have q1 : W1.cell? ⟨wr.heap.size, 1, none⟩ = some (.int .i64 pt) := _root_.Go.Proofs.YtjbnjlkoipkpoaaGreatDoor.B.cell_of_row _ _ 1 _ _ hE
      have HO := Lib.hid hown2
      have HIS := Lib.hid hism
      have HAT := Lib.hid hat0
      have HW4 := Lib.hid (hW.out.trans (hb4.mono (by omega)))
      have HWW := Lib.hid hW1
      have hz1w : wr.heap.size < W1.heap.size := (Array.getElem?_eq_some_iff.1 hE).1
      have HXE := Lib.hid hE
      clear hp hbl hw1 hw2 hM hW hown hown2 hgr hism hat0 hb4 hE hW1
      by_cases h0 : pt = 0
      · have hnz : (pt != 0) = false := by rw [h0]; rfl
        have HN2 : Hid (∀ x, nextF (ps.take (k + 1)) x = nextF (ps.take k) x) := Lib.hid fun x => by rw [HN.out, if_neg (by simp [h0])]
        clear h0
        go_wp2
        rw [HWW.out]
        refine ⟨⟨k + 1, by go_num, by omega, Lib.hid ⟨D, ?_, HIS.out, fun x => by rw [HAT.out, HN2.out]⟩, HW4⟩, by simp [intOf]; omega⟩
        exact groups_more HO.out
      · have hnz : (pt != 0) = true := by rw [bne_iff_ne]; exact h0
        have HOD := Lib.hid (groups_drew HO.out)
        have HOA := Lib.hid (groups_alloc HO.out (.cells #[.int .i64 pt] 3))
        have HODA := Lib.hid (groups_alloc (groups_drew HO.out) (.cells #[.int .i64 pt] 3))
        have s0 : (W1.alloc (.cells #[.int .i64 pt] 3)).cell? ⟨wr.heap.size, 0, none⟩ = some (.int .i64 pf) := ((below_grow1 W1 _).cell (p := ⟨wr.heap.size, 0, none⟩) hz1w).trans q0
        have s1 : (W1.alloc (.cells #[.int .i64 pt] 3)).cell? ⟨wr.heap.size, 1, none⟩ = some (.int .i64 pt) := ((below_grow1 W1 _).cell (p := ⟨wr.heap.size, 1, none⟩) hz1w).trans q1
        have HNA : Hid (∀ j x, [Value.int .i64 pt][j]? = some x → (W1.alloc (.cells #[.int .i64 pt] 3)).cell? ((⟨W1.heap.size, 0, none⟩ : Addr).add j) = some x) := Lib.hid (World.news_of_block (cs := #[.int .i64 pt]) (heap_alloc_new W1 _))
        have HXA := Lib.hid ((Below.heap_alloc W1 (.cells #[.int .i64 pt] 3) wr.heap.size hz1w).trans HXE.out)
        have HWA : Hid (Below B w1 (W1.alloc (.cells #[.int .i64 pt] 3))) := Lib.hid (HW4.out.trans ((below_grow1 W1 _).mono (by omega)))
        have hzA : (W1.alloc (.cells #[.int .i64 pt] 3)).heap.size = W1.heap.size + 1 := World.size_alloc _ _
        go_wp2_with fail
        rw [HWW.out]
        go_region_held3 (fun W' => W'.cell? ⟨wr.heap.size, 0, none⟩ = some (.int .i64 pf) ∧ W'.cell? ⟨wr.heap.size, 1, none⟩ = some (.int .i64 pt)) (first | exact ⟨q0, q1⟩ | exact ⟨s0, s1⟩ | exact P4 | exact P5)
          (first
            | (obtain ⟨v, zs, hrun, hat, hoi, hzl, hback⟩ := World.ownsGroups.at HOD.out keyedI Tryz.underlying130 (zeroSl _) (by unfold maxLen; omega) HKEY.out; rw [hrun])
            | (obtain ⟨v, zs, hrun, hat, hoi, hzl, hback⟩ := World.ownsGroups.at (groups_drew HOA.out) keyedI Tryz.underlying130 (zeroSl _) (by unfold maxLen; omega) HKEY.out; rw [hrun])
            | (obtain ⟨v, zs, hrun, hat, hoi, hzl, hback⟩ := World.ownsGroups.at HODA.out keyedI Tryz.underlying130 (zeroSl _) (by unfold maxLen; omega) HKEY.out; rw [hrun])
            | (refine step_append_lies _ ?_ (.tmp 22) (.tmp 25) _ ?_ (B + 1) 3 i0 _ 1 8 Tryz.underlying68 hi0 hz0 hz1 hz2 ?_ ?_ v zs.length (zs.map (Value.int .i64)) ?_ ?_ ⟨W1.heap.size, 0, none⟩ 1 1 [.int .i64 pt] ?_ ?_ ?_ ?_ ?_ ?_ ?_ ?_ _ rfl ?_; (any_goals (first | exact hoi.1 | exact hoi.1.alloc _ | exact HNA.out | rfl | (simp [Value.oneCell']; done) | (unfold maxLen; omega) | (simp; omega) | omega | skip)); intro gg cap w8 hown8 hgrow hat8 hlt8; (first | have hne := own_apart hoi.1 HXE.out (by decide) | have hne := own_apart hoi.1 HXA.out (by decide)); have hz8 : wr.heap.size < w8.heap.size := Nat.lt_of_lt_of_le (Nat.lt_of_lt_of_le hz1w (Nat.le_trans (Nat.le_succ _) (Nat.le_of_eq hzA.symm))) hgrow.size; have P4 := And.intro ((hgrow.cell_far ⟨wr.heap.size, 0, none⟩ (Nat.lt_of_lt_of_le hz1w (Nat.le_trans (Nat.le_succ _) (Nat.le_of_eq hzA.symm))) (Ne.symm hne)).trans s0) ((hgrow.cell_far ⟨wr.heap.size, 1, none⟩ (Nat.lt_of_lt_of_le hz1w (Nat.le_trans (Nat.le_succ _) (Nat.le_of_eq hzA.symm))) (Ne.symm hne)).trans s1); have hlow : ∀ j, v.ownBlock = some j → B ≤ j := fun j hj => Nat.le_of_succ_le (World.ownsRow.lt hoi.1 j hj).1; (first | have HB8 := Lib.hid (below_grown_w (X := W1.alloc (.cells #[.int .i64 pt] 3)) hgrow HWA.out (by omega) hlow) | have HB8 := Lib.hid (below_grown_dw (X := W1.alloc (.cells #[.int .i64 pt] 3)) hgrow HWA.out (by omega) hlow)))
            | (obtain ⟨w9, hrun9, hgr9, hg9⟩ := hback w8 (.slice (some ⟨gg, 0, none⟩) (zs.length + 1) cap) (zs ++ [pt]) (by first | exact hgrow | exact (World.grownBy_alloc _ _ _).trans hgrow) (hoi.appended hown8 HWT.out) (by simp; omega) (by rcases hat8 with h | h; exact .inl h.symm; exact .inr ⟨gg, rfl, by rw [h]; simp⟩); rw [hrun9]; have P5 := And.intro ((hg9.cell_far ⟨wr.heap.size, 0, none⟩ hz8 (by simp; omega)).trans P4.1) ((hg9.cell_far ⟨wr.heap.size, 1, none⟩ hz8 (by simp; omega)).trans P4.2)))
        all_goals
          have HZS := Lib.hid (GD_read hoi ((HAT.out pf).symm.trans hat))
          have HB9 := Lib.hid (HB8.out.grown hg9 (by have := HB8.out.size; omega) (fun j hj => by cases hj; exact Nat.le_refl _))
          have HG9 : Hid (GMap w9 (B + 1) B (k + 1) (nextF (ps.take (k + 1)))) := Lib.hid ⟨_, hgr9, HIS.out.put _ _, fun x => by
            by_cases e : pf = x
            · subst e
              rw [atKey_put_same HIS.out (show WideAt.IsKeyLit (.int .i64 pf) from trivial), (hoi.appended hown8 HWT.out).datum_pos (by simp), HN.out, if_pos ⟨h0, rfl⟩, ← HZS.out]
              unfold GD
              rw [if_neg (by simp)]
            · rw [atKey_put_other (fun k => e (by simpa using k.symm)), HAT.out, HN.out, if_neg (fun k => e k.2)]⟩
          clear hgr9 hg9 hown8 hgrow hoi hat hback hrun hrun9
          go_wp2
          exact ⟨⟨k + 1, by go_num, by omega, HG9, HB9⟩, by simp [intOf]; omega⟩
    · have hM2 := hM.out
      rw [List.take_of_length_le (by omega), show k = ps.length by omega] at hM2
      have HM2 := Lib.hid hM2
      have HB2 := Lib.hid (HB1.out.trans hW.out)
      clear hM hM2 hW
      go_wp2
      go_ret
      exact ⟨rfl, HM2.out, HB.out ▸ HB2.out⟩
end Go.Proofs.YtjbnjlkoipkpoaaGreatDoor.T

namespace Go.Proofs.YtjbnjlkoipkpoaaGreatDoor.T
open Go.RowKit Go.Shelf Go.Maps
open Go.Proofs.YtjbnjlkoipkpoaaGreatDoor.B

/-- A stanza waits for another one. -/
def waitsB (out : List Int) (id : Int) (z : Int) : Bool := z != id && !out.contains z
set_option maxHeartbeats 1600000 in
theorem waits_any (z id : Int) (xb ob : Nat) (v : Value) (out : List Int) (w : World) (hx : w.cell? ⟨xb, 0, none⟩ = some (.int .i64 id)) (ho : w.cell? ⟨ob, 0, none⟩ = some v) (hz : ZsAt w.heap.size w v out) (hn : out.length ≤ 100000000) :
    Calls Tryz.prog 124 #[.int .i64 z, .pointer (some ⟨xb, 0, none⟩), .pointer (some ⟨ob, 0, none⟩)] w fun e w' => e = .returned (.bool (waitsB out id z)) ∧ w = w' := by
  have C := Lib.hid (contains_ints v out z w hz hn)
  have hv : ∃ ao c, v = .slice ao out.length c := let ⟨ao, c, h1, _⟩ := hz; ⟨ao, c, h1⟩
  obtain ⟨ao, c, rfl⟩ := hv
  obtain ⟨b, hb⟩ : ∃ b, out.contains z = b := ⟨_, rfl⟩
  have HW : Hid (waitsB out id z = (z != id && !b)) := Lib.hid (by unfold waitsB; rw [hb])
  rw [hb] at C
  rw [HW.out]
  clear hz hb HW
  by_cases h : z = id
  · have h1 : (z != id) = false := by rw [h]; simp
    rw [h1]
    go_enter Tryz.func124, Tryz.ntmps124
    go_wp2_with fail
    go_ret
    exact ⟨rfl, rfl⟩
  · have h1 : (z != id) = true := by rw [bne_iff_ne]; exact h
    rw [h1]
    go_enter Tryz.func124, Tryz.ntmps124
    go_wp2_with fail
    refine C.out.mono ?_
    rintro e w' ⟨rfl, rfl⟩
    go_wp2_with fail
    go_ret
    exact ⟨rfl, rfl⟩
set_option maxHeartbeats 1600000 in
theorem waitsIdx_any (u : Value) (zs : List Int) (id : Int) (xb ob : Nat) (v : Value) (out : List Int) (w : World) (hu : ZsAt w.heap.size w u zs) (hzn : zs.length ≤ 100000000) (hx : w.cell? ⟨xb, 0, none⟩ = some (.int .i64 id)) (ho : w.cell? ⟨ob, 0, none⟩ = some v) (hz : ZsAt w.heap.size w v out) (hn : out.length ≤ 100000000) :
    Calls Tryz.prog 159 #[u, .func (.func 124) #[] #[.pointer (some ⟨xb, 0, none⟩), .pointer (some ⟨ob, 0, none⟩)]] w fun e w' => (∃ i : Int, e = .returned (.int .i64 i) ∧ ZIdx zs (waitsB out id) i) ∧ w = w' := by
  have C := Lib.hid (fun z => waits_any z id xb ob v out w hx ho hz hn)
  obtain ⟨ao, c, rfl, hc⟩ := hu
  have HC := Lib.hid hc
  clear hc hx ho hz
  obtain ⟨p, hp⟩ : ∃ p, waitsB out id = p := ⟨_, rfl⟩
  have C : Hid (∀ z, Calls Tryz.prog 124 #[.int .i64 z, .pointer (some ⟨xb, 0, none⟩), .pointer (some ⟨ob, 0, none⟩)] w fun e w' => e = .returned (.bool (p z)) ∧ w = w') := by rw [← hp]; exact C
  rw [hp]
  clear hp
  go_enter Tryz.func159, Tryz.ntmps159
  go_wp2_with fail
  go_loop [8] (fun i => ∃ k : Nat, i = .int .i64 k ∧ k ≤ zs.length ∧ Hid ((zs.take k).any p = false)) (fun i => zs.length - (intOf i).toNat)
  case atStart => exact ⟨0, rfl, Nat.zero_le _, Lib.hid rfl⟩
  case round =>
    obtain ⟨k, rfl, hk, ha⟩ := hrel
    by_cases hlt : k < zs.length
    · obtain ⟨z, hz⟩ : ∃ z, zs[k]? = some z := ⟨_, List.getElem?_eq_getElem hlt⟩
      obtain ⟨a, rfl, hg, n0⟩ := HC.out k z hz
      have B0 := Lib.hid (C.out z)
      have HZ := Lib.hid hz
      clear hz
      obtain ⟨b, hb⟩ : ∃ b, p z = b := ⟨_, rfl⟩
      rw [hb] at B0
      have HB := Lib.hid hb
      clear hb
      cases b with
      | false =>
        go_wp2_with fail
        refine B0.out.mono ?_
        rintro e w2 ⟨rfl, rfl⟩
        go_wp2_with fail
        exact ⟨⟨k + 1, by go_num, by omega, Lib.hid (zfind_take ha.out HZ.out HB.out)⟩, by simp [intOf]; omega⟩
      | true =>
        go_wp2_with fail
        refine B0.out.mono ?_
        rintro e w2 ⟨rfl, rfl⟩
        go_wp2_with fail
        go_ret
        exact ⟨⟨_, rfl, ZIdx.hit HZ.out HB.out (by omega)⟩, rfl⟩
    · have h1 := ha.out
      rw [List.take_of_length_le (by omega)] at h1
      have HH := Lib.hid (ZIdx.none h1)
      clear ha h1
      go_wp2_with fail
      go_ret
      exact ⟨⟨_, rfl, HH.out⟩, rfl⟩
theorem waitsAny_any (u : Value) (zs : List Int) (id : Int) (xb ob : Nat) (v : Value) (out : List Int) (w : World) (hu : ZsAt w.heap.size w u zs) (hzn : zs.length ≤ 100000000) (hx : w.cell? ⟨xb, 0, none⟩ = some (.int .i64 id)) (ho : w.cell? ⟨ob, 0, none⟩ = some v) (hz : ZsAt w.heap.size w v out) (hn : out.length ≤ 100000000) :
    Calls Tryz.prog 125 #[u, .func (.func 124) #[] #[.pointer (some ⟨xb, 0, none⟩), .pointer (some ⟨ob, 0, none⟩)]] w fun e w' => e = .returned (.bool (zs.any (waitsB out id))) ∧ w = w' := by
  have I := Lib.hid (waitsIdx_any u zs id xb ob v out w hu hzn hx ho hz hn)
  have hv : ∃ ao c, u = .slice ao zs.length c := let ⟨ao, c, h1, _⟩ := hu; ⟨ao, c, h1⟩
  obtain ⟨ao, c, rfl⟩ := hv
  clear hu hx ho hz
  obtain ⟨p, hp⟩ : ∃ p, waitsB out id = p := ⟨_, rfl⟩
  rw [hp] at I
  rw [hp]
  clear hp
  go_enter Tryz.func125, Tryz.ntmps125
  go_wp2_with fail
  refine I.out.mono ?_
  rintro e w' ⟨⟨i, rfl, hi, h0, h1⟩, rfl⟩
  have HI := Lib.hid hi
  clear hi
  go_wp2_with fail
  go_ret
  refine ⟨retb2 ?_, rfl⟩
  rw [Bool.eq_iff_iff, decide_eq_true_iff]
  exact HI.out
end Go.Proofs.YtjbnjlkoipkpoaaGreatDoor.T

namespace Go.Proofs.YtjbnjlkoipkpoaaGreatDoor.T
open Go.RowKit Go.Shelf Go.Maps
open Go.Proofs.YtjbnjlkoipkpoaaGreatDoor.B

/-- A stanza may come next: it is not out yet, and all to which its links go are. -/
def readyB (f : Int → List Int) (out : List Int) (id : Int) : Bool := !out.contains id && !(f id).any (waitsB out id)
theorem ZsAt.of_ints {w : World} {base : Nat} {v : Value} {zs : List Int} (h : w.ownsInts base 3 .i64 v zs) : ZsAt w.heap.size w v zs := ZRow.at_ (show ZRow base w v zs from h.1)
theorem GMap.keep {w w' : World} {base mb n : Nat} {f : Int → List Int} (h : GMap w base mb n f) (hg : w.grownBy w' none) : GMap w' base mb n f := by
  obtain ⟨D, h1, h2, h3⟩ := h
  exact ⟨D, h1.kept hg (by simp) (fun es clock _ x _ => by cases x.val.ownBlock <;> simp), h2, h3⟩
theorem grown_below {w w' : World} (h : Below w.heap.size w w') : w.grownBy w' none := ⟨h.os, h.tape, h.output, h.size, fun k hk _ => h.block k hk⟩
set_option maxRecDepth 100000 in
set_option maxHeartbeats 3200000 in
theorem ord1_any (id : Int) (fo : Option Addr) (fl fc : Nat) (ob nb mb base n : Nat) (f : Int → List Int) (v : Value) (out : List Int) (w : World) (ho : w.cell? ⟨ob, 0, none⟩ = some v) (hnb : w.cell? ⟨nb, 0, none⟩ = some (.map (some mb))) (hM : GMap w base mb n f) (hnn : n ≤ 100000000) (hw : (Lit.int .i64 id).wf = true)
    (hz : ZsAt w.heap.size w v out) (hn : out.length ≤ 100000000) :
    Calls Tryz.prog 123 #[.agg #[.int .i64 id, .slice fo fl fc], .pointer (some ⟨ob, 0, none⟩), .pointer (some ⟨nb, 0, none⟩)] w fun e w' => e = .returned (.bool (readyB f out id)) ∧ Below w.heap.size w w' := by
  have hol : ob < w.heap.size := World.block_lt_of_cell? _ _ ho
  have hnl : nb < w.heap.size := World.block_lt_of_cell? _ _ hnb
  obtain ⟨W1, hW1⟩ : ∃ W1, w.alloc (.cells #[.int .i64 id, .slice fo fl fc] 61) = W1 := ⟨_, rfl⟩
  have hb : Below w.heap.size w W1 := by rw [← hW1]; exact below_grow1 w _
  have hE : W1.heap[w.heap.size]? = some (.cells #[.int .i64 id, .slice fo fl fc] 61 (0, 0)) := by rw [← hW1]; exact heap_alloc_new w _
  have q0 : W1.cell? ⟨w.heap.size, 0, none⟩ = some (.int .i64 id) := _root_.Go.Proofs.YtjbnjlkoipkpoaaGreatDoor.B.cell_of_row _ _ 0 _ _ hE
  have q1 : W1.cell? ⟨ob, 0, none⟩ = some v := (hb.cell (p := ⟨ob, 0, none⟩) hol).trans ho
  have q2 : W1.cell? ⟨nb, 0, none⟩ = some (.map (some mb)) := (hb.cell (p := ⟨nb, 0, none⟩) hnl).trans hnb
  have HZ1 := Lib.hid ((hz.below hb (Nat.le_refl _)).up hb.size)
  obtain ⟨D, hown, hism, hat0⟩ := hM.keep (grown_below hb)
  have HO := Lib.hid hown
  have HAT := Lib.hid hat0
  have HKEY := Lib.hid (keyOf_int_mk Tryz.underlying3 hw)
  have C := Lib.hid (contains_ints v out id W1 HZ1.out hn)
  have WA := Lib.hid (fun (u : Value) (zs : List Int) (h1 : ZsAt W1.heap.size W1 u zs) (h2 : zs.length ≤ 100000000) => waitsAny_any u zs id w.heap.size ob v out W1 h1 h2 q0 q1 HZ1.out hn)
  have hv : ∃ ao c, v = .slice ao out.length c := let ⟨ao, c, h1, _⟩ := hz; ⟨ao, c, h1⟩
  obtain ⟨ao, c, rfl⟩ := hv
  have HB := Lib.hid hb
  have HW1 := Lib.hid hW1
  obtain ⟨b, hb2⟩ : ∃ b, out.contains id = b := ⟨_, rfl⟩
  have HR : Hid (readyB f out id = (!b && !(f id).any (waitsB out id))) := Lib.hid (by unfold readyB; rw [hb2])
  rw [hb2] at C
  rw [HR.out]
  obtain ⟨p, hp⟩ : ∃ p, (f id).any (waitsB out id) = p := ⟨_, rfl⟩
  rw [hp]
  have HP := Lib.hid hp
  clear hp
  clear hb2 HR hz hM hb hE hown hism hat0 hW1 hw
  cases b with
  | true =>
    go_enter Tryz.func123, Tryz.ntmps123
    go_wp2_with fail
    rw [HW1.out]
    refine C.out.mono ?_
    rintro e w' ⟨rfl, rfl⟩
    go_wp2_with fail
    go_ret
    exact ⟨rfl, HB.out⟩
  | false =>
    go_enter Tryz.func123, Tryz.ntmps123
    go_wp2_with fail
    rw [HW1.out]
    refine C.out.mono ?_
    rintro e w' ⟨rfl, rfl⟩
    go_wp2_with (obtain ⟨u, zs, hrun, hat, hoi, hzl, hback⟩ := World.ownsGroups.at HO.out keyedI Tryz.underlying130 (zeroSl _) (by unfold maxLen; omega) HKEY.out; rw [hrun])
    have hzs := GD_read hoi ((HAT.out id).symm.trans hat)
    have WC := Lib.hid (WA.out u zs (ZsAt.of_ints hoi) (by omega))
    rw [hzs] at WC
    clear hat hoi hback hrun hzs hzl
    rw [HP.out] at WC
    refine WC.out.mono ?_
    rintro e w' ⟨rfl, rfl⟩
    go_wp2_with fail
    go_ret
    exact ⟨by cases p <;> rfl, HB.out⟩
end Go.Proofs.YtjbnjlkoipkpoaaGreatDoor.T

namespace Go.Proofs.YtjbnjlkoipkpoaaGreatDoor.T
open Go.RowKit Go.Shelf Go.Maps
open Go.Proofs.YtjbnjlkoipkpoaaGreatDoor.B

/-- The place of the first stanza that is so; -1: none. -/
def FirstAt (ss : List St) (p : Int → Bool) (i : Int) : Prop :=
  (i = -1 ∧ ss.any (fun x => p x.1) = false) ∨ ∃ (k : Nat) (x : St), i = k ∧ ss[k]? = some x ∧ p x.1 = true ∧ (ss.take k).any (fun x => p x.1) = false
theorem sfind_take {ss : List St} {p : St → Bool} {k : Nat} {x : St} (h : (ss.take k).any p = false) (hx : ss[k]? = some x) (hp : p x = false) : (ss.take (k + 1)).any p = false := by
  rw [List.take_add_one, hx]; simp only [Option.toList_some, List.any_append, h, List.any_cons, hp, List.any_nil, Bool.or_self]
set_option maxRecDepth 100000 in
set_option maxHeartbeats 3200000 in
theorem ordIdx_any (v0 : Value) (ρ : Col) (ss : List St) (us : List Value) (ob nb mb base n : Nat) (f : Int → List Int) (v : Value) (out : List Int) (w : World) (hS : StanzasAt w ρ v0 ss us) (hm : ss.length ≤ 1000) (hids : ∀ x ∈ ss, x.1 ≤ 1000000)
    (ho : w.cell? ⟨ob, 0, none⟩ = some v) (hnb : w.cell? ⟨nb, 0, none⟩ = some (.map (some mb))) (hM : GMap w base mb n f) (hnn : n ≤ 100000000) (hz : ZsAt w.heap.size w v out) (hn : out.length ≤ 100000000) :
    Calls Tryz.prog 122 #[v0, .func (.func 123) #[] #[.pointer (some ⟨ob, 0, none⟩), .pointer (some ⟨nb, 0, none⟩)]] w fun e w' => (∃ i : Int, e = .returned (.int .i64 i) ∧ FirstAt ss (readyB f out) i) ∧ Below w.heap.size w w' := by
  obtain ⟨so, sc, hv0⟩ := hS.row.shape
  subst hv0
  have hol : ob < w.heap.size := World.block_lt_of_cell? _ _ ho
  have hnl : nb < w.heap.size := World.block_lt_of_cell? _ _ hnb
  have O1 : Hid (∀ (w' : World) (x : St) (fo : Option Addr) (fl fc : Nat), Below w.heap.size w w' → x ∈ ss → Calls Tryz.prog 123 #[.agg #[.int .i64 x.1, .slice fo fl fc], .pointer (some ⟨ob, 0, none⟩), .pointer (some ⟨nb, 0, none⟩)] w' fun e w2 => e = .returned (.bool (readyB f out x.1)) ∧ Below w'.heap.size w' w2) :=
    Lib.hid fun w' x fo fl fc hb hx => ord1_any x.1 fo fl fc ob nb mb base n f v out w' ((hb.cell (p := ⟨ob, 0, none⟩) hol).trans ho) ((hb.cell (p := ⟨nb, 0, none⟩) hnl).trans hnb) (hM.keep (grown_below hb)) hnn (WalkArith.wf_i64 (by have := hids x hx; omega)) ((hz.below hb (Nat.le_refl _)).up hb.size) hn
  have HSA := Lib.hid hS
  clear ho hnb hM hz hol hnl hS hids
  obtain ⟨p, hp⟩ : ∃ p, readyB f out = p := ⟨_, rfl⟩
  rw [hp] at O1 ⊢
  clear hp
  go_enter Tryz.func122, Tryz.ntmps122
  go_wp2_with fail
  go_loopw [8] (fun i W => ∃ k : Nat, i = .int .i64 k ∧ k ≤ ss.length ∧ Hid ((ss.take k).any (fun x => p x.1) = false) ∧ Hid (Below w.heap.size w W)) (fun i _ => ss.length - (intOf i).toNat)
  case atStart => exact ⟨0, rfl, Nat.zero_le _, Lib.hid rfl, Lib.hid (Below.refl _ _)⟩
  case round =>
    obtain ⟨k, rfl, hk, ha, hW⟩ := hrel
    by_cases hlt : k < ss.length
    · obtain ⟨x, hx⟩ : ∃ x, ss[k]? = some x := ⟨_, List.getElem?_eq_getElem hlt⟩
      have hsa := HSA.out.below hW.out
      obtain ⟨u, hu⟩ : ∃ u, us[k]? = some u := ⟨_, List.getElem?_eq_getElem (by rw [hsa.len]; exact hlt)⟩
      obtain ⟨g1, g2⟩ := stCells_get ss us k x u hx hu
      obtain ⟨g, hg, hao⟩ : ∃ g, (Value.slice so ss.length sc).ownBlock = some g ∧ so = some ⟨g, 0, none⟩ := by
        rcases hsa.row.1.2 with ⟨-, h0⟩ | ⟨g, cp', cur, hz, -⟩
        · omega
        · injection hz with z1 z2 z3
          exact ⟨g, by rw [z1]; rfl, z1⟩
      have e1 := hsa.row.1.cells hg _ _ g1
      have e2 := hsa.row.1.cells hg _ _ g2
      rw [addrO] at e1 e2
      subst hao
      obtain ⟨fo, fc, hfv⟩ := (hsa.its k u x hu hx).shape
      subst hfv
      have B0 := Lib.hid (O1.out wr x fo x.2.length fc hW.out (List.mem_of_getElem? hx))
      have HX := Lib.hid hx
      obtain ⟨b, hb⟩ : ∃ b, p x.1 = b := ⟨_, rfl⟩
      rw [hb] at B0
      have HB := Lib.hid hb
      clear hb hsa hu g1 g2 hg hx
      cases b with
      | false =>
        have HT := Lib.hid (sfind_take (p := fun x => p x.1) ha.out HX.out HB.out)
        go_wp2_with fail
        refine B0.out.mono ?_
        rintro e w2 ⟨rfl, hb2⟩
        have HW2 := Lib.hid (hW.out.trans (hb2.mono hW.out.size))
        clear hb2 ha hW
        go_wp2_with fail
        exact ⟨⟨k + 1, by go_num, by omega, HT, HW2⟩, by simp [intOf]; omega⟩
      | true =>
        go_wp2_with fail
        refine B0.out.mono ?_
        rintro e w2 ⟨rfl, hb2⟩
        have HW2 := Lib.hid (hW.out.trans (hb2.mono hW.out.size))
        have HF : Hid (FirstAt ss p k) := Lib.hid (.inr ⟨k, x, rfl, HX.out, HB.out, ha.out⟩)
        clear hb2 ha hW
        go_wp2_with fail
        go_ret
        exact ⟨⟨_, rfl, HF.out⟩, HW2.out⟩
    · have h1 := ha.out
      rw [List.take_of_length_le (by omega)] at h1
      have HH : Hid (FirstAt ss p (-1)) := Lib.hid (.inl ⟨rfl, h1⟩)
      clear ha h1
      go_wp2_with fail
      go_ret
      exact ⟨⟨_, rfl, HH.out⟩, hW.out⟩
end Go.Proofs.YtjbnjlkoipkpoaaGreatDoor.T
