/- An element more behind a copy of a row: the runs of both appends, in whatever world. The reference's act more: did. -/
import Derived.Test.YthfcmgbkhjnfjaaGreatDoorVF
import Derived.Deep.AppendSrc
import Derived.Deep.Upon
import Derived.Deep.RegionLaw
import Derived.Deep.DeepCutAuto
import Derived.Lib.SmallJoins
namespace Go.Proofs.YthfcmgbkhjnfjaaGreatDoor
open Go.RowKit Go.Maps

theorem step_append_eq {P : Program} {w : World} {ops : Array Oper} {o : Oper} {a : Act} {K : Act → World → Prop} {Q : Exit → Act → World → Prop} {E : Prop} (hgd : o.guard = none) (s x : Operand) (t : TypeId)
    (ho : o.op = .call { callee := .builtin .append, args := #[s, x], argTypes := #[t, t] }) {v u v' : Value} {w' : World} (hs : a.eval s = v) (hx : a.eval x = u)
    (hr : (Builtin.append_ #[t, t] o.type #[v, u]).run P w = .ok v' w') (h : K (a.put o.dst v') w') : if Region.wanted o (yielded ops a.tmps) = true then Oper.wp P o a w K Q else E := by
  have hw : Region.wanted o (yielded ops a.tmps) = true := by simp [Region.wanted, hgd]
  rw [if_pos hw]
  unfold Oper.wp execOp
  simp only [ho, resolve, invoke, builtin, Sem.run_bind, Sem.run_pure, Result.andThen_ok, List.map_toArray, List.map_cons, List.map_nil, hs, hx, hr]
  exact h
section
variable {t e : TypeId} {i : TypeInfo} {z : Value} {size bytes : Nat} (ht : Tryz.prog.underlying t = some (.slice e)) (hi : Tryz.prog.info? e = some i) (hz : i.zero = some z) (hsize : i.size = size) (hby : i.bytes = bytes) (hzs : z.cells.size = size) (hsz : 0 < size)
include ht hi hz hsize hby hzs hsz
/-- A row is copied behind an empty one. -/
theorem copy_run (X : World) (M gd : Nat) (v : Value) (n : Nat) (xs : List Value) (hd : X.ownsRow M e size (.slice (some ⟨gd, 0, none⟩) 0 0) 0 []) (ho : X.ownsRow 0 e size v n xs) (hl : xs.length = n * size) (h1 : ∀ u ∈ xs, u.oneCell' = true) (hn : n ≤ 30000000) (hb : bytes ≤ 1000) (hM : M ≤ X.heap.size) :
    ∃ v' w', (Builtin.append_ #[t, t] t #[.slice (some ⟨gd, 0, none⟩) 0 0, v]).run Tryz.prog X = .ok v' w' ∧ w'.ownsRow M e size v' n xs ∧ Below M X w' ∧ ∀ k, k < X.heap.size → k ≠ gd → w'.heap[k]? = X.heap[k]? := by
  have hgd : ∀ k, some k = some gd → M ≤ k := fun k hk => by
    injection hk with hk
    subst hk
    exact (hd.lt _ rfl).1
  rcases Nat.eq_zero_or_pos n with h0 | h0
  · subst h0
    have hx0 : xs = [] := List.length_eq_zero_iff.1 (by omega)
    subst hx0
    rcases ho.2 with ⟨hv, -⟩ | ⟨g, c, cur, hv, -⟩
    · subst hv
      exact ⟨_, _, run_append_owned_none (P := Tryz.prog) (w := X) M t t e i size ht hi _ 0 [] hd, hd, Below.refl _ _, fun _ _ _ => rfl⟩
    · subst hv
      have hsrc : Src Tryz.prog i.size t (.slice (some ⟨g, 0, none⟩) 0 c) 0 [] X := Src.ofSlice _ ht ⟨g, 0, none⟩ 0 c [] (by simp) (fun j u hu => by simp at hu) (fun u hu => by simp at hu)
      exact ⟨_, _, run_append_nothing X _ _ t _ i ht hi _ 0 0 (Nat.le_refl _) _ hsrc, hd, Below.refl _ _, fun _ _ _ => rfl⟩
  · obtain ⟨g, c, rfl, -, -⟩ := ho.form h0
    obtain ⟨g2, c2, w', hr, hown, hgrow, -, -⟩ := run_append_lies (P := Tryz.prog) X t t M e i z size bytes ht hi hz hsize hby hzs hsz _ 0 [] hd ⟨g, 0, none⟩ n c xs hl (fun j u hu => ho.cells (g := g) rfl j u hu) h1 h0 (by unfold maxLen; omega) (by have : (0 + n) * bytes ≤ 30000000 * 1000 := Nat.mul_le_mul (by omega) hb; omega) hM _ rfl
    exact ⟨_, w', hr, by simpa using hown, Below.grown (Below.refl _ _) hgrow hM (fun k hk => hgd k hk.symm), fun k hk hne => hgrow.block k hk (fun h => hne (by injection h))⟩
/-- One element more. -/
theorem push_run (X : World) (M y : Nat) (v : Value) (n : Nat) (xs c : List Value) (ho : X.ownsRow M e size v n xs) (hy : X.heap[y]? = some (.cells c.toArray e (0, 0))) (hl : c.length = size) (h1 : ∀ u ∈ c, u.oneCell' = true) (hn : n ≤ 30000000) (hb : bytes ≤ 1000) (hM : M ≤ X.heap.size) :
    ∃ v' w', (Builtin.append_ #[t, t] t #[v, .slice (some ⟨y, 0, none⟩) 1 1]).run Tryz.prog X = .ok v' w' ∧ w'.ownsRow M e size v' (n + 1) (xs ++ c) ∧ Below M X w' := by
  obtain ⟨g2, c2, w', hr, hown, hgrow, -, -⟩ := run_append_lies (P := Tryz.prog) X t t M e i z size bytes ht hi hz hsize hby hzs hsz v n xs ho ⟨y, 0, none⟩ 1 1 c (by omega) (fun j u hu => World.news_of_block (cs := c.toArray) (t := e) (fr := (0, 0)) hy j u (by simpa using hu)) h1 (by omega) (by unfold maxLen; omega) (by have : (n + 1) * bytes ≤ 30000001 * 1000 := Nat.mul_le_mul (by omega) hb; omega) hM _ rfl
  exact ⟨_, w', hr, hown, Below.grown (Below.refl _ _) hgrow hM fun k hk => (ho.lt k hk).1⟩
/-- What the second append leaves. -/
def Pushed (W : World) (M : Nat) (e : TypeId) (size : Nat) (n : Nat) (ys : List Value) (v : Value) (w : World) : Prop := w.ownsRow M e size v (n + 1) ys ∧ Below M W w
/-- Both appends, in the three orders in which the row and the element may be laid. -/
theorem push_runs (W : World) (M : Nat) (hM : W.heap.size = M) (v : Value) (n : Nat) (xs c : List Value) (ho : W.ownsRow 0 e size v n xs) (hl : xs.length = n * size) (h1 : ∀ u ∈ xs, u.oneCell' = true) (hc : c.length = size) (hc1 : ∀ u ∈ c, u.oneCell' = true) (hn : n ≤ 30000000) (hb : bytes ≤ 1000) :
    (∃ v1 w1 v2 w2, (Builtin.append_ #[t, t] t #[.slice (some ⟨M, 0, none⟩) 0 0, v]).run Tryz.prog (W.alloc (.cells #[] e)) = .ok v1 w1 ∧ Below M W w1 ∧ (Builtin.append_ #[t, t] t #[v1, .slice (some ⟨w1.heap.size, 0, none⟩) 1 1]).run Tryz.prog (w1.alloc (.cells c.toArray e)) = .ok v2 w2 ∧ Pushed W M e size n (xs ++ c) v2 w2) ∧
    (∃ v1 w1 v2 w2, (Builtin.append_ #[t, t] t #[.slice (some ⟨M, 0, none⟩) 0 0, v]).run Tryz.prog ((W.alloc (.cells #[] e)).alloc (.cells c.toArray e)) = .ok v1 w1 ∧ Below M W w1 ∧ (Builtin.append_ #[t, t] t #[v1, .slice (some ⟨M + 1, 0, none⟩) 1 1]).run Tryz.prog w1 = .ok v2 w2 ∧ Pushed W M e size n (xs ++ c) v2 w2) ∧
    (∃ v1 w1 v2 w2, (Builtin.append_ #[t, t] t #[.slice (some ⟨M + 1, 0, none⟩) 0 0, v]).run Tryz.prog ((W.alloc (.cells c.toArray e)).alloc (.cells #[] e)) = .ok v1 w1 ∧ Below M W w1 ∧ (Builtin.append_ #[t, t] t #[v1, .slice (some ⟨M, 0, none⟩) 1 1]).run Tryz.prog w1 = .ok v2 w2 ∧ Pushed W M e size n (xs ++ c) v2 w2) := by
  subst hM
  have bel : ∀ o1 : Obj, Below W.heap.size W (W.alloc o1) := fun o1 => (Below.refl _ _).alloc (Nat.le_refl _) o1
  have bel2 : ∀ o1 o2 : Obj, Below W.heap.size W ((W.alloc o1).alloc o2) := fun o1 o2 => (bel o1).alloc (by simp) o2
  have own0 : ∀ X, Below W.heap.size W X → X.ownsRow 0 e size v n xs := fun X hX => own0_below ho hX
  refine ⟨?_, ?_, ?_⟩
  · obtain ⟨v1, w1, r1, o1, b1, k1⟩ := copy_run ht hi hz hsize hby hzs hsz (W.alloc (.cells #[] e)) W.heap.size W.heap.size v n xs (World.ownsRow_made W #[] 0 (Nat.le_refl _) (Nat.zero_le _) (by simp)) (own0 _ (bel _)) hl h1 hn hb (by simp)
    have hs1 : W.heap.size ≤ w1.heap.size := by have := b1.size; simp at this; omega
    obtain ⟨v2, w2, r2, o2, b2⟩ := push_run ht hi hz hsize hby hzs hsz (w1.alloc (.cells c.toArray e)) W.heap.size w1.heap.size v1 n xs c (o1.alloc _) (heap_alloc_new w1 _) hc hc1 hn hb (by simp; omega)
    exact ⟨v1, w1, v2, w2, r1, (bel _).trans b1, r2, o2, ((bel _).trans b1).trans (((Below.refl _ _).alloc hs1 _).trans b2)⟩
  · obtain ⟨v1, w1, r1, o1, b1, k1⟩ := copy_run ht hi hz hsize hby hzs hsz ((W.alloc (.cells #[] e)).alloc (.cells c.toArray e)) W.heap.size W.heap.size v n xs ((World.ownsRow_made W #[] 0 (Nat.le_refl _) (Nat.zero_le _) (by simp)).alloc _) (own0 _ (bel2 _ _)) hl h1 hn hb (by simp; omega)
    have hs1 : W.heap.size + 1 < w1.heap.size := by have := b1.size; simp at this; omega
    have hy : w1.heap[W.heap.size + 1]? = some (.cells c.toArray e (0, 0)) := by
      rw [k1 _ (by simp) (by omega)]
      have := heap_alloc_new (W.alloc (.cells #[] e)) (.cells c.toArray e)
      simpa using this
    obtain ⟨v2, w2, r2, o2, b2⟩ := push_run ht hi hz hsize hby hzs hsz w1 W.heap.size (W.heap.size + 1) v1 n xs c o1 hy hc hc1 hn hb (by omega)
    exact ⟨v1, w1, v2, w2, r1, (bel2 _ _).trans b1, r2, o2, ((bel2 _ _).trans b1).trans b2⟩
  · obtain ⟨v1, w1, r1, o1, b1, k1⟩ := copy_run ht hi hz hsize hby hzs hsz ((W.alloc (.cells c.toArray e)).alloc (.cells #[] e)) W.heap.size (W.heap.size + 1) v n xs (by
      have := World.ownsRow_made (base := W.heap.size) (e := e) (size := size) (W.alloc (.cells c.toArray e)) #[] 0 (by simp) (Nat.zero_le _) (by simp)
      simpa using this) (own0 _ (bel2 _ _)) hl h1 hn hb (by simp; omega)
    have hs1 : W.heap.size + 1 < w1.heap.size := by have := b1.size; simp at this; omega
    have hy : w1.heap[W.heap.size]? = some (.cells c.toArray e (0, 0)) := by
      rw [k1 _ (by simp; omega) (by omega)]
      rw [((Below.refl (W.heap.size + 1) (W.alloc (.cells c.toArray e))).alloc (by simp) _).block W.heap.size (by omega)]
      exact heap_alloc_new W _
    obtain ⟨v2, w2, r2, o2, b2⟩ := push_run ht hi hz hsize hby hzs hsz w1 W.heap.size W.heap.size v1 n xs c o1 hy hc hc1 hn hb (by omega)
    exact ⟨v1, w1, v2, w2, r1, (bel2 _ _).trans b1, r2, o2, ((bel2 _ _).trans b1).trans b2⟩
end
end Go.Proofs.YthfcmgbkhjnfjaaGreatDoor

namespace Go.Proofs.YthfcmgbkhjnfjaaGreatDoor
open Go.RowKit Go.Maps

theorem infoPDid : (Tryz.prog.info? 89).map (fun i => (i.zero, i.size, i.bytes)) = some (some (.agg #[.int .i64 0, .string ⟨#[]⟩, .string ⟨#[]⟩, .string ⟨#[]⟩, .int .i64 0]), 5, 64) := by kernel_rfl
theorem oneDid (l : List Ac) : ∀ u ∈ l.flatMap Ac.cells, u.oneCell' = true := by
  intro u hu
  obtain ⟨a, -, ha⟩ := List.mem_flatMap.1 hu
  simp [Ac.cells] at ha
  rcases ha with rfl | rfl | rfl | rfl | rfl <;> rfl
theorem below_undrew {B : Nat} {w w' : World} (h : Below B w.drew w') : Below B w w' := ⟨h.os, h.tape, h.output, h.size, h.block⟩
theorem flatMap_one {α : Type} (c : α → List Value) (x : α) : [x].flatMap c = c x := by simp
/-- Three boxes. -/
theorem box_three {w W0 : World} {N : Nat} {o1 o2 o3 : Obj} (h : ((w.alloc o1).alloc o2).alloc o3 = W0) (hN : w.heap.size = N) : W0.heap[N]? = some o1 ∧ W0.heap[N + 1]? = some o2 ∧ W0.heap[N + 1 + 1]? = some o3 ∧ Below N w W0 ∧ W0.heap.size = N + 1 + 1 + 1 := by
  subst h hN
  have e1 : ∀ (v : World) (o : Obj), (v.alloc o).heap[v.heap.size]? = some o := fun v o => heap_alloc_new v o
  have e2 : ∀ (v : World) (o : Obj) (k : Nat), k < v.heap.size → (v.alloc o).heap[k]? = v.heap[k]? := fun v o k hk => ((Below.refl v.heap.size v).alloc (Nat.le_refl _) o).block k hk
  refine ⟨?_, ?_, ?_, (((Below.refl _ _).alloc (Nat.le_refl _) _).alloc (by simp) _).alloc (by simp <;> omega) _, by simp⟩
  · rw [e2 _ _ _ (by simp; omega), e2 _ _ _ (by simp), e1]
  · rw [e2 _ _ _ (by simp)]
    have := e1 (w.alloc o1) o2
    simpa using this
  · have := e1 ((w.alloc o1).alloc o2) o3
    simpa using this
/-- Behind the region. -/
def PWDid (w0 : World) (N : Nat) (o1 o3 : Obj) (ys : List Value) (n y z : Nat) (wx : World) : Prop := wx.heap[N]? = some o1 ∧ wx.heap[N + 1 + 1]? = some o3 ∧ Below N w0 wx ∧ wx.ownsRow (N + 1 + 1 + 1) 89 5 (.slice (some ⟨y, 0, none⟩) (n + 1) z) (n + 1) ys
set_option maxRecDepth 20000 in
set_option maxHeartbeats 12800000 in
theorem did_ref (room units left : Int) (armed gone : Bool) (fo so wo ao : Option Addr) (fn fk sn sk wn wk an ak : Nat) (acts : List Ac) (a : Ac) (w : World) (h : ActsAt w (.slice ao an ak) acts) (hn : acts.length ≤ 10000000) :
    Calls Tryz.prog 60 #[.agg #[.int .i64 room, .slice fo fn fk, .slice so sn sk, .slice wo wn wk, .int .i64 units, .int .i64 left, .bool armed, .bool gone, .slice ao an ak], .agg #[.int .i64 a.kind, .string a.name, .string a.other, .string a.bytes, .int .i64 a.place]] w fun e w' =>
      ∃ v, e = .returned (.agg #[.int .i64 room, .slice fo fn fk, .slice so sn sk, .slice wo wn wk, .int .i64 units, .int .i64 left, .bool armed, .bool gone, v]) ∧ ActsAt w' v (acts ++ [a]) ∧ Below w.heap.size w w' := by
  obtain ⟨i0, hi0, hz0, hz1, hz2⟩ := info_parts infoPDid
  obtain ⟨N, hN⟩ : ∃ N, w.heap.size = N := ⟨_, rfl⟩
  obtain ⟨W0, hW0⟩ : ∃ W0, ((w.alloc (.cells #[.int .i64 room, .slice fo fn fk, .slice so sn sk, .slice wo wn wk, .int .i64 units, .int .i64 left, .bool armed, .bool gone, .slice ao an ak] 37)).alloc (.cells #[.int .i64 a.kind, .string a.name, .string a.other, .string a.bytes, .int .i64 a.place] 89)).alloc (.cells #[.int .i64 0, .slice none 0 0, .slice none 0 0, .slice none 0 0, .int .i64 0, .int .i64 0, .bool false, .bool false, .slice none 0 0] 37) = W0 := ⟨_, rfl⟩
  obtain ⟨B0, B1, B2, BB, hsz⟩ := box_three hW0 hN
  have hva := own0_below h (by rw [hN]; exact BB)
  obtain ⟨⟨v1, w1, v2, w2, r1, b1, r2, p2⟩, ⟨v3, w3, v4, w4, r3, b3, r4, p4⟩, ⟨v5, w5, v6, w6, r5, b5, r6, p6⟩⟩ := push_runs Tryz.underlying35 hi0 hz0 hz1 hz2 rfl (by omega) W0.drew (N + 1 + 1 + 1) hsz (.slice ao an ak) acts.length (acts.flatMap Ac.cells) (Ac.cells a) (ownsRow_of_block hva fun _ _ => rfl) (flat_len (c := Ac.cells) (n := 5) (fun _ => rfl) acts) (oneDid _) rfl (by intro u hu; simp [Ac.cells] at hu; rcases hu with rfl | rfl | rfl | rfl | rfl <;> rfl) (by omega) (by omega)
  obtain ⟨y2, z2, hy2, -, -⟩ := p2.1.form (by omega)
  obtain ⟨y4, z4, hy4, -, -⟩ := p4.1.form (by omega)
  obtain ⟨y6, z6, hy6, -, -⟩ := p6.1.form (by omega)
  subst hy2 hy4 hy6
  have R1 : Hid ((Builtin.append_ #[35, 35] 35 #[.slice (some ⟨N + 1 + 1 + 1, 0, none⟩) 0 0, (.slice ao an ak)]).run Tryz.prog (W0.alloc (.cells #[] 89)).drew = .ok v1 w1) := Lib.hid r1
  have R2 : Hid ((Builtin.append_ #[35, 35] 35 #[v1, .slice (some ⟨w1.heap.size, 0, none⟩) 1 1]).run Tryz.prog (w1.alloc (.cells #[.int .i64 a.kind, .string a.name, .string a.other, .string a.bytes, .int .i64 a.place] 89)) = .ok (.slice (some ⟨y2, 0, none⟩) (acts.length + 1) z2) w2) := Lib.hid r2
  have R3 : Hid ((Builtin.append_ #[35, 35] 35 #[.slice (some ⟨N + 1 + 1 + 1, 0, none⟩) 0 0, (.slice ao an ak)]).run Tryz.prog ((W0.alloc (.cells #[] 89)).alloc (.cells #[.int .i64 a.kind, .string a.name, .string a.other, .string a.bytes, .int .i64 a.place] 89)).drew = .ok v3 w3) := Lib.hid r3
  have R4 : Hid ((Builtin.append_ #[35, 35] 35 #[v3, .slice (some ⟨N + 1 + 1 + 1 + 1, 0, none⟩) 1 1]).run Tryz.prog w3 = .ok (.slice (some ⟨y4, 0, none⟩) (acts.length + 1) z4) w4) := Lib.hid r4
  have R5 : Hid ((Builtin.append_ #[35, 35] 35 #[.slice (some ⟨N + 1 + 1 + 1 + 1, 0, none⟩) 0 0, (.slice ao an ak)]).run Tryz.prog ((W0.alloc (.cells #[.int .i64 a.kind, .string a.name, .string a.other, .string a.bytes, .int .i64 a.place] 89)).alloc (.cells #[] 89)).drew = .ok v5 w5) := Lib.hid r5
  have R6 : Hid ((Builtin.append_ #[35, 35] 35 #[v5, .slice (some ⟨N + 1 + 1 + 1, 0, none⟩) 1 1]).run Tryz.prog w5 = .ok (.slice (some ⟨y6, 0, none⟩) (acts.length + 1) z6) w6) := Lib.hid r6
  have D2 := (p2.2.block N (by omega)).trans B0
  have Z2 := (p2.2.block (N + 1 + 1) (by omega)).trans B2
  have D4 := (p4.2.block N (by omega)).trans B0
  have Z4 := (p4.2.block (N + 1 + 1) (by omega)).trans B2
  have D6 := (p6.2.block N (by omega)).trans B0
  have Z6 := (p6.2.block (N + 1 + 1) (by omega)).trans B2
  have A1 := (b1.block (N + 1) (by omega)).trans B1
  have A3 := (b3.block (N + 1) (by omega)).trans B1
  have A5 := (b5.block (N + 1) (by omega)).trans B1
  have qc0 : W0.cell? ⟨N, 0, none⟩ = some (.int .i64 room) := by simp [World.cell?, B0]
  have qc1 : W0.cell? ⟨N, 1, none⟩ = some (.slice fo fn fk) := by simp [World.cell?, B0]
  have qc2 : W0.cell? ⟨N, 2, none⟩ = some (.slice so sn sk) := by simp [World.cell?, B0]
  have qc3 : W0.cell? ⟨N, 3, none⟩ = some (.slice wo wn wk) := by simp [World.cell?, B0]
  have qc4 : W0.cell? ⟨N, 4, none⟩ = some (.int .i64 units) := by simp [World.cell?, B0]
  have qc5 : W0.cell? ⟨N, 5, none⟩ = some (.int .i64 left) := by simp [World.cell?, B0]
  have qc6 : W0.cell? ⟨N, 6, none⟩ = some (.bool armed) := by simp [World.cell?, B0]
  have qc7 : W0.cell? ⟨N, 7, none⟩ = some (.bool gone) := by simp [World.cell?, B0]
  have qc8 : W0.cell? ⟨N, 8, none⟩ = some (.slice ao an ak) := by simp [World.cell?, B0]
  have ac0 : W0.cell? ⟨N + 1, 0, none⟩ = some (.int .i64 a.kind) := by simp [World.cell?, B1]
  have ac1 : W0.cell? ⟨N + 1, 1, none⟩ = some (.string a.name) := by simp [World.cell?, B1]
  have ac2 : W0.cell? ⟨N + 1, 2, none⟩ = some (.string a.other) := by simp [World.cell?, B1]
  have ac3 : W0.cell? ⟨N + 1, 3, none⟩ = some (.string a.bytes) := by simp [World.cell?, B1]
  have ac4 : W0.cell? ⟨N + 1, 4, none⟩ = some (.int .i64 a.place) := by simp [World.cell?, B1]
  have a1c0 : w1.cell? ⟨N + 1, 0, none⟩ = some (.int .i64 a.kind) := by simp [World.cell?, A1]
  have a1c1 : w1.cell? ⟨N + 1, 1, none⟩ = some (.string a.name) := by simp [World.cell?, A1]
  have a1c2 : w1.cell? ⟨N + 1, 2, none⟩ = some (.string a.other) := by simp [World.cell?, A1]
  have a1c3 : w1.cell? ⟨N + 1, 3, none⟩ = some (.string a.bytes) := by simp [World.cell?, A1]
  have a1c4 : w1.cell? ⟨N + 1, 4, none⟩ = some (.int .i64 a.place) := by simp [World.cell?, A1]
  have a3c0 : w3.cell? ⟨N + 1, 0, none⟩ = some (.int .i64 a.kind) := by simp [World.cell?, A3]
  have a3c1 : w3.cell? ⟨N + 1, 1, none⟩ = some (.string a.name) := by simp [World.cell?, A3]
  have a3c2 : w3.cell? ⟨N + 1, 2, none⟩ = some (.string a.other) := by simp [World.cell?, A3]
  have a3c3 : w3.cell? ⟨N + 1, 3, none⟩ = some (.string a.bytes) := by simp [World.cell?, A3]
  have a3c4 : w3.cell? ⟨N + 1, 4, none⟩ = some (.int .i64 a.place) := by simp [World.cell?, A3]
  have a5c0 : w5.cell? ⟨N + 1, 0, none⟩ = some (.int .i64 a.kind) := by simp [World.cell?, A5]
  have a5c1 : w5.cell? ⟨N + 1, 1, none⟩ = some (.string a.name) := by simp [World.cell?, A5]
  have a5c2 : w5.cell? ⟨N + 1, 2, none⟩ = some (.string a.other) := by simp [World.cell?, A5]
  have a5c3 : w5.cell? ⟨N + 1, 3, none⟩ = some (.string a.bytes) := by simp [World.cell?, A5]
  have a5c4 : w5.cell? ⟨N + 1, 4, none⟩ = some (.int .i64 a.place) := by simp [World.cell?, A5]
  have F2 : Hid (PWDid w N (.cells #[.int .i64 room, .slice fo fn fk, .slice so sn sk, .slice wo wn wk, .int .i64 units, .int .i64 left, .bool armed, .bool gone, .slice (some ⟨y2, 0, none⟩) (acts.length + 1) z2] 37 (0, 0)) (.cells #[.int .i64 0, .slice none 0 0, .slice none 0 0, .slice none 0 0, .int .i64 0, .int .i64 0, .bool false, .bool false, .slice none 0 0] 37) (acts.flatMap Ac.cells ++ Ac.cells a) acts.length y2 z2 (w2.setCell ⟨N, 8, none⟩ (.slice (some ⟨y2, 0, none⟩) (acts.length + 1) z2))) := Lib.hid ⟨Joins.block_setCell D2 _, (Below.heap_setCell _ _ _ _ (show N + 1 + 1 ≠ N by omega)).trans Z2, Below.setCell (BB.trans ((below_undrew p2.2).mono (show N ≤ N + 1 + 1 + 1 by omega))) (Nat.le_refl _) _, ownsRow_setCell_below p2.1 (show N < N + 1 + 1 + 1 by omega) _⟩
  have ec2 : w2.cell? ⟨N, 8, none⟩ = some (.slice ao an ak) := by simp [World.cell?, D2]
  have ef2 : w2.frozen? ⟨N, 8, none⟩ = false := by simp [World.frozen?, D2]
  have F4 : Hid (PWDid w N (.cells #[.int .i64 room, .slice fo fn fk, .slice so sn sk, .slice wo wn wk, .int .i64 units, .int .i64 left, .bool armed, .bool gone, .slice (some ⟨y4, 0, none⟩) (acts.length + 1) z4] 37 (0, 0)) (.cells #[.int .i64 0, .slice none 0 0, .slice none 0 0, .slice none 0 0, .int .i64 0, .int .i64 0, .bool false, .bool false, .slice none 0 0] 37) (acts.flatMap Ac.cells ++ Ac.cells a) acts.length y4 z4 (w4.setCell ⟨N, 8, none⟩ (.slice (some ⟨y4, 0, none⟩) (acts.length + 1) z4))) := Lib.hid ⟨Joins.block_setCell D4 _, (Below.heap_setCell _ _ _ _ (show N + 1 + 1 ≠ N by omega)).trans Z4, Below.setCell (BB.trans ((below_undrew p4.2).mono (show N ≤ N + 1 + 1 + 1 by omega))) (Nat.le_refl _) _, ownsRow_setCell_below p4.1 (show N < N + 1 + 1 + 1 by omega) _⟩
  have ec4 : w4.cell? ⟨N, 8, none⟩ = some (.slice ao an ak) := by simp [World.cell?, D4]
  have ef4 : w4.frozen? ⟨N, 8, none⟩ = false := by simp [World.frozen?, D4]
  have F6 : Hid (PWDid w N (.cells #[.int .i64 room, .slice fo fn fk, .slice so sn sk, .slice wo wn wk, .int .i64 units, .int .i64 left, .bool armed, .bool gone, .slice (some ⟨y6, 0, none⟩) (acts.length + 1) z6] 37 (0, 0)) (.cells #[.int .i64 0, .slice none 0 0, .slice none 0 0, .slice none 0 0, .int .i64 0, .int .i64 0, .bool false, .bool false, .slice none 0 0] 37) (acts.flatMap Ac.cells ++ Ac.cells a) acts.length y6 z6 (w6.setCell ⟨N, 8, none⟩ (.slice (some ⟨y6, 0, none⟩) (acts.length + 1) z6))) := Lib.hid ⟨Joins.block_setCell D6 _, (Below.heap_setCell _ _ _ _ (show N + 1 + 1 ≠ N by omega)).trans Z6, Below.setCell (BB.trans ((below_undrew p6.2).mono (show N ≤ N + 1 + 1 + 1 by omega))) (Nat.le_refl _) _, ownsRow_setCell_below p6.1 (show N < N + 1 + 1 + 1 by omega) _⟩
  have ec6 : w6.cell? ⟨N, 8, none⟩ = some (.slice ao an ak) := by simp [World.cell?, D6]
  have ef6 : w6.frozen? ⟨N, 8, none⟩ = false := by simp [World.frozen?, D6]
  clear BB B0 B1 B2 D2 D4 D6 Z2 Z4 Z6 A1 A3 A5 r1 r2 r3 r4 r5 r6 p2 p4 p6 b1 b3 b5 hva h hi0 hz0 hz1 hz2
  go_enter Tryz.func60, Tryz.ntmps60
  go_wp2_with fail
  go_cut [11] (fun v11 wx => ∃ y z, Hid (PWDid w N (.cells #[.int .i64 room, .slice fo fn fk, .slice so sn sk, .slice wo wn wk, .int .i64 units, .int .i64 left, .bool armed, .bool gone, .slice (some ⟨y, 0, none⟩) (acts.length + 1) z] 37 (0, 0)) (.cells #[.int .i64 0, .slice none 0 0, .slice none 0 0, .slice none 0 0, .int .i64 0, .int .i64 0, .bool false, .bool false, .slice none 0 0] 37) (acts.flatMap Ac.cells ++ Ac.cells a) acts.length y z wx))
  case first =>
    go_region_law (first
      | (refine step_append_eq (by rfl) _ _ _ (by rfl) (v := .slice (some ⟨N + 1 + 1 + 1, 0, none⟩) 0 0) (u := (.slice ao an ak)) (by rfl) (by rfl) (by with_reducible exact R1.out) ?_)
      | (refine step_append_eq (by rfl) _ _ _ (by rfl) (v := v1) (u := .slice (some ⟨w1.heap.size, 0, none⟩) 1 1) (by rfl) (by rfl) (by with_reducible exact R2.out) ?_; have HFF := F2; clear R1 R2 R3 R4 R5 R6 F2 F4 F6 qc0 qc1 qc2 qc3 qc4 qc5 qc6 qc7 qc8 ac0 ac1 ac2 ac3 ac4 a1c0 a1c1 a1c2 a1c3 a1c4 a3c0 a3c1 a3c2 a3c3 a3c4 a5c0 a5c1 a5c2 a5c3 a5c4 ec4 ef4 ec6 ef6)
      | (refine step_append_eq (by rfl) _ _ _ (by rfl) (v := .slice (some ⟨N + 1 + 1 + 1, 0, none⟩) 0 0) (u := (.slice ao an ak)) (by rfl) (by rfl) (by with_reducible exact R3.out) ?_)
      | (refine step_append_eq (by rfl) _ _ _ (by rfl) (v := v3) (u := .slice (some ⟨N + 1 + 1 + 1 + 1, 0, none⟩) 1 1) (by rfl) (by rfl) (by with_reducible exact R4.out) ?_; have HFF := F4; clear R1 R2 R3 R4 R5 R6 F2 F4 F6 qc0 qc1 qc2 qc3 qc4 qc5 qc6 qc7 qc8 ac0 ac1 ac2 ac3 ac4 a1c0 a1c1 a1c2 a1c3 a1c4 a3c0 a3c1 a3c2 a3c3 a3c4 a5c0 a5c1 a5c2 a5c3 a5c4 ec2 ef2 ec6 ef6)
      | (refine step_append_eq (by rfl) _ _ _ (by rfl) (v := .slice (some ⟨N + 1 + 1 + 1 + 1, 0, none⟩) 0 0) (u := (.slice ao an ak)) (by rfl) (by rfl) (by with_reducible exact R5.out) ?_)
      | (refine step_append_eq (by rfl) _ _ _ (by rfl) (v := v5) (u := .slice (some ⟨N + 1 + 1 + 1, 0, none⟩) 1 1) (by rfl) (by rfl) (by with_reducible exact R6.out) ?_; have HFF := F6; clear R1 R2 R3 R4 R5 R6 F2 F4 F6 qc0 qc1 qc2 qc3 qc4 qc5 qc6 qc7 qc8 ac0 ac1 ac2 ac3 ac4 a1c0 a1c1 a1c2 a1c3 a1c4 a3c0 a3c1 a3c2 a3c3 a3c4 a5c0 a5c1 a5c2 a5c3 a5c4 ec2 ef2 ec4 ef4)
      | fail)
    all_goals
      refine (‹∀ (a' : Act) (w' : World), Met _ a' w' → _› _ _ ?_)
      go_meet
      exact ⟨_, _, HFF⟩
  case rest =>
    obtain ⟨y, z, HPW⟩ := hcut
    obtain ⟨D, Z, B, O⟩ := HPW.out
    have HB := Lib.hid B
    have HO := Lib.hid O
    have dc0 : wc.cell? ⟨N, 0, none⟩ = some (.int .i64 room) := by simp [World.cell?, D]
    have dc1 : wc.cell? ⟨N, 1, none⟩ = some (.slice fo fn fk) := by simp [World.cell?, D]
    have dc2 : wc.cell? ⟨N, 2, none⟩ = some (.slice so sn sk) := by simp [World.cell?, D]
    have dc3 : wc.cell? ⟨N, 3, none⟩ = some (.slice wo wn wk) := by simp [World.cell?, D]
    have dc4 : wc.cell? ⟨N, 4, none⟩ = some (.int .i64 units) := by simp [World.cell?, D]
    have dc5 : wc.cell? ⟨N, 5, none⟩ = some (.int .i64 left) := by simp [World.cell?, D]
    have dc6 : wc.cell? ⟨N, 6, none⟩ = some (.bool armed) := by simp [World.cell?, D]
    have dc7 : wc.cell? ⟨N, 7, none⟩ = some (.bool gone) := by simp [World.cell?, D]
    have dc8 : wc.cell? ⟨N, 8, none⟩ = some (.slice (some ⟨y, 0, none⟩) (acts.length + 1) z) := by simp [World.cell?, D]
    have zc0 : wc.cell? ⟨N + 1 + 1, 0, none⟩ = some (.int .i64 0) := by simp [World.cell?, Z]
    have zf0 : wc.frozen? ⟨N + 1 + 1, 0, none⟩ = false := by simp [World.frozen?, Z]
    have zc1 : wc.cell? ⟨N + 1 + 1, 1, none⟩ = some (.slice none 0 0) := by simp [World.cell?, Z]
    have zf1 : wc.frozen? ⟨N + 1 + 1, 1, none⟩ = false := by simp [World.frozen?, Z]
    have zc2 : wc.cell? ⟨N + 1 + 1, 2, none⟩ = some (.slice none 0 0) := by simp [World.cell?, Z]
    have zf2 : wc.frozen? ⟨N + 1 + 1, 2, none⟩ = false := by simp [World.frozen?, Z]
    have zc3 : wc.cell? ⟨N + 1 + 1, 3, none⟩ = some (.slice none 0 0) := by simp [World.cell?, Z]
    have zf3 : wc.frozen? ⟨N + 1 + 1, 3, none⟩ = false := by simp [World.frozen?, Z]
    have zc4 : wc.cell? ⟨N + 1 + 1, 4, none⟩ = some (.int .i64 0) := by simp [World.cell?, Z]
    have zf4 : wc.frozen? ⟨N + 1 + 1, 4, none⟩ = false := by simp [World.frozen?, Z]
    have zc5 : wc.cell? ⟨N + 1 + 1, 5, none⟩ = some (.int .i64 0) := by simp [World.cell?, Z]
    have zf5 : wc.frozen? ⟨N + 1 + 1, 5, none⟩ = false := by simp [World.frozen?, Z]
    have zc6 : wc.cell? ⟨N + 1 + 1, 6, none⟩ = some (.bool false) := by simp [World.cell?, Z]
    have zf6 : wc.frozen? ⟨N + 1 + 1, 6, none⟩ = false := by simp [World.frozen?, Z]
    have zc7 : wc.cell? ⟨N + 1 + 1, 7, none⟩ = some (.bool false) := by simp [World.cell?, Z]
    have zf7 : wc.frozen? ⟨N + 1 + 1, 7, none⟩ = false := by simp [World.frozen?, Z]
    have zc8 : wc.cell? ⟨N + 1 + 1, 8, none⟩ = some (.slice none 0 0) := by simp [World.cell?, Z]
    have zf8 : wc.frozen? ⟨N + 1 + 1, 8, none⟩ = false := by simp [World.frozen?, Z]
    clear D Z B O HPW R1 R2 R3 R4 R5 R6 F2 F4 F6 qc0 qc1 qc2 qc3 qc4 qc5 qc6 qc7 qc8 ac0 ac1 ac2 ac3 ac4 a1c0 a1c1 a1c2 a1c3 a1c4 a3c0 a3c1 a3c2 a3c3 a3c4 a5c0 a5c1 a5c2 a5c3 a5c4 ec2 ef2 ec4 ef4 ec6 ef6
    go_wp2_with fail
    refine bodyPost_ret (v := .agg #[.int .i64 room, .slice fo fn fk, .slice so sn sk, .slice wo wn wk, .int .i64 units, .int .i64 left, .bool armed, .bool gone, .slice (some ⟨y, 0, none⟩) (acts.length + 1) z]) (by simp [results, Tryz.results60, go_sem, zc0, zc1, zc2, zc3, zc4, zc5, zc6, zc7, zc8]) rfl ⟨_, rfl, ?_, ?_⟩
    · refine own_to0 (N := N + 1 + 1 + 1) ?_; rw [List.length_append, List.length_singleton, List.flatMap_append, flatMap_one]; repeat first | with_reducible exact HO.out | with_reducible refine ownsRow_setCell_below ?_ (show N + 1 + 1 < N + 1 + 1 + 1 from Nat.lt_succ_self _) _
    · rw [hN]; repeat first | with_reducible exact HB.out | with_reducible refine Below.setCell ?_ (show N ≤ N + 1 + 1 from Nat.le_add_right N 2) _
end Go.Proofs.YthfcmgbkhjnfjaaGreatDoor
