/- The reference's disk with another file at a place: with. -/
import Derived.Test.YthfcmgbkhjnfjaaGreatDoorVH
namespace Go.Proofs.YthfcmgbkhjnfjaaGreatDoor
open Go.RowKit Go.Maps

theorem infoRFile : (Tryz.prog.info? 86).map (fun i => (i.zero, i.size, i.bytes)) = some (some (.agg #[.string ⟨#[]⟩, .slice none 0 0]), 2, 40) := by kernel_rfl
/-- An append by its run. -/
theorem wpList_append_run {w : World} {ops : Array Oper} {rest : List Oper} {o : Oper} {a : Act} {Q : Exit → Act → World → Prop} (hgd : o.guard = none) (s x : Operand) (t : TypeId)
    (ho : o.op = .call { callee := .builtin .append, args := #[s, x], argTypes := #[t, t] }) {v u v' : Value} {w' : World} (hs : a.eval s = v) (hx : a.eval x = u)
    (hr : (Builtin.append_ #[t, t] o.type #[v, u]).run Tryz.prog w = .ok v' w') (h : wpList Tryz.prog ops Q rest (a.put o.dst v') w') : wpList Tryz.prog ops Q (o :: rest) a w :=
  wpList_plain hgd fun _ hK => by
    unfold Oper.wp execOp
    simp only [ho, resolve, invoke, builtin, Sem.run_bind, Sem.run_pure, Result.andThen_ok, List.map_toArray, List.map_cons, List.map_nil, hs, hx, hr]
    exact hK _ _ h
/-- A store into an owned row. -/
theorem own_set1 {w : World} {base : Nat} {e : TypeId} {size n g cap : Nat} {xs : List Value} (h : w.ownsRow base e size (.slice (some ⟨g, 0, none⟩) n cap) n xs) (j : Nat) (u : Value) : (w.setCell ⟨g, j, none⟩ u).ownsRow base e size (.slice (some ⟨g, 0, none⟩) n cap) n (xs.set j u) := by
  refine ⟨by rw [List.length_set]; exact h.1, ?_⟩
  rcases h.2 with ⟨h1, -⟩ | ⟨g', c', cur, h1, h2, h3, h4, h5, h6, h7⟩
  · cases h1
  · injection h1 with q1 q2 q3
    injection q1 with q1
    injection q1 with q1
    subst q1 q3
    refine .inr ⟨g, cap, cur.setIfInBounds j u, rfl, h2, Joins.block_setCell h3 u, h4, h5, by simpa using h6, ?_⟩
    rw [Array.toList_setIfInBounds, ← h7, List.take_set]
/-- What the block of an owned row is. -/
theorem own_block {w : World} {base : Nat} {e : TypeId} {size n g cap : Nat} {xs : List Value} (h : w.ownsRow base e size (.slice (some ⟨g, 0, none⟩) n cap) n xs) : base ≤ g ∧ (∀ j, w.frozen? ⟨g, j, none⟩ = false) ∧ ∀ j u, xs[j]? = some u → w.cell? ⟨g, j, none⟩ = some u := by
  refine ⟨(h.lt g rfl).1, ?_, fun j u hj => by have := h.cells (g := g) rfl j u hj; rwa [add_at] at this⟩
  rcases h.2 with ⟨h1, -⟩ | ⟨g', c', cur, h1, h2, h3, h4, h5, h6, h7⟩
  · cases h1
  · injection h1 with q1 q2 q3
    injection q1 with q1
    injection q1 with q1
    subst q1
    intro j
    simp [World.frozen?, h3]
theorem filC_set (l : List (ByteArray × Value)) (i : Nat) (p : ByteArray × Value) : ((l.flatMap filC).set (i * 2) (.string p.1)).set (i * 2 + 1) p.2 = (l.set i p).flatMap filC := by
  induction l generalizing i with
  | nil => rfl
  | cons x r ih =>
    cases i with
    | zero => rfl
    | succ i =>
      have e1 : (i + 1) * 2 = i * 2 + 1 + 1 := by omega
      have e2 : (i + 1) * 2 + 1 = i * 2 + 1 + 1 + 1 := by omega
      rw [e2, e1]
      show (((.string x.1 :: x.2 :: r.flatMap filC).set (i * 2 + 1 + 1) (.string p.1)).set (i * 2 + 1 + 1 + 1) p.2) = filC x ++ (r.set i p).flatMap filC
      rw [← ih i]
      rfl
set_option maxRecDepth 20000 in
set_option maxHeartbeats 6400000 in
theorem with_ref (room units left : Int) (armed gone : Bool) (fo so wo ao : Option Addr) (fn fk sn sk wn wk an ak : Nat) (fs : List (ByteArray × Value)) (i : Nat) (sure : ByteArray) (bo : Option Addr) (bn bk : Nat) (w : World) (h : FilesAt w (.slice fo fn fk) fs) (hn : fs.length ≤ 10000000) (hi : i < fs.length) (h1 : ∀ p ∈ fs, p.2.oneCell' = true) :
    Calls Tryz.prog 61 #[.agg #[.int .i64 room, .slice fo fn fk, .slice so sn sk, .slice wo wn wk, .int .i64 units, .int .i64 left, .bool armed, .bool gone, .slice ao an ak], .int .i64 i, .agg #[.string sure, .slice bo bn bk]] w fun e w' =>
      ∃ v, e = .returned (.agg #[.int .i64 room, v, .slice so sn sk, .slice wo wn wk, .int .i64 units, .int .i64 left, .bool armed, .bool gone, .slice ao an ak]) ∧ FilesAt w' v (fs.set i (sure, .slice bo bn bk)) ∧ Below w.heap.size w w' := by
  obtain ⟨i0, hi0, hz0, hz1, hz2⟩ := info_parts infoRFile
  obtain ⟨N, hN⟩ : ∃ N, w.heap.size = N := ⟨_, rfl⟩
  obtain ⟨W0, hW0⟩ : ∃ W0, ((w.alloc (.cells #[.int .i64 room, .slice fo fn fk, .slice so sn sk, .slice wo wn wk, .int .i64 units, .int .i64 left, .bool armed, .bool gone, .slice ao an ak] 37)).alloc (.cells #[.string sure, .slice bo bn bk] 86)).alloc (.cells #[.int .i64 0, .slice none 0 0, .slice none 0 0, .slice none 0 0, .int .i64 0, .int .i64 0, .bool false, .bool false, .slice none 0 0] 37) = W0 := ⟨_, rfl⟩
  obtain ⟨B0, B1, B2, BB, hsz⟩ := box_three hW0 hN
  have hva := own0_below h (by rw [hN]; exact BB)
  have hone : ∀ u ∈ fs.flatMap filC, u.oneCell' = true := by
    intro u hu
    obtain ⟨p, hp, hu⟩ := List.mem_flatMap.1 hu
    simp [filC] at hu
    rcases hu with rfl | rfl
    · rfl
    · exact h1 p hp
  have bE : Below (N + 1 + 1 + 1) W0 (W0.alloc (.cells #[] 86)) := (Below.refl _ _).alloc (Nat.le_of_eq hsz.symm) _
  have hmade := World.ownsRow_made (base := N + 1 + 1 + 1) (e := 86) (size := 2) W0 #[] 0 (Nat.le_of_eq hsz.symm) (Nat.zero_le _) rfl
  rw [hsz] at hmade
  obtain ⟨v1, w1, r1, o1, b1, -⟩ := copy_run Tryz.underlying32 hi0 hz0 hz1 hz2 rfl (by omega) (W0.alloc (.cells #[] 86)) (N + 1 + 1 + 1) (N + 1 + 1 + 1) (.slice fo fn fk) fs.length (fs.flatMap filC) hmade (own0_below hva (by rw [hsz]; exact bE)) (flat_len (c := filC) (n := 2) (fun _ => rfl) fs) hone (by omega) (by omega) (by simp; omega)
  obtain ⟨y, z, rfl, -, hy⟩ := o1.form (by omega)
  have bw : Below (N + 1 + 1 + 1) W0 w1 := bE.trans b1
  obtain ⟨hyN, hfr, hce⟩ := own_block o1
  have k0 : ∃ u, w1.cell? ⟨y, i * 2, none⟩ = some u := ⟨_, hce (i * 2) _ (by rw [List.getElem?_eq_getElem (by rw [flat_len (c := filC) (n := 2) (fun _ => rfl)]; omega)])⟩
  have k1 : ∃ u, w1.cell? ⟨y, i * 2 + 1, none⟩ = some u := ⟨_, hce (i * 2 + 1) _ (by rw [List.getElem?_eq_getElem (by rw [flat_len (c := filC) (n := 2) (fun _ => rfl)]; omega)])⟩
  obtain ⟨u0, k0⟩ := k0
  obtain ⟨u1, k1⟩ := k1
  have m0 := hfr (i * 2)
  have m1 := hfr (i * 2 + 1)
  have hiz : (i : Int) < (fs.length : Int) := by omega
  have hne : y ≠ N := by omega
  have hne2 : y ≠ N + 1 := by omega
  have hne3 : y ≠ N + 1 + 1 := by omega
  have D := (bw.block N (by omega)).trans B0
  have F := (bw.block (N + 1) (by omega)).trans B1
  have Z := (bw.block (N + 1 + 1) (by omega)).trans B2
  have R1 := Lib.hid r1
  have HO := Lib.hid o1
  have HB : Hid (Below N w w1) := Lib.hid (BB.trans (bw.mono (by omega)))
  have HYN := Lib.hid hyN
  have HN3 : Hid (N < N + 1 + 1 + 1) := Lib.hid (by omega)
  have qc0 : W0.cell? ⟨N, 1, none⟩ = some (.slice fo fn fk) := by simp [World.cell?, B0]
  have dc0 : w1.cell? ⟨N, 0, none⟩ = some (.int .i64 room) := by simp [World.cell?, D]
  have df0 : w1.frozen? ⟨N, 0, none⟩ = false := by simp [World.frozen?, D]
  have dc1 : w1.cell? ⟨N, 1, none⟩ = some (.slice fo fn fk) := by simp [World.cell?, D]
  have df1 : w1.frozen? ⟨N, 1, none⟩ = false := by simp [World.frozen?, D]
  have dc2 : w1.cell? ⟨N, 2, none⟩ = some (.slice so sn sk) := by simp [World.cell?, D]
  have df2 : w1.frozen? ⟨N, 2, none⟩ = false := by simp [World.frozen?, D]
  have dc3 : w1.cell? ⟨N, 3, none⟩ = some (.slice wo wn wk) := by simp [World.cell?, D]
  have df3 : w1.frozen? ⟨N, 3, none⟩ = false := by simp [World.frozen?, D]
  have dc4 : w1.cell? ⟨N, 4, none⟩ = some (.int .i64 units) := by simp [World.cell?, D]
  have df4 : w1.frozen? ⟨N, 4, none⟩ = false := by simp [World.frozen?, D]
  have dc5 : w1.cell? ⟨N, 5, none⟩ = some (.int .i64 left) := by simp [World.cell?, D]
  have df5 : w1.frozen? ⟨N, 5, none⟩ = false := by simp [World.frozen?, D]
  have dc6 : w1.cell? ⟨N, 6, none⟩ = some (.bool armed) := by simp [World.cell?, D]
  have df6 : w1.frozen? ⟨N, 6, none⟩ = false := by simp [World.frozen?, D]
  have dc7 : w1.cell? ⟨N, 7, none⟩ = some (.bool gone) := by simp [World.cell?, D]
  have df7 : w1.frozen? ⟨N, 7, none⟩ = false := by simp [World.frozen?, D]
  have dc8 : w1.cell? ⟨N, 8, none⟩ = some (.slice ao an ak) := by simp [World.cell?, D]
  have df8 : w1.frozen? ⟨N, 8, none⟩ = false := by simp [World.frozen?, D]
  have ec0 : w1.cell? ⟨N + 1, 0, none⟩ = some (.string sure) := by simp [World.cell?, F]
  have ec1 : w1.cell? ⟨N + 1, 1, none⟩ = some (.slice bo bn bk) := by simp [World.cell?, F]
  have zc0 : w1.cell? ⟨N + 1 + 1, 0, none⟩ = some (.int .i64 0) := by simp [World.cell?, Z]
  have zf0 : w1.frozen? ⟨N + 1 + 1, 0, none⟩ = false := by simp [World.frozen?, Z]
  have zc1 : w1.cell? ⟨N + 1 + 1, 1, none⟩ = some (.slice none 0 0) := by simp [World.cell?, Z]
  have zf1 : w1.frozen? ⟨N + 1 + 1, 1, none⟩ = false := by simp [World.frozen?, Z]
  have zc2 : w1.cell? ⟨N + 1 + 1, 2, none⟩ = some (.slice none 0 0) := by simp [World.cell?, Z]
  have zf2 : w1.frozen? ⟨N + 1 + 1, 2, none⟩ = false := by simp [World.frozen?, Z]
  have zc3 : w1.cell? ⟨N + 1 + 1, 3, none⟩ = some (.slice none 0 0) := by simp [World.cell?, Z]
  have zf3 : w1.frozen? ⟨N + 1 + 1, 3, none⟩ = false := by simp [World.frozen?, Z]
  have zc4 : w1.cell? ⟨N + 1 + 1, 4, none⟩ = some (.int .i64 0) := by simp [World.cell?, Z]
  have zf4 : w1.frozen? ⟨N + 1 + 1, 4, none⟩ = false := by simp [World.frozen?, Z]
  have zc5 : w1.cell? ⟨N + 1 + 1, 5, none⟩ = some (.int .i64 0) := by simp [World.cell?, Z]
  have zf5 : w1.frozen? ⟨N + 1 + 1, 5, none⟩ = false := by simp [World.frozen?, Z]
  have zc6 : w1.cell? ⟨N + 1 + 1, 6, none⟩ = some (.bool false) := by simp [World.cell?, Z]
  have zf6 : w1.frozen? ⟨N + 1 + 1, 6, none⟩ = false := by simp [World.frozen?, Z]
  have zc7 : w1.cell? ⟨N + 1 + 1, 7, none⟩ = some (.bool false) := by simp [World.cell?, Z]
  have zf7 : w1.frozen? ⟨N + 1 + 1, 7, none⟩ = false := by simp [World.frozen?, Z]
  have zc8 : w1.cell? ⟨N + 1 + 1, 8, none⟩ = some (.slice none 0 0) := by simp [World.cell?, Z]
  have zf8 : w1.frozen? ⟨N + 1 + 1, 8, none⟩ = false := by simp [World.frozen?, Z]
  clear BB B0 B1 B2 hva hone bE hmade r1 o1 b1 bw hfr hce D F Z hi0 hz0 hz1 hz2 h h1
  go_enter Tryz.func61, Tryz.ntmps61
  go_wp2_with (at_builtin; refine wpList_append_run rfl _ _ _ rfl (v := .slice (some ⟨N + 1 + 1 + 1, 0, none⟩) 0 0) (u := .slice fo fn fk) rfl rfl R1.out ?_; refine Hid.out ?_)
  refine Lib.hid ?_
  go_wp2_with fail
  refine bodyPost_ret (v := .agg #[.int .i64 room, .slice (some ⟨y, 0, none⟩) fs.length z, .slice so sn sk, .slice wo wn wk, .int .i64 units, .int .i64 left, .bool armed, .bool gone, .slice ao an ak]) (by simp [results, Tryz.results61, go_sem, zc0, zc1, zc2, zc3, zc4, zc5, zc6, zc7, zc8]) rfl ⟨_, rfl, ?_, ?_⟩
  · refine own_to0 (N := N + 1 + 1 + 1) ?_
    rw [List.length_set, ← filC_set]
    repeat first
      | with_reducible exact HO.out
      | with_reducible refine ownsRow_setCell_below ?_ (show N + 1 + 1 < N + 1 + 1 + 1 from Nat.lt_succ_self _) _
      | with_reducible refine ownsRow_setCell_below ?_ HN3.out _
      | with_reducible refine own_set1 ?_ _ _
  · rw [hN]
    repeat first | with_reducible exact HB.out | with_reducible refine Below.setCell ?_ (show N ≤ N from Nat.le_refl _) _ | with_reducible refine Below.setCell ?_ (show N ≤ N + 1 + 1 from Nat.le_add_right N 2) _ | with_reducible refine Below.setCell ?_ (show N ≤ y from Nat.le_trans (Nat.le_add_right N 3) HYN.out) _
end Go.Proofs.YthfcmgbkhjnfjaaGreatDoor
