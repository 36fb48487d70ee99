/- Names that stand in a directory are short; what a name in a list stands for. The same texts: Texts. The law's stands: what its loops stand on. -/
import Derived.Test.YthfcmgbkhjnfjaaGreatDoorVP
import Derived.Test.YthfcmgbkhjnfjaaGreatDoorVK
import Derived.BigQuiet
import Derived.Test.YthfcmgbkhjnfjaaGreatDoorVW
namespace Go.Proofs.YthfcmgbkhjnfjaaGreatDoor
open Go.RowKit Go.Maps

def KeysSmall (M : DataW Unit) : Prop := ∀ s : ByteArray, Maps.has M (nameK s) = true → s.size ≤ 1000
theorem small_one {M : DataW Unit} (h : KeysSmall M) {e : En} (he : EnFits e) : KeysSmall (playOne M e) := by
  have hdel : KeysSmall (M.del (nameK e.take)) := by
    intro s hs
    by_cases hk : nameK s = nameK e.take
    · rw [hk, Maps.has_del_same] at hs; cases hs
    · rw [Maps.has_del_other hk] at hs; exact h s hs
  unfold playOne
  split
  · exact hdel
  · intro s hs
    by_cases hk : nameK s = nameK e.put
    · rw [nameK_inj.1 hk]; exact he.1
    · rw [Maps.has_put_other hk] at hs; exact hdel s hs
theorem small_play : ∀ (l : List En) {M : DataW Unit}, KeysSmall M → (∀ e ∈ l, EnFits e) → KeysSmall (play M l)
  | [], _, h, _ => h
  | e :: l, M, h, he => small_play l (M := playOne M e) (small_one h (he e (List.mem_cons_self ..))) fun x hx => he x (List.mem_cons_of_mem _ hx)
theorem act_dir (D : Dk) (kd n : Int) (nm tx : ByteArray) (ds : List Int) : (D.actF kd n nm tx ds).dir = D.dir ∨ (D.actF kd n nm tx ds).dir = D.dirOf ∨ (D.actF kd n nm tx ds).dir = play D.dir (D.waits.take (cutN D n)) := by
  unfold Dk.actF
  split
  · unfold Dk.create; (repeat' split) <;> exact .inl rfl
  split
  · unfold Dk.write Dk.wrote; (repeat' split) <;> exact .inl rfl
  split
  · unfold Dk.cutFile; (repeat' split) <;> exact .inl rfl
  split
  · unfold Dk.sync; (repeat' split) <;> exact .inl rfl
  split
  · unfold Dk.rename Dk.renamed; (repeat' split) <;> exact .inl rfl
  split
  · unfold Dk.remove; (repeat' split) <;> exact .inl rfl
  split
  · unfold Dk.syncDir
    split; · exact .inl rfl
    split; · exact .inl rfl
    exact .inr (.inl rfl)
  split
  · split <;> exact .inl rfl
  split
  · exact .inr (.inr rfl)
  · exact .inl rfl
theorem act_small {D : Dk} (h : KeysSmall D.dir) (hw : ∀ e ∈ D.waits, EnFits e) (kd n : Int) (nm tx : ByteArray) (ds : List Int) : KeysSmall (D.actF kd n nm tx ds).dir := by
  rcases act_dir D kd n nm tx ds with e | e | e
  · rw [e]; exact h
  · rw [e]; exact small_play _ h hw
  · rw [e]; exact small_play _ h fun x hx => hw x (List.mem_of_mem_take hx)
theorem has_mem {l : List Ent} {e : Ent} (h : e ∈ l) : Maps.has (dirD l) (nameK e.1) = true := by
  rw [findL_has]
  unfold findL
  rw [Option.isSome_map, List.find?_isSome]
  exact ⟨e, h, by simp⟩
/-- The names of a directory that is a map are all different. -/
theorem canon_nodup {l : List Ent} (hc : Maps.Canon (dirD l)) : l.Pairwise fun a b => a.1 ≠ b.1 := by
  obtain ⟨es, he, hs, -⟩ := hc
  unfold dirD at he
  injection he with he
  subst he
  rw [List.pairwise_map] at hs
  refine hs.imp fun {a b} hab e => ?_
  have hab : bytesBefore a.1.data.toList b.1.data.toList = true := hab
  rw [e, ← less_before, Go.Proofs.bytesLess_eq] at hab
  exact absurd (of_decide_eq_true hab) (List.lt_irrefl _)
theorem find_mem : ∀ {l : List Ent}, (l.Pairwise fun a b => a.1 ≠ b.1) → ∀ {e : Ent}, e ∈ l → findL l e.1 = some e.2
  | [], _, e, h => by cases h
  | x :: r, hp, e, h => by
    rw [List.pairwise_cons] at hp
    unfold findL
    rw [List.find?_cons]
    rcases List.mem_cons.1 h with rfl | h
    · simp
    · have : decide (x.1 = e.1) = false := decide_eq_false (hp.1 e h)
      rw [this]
      exact find_mem hp.2 h
end Go.Proofs.YthfcmgbkhjnfjaaGreatDoor

namespace Go.Proofs.YthfcmgbkhjnfjaaGreatDoor
open Go.RowKit Go.Maps

/-- A row of texts. -/
def TextsAt (w : World) (v : Value) (l : List ByteArray) : Prop := w.ownsRow 0 9 1 v l.length (l.map Value.string)
theorem texts_cells {w : World} {v : Value} {l : List ByteArray} (h : TextsAt w v l) : ∃ ao cp, v = .slice ao l.length cp ∧ ∀ k s, l[k]? = some s → ∃ g, ao = some ⟨g, 0, none⟩ ∧ w.cell? ⟨g, k, none⟩ = some (.string s) := by
  obtain ⟨ao, cp, rfl⟩ := own_shape0 h
  refine ⟨ao, cp, rfl, fun k s hs => ?_⟩
  have hk := (List.getElem?_eq_some_iff.1 hs).1
  obtain ⟨g, c, hv, -, -⟩ := h.form (by omega)
  injection hv with q1 q2 q3
  subst q1
  refine ⟨g, rfl, ?_⟩
  have := h.cells (g := g) rfl k (.string s) (by rw [List.getElem?_map, hs]; rfl)
  rwa [add_at] at this
theorem NamesRow.texts {w : World} {v : Value} {l : List Ent} (h : NamesRow w v l) : TextsAt w v (l.map Prod.fst) := by
  unfold TextsAt
  rw [List.length_map, List.map_map]
  exact h
set_option maxHeartbeats 1600000 in
set_option maxRecDepth 20000 in
theorem texts_any (v u : Value) (l : List ByteArray) (hl : l.length ≤ 1000000000) (w : World) (hv : TextsAt w v l) (hu : TextsAt w u l) :
    Calls Tryz.prog 40 #[v, u] w fun e w' => e = .returned (.bool true) ∧ Below w.heap.size w w' := by
  obtain ⟨ao, cp, rfl, hc⟩ := texts_cells hv
  obtain ⟨bo, cq, rfl, hd⟩ := texts_cells hu
  have HC := Lib.hid hc
  have HD := Lib.hid hd
  clear hv hu hc hd
  have hq : (l.length == l.length) = true := by simp
  go_enter Tryz.func40, Tryz.ntmps40
  go_wp2_with fail
  go_loopw [5, 13] (fun _ i wr => ∃ k : Nat, i = .int .i64 k ∧ k ≤ l.length ∧ Hid (wr.heap = w.heap ∧ Below w.heap.size w wr)) (fun _ i _ => l.length - (intOf i).toNat)
  case atStart => exact ⟨0, rfl, Nat.zero_le _, Lib.hid ⟨rfl, Below.refl _ _⟩⟩
  case round =>
    obtain ⟨k, rfl, hk, hw⟩ := hrel
    by_cases hlt : k < l.length
    · have hkz : (k : Int) < (l.length : Int) := by omega
      obtain ⟨s, hs⟩ : ∃ s, l[k]? = some s := ⟨_, List.getElem?_eq_getElem hlt⟩
      obtain ⟨g, rfl, c0⟩ := HC.out k s hs
      obtain ⟨g', rfl, d0⟩ := HD.out k s hs
      have heq : (s.toList == s.toList) = true := by simp
      have c1 : wr.cell? ⟨g, k, none⟩ = some (.string s) := (World.cell?_of_block (a := ⟨g, k, none⟩) (by rw [hw.out.1])).trans c0
      have d1 : wr.cell? ⟨g', k, none⟩ = some (.string s) := (World.cell?_of_block (a := ⟨g', k, none⟩) (by rw [hw.out.1])).trans d0
      have HN : Hid (∀ n, (wr.drewN n).heap = w.heap ∧ Below w.heap.size w (wr.drewN n)) := Lib.hid fun n => ⟨(dn_heap wr n).trans hw.out.1, below_dn hw.out.2 n⟩
      clear c0 d0 hs
      go_wp2
      go_quiet (fail)
      all_goals
        go_wp2_with fail
        exact ⟨⟨k + 1, by go_num, by omega, Lib.hid (HN.out _)⟩, by simp [intOf]; omega⟩
    · go_wp2
      go_ret
      exact ⟨rfl, hw.out.2⟩
end Go.Proofs.YthfcmgbkhjnfjaaGreatDoor

namespace Go.Proofs.YthfcmgbkhjnfjaaGreatDoor
open Go.RowKit Go.Maps

theorem sure_S (s : ByteArray) (D : Dk) (S : Sh) (w : World) (h : IsD w D S) (ok : D.Ok) :
    Calls Tryz.prog 39 #[dv D S, .string s] w fun e w' => e = .returned (.tuple #[.string (D.sureT s), .bool (Maps.has D.dir (nameK s))]) ∧ Below w.heap.size w w' := by
  obtain ⟨R, h1, h2⟩ := h.ex
  exact sure_ref s D R w h2 ok _ _ _ _ _ _ _ _ _ _ _ _ h1
theorem infoStr : (Tryz.prog.info? 9).map (fun i => (i.zero, i.size, i.bytes)) = some (some (.string ⟨#[]⟩), 1, 16) := by kernel_rfl
/-- A text more in a row of texts. -/
theorem str_push {X : World} {M : Nat} {no : Option Addr} {n nc : Nat} {xs : List Value} (ho : X.ownsRow M 9 1 (.slice no n nc) n xs) (hM : M ≤ X.heap.size) (hn : n ≤ 10000000) (s : ByteArray) : ∃ g c w1,
    Hid ((Builtin.append_ #[57, 57] 57 #[.slice no n nc, .slice (some ⟨X.heap.size, 0, none⟩) 1 1]).run Tryz.prog (X.alloc (.cells #[.string s] 9)) = .ok (.slice (some ⟨g, 0, none⟩) (n + 1) c) w1) ∧
    Hid (w1.ownsRow M 9 1 (.slice (some ⟨g, 0, none⟩) (n + 1) c) (n + 1) (xs ++ [.string s]) ∧ Below M X w1 ∧ ∀ k, k < X.heap.size → (Value.slice no n nc).ownBlock ≠ some k → w1.heap[k]? = X.heap[k]?) := by
  obtain ⟨i0, hi0, hz0, hz1, hz2⟩ := info_parts infoStr
  have bE : Below X.heap.size X (X.alloc (.cells #[.string s] 9)) := (Below.refl _ _).alloc (Nat.le_refl _) _
  have hown := ownsRow_of_block (w' := X.alloc (.cells #[.string s] 9)) ho fun g hg => bE.block g (ho.lt g hg).2
  obtain ⟨g2, c2, w', hr, hown2, hgrow, -, -⟩ := run_append_lies (P := Tryz.prog) (X.alloc (.cells #[.string s] 9)) 57 57 M 9 i0 (.string ⟨#[]⟩) 1 16 Tryz.underlying57 hi0 hz0 hz1 hz2 rfl (by omega) (.slice no n nc) n xs hown ⟨X.heap.size, 0, none⟩ 1 1 [.string s] (by simp) (fun j u hu => World.news_of_block (cs := #[.string s]) (t := 9) (fr := (0, 0)) (heap_alloc_new X _) j u (by simpa using hu)) (by intro u hu; simp at hu; subst hu; rfl) (by omega) (by unfold maxLen; omega) (by omega) (by have := bE.size; omega) _ rfl
  refine ⟨g2, c2, w', Lib.hid hr, Lib.hid ⟨hown2, (bE.mono hM).trans (Below.grown (Below.refl _ _) hgrow (by have := bE.size; omega) fun k hk => (ho.lt k hk).1), fun k hk hne => ?_⟩⟩
  exact (hgrow.block k (Nat.lt_of_lt_of_le hk bE.size) fun h => hne h.symm).trans (bE.block k hk)
/-- A row's block, by its type. -/
theorem own_ne_type {W : World} {b1 b2 : Nat} {e1 e2 : TypeId} {s1 s2 n1 n2 : Nat} {v1 v2 : Value} {x1 x2 : List Value} (h1 : W.ownsRow b1 e1 s1 v1 n1 x1) (h2 : W.ownsRow b2 e2 s2 v2 n2 x2) (hne : e1 ≠ e2) {g : Nat} (hg : v1.ownBlock = some g) : v2.ownBlock ≠ some g := by
  intro hg2
  rcases h1.2 with ⟨q, -⟩ | ⟨g', c', cur, q1, -, q3, -⟩
  · rw [q] at hg; cases hg
  rcases h2.2 with ⟨q, -⟩ | ⟨g'', c'', cur', p1, -, p3, -⟩
  · rw [q] at hg2; cases hg2
  rw [q1] at hg; injection hg with hg; subst hg
  rw [p1] at hg2; injection hg2 with hg2; subst hg2
  rw [q3] at p3; injection p3 with p3; injection p3 with _ p3; exact hne p3
theorem blk_ne_type {W : World} {b2 : Nat} {e1 e2 : TypeId} {s2 n2 : Nat} {v2 : Value} {x2 : List Value} {cs : Array Value} {g : Nat} (h1 : W.heap[g]? = some (.cells cs e1 (0, 0))) (h2 : W.ownsRow b2 e2 s2 v2 n2 x2) (hne : e1 ≠ e2) : v2.ownBlock ≠ some g := by
  intro hg2
  rcases h2.2 with ⟨q, -⟩ | ⟨g'', c'', cur', p1, -, p3, -⟩
  · rw [q] at hg2; cases hg2
  rw [p1] at hg2; injection hg2 with hg2; subst hg2
  rw [h1] at p3; injection p3 with p3; injection p3 with _ p3; exact hne p3
/-- Where the first loop stands: the names gathered, the entries, the box. -/
structure SL (w : World) (N : Nat) (d : Array Value) (l : List Ent) (uo : Option Addr) (ln uc : Nat) (k : Nat) (no : Option Addr) (nc : Nat) (W : World) : Prop where
  box : W.heap[N]? = some (.cells d 37 (0, 0))
  bb : Below N w W
  ent : EntsAt W (.slice uo ln uc) l
  row : W.ownsRow (N + 1) 9 1 (.slice no k nc) k ((l.take k).map fun e => .string e.1)
theorem SL.below {w : World} {N : Nat} {d : Array Value} {l : List Ent} {uo : Option Addr} {ln uc k : Nat} {no : Option Addr} {nc : Nat} {W W' : World} (h : SL w N d l uo ln uc k no nc W) (hb : Below W.heap.size W W') : SL w N d l uo ln uc k no nc W' :=
  ⟨(hb.block N (heap_size_of h.box)).trans h.box, h.bb.trans (hb.mono (Nat.le_of_lt (heap_size_of h.box))), own0_below h.ent hb, ownsRow_of_block h.row fun g hg => hb.block g (h.row.lt g hg).2⟩
/-- A name more: the entry's box P, the append's run, what stands then. -/
theorem SL.push {w : World} {N : Nat} {d : Array Value} {l : List Ent} {uo : Option Addr} {ln uc k : Nat} {no : Option Addr} {nc : Nat} {W : World} (h : SL w N d l uo ln uc k no nc W) {e : Ent} (he : l[k]? = some e) (hk : k ≤ 10000000) : ∃ g c w1,
    Hid ((Builtin.append_ #[57, 57] 57 #[.slice no k nc, .slice (some ⟨W.heap.size + 1, 0, none⟩) 1 1]).run Tryz.prog ((W.alloc (.cells #[.string e.1, .int .i64 e.2] 82)).alloc (.cells #[.string e.1] 9)) = .ok (.slice (some ⟨g, 0, none⟩) (k + 1) c) w1) ∧
    Hid (SL w N d l uo ln uc (k + 1) (some ⟨g, 0, none⟩) c w1 ∧ w1.heap[W.heap.size]? = some (.cells #[.string e.1, .int .i64 e.2] 82 (0, 0))) := by
  have bE : Below W.heap.size W (W.alloc (.cells #[.string e.1, .int .i64 e.2] 82)) := (Below.refl _ _).alloc (Nat.le_refl _) _
  have h0 := h.below bE
  have hnew := heap_alloc_new W (.cells #[.string e.1, .int .i64 e.2] 82)
  have hsz : W.heap.size < (W.alloc (.cells #[.string e.1, .int .i64 e.2] 82)).heap.size := by simp
  have hNW := heap_size_of h.box
  obtain ⟨g, c, w1, R1, HO⟩ := str_push h0.row (by omega) hk e.1
  have hs : (W.alloc (.cells #[.string e.1, .int .i64 e.2] 82)).heap.size = W.heap.size + 1 := by simp
  rw [hs] at R1
  have ht : (l.take (k + 1)).map (fun e => Value.string e.1) = (l.take k).map (fun e => Value.string e.1) ++ [.string e.1] := by rw [List.take_add_one, he]; simp
  refine ⟨g, c, w1, R1, Lib.hid ⟨⟨?_, ?_, ?_, by rw [ht]; exact HO.out.1⟩, ?_⟩⟩
  · exact (HO.out.2.2 N (by omega) (blk_ne_type h0.box h0.row (by decide))).trans h0.box
  · exact h0.bb.trans (HO.out.2.1.mono (Nat.le_succ N))
  · exact ownsRow_of_block h0.ent fun g' hg' => HO.out.2.2 g' (h0.ent.lt g' hg').2 (own_ne_type h0.ent h0.row (by decide) hg')
  · exact (HO.out.2.2 W.heap.size hsz (blk_ne_type hnew h0.row (by decide))).trans hnew
end Go.Proofs.YthfcmgbkhjnfjaaGreatDoor
