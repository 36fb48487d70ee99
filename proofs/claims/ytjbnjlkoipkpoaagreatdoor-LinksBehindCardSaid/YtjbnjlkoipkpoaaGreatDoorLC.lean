/- links.Of, walked. links.Of, walked: the walk. stanzakeepref30.Named, walked. stanzakeepref30.Of, walked. -/
import Derived.Test.YtjbnjlkoipkpoaaGreatDoorLA
import Derived.Test.YtjbnjlkoipkpoaaGreatDoorLB
import Derived.Test.YtjbnjlkoipkpoaaGreatDoorTRefRows
namespace Go.Proofs.YtjbnjlkoipkpoaaGreatDoor.T
open Go.RowKit Go.Shelf Go.Maps
open Go.Proofs.YtjbnjlkoipkpoaaGreatDoor.B

/-- Nothing is written but a row of the type T at or beyond N. -/
structure KeepT (T : TypeId) (N : Nat) (W W' : World) : Prop where
  os : W'.os = W.os
  tape : W'.tape = W.tape
  output : W'.output = W.output
  size : W.heap.size ≤ W'.heap.size
  block : ∀ k, k < W.heap.size → (k < N ∨ ∀ cs f, W.heap[k]? ≠ some (.cells cs T f)) → W'.heap[k]? = W.heap[k]?
theorem KeepT.refl (T : TypeId) (N : Nat) (W : World) : KeepT T N W W := ⟨rfl, rfl, rfl, Nat.le_refl _, fun _ _ _ => rfl⟩
theorem KeepT.trans {T : TypeId} {N : Nat} {W W' W2 : World} (h : KeepT T N W W') (k : KeepT T N W' W2) : KeepT T N W W2 :=
  ⟨k.os.trans h.os, k.tape.trans h.tape, k.output.trans h.output, Nat.le_trans h.size k.size, fun i h1 h2 => by
    have e := h.block i h1 h2
    refine (k.block i (Nat.lt_of_lt_of_le h1 h.size) (h2.imp id fun h3 cs f => ?_)).trans e
    rw [e]; exact h3 cs f⟩
theorem KeepT.below {T : TypeId} {N : Nat} {W W' W2 : World} (h : KeepT T N W W') (hb : Below W'.heap.size W' W2) : KeepT T N W W2 :=
  h.trans ⟨hb.os, hb.tape, hb.output, hb.size, fun k hk _ => hb.block k hk⟩
theorem KeepT.grown {T : TypeId} {N size n : Nat} {W W' W2 : World} {v : Value} {xs : List Value} (h : KeepT T N W W') (hv : W'.ownsRow N T size v n xs) (hg : W'.grownBy W2 v.ownBlock) : KeepT T N W W2 := by
  refine h.trans ⟨hg.os, hg.tape, hg.output, hg.size, fun k hk h2 => hg.block k hk fun e => ?_⟩
  rcases hv.2 with ⟨h0, _⟩ | ⟨g, cap, cur, hv2, hB, hr⟩
  · rw [h0] at e; simp [Value.ownBlock] at e
  · rw [hv2] at e
    simp [Value.ownBlock] at e
    subst e
    rcases h2 with h2 | h2
    · omega
    · exact h2 _ _ hr.1
theorem KeepT.toBelow {T : TypeId} {N : Nat} {W W' : World} (h : KeepT T N W W') (hz : N ≤ W.heap.size) : Below N W W' := ⟨h.os, h.tape, h.output, h.size, fun k hk => h.block k (by omega) (.inl hk)⟩
theorem KeepT.other {T T' : TypeId} {N k : Nat} {W W' : World} {cs : Array Value} {f : Nat × Nat} (h : KeepT T N W W') (hk : W.heap[k]? = some (.cells cs T' f)) (ht : T' ≠ T) : W'.heap[k]? = some (.cells cs T' f) := by
  rw [h.block k (Array.getElem?_eq_some_iff.1 hk).1 (.inr fun cs' f' e => ?_)]
  · exact hk
  · rw [hk] at e
    injection e with e
    injection e with _ e _
    exact ht e
theorem KeepT.otherMap {T : TypeId} {N k : Nat} {W W' : World} (h : KeepT T N W W') (hk : k < N) (hz : N ≤ W.heap.size) : W'.heap[k]? = W.heap[k]? := h.block k (by omega) (.inl hk)
/-- A row of another type lies as it lay. -/
theorem KeepT.row {T T' : TypeId} {N N' size n : Nat} {W W' : World} {v : Value} {xs : List Value} (h : KeepT T N W W') (hv : W.ownsRow N' T' size v n xs) (ht : T' ≠ T) : W'.ownsRow N' T' size v n xs := by
  refine ownsRow_of_block hv fun g hg => ?_
  rcases hv.2 with ⟨h0, _⟩ | ⟨g', cap, cur, hv2, hB, hr⟩
  · rw [h0] at hg; simp [Value.ownBlock] at hg
  · rw [hv2] at hg
    simp [Value.ownBlock] at hg
    subst hg
    rw [h.other hr.1 ht]; exact hr.1.symm
abbrev Lk := Nat × Nat × L8
def lkC (k : Lk) : List Value := [.int .i64 k.1, .int .i64 k.2.1, .string ⟨k.2.2.toArray⟩]
/-- The links of a field, of a stanza, of a list. -/
def lkW (name : L8) (all : List St) (x : St) (wd : L8) : Lk := (x.1, namedL name wd all, wd)
def lkF (name key : L8) (all : List St) (x : St) (f : Fld) : List Lk := if f.key = key then (wordsL f.val).map (lkW name all x) else []
def lkS (name key : L8) (all : List St) (x : St) : List Lk := x.2.flatMap (lkF name key all x)
def linksL (name key : L8) (all : List St) : List Lk := all.flatMap (lkS name key all)
def LkRow (B : Nat) (w : World) (v : Value) (t : List Lk) : Prop := w.ownsRow B 66 3 v t.length (t.flatMap lkC)
theorem LkRow.snoc {B gg cap : Nat} {w : World} {t : List Lk} {c : Lk} (h : w.ownsRow B 66 3 (.slice (some ⟨gg, 0, none⟩) (t.length + 1) cap) (t.length + 1) (t.flatMap lkC ++ [.int .i64 c.1, .int .i64 c.2.1, .string ⟨c.2.2.toArray⟩])) : LkRow B w (.slice (some ⟨gg, 0, none⟩) (t.length + 1) cap) (t ++ [c]) := by
  unfold LkRow
  rw [List.length_append, flat_snoc]
  exact h
theorem LkRow.low {B B' : Nat} {w : World} {v : Value} {t : List Lk} (h : LkRow B w v t) (hB : B' ≤ B) : LkRow B' w v t := by
  refine ⟨h.1, ?_⟩
  rcases h.2 with h0 | ⟨g, cap, cur, hv, hB2, hr⟩
  · exact .inl h0
  · exact .inr ⟨g, cap, cur, hv, by omega, hr⟩
theorem LkRow.below {B : Nat} {w w' : World} {v : Value} {t : List Lk} (h : LkRow B w v t) (hb : Below w.heap.size w w') : LkRow B w' v t := ownsRow_of_block h fun g hg => hb.block g (World.ownsRow.lt h g hg).2
theorem infoLk : (Tryz.prog.info? 66).map (fun i => (i.zero, i.size, i.bytes)) = some (some (.agg #[.int .i64 0, .int .i64 0, .string ⟨#[]⟩]), 3, 32) := by kernel_rfl
theorem lkF_len {name key : L8} {all : List St} {x : St} {f : Fld} (h : f.val.length ≤ 1000) : (lkF name key all x f).length ≤ 1001 := by
  unfold lkF
  split
  · rw [List.length_map]; have := wordsL_len f.val; omega
  · simp
theorem lkS_len {name key : L8} {all : List St} {x : St} (h : FsFine x.2) : (lkS name key all x).length ≤ 40040 := by
  unfold lkS
  have : ∀ fs : List Fld, (∀ f ∈ fs, f.val.length ≤ 1000) → (fs.flatMap (lkF name key all x)).length ≤ fs.length * 1001 := by
    intro fs
    induction fs with
    | nil => intro _; simp
    | cons f r ih =>
      intro h
      have h1 := ih fun g hg => h g (by simp [hg])
      have h2 := lkF_len (name := name) (key := key) (all := all) (x := x) (h f (by simp))
      rw [List.flatMap_cons, List.length_append, List.length_cons, Nat.succ_mul]
      omega
  have h1 := this x.2 h.2
  have h2 : x.2.length * 1001 ≤ 40 * 1001 := Nat.mul_le_mul_right _ h.1
  omega
theorem links_take {name key : L8} {all : List St} : ∀ {ss : List St}, (∀ x ∈ ss, FsFine x.2) → (ss.flatMap (lkS name key all)).length ≤ ss.length * 40040
  | [], _ => by simp
  | x :: r, h => by
    have h1 := links_take (name := name) (key := key) (all := all) (ss := r) fun y hy => h y (by simp [hy])
    have h2 := lkS_len (name := name) (key := key) (all := all) (h x (by simp))
    rw [List.flatMap_cons, List.length_append, List.length_cons, Nat.succ_mul]
    omega
theorem flat_take_succ {α β : Type} {xs : List α} {k : Nat} {x : α} (f : α → List β) (h : xs[k]? = some x) : (xs.take (k + 1)).flatMap f = (xs.take k).flatMap f ++ f x := by
  rw [List.take_add_one, h]; simp
theorem flat_take_le {α β : Type} (xs : List α) (k : Nat) (f : α → List β) : ((xs.take k).flatMap f).length ≤ (xs.flatMap f).length := by
  have e : xs.flatMap f = (xs.take k).flatMap f ++ (xs.drop k).flatMap f := by rw [← List.flatMap_append, List.take_append_drop]
  rw [e, List.length_append]; omega
end Go.Proofs.YtjbnjlkoipkpoaaGreatDoor.T

namespace Go.Proofs.YtjbnjlkoipkpoaaGreatDoor.T
open Go.RowKit Go.Shelf Go.Maps
open Go.Proofs.YtjbnjlkoipkpoaaGreatDoor.B

theorem KeepT.cellOther {T T' : TypeId} {N k o : Nat} {W W' : World} {cs : Array Value} (h : KeepT T N W W') (hk : W.heap[k]? = some (.cells cs T' (0, 0))) (ht : T' ≠ T) : W'.cell? ⟨k, o, none⟩ = cs[o]? := by
  simp [World.cell?, h.other hk ht]
theorem KeepT.cellLow {T : TypeId} {N : Nat} {W W' : World} {a : Addr} (h : KeepT T N W W') (hz : N ≤ W.heap.size) (hk : a.block < N) : W'.cell? a = W.cell? a := (h.toBelow hz).cell hk
theorem trimS_le (l cs : List UInt8) : (Lib.trimS l cs).length ≤ l.length := by
  have h : ∀ (p : UInt8 → Bool) (l : List UInt8), (l.dropWhile p).length ≤ l.length := fun p l => (List.dropWhile_suffix p).length_le
  unfold Lib.trimS Lib.trimLeftS Lib.trimRightS
  refine Nat.le_trans (h _ _) ?_
  rw [List.length_reverse]
  refine Nat.le_trans (h _ _) ?_
  rw [List.length_reverse]
  exact Nat.le_refl _
theorem wordsL_mem {v wd : L8} (h : wd ∈ wordsL v) : wd.length ≤ v.length := by
  unfold wordsL at h
  obtain ⟨p, hp, hw⟩ := List.mem_flatMap.1 h
  unfold wordOf at hw
  split at hw
  · simp at hw
  · simp at hw
    rw [hw]
    exact Nat.le_trans (trimS_le _ _) (splitC_part hp)
theorem bytesOf_data (l : L8) : (bytesOf l).data.toList = l := rfl
def OfO (name key : L8) (ss : List St) (N : Nat) (w3 : World) (v i : Value) (wr : World) : Prop :=
  ∃ k : Nat, i = .int .i64 k ∧ k ≤ ss.length ∧ Hid (LkRow N wr v ((ss.take k).flatMap (lkS name key ss))) ∧ Hid (KeepT 66 N w3 wr)
def OfI (name key : L8) (ss : List St) (x : St) (base : List Lk) (N : Nat) (W1 : World) (v i : Value) (wr : World) : Prop :=
  ∃ j : Nat, i = .int .i64 j ∧ j ≤ x.2.length ∧ Hid (LkRow N wr v (base ++ (x.2.take j).flatMap (lkF name key ss x))) ∧ Hid (KeepT 66 N W1 wr)
def OfW (name : L8) (ss : List St) (x : St) (base : List Lk) (ws : List L8) (N : Nat) (W1 : World) (v i : Value) (wr : World) : Prop :=
  ∃ j : Nat, i = .int .i64 j ∧ j ≤ ws.length ∧ Hid (LkRow N wr v (base ++ (ws.take j).map (lkW name ss x))) ∧ Hid (KeepT 66 N W1 wr)
set_option maxRecDepth 100000 in
set_option maxHeartbeats 6400000 in
theorem of_any (q : Option Addr) (name key : ByteArray) (ss : List St) (w : World) (hm : ss.length ≤ 1000) (hfine : ∀ x ∈ ss, FsFine x.2) (hids : ∀ x ∈ ss, x.1 ≤ 1000000) (hr : Ready w)
    (HS : Calls Tryz.prog 30 #[.pointer q] w (StanzasPost ss w)) :
    Calls Tryz.prog 13 #[.pointer q, .string name, .string key] w fun e w' => ∃ u, e = .returned u ∧ LkRow w.heap.size w' u (linksL name.data.toList key.data.toList ss) ∧ Below w.heap.size w w' := by
  obtain ⟨i0, hi0, hz0, hz1, hz2⟩ := info_parts infoLk
  have ST := Lib.hid HS
  have HFI := Lib.hid hfine
  have HIDS := Lib.hid hids
  have HR := Lib.hid hr
  have HTL := Lib.hid (fun k => Nat.le_trans (flat_take_le ss k (lkS name.data.toList key.data.toList ss)) (links_take (name := name.data.toList) (key := key.data.toList) (all := ss) hfine))
  have HNL := Lib.hid (fun l => namedL_le (name := name.data.toList) (l := l) hids)
  clear HS hfine hids hr
  go_enter Tryz.func13, Tryz.ntmps13
  go_wp2_with fail
  refine ST.out.mono ?_
  rintro e w2 ⟨v, ρ, us, rfl, hS, hρ, hb2⟩
  have NM := Lib.hid (names_any name v ρ ss us w2 hS hm HFI.out HIDS.out)
  obtain ⟨so, sc, hsv⟩ := hS.row.shape
  subst hsv
  have HS2 := Lib.hid hS
  have HB2 := Lib.hid hb2
  clear hS hρ hb2 ST
  go_wp2_with fail
  refine NM.out.mono ?_
  rintro e w3 ⟨mb, rfl, hBz, hM, hb3⟩
  have HS3 := Lib.hid (HS2.out.below hb3)
  have HM3 := Lib.hid hM
  have HB3 := Lib.hid (HB2.out.trans (hb3.mono HB2.out.size))
  have hmb := hM.lt
  have HR3 := Lib.hid (HR.out.stays HB3.out)
  obtain ⟨N, hN⟩ : ∃ N, w3.heap.size = N := ⟨_, rfl⟩
  rw [hN] at hmb
  have HN := Lib.hid hN
  have hwN : w.heap.size ≤ N := by have := HB3.out.size; omega
  clear hM hb3 hBz NM HS2 HB2 HR hN
  have HLOW : Hid (∀ k, ρ k ≠ none → k < N) := Lib.hid fun k hk => by have := HS3.out.fits k hk; have := HN.out; omega
  go_wp2
  go_loopw [7, 23] (fun v i wr => OfO name.data.toList key.data.toList ss N w3 v i wr) (fun _ i _ => ss.length - (intOf i).toNat)
  case atStart => exact ⟨0, rfl, Nat.zero_le _, Lib.hid (World.ownsRow_nil _ _ _ _), Lib.hid (KeepT.refl _ _ _)⟩
  case round =>
    obtain ⟨k, rfl, hk, hO, hK⟩ := hrel
    have hzr : N ≤ wr.heap.size := by have := hK.out.size; have := HN.out; omega
    by_cases hlt : k < ss.length
    · obtain ⟨x, hx⟩ : ∃ x, ss[k]? = some x := ⟨_, List.getElem?_eq_getElem hlt⟩
      have hS3 := HS3.out
      obtain ⟨f, hf⟩ : ∃ f, us[k]? = some f := ⟨_, List.getElem?_eq_getElem (by rw [hS3.len]; exact hlt)⟩
      obtain ⟨g1, g2⟩ := stCells_get ss us k x f hx hf
      obtain ⟨g, hg, hao⟩ : ∃ g, (Value.slice so ss.length sc).ownBlock = some g ∧ so = some ⟨g, 0, none⟩ := by
        rcases hS3.row.1.2 with ⟨-, h0⟩ | ⟨g, cp', cur, hz, -⟩
        · omega
        · injection hz with z1 z2 z3
          exact ⟨g, by rw [z1]; rfl, z1⟩
      have hgN : g < N := HLOW.out g (by rw [hS3.row.2 g hg]; simp)
      have hNz : N ≤ w3.heap.size := by have := HN.out; omega
      have e1 := hS3.row.1.cells hg _ _ g1
      have e2 := hS3.row.1.cells hg _ _ g2
      rw [addrO] at e1 e2
      have e1 : wr.cell? ⟨g, k * 2, none⟩ = some (.int .i64 x.1) := (hK.out.cellLow (a := ⟨g, k * 2, none⟩) hNz hgN).trans e1
      have e2 : wr.cell? ⟨g, k * 2 + 1, none⟩ = some f := (hK.out.cellLow (a := ⟨g, k * 2 + 1, none⟩) hNz hgN).trans e2
      subst hao
      have hrow := hS3.its k f x hf hx
      obtain ⟨fo, fc, hfv, hfc⟩ := FieldsAt.row hrow.1
      subst hfv
      have hlg : ∀ g, fo = some ⟨g, 0, none⟩ → g < N := fun g e => HLOW.out g (by rw [hrow.2 g (by rw [e]; rfl)]; simp)
      have HLG := Lib.hid hlg
      have HFC := Lib.hid hfc
      have hfx := HFI.out x (List.mem_of_getElem? hx)
      have hxi := HIDS.out x (List.mem_of_getElem? hx)
      have HFX := Lib.hid hfx.2
      have hfl := hfx.1
      have HX : Hid ((ss.take (k + 1)).flatMap (lkS name.data.toList key.data.toList ss) = (ss.take k).flatMap (lkS name.data.toList key.data.toList ss) ++ x.2.flatMap (lkF name.data.toList key.data.toList ss x)) := Lib.hid (flat_take_succ _ hx)
      have hbl : ((ss.take k).flatMap (lkS name.data.toList key.data.toList ss)).length + (x.2.flatMap (lkF name.data.toList key.data.toList ss x)).length ≤ 40040000 := by
        have h1 := HTL.out (k + 1)
        rw [HX.out, List.length_append] at h1
        have : ss.length * 40040 ≤ 1000 * 40040 := Nat.mul_le_mul_right _ hm
        omega
      obtain ⟨W1, hW1⟩ : ∃ W1, wr.alloc (.cells #[.int .i64 x.1, .slice fo x.2.length fc] 61) = W1 := ⟨_, rfl⟩
      have hb4 : Below wr.heap.size wr W1 := by rw [← hW1]; exact below_grow1 wr _
      have hE : W1.heap[wr.heap.size]? = some (.cells #[.int .i64 x.1, .slice fo x.2.length fc] 61 (0, 0)) := by rw [← hW1]; exact heap_alloc_new wr _
      have p1 : W1.cell? ⟨wr.heap.size, 1, none⟩ = some (.slice fo x.2.length fc) := _root_.Go.Proofs.YtjbnjlkoipkpoaaGreatDoor.B.cell_of_row _ _ 1 _ _ hE
      have HE := Lib.hid hE
      have HK1 := Lib.hid (hK.out.below hb4)
      have hO3 : LkRow N wr u7 ((ss.take k).flatMap (lkS name.data.toList key.data.toList ss)) := hO.out
      obtain ⟨base, hbase⟩ : ∃ base, (ss.take k).flatMap (lkS name.data.toList key.data.toList ss) = base := ⟨_, rfl⟩
      rw [hbase] at hO3 HX hbl
      have HO1 := Lib.hid (hO3.below hb4)
      obtain ⟨Bx, hBx⟩ : ∃ Bx, wr.heap.size = Bx := ⟨_, rfl⟩
      have hNB : N ≤ Bx := by omega
      rw [hBx] at HE p1
      have hz1w : Bx < W1.heap.size := (Array.getElem?_eq_some_iff.1 HE.out).1
      have HW1 := Lib.hid hW1
      clear g1 g2 hx hf hg hS3 hrow hlg hfc hfx hb4 hE hO hO3 hK hbase hW1
      go_wp2_with fail
      rw [HW1.out]
      have HSZ := Lib.hid (show N ≤ W1.heap.size by omega)
      have HK3 := Lib.hid hNz
      clear HW1 hzr hBx e1 e2 p1
      go_loopw [7, 30] (fun v i W => OfI name.data.toList key.data.toList ss x base N W1 v i W) (fun _ i _ => x.2.length - (intOf i).toNat)
      case atStart => exact ⟨0, rfl, Nat.zero_le _, Lib.hid (by simpa using HO1.out), Lib.hid (KeepT.refl _ _ _)⟩
      case round =>
        clear HO1
        obtain ⟨j, rfl, hj, hO, hK⟩ := hrel
        have hzr : W1.heap.size ≤ wr.heap.size := hK.out.size
        by_cases hjl : j < x.2.length
        · obtain ⟨f, hf⟩ : ∃ f, x.2[j]? = some f := ⟨_, List.getElem?_eq_getElem hjl⟩
          obtain ⟨g', rfl, hg', h1, h2⟩ := HFC.out j f hf
          have hgN' := HLG.out g' rfl
          have hfv := HFX.out f (List.mem_of_getElem? hf)
          have hKW := HK1.out.trans hK.out
          have c1 : wr.cell? ⟨g', j * 2, none⟩ = some (.string ⟨f.key.toArray⟩) := (hKW.cellLow (a := ⟨g', j * 2, none⟩) HK3.out hgN').trans h1
          have c2 : wr.cell? ⟨g', j * 2 + 1, none⟩ = some (.string ⟨f.val.toArray⟩) := (hKW.cellLow (a := ⟨g', j * 2 + 1, none⟩) HK3.out hgN').trans h2
          have HXF : Hid (base ++ (x.2.take (j + 1)).flatMap (lkF name.data.toList key.data.toList ss x) = (base ++ (x.2.take j).flatMap (lkF name.data.toList key.data.toList ss x)) ++ lkF name.data.toList key.data.toList ss x f) := Lib.hid (by rw [flat_take_succ _ hf, List.append_assoc])
          have hbl2 : (base ++ (x.2.take j).flatMap (lkF name.data.toList key.data.toList ss x)).length + (lkF name.data.toList key.data.toList ss x f).length ≤ 40040000 := by
            have h1 := flat_take_le x.2 (j + 1) (lkF name.data.toList key.data.toList ss x)
            have h2 := congrArg List.length HXF.out
            simp only [List.length_append] at h2 ⊢
            omega
          have hO3 : LkRow N wr u7 (base ++ (x.2.take j).flatMap (lkF name.data.toList key.data.toList ss x)) := hO.out
          obtain ⟨base2, hbase2⟩ : ∃ base2, base ++ (x.2.take j).flatMap (lkF name.data.toList key.data.toList ss x) = base2 := ⟨_, rfl⟩
          rw [hbase2] at hO3 HXF hbl2
          obtain ⟨fk, fv⟩ := f
          simp only at c1 c2 HXF hfv hbl2
          obtain ⟨tv, htv⟩ : ∃ tv : ByteArray, (⟨fv.toArray⟩ : ByteArray) = tv := ⟨_, rfl⟩
          have htd : tv.data.toList = fv := by rw [← htv]
          rw [htv] at c2
          obtain ⟨tk, htk⟩ : ∃ tk : ByteArray, (⟨fk.toArray⟩ : ByteArray) = tk := ⟨_, rfl⟩
          have htkd : tk.data.toList = fk := by rw [← htk]
          rw [htk] at c1
          obtain ⟨W2, hW2⟩ : ∃ W2, wr.alloc (.cells #[.string tk, .string tv] 95) = W2 := ⟨_, rfl⟩
          have hb5 : Below wr.heap.size wr W2 := by rw [← hW2]; exact below_grow1 wr _
          have hE2 : W2.heap[wr.heap.size]? = some (.cells #[.string tk, .string tv] 95 (0, 0)) := by rw [← hW2]; exact heap_alloc_new wr _
          have q0 : W2.cell? ⟨wr.heap.size, 0, none⟩ = some (.string tk) := _root_.Go.Proofs.YtjbnjlkoipkpoaaGreatDoor.B.cell_of_row _ _ 0 _ _ hE2
          have q1 : W2.cell? ⟨wr.heap.size, 1, none⟩ = some (.string tv) := _root_.Go.Proofs.YtjbnjlkoipkpoaaGreatDoor.B.cell_of_row _ _ 1 _ _ hE2
          have HKx := Lib.hid (hK.out.below hb5)
          have HOx := Lib.hid (hO3.below hb5)
          by_cases hfk : tk = key
          · have HFF : Hid (lkF name.data.toList key.data.toList ss x ⟨fk, fv⟩ = (wordsL tv.data.toList).map (lkW name.data.toList ss x)) := Lib.hid (by unfold lkF; rw [if_pos (by show fk = _; rw [← htkd, hfk]), htd])
            rw [HFF.out] at HXF hbl2
            have hne : (tk.toList == key.toList) = true := by rw [hfk]; exact beq_self_eq_true _
            have hne2 : (!(tk.toList == key.toList)) = false := by rw [hne]; rfl
            have hvz : tv.size ≤ 1000 := by rw [Lib.size_eq, htd]; exact hfv
            have WD := Lib.hid (words_any tv W2 (by omega) (HR3.out.stays (HN.out.symm ▸ (hKW.toBelow HK3.out).trans (hb5.mono (by have := HSZ.out; omega)))))
            have HW2 := Lib.hid hW2
            have HMW := Lib.hid ((HM3.out.block ((hKW.toBelow HK3.out).block mb hmb)).block (hb5.block mb (by have := HSZ.out; omega)))
            have hmbz : mb < W2.heap.size := by have := hb5.size; have := HSZ.out; omega
            have hnz2 : N ≤ W2.heap.size := by have := hb5.size; have := HSZ.out; omega
            clear hf hg' hgN' h1 h2 hKW hO hO3 hK hbase2 htv htd htk htkd hW2 hb5 hE2 hfk hne hfv
            go_wp2_with fail
            rw [HW2.out]
            refine WD.out.mono ?_
            rintro e w4 ⟨u, rfl, hU, hb6⟩
            have HK5 := Lib.hid (HKx.out.below hb6)
            have HO5 := Lib.hid (HOx.out.below hb6)
            have HM5 := Lib.hid (HMW.out.block (hb6.block mb hmbz))
            have hnz4 : N ≤ w4.heap.size := by have := hb6.size; omega
            have HWM := Lib.hid (fun (wd : L8) (h : wd ∈ wordsL tv.data.toList) => Nat.le_trans (wordsL_mem h) (by rw [← Lib.size_eq]; exact hvz))
            obtain ⟨ws, hws⟩ : ∃ ws, wordsL tv.data.toList = ws := ⟨_, rfl⟩
            have hU2 : StrRow W2.heap.size w4 u (ws.map bytesOf) := by rw [← hws]; exact hU
            rw [hws] at HXF hbl2 HWM
            obtain ⟨uo, uc, hus⟩ := hU2.shape
            subst hus
            rw [List.length_map] at hU2
            have HU := Lib.hid hU2
            rw [List.length_map] at hbl2
            clear hU hU2 hb6 WD HKx HOx HMW hws q0 q1 HW2 HFF hmbz hnz2
            rw [List.length_map]
            go_wp2
            go_loopw [7, 42] (fun v i W => OfW name.data.toList ss x base2 ws N w4 v i W) (fun _ i _ => ws.length - (intOf i).toNat)
            case atStart => exact ⟨0, rfl, Nat.zero_le _, Lib.hid (by simpa using HO5.out), Lib.hid (KeepT.refl _ _ _)⟩
            case round =>
              clear HO5
              obtain ⟨m, rfl, hm', hO, hK⟩ := hrel
              have hzr : w4.heap.size ≤ wr.heap.size := hK.out.size
              by_cases hml : m < ws.length
              · obtain ⟨wd, hwd⟩ : ∃ wd, ws[m]? = some wd := ⟨_, List.getElem?_eq_getElem hml⟩
                have hUr := hK.out.row HU.out (by decide)
                obtain ⟨gu, hgu, hau⟩ : ∃ gu, (Value.slice uo ws.length uc).ownBlock = some gu ∧ uo = some ⟨gu, 0, none⟩ := by
                  rcases HU.out.2 with ⟨-, h0⟩ | ⟨gu, cp', cur, hz, -⟩
                  · rw [List.length_map] at h0
                    omega
                  · injection hz with z1 z2 z3
                    exact ⟨gu, by rw [z1]; rfl, z1⟩
                have e5 := World.ownsRow.cells hUr hgu m (.string (bytesOf wd)) (by simp [strVals, hwd])
                rw [addrO] at e5
                subst hau
                have HWX := HK5.out.trans hK.out
                have ex : wr.cell? ⟨Bx, 0, none⟩ = some (.int .i64 x.1) := (HWX.cellOther HE.out (by decide)).trans rfl
                have hBw : Bx < wr.heap.size := Nat.lt_of_lt_of_le hz1w HWX.size
                have hMw := HM5.out.block ((hK.out.toBelow hnz4).block mb hmb)
                obtain ⟨D, hown, h2⟩ := hMw
                have HD := Lib.hid hown
                have H2 := Lib.hid (show D.atKey (.string wd) (.lit (.int .i64 0)) = .lit (.int .i64 (namedL name.data.toList wd ss : Nat)) from h2 wd)
                have hcn := HNL.out wd
                have hwl := HWM.out wd (List.mem_of_getElem? hwd)
                have HXW : Hid (base2 ++ (ws.take (m + 1)).map (lkW name.data.toList ss x) = (base2 ++ (ws.take m).map (lkW name.data.toList ss x)) ++ [lkW name.data.toList ss x wd]) := Lib.hid (by rw [List.take_add_one, hwd]; simp)
                have hO3 : LkRow N wr u7 (base2 ++ (ws.take m).map (lkW name.data.toList ss x)) := hO.out
                have htl : (base2 ++ (ws.take m).map (lkW name.data.toList ss x)).length ≤ 40040000 := by
                  rw [List.length_append, List.length_map, List.length_take]
                  omega
                obtain ⟨t, ht⟩ : ∃ t, base2 ++ (ws.take m).map (lkW name.data.toList ss x) = t := ⟨_, rfl⟩
                rw [ht] at hO3 HXW htl
                obtain ⟨vo, vc, hvo⟩ := own_shape hO3
                subst hvo
                obtain ⟨tw, htw⟩ : ∃ tw, bytesOf wd = tw := ⟨_, rfl⟩
                have htwd : tw.data.toList = wd := by rw [← htw]; rfl
                rw [htw] at e5
                have hsz : tw.size ≤ maxLen := by rw [Lib.size_eq, htwd]; unfold maxLen; omega
                have HKEY := Lib.hid (WideMaps.keyOf_string_mk Tryz.underlying9 hsz)
                rw [← htwd] at H2 hcn HXW
                obtain ⟨cn, hcn2⟩ : ∃ cn, namedL name.data.toList tw.data.toList ss = cn := ⟨_, rfl⟩
                rw [hcn2] at H2 hcn
                have HLK : Hid (lkW name.data.toList ss x tw.data.toList = (x.1, cn, tw.data.toList)) := Lib.hid (by unfold lkW; rw [hcn2])
                have HO := Lib.hid (World.ownsRow.alloc hO3 (.cells #[.int .i64 x.1, .int .i64 cn, .string tw] 66))
                have HKA := Lib.hid (hK.out.below (below_grow1 wr (.cells #[.int .i64 x.1, .int .i64 cn, .string tw] 66)))
                have hzN : N ≤ wr.heap.size := Nat.le_trans hnz4 hzr
                clear hwd hUr hgu HWX hown h2 hO3 hO hK ht htw htwd hsz hcn2 hwl
                go_wp2_with (at_lookup; refine wpList_lookup_own_int _ rfl _ _ 96 rfl 9 3 .i64 keyedS Tryz.underlying96 Tryz.underlying3 (zeroI _) mb (ss.length * 40) D rfl HD.out _ _ rfl HKEY.out ?_; intro c hat _; refine Hid.out ?_)
                refine Lib.hid ?_
                obtain rfl : c = (cn : Nat) := by
                  rw [H2.out] at hat
                  injection hat with hat
                  injection hat with _ hat
                  exact hat.symm
                clear hat
                go_wp2_with (at_builtin; refine wpList_append_lies _ rfl _ _ _ rfl N 66 i0 _ 3 32 Tryz.underlying29 hi0 hz0 hz1 hz2 rfl (by omega) (.slice vo t.length vc) t.length (t.flatMap lkC) rfl HO.out ⟨wr.heap.size, 0, none⟩ 1 1 [.int .i64 x.1, .int .i64 cn, .string tw] rfl rfl (World.news_of_block (cs := #[.int .i64 x.1, .int .i64 cn, .string tw]) (heap_alloc_new wr _)) (by simp [Value.oneCell']) (by omega) (by unfold maxLen; omega) (by omega) (by simp; omega) _ rfl ?_; refine Hid.out ?_)
                refine Lib.hid ?_
                intro gg cap w8 hown8 hgrow _ _
                have HK8 := Lib.hid (HKA.out.grown HO.out hgrow)
                have HN8 : Hid (LkRow N w8 (.slice (some ⟨gg, 0, none⟩) (t.length + 1) cap) (t ++ [(x.1, cn, tw.data.toList)])) := Lib.hid (LkRow.snoc (c := (x.1, cn, tw.data.toList)) hown8)
                clear hown8 hgrow
                go_wp2
                refine ⟨⟨m + 1, by go_num, by omega, ?_, HK8⟩, by simp [intOf]; omega⟩
                rw [HXW.out, HLK.out]
                exact HN8
              · have hO4 : LkRow N wr _ _ := hO.out
                rw [List.take_of_length_le (by omega), ← HXF.out] at hO4
                have HO4 := Lib.hid hO4
                have HK4 := Lib.hid (HK5.out.trans hK.out)
                clear hO hO4 hK
                go_wp2
                exact ⟨⟨j + 1, by go_num, by omega, HO4, HK4⟩, by simp [intOf]; omega⟩
          · have HFF : Hid (lkF name.data.toList key.data.toList ss x ⟨fk, fv⟩ = []) := Lib.hid (by
              unfold lkF; rw [if_neg]; intro e; exact hfk (by rw [← htk]; rw [show fk = key.data.toList from e]))
            rw [HFF.out, List.append_nil] at HXF
            have hne : (tk.toList == key.toList) = false := by
              rw [beq_eq_false_iff_ne]; exact fun e => hfk (toList_inj e)
            have hne2 : (!(tk.toList == key.toList)) = true := by rw [hne]; rfl
            have HW2 := Lib.hid hW2
            clear hf hg' hgN' h1 h2 hKW hO hO3 hK hbase2 htv htd htk htkd hW2 hb5 hE2 hfk hne hfv
            go_wp2_with fail
            rw [HW2.out]
            exact ⟨⟨j + 1, by go_num, by omega, by rw [HXF.out]; exact HOx, HKx⟩, by simp [intOf]; omega⟩
        · have hO4 : LkRow N wr _ _ := hO.out
          rw [List.take_of_length_le (by omega), ← HX.out] at hO4
          have HO4 := Lib.hid hO4
          have HK4 := Lib.hid (HK1.out.trans hK.out)
          clear hO hO4 hK
          go_wp2
          exact ⟨⟨k + 1, by go_num, by omega, HO4, HK4⟩, by simp [intOf]; omega⟩
    · have hO4 : LkRow N wr _ ((ss.take k).flatMap (lkS name.data.toList key.data.toList ss)) := hO.out
      rw [List.take_of_length_le (by omega)] at hO4
      have HO4 := Lib.hid (LkRow.low hO4 hwN)
      clear hO4 hO
      go_wp2
      go_ret
      exact ⟨_, rfl, HO4.out, HB3.out.trans ((hK.out.toBelow (by have := HN.out; omega)).mono hwN)⟩
end Go.Proofs.YtjbnjlkoipkpoaaGreatDoor.T

namespace Go.Proofs.YtjbnjlkoipkpoaaGreatDoor.T
open Go.RowKit Go.Shelf Go.Maps
open Go.Proofs.YtjbnjlkoipkpoaaGreatDoor.B

theorem namedL_drop {name l : L8} {ss : List St} {k : Nat} {x : St} (h : ss[k]? = some x) : namedL name l (ss.drop k) = if hasF name l x.2 = true then x.1 else namedL name l (ss.drop (k + 1)) := by
  have hl := (List.getElem?_eq_some_iff.1 h).1
  rw [List.drop_eq_getElem_cons hl]
  rw [List.getElem?_eq_getElem hl] at h
  injection h with h
  rw [h]; rfl
theorem hasF_at {name l : L8} {fs : List Fld} {j : Nat} {f : Fld} (h : fs[j]? = some f) (hk : f.key = name) (hv : f.val = l) : hasF name l fs = true := by
  unfold hasF
  rw [List.any_eq_true]
  exact ⟨f, List.mem_of_getElem? h, by rw [hk, hv]; simp⟩
theorem hasF_next {name l : L8} {fs : List Fld} {j : Nat} {f : Fld} (h : fs[j]? = some f) (h0 : hasF name l (fs.take j) = false) (hn : ¬ (f.key = name ∧ f.val = l)) : hasF name l (fs.take (j + 1)) = false := by
  rw [List.take_add_one, h]
  show hasF name l (fs.take j ++ [f]) = false
  rw [hasF_snoc, h0]
  by_cases h1 : f.key = name
  · have h2 : ¬ f.val = l := fun e => hn ⟨h1, e⟩
    simp [h2]
  · simp [h1]
set_option maxRecDepth 100000 in
set_option maxHeartbeats 3200000 in
theorem refNamed_any (ve : Value) (next : Int) (es : List (It × Nat)) (name word : ByteArray) (w : World) (h : EntsAt w.heap.size w ve es) (hlen : es.length ≤ 1000000) (hss : (stsOf es).length ≤ 1000) (hfine : ∀ x ∈ stsOf es, FsFine x.2) :
    Calls Tryz.prog 54 #[.agg #[ve, .int .i64 next], .string name, .string word] w fun e w' => e = .returned (.int .i64 (namedL name.data.toList word.data.toList (stsOf es) : Nat)) ∧ Below w.heap.size w w' := by
  have HFI := Lib.hid hfine
  have hsl := hss
  have HSS : Hid (∀ w', Below w.heap.size w w' → Calls Tryz.prog 53 #[.agg #[ve, .int .i64 next]] w' fun e w2 => ∃ u us, e = .returned u ∧ StsOwn w'.heap.size w.heap.size w2 u (stsOf es) us ∧ Below w'.heap.size w' w2) := Lib.hid fun w' hb => refStanzas_any ve next es w' w.heap.size hb.size (h.below hb (Nat.le_refl _)) (by omega)
  obtain ⟨eo, ec, hve, -⟩ := h
  subst hve
  clear hfine hlen hss
  generalize stsOf es = ss at *
  have HK := Lib.hid (show ∀ (s : ByteArray) (l : List UInt8), (l = s.data.toList) ↔ ((⟨l.toArray⟩ : ByteArray) = s) from fun s l => ⟨fun e => by rw [e], fun e => by rw [← e]⟩)
  go_enter Tryz.func54, Tryz.ntmps54
  obtain ⟨wa, hwa⟩ : ∃ wa, w.alloc (.cells #[.slice eo es.length ec, .int .i64 next] 26) = wa := ⟨_, rfl⟩
  have hba : Below w.heap.size w wa := by rw [← hwa]; exact below_grow1 w _
  have HBA := Lib.hid hba
  have HWA := Lib.hid hwa
  have ST := Lib.hid (HSS.out wa hba)
  clear hba hwa HSS
  go_wp2_with fail
  rw [HWA.out]
  refine ST.out.mono ?_
  rintro e w2 ⟨u, us, rfl, hS, hb2⟩
  have hzw := HBA.out.size
  have hzw2 := hb2.size
  have HB2 := Lib.hid (HBA.out.trans (hb2.mono hzw))
  have hS2 := hS.at_ (Nat.le_trans hzw hzw2)
  obtain ⟨so, sc, hsv, hcc⟩ := hS2
  have HCC := Lib.hid hcc
  subst hsv
  clear hS hb2 ST HBA HWA hzw hzw2 hcc
  go_wp2
  go_loop [8] (fun i => ∃ k : Nat, i = .int .i64 k ∧ k ≤ ss.length ∧ Hid (namedL name.data.toList word.data.toList ss = namedL name.data.toList word.data.toList (ss.drop k))) (fun i => ss.length - (intOf i).toNat)
  case atStart => exact ⟨0, rfl, Nat.zero_le _, Lib.hid rfl⟩
  case round =>
    obtain ⟨k, rfl, hk, hN⟩ := hrel
    by_cases hlt : k < ss.length
    · obtain ⟨x, hx⟩ : ∃ x, ss[k]? = some x := ⟨_, List.getElem?_eq_getElem hlt⟩
      obtain ⟨g, u, rfl, hgN, e1, e2, hfa⟩ := HCC.out k x hx
      obtain ⟨fo, fc, hfv, hfc⟩ := hfa
      subst hfv
      have hfx := (HFI.out x (List.mem_of_getElem? hx)).1
      have HN := Lib.hid (hN.out.trans (namedL_drop hx))
      have HFC := Lib.hid hfc
      have hkz : (k : Int) < (ss.length : Int) := by omega
      clear hx hfc hN
      go_wp2
      go_loop [9] (fun i => ∃ j : Nat, i = .int .i64 j ∧ j ≤ x.2.length ∧ Hid (hasF name.data.toList word.data.toList (x.2.take j) = false)) (fun i => x.2.length - (intOf i).toNat)
      case atStart => exact ⟨0, rfl, Nat.zero_le _, Lib.hid rfl⟩
      case round =>
        obtain ⟨j, rfl, hj, hF⟩ := hrel
        by_cases hjl : j < x.2.length
        · obtain ⟨y, hy⟩ : ∃ y, x.2[j]? = some y := ⟨_, List.getElem?_eq_getElem hjl⟩
          obtain ⟨q, rfl, hq, c1, c2⟩ := HFC.out j y hy
          obtain ⟨tk, htk⟩ : ∃ tk : ByteArray, (⟨y.key.toArray⟩ : ByteArray) = tk := ⟨_, rfl⟩
          obtain ⟨tv, htv⟩ : ∃ tv : ByteArray, (⟨y.val.toArray⟩ : ByteArray) = tv := ⟨_, rfl⟩
          have hyk : y.key = tk.data.toList := by rw [← htk]
          have hyv : y.val = tv.data.toList := by rw [← htv]
          rw [htk] at c1
          rw [htv] at c2
          by_cases hfk : tk = name ∧ tv = word
          · obtain ⟨rfl, rfl⟩ := hfk
            have HR : Hid (namedL tk.data.toList tv.data.toList ss = x.1) := Lib.hid (by rw [HN.out, if_pos (hasF_at hy hyk hyv)])
            clear hy hyk hyv htk htv hF
            go_wp2
            go_ret
            exact ⟨by rw [HR.out]; rfl, HB2.out⟩
          · have HF2 := Lib.hid (hasF_next hy hF.out (by
              rintro ⟨a, b⟩
              refine hfk ⟨?_, ?_⟩
              · rw [← htk]; exact (HK.out name y.key).1 a
              · rw [← htv]; exact (HK.out word y.val).1 b))
            have HNE := Lib.hid (show ¬ (tk.toList = name.toList ∧ tv.toList = word.toList) from fun e => hfk ⟨toList_inj e.1, toList_inj e.2⟩)
            clear hy hyk hyv htk htv hF hfk
            go_wp2
            all_goals first
              | exact absurd ⟨by assumption, by assumption⟩ HNE.out
              | exact ⟨⟨j + 1, by go_num, by omega, HF2⟩, by simp [intOf]; omega⟩
        · have HF2 := hF.out
          rw [List.take_of_length_le (by omega)] at HF2
          have HN2 : Hid (namedL name.data.toList word.data.toList ss = namedL name.data.toList word.data.toList (ss.drop (k + 1))) := Lib.hid (by rw [HN.out, if_neg (by rw [HF2]; simp)])
          clear hF HF2
          go_wp2
          exact ⟨⟨k + 1, by go_num, by omega, HN2⟩, by simp [intOf]; omega⟩
    · have h0 := hN.out
      rw [List.drop_of_length_le (by omega)] at h0
      have H0 : Hid (namedL name.data.toList word.data.toList ss = 0) := Lib.hid h0
      clear h0 hN
      go_wp2
      go_ret
      exact ⟨by rw [H0.out]; rfl, HB2.out⟩
end Go.Proofs.YtjbnjlkoipkpoaaGreatDoor.T

namespace Go.Proofs.YtjbnjlkoipkpoaaGreatDoor.T
open Go.RowKit Go.Shelf Go.Maps
open Go.Proofs.YtjbnjlkoipkpoaaGreatDoor.B

theorem KeepT.grownD {T : TypeId} {N size n : Nat} {W W' W2 : World} {v : Value} {xs : List Value} (h : KeepT T N W W') (hv : W'.ownsRow N T size v n xs) (hg : W'.drew.grownBy W2 v.ownBlock) : KeepT T N W W2 := by
  have h' : KeepT T N W W'.drew := ⟨h.os, h.tape, h.output, h.size, h.block⟩
  exact h'.grown (v := v) (n := n) (xs := xs) (size := size) hv.drew hg
def RlRow (B : Nat) (w : World) (v : Value) (t : List Lk) : Prop := w.ownsRow B 34 3 v t.length (t.flatMap lkC)
theorem RlRow.snoc {B gg cap : Nat} {w : World} {t : List Lk} {c : Lk} (h : w.ownsRow B 34 3 (.slice (some ⟨gg, 0, none⟩) (t.length + 1) cap) (t.length + 1) (t.flatMap lkC ++ [.int .i64 c.1, .int .i64 c.2.1, .string ⟨c.2.2.toArray⟩])) : RlRow B w (.slice (some ⟨gg, 0, none⟩) (t.length + 1) cap) (t ++ [c]) := by
  unfold RlRow
  rw [List.length_append, flat_snoc]
  exact h
theorem RlRow.low {B B' : Nat} {w : World} {v : Value} {t : List Lk} (h : RlRow B w v t) (hB : B' ≤ B) : RlRow B' w v t := by
  refine ⟨h.1, ?_⟩
  rcases h.2 with h0 | ⟨g, cap, cur, hv, hB2, hr⟩
  · exact .inl h0
  · exact .inr ⟨g, cap, cur, hv, by omega, hr⟩
theorem RlRow.below {B : Nat} {w w' : World} {v : Value} {t : List Lk} (h : RlRow B w v t) (hb : Below w.heap.size w w') : RlRow B w' v t := ownsRow_of_block h fun g hg => hb.block g (World.ownsRow.lt h g hg).2
theorem infoRl : (Tryz.prog.info? 34).map (fun i => (i.zero, i.size, i.bytes)) = some (some (.agg #[.int .i64 0, .int .i64 0, .string ⟨#[]⟩]), 3, 32) := by kernel_rfl
def ROfO (name key : L8) (ss : List St) (N : Nat) (w3 : World) (v i : Value) (wr : World) : Prop :=
  ∃ k : Nat, i = .int .i64 k ∧ k ≤ ss.length ∧ Hid (RlRow N wr v ((ss.take k).flatMap (lkS name key ss))) ∧ Hid (KeepT 34 N w3 wr)
def ROfI (name key : L8) (ss : List St) (x : St) (base : List Lk) (N : Nat) (W1 : World) (v i : Value) (wr : World) : Prop :=
  ∃ j : Nat, i = .int .i64 j ∧ j ≤ x.2.length ∧ Hid (RlRow N wr v (base ++ (x.2.take j).flatMap (lkF name key ss x))) ∧ Hid (KeepT 34 N W1 wr)
def ROfW (name : L8) (ss : List St) (x : St) (base : List Lk) (ws : List L8) (N : Nat) (W1 : World) (v i : Value) (wr : World) : Prop :=
  ∃ j : Nat, i = .int .i64 j ∧ j ≤ ws.length ∧ Hid (RlRow N wr v (base ++ (ws.take j).map (lkW name ss x))) ∧ Hid (KeepT 34 N W1 wr)
set_option maxRecDepth 100000 in
set_option maxHeartbeats 6400000 in
theorem refOf_any (ve : Value) (next : Int) (es : List (It × Nat)) (name key : ByteArray) (w : World) (h : EntsAt w.heap.size w ve es) (hlen : es.length ≤ 1000000) (hss : (stsOf es).length ≤ 1000) (hfine : ∀ x ∈ stsOf es, FsFine x.2) (hids : ∀ x ∈ stsOf es, x.1 ≤ 1000000) :
    Calls Tryz.prog 14 #[.agg #[ve, .int .i64 next], .string name, .string key] w fun e w' => ∃ u, e = .returned u ∧ RlRow w.heap.size w' u (linksL name.data.toList key.data.toList (stsOf es)) ∧ Below w.heap.size w w' := by
  obtain ⟨i0, hi0, hz0, hz1, hz2⟩ := info_parts infoRl
  have HFI := Lib.hid hfine
  have HIDS := Lib.hid hids
  have HTL := Lib.hid (fun k => Nat.le_trans (flat_take_le (stsOf es) k (lkS name.data.toList key.data.toList (stsOf es))) (links_take (name := name.data.toList) (key := key.data.toList) (all := stsOf es) hfine))
  have HNL := Lib.hid (fun l => namedL_le (name := name.data.toList) (l := l) hids)
  have hm := hss
  have HSS : Hid (∀ w', Below w.heap.size w w' → Calls Tryz.prog 53 #[.agg #[ve, .int .i64 next]] w' fun e w2 => ∃ u us, e = .returned u ∧ StsOwn w'.heap.size w.heap.size w2 u (stsOf es) us ∧ Below w'.heap.size w' w2) := Lib.hid fun w' hb => refStanzas_any ve next es w' w.heap.size hb.size (h.below hb (Nat.le_refl _)) (by omega)
  have HNM : Hid (∀ (w' : World) (word : ByteArray), Below w.heap.size w w' → Calls Tryz.prog 54 #[.agg #[ve, .int .i64 next], .string name, .string word] w' fun e w2 => e = .returned (.int .i64 (namedL name.data.toList word.data.toList (stsOf es) : Nat)) ∧ Below w'.heap.size w' w2) :=
    Lib.hid fun w' word hb => refNamed_any ve next es name word w' ((h.below hb (Nat.le_refl _)).up hb.size) hlen hss hfine
  obtain ⟨eo, ec, hve, -⟩ := h
  subst hve
  clear hfine hlen hss hids
  generalize stsOf es = ss at *
  go_enter Tryz.func14, Tryz.ntmps14
  obtain ⟨wa, hwa⟩ : ∃ wa, w.alloc (.cells #[.slice eo es.length ec, .int .i64 next] 26) = wa := ⟨_, rfl⟩
  have hba : Below w.heap.size w wa := by rw [← hwa]; exact below_grow1 w _
  have hEa : wa.heap[w.heap.size]? = some (.cells #[.slice eo es.length ec, .int .i64 next] 26 (0, 0)) := by rw [← hwa]; exact heap_alloc_new w _
  have HBA := Lib.hid hba
  have HWA := Lib.hid hwa
  have HEA := Lib.hid hEa
  have ST := Lib.hid (HSS.out wa hba)
  have hlb : w.heap.size < wa.heap.size := (Array.getElem?_eq_some_iff.1 hEa).1
  clear hba hwa HSS hEa
  go_wp2_with fail
  rw [HWA.out]
  refine ST.out.mono ?_
  rintro e w2 ⟨u, us, rfl, hS, hb2⟩
  have hzw := HBA.out.size
  have hzw2 := hb2.size
  have HB2 := Lib.hid (HBA.out.trans (hb2.mono hzw))
  have hS2 := hS.at_ (Nat.le_trans hzw hzw2)
  obtain ⟨LB, hLB⟩ : ∃ LB, w.heap.size = LB := ⟨_, rfl⟩
  have HE2 : Hid (w2.heap[LB]? = some (.cells #[.slice eo es.length ec, .int .i64 next] 26 (0, 0))) := Lib.hid (by rw [← hLB]; exact (hb2.block _ hlb).trans HEA.out)
  obtain ⟨N, hN⟩ : ∃ N, w2.heap.size = N := ⟨_, rfl⟩
  rw [hN] at hS2
  obtain ⟨so, sc, hsv, hcc⟩ := hS2
  have HCC := Lib.hid hcc
  subst hsv
  have HN := Lib.hid hN
  have hLN : LB < N := by omega
  have hNz : N ≤ w2.heap.size := by omega
  have HLB := Lib.hid hLB
  clear hS hb2 ST HBA HWA HEA hzw hzw2 hcc hN hlb
  go_wp2
  go_loopw [7, 9] (fun v i W => ROfO name.data.toList key.data.toList ss N w2 v i W) (fun _ i _ => ss.length - (intOf i).toNat)
  case atStart => exact ⟨0, rfl, Nat.zero_le _, Lib.hid (World.ownsRow_nil _ _ _ _), Lib.hid (KeepT.refl _ _ _)⟩
  case round =>
    obtain ⟨k, rfl, hk, hO, hK⟩ := hrel
    by_cases hlt : k < ss.length
    · obtain ⟨x, hx⟩ : ∃ x, ss[k]? = some x := ⟨_, List.getElem?_eq_getElem hlt⟩
      obtain ⟨g, u, rfl, hgN, e1, e2, hfa⟩ := HCC.out k x hx
      obtain ⟨fo, fc, hfv, hfc⟩ := hfa
      subst hfv
      have hfx := HFI.out x (List.mem_of_getElem? hx)
      have hxi := HIDS.out x (List.mem_of_getElem? hx)
      have HFX := Lib.hid hfx.2
      have hfl := hfx.1
      have HFC := Lib.hid hfc
      have HE1 := Lib.hid e1
      have HE12 := Lib.hid e2
      have hkz : (k : Int) < (ss.length : Int) := by omega
      have HX : Hid ((ss.take (k + 1)).flatMap (lkS name.data.toList key.data.toList ss) = (ss.take k).flatMap (lkS name.data.toList key.data.toList ss) ++ x.2.flatMap (lkF name.data.toList key.data.toList ss x)) := Lib.hid (flat_take_succ _ hx)
      have hbl : ((ss.take k).flatMap (lkS name.data.toList key.data.toList ss)).length + (x.2.flatMap (lkF name.data.toList key.data.toList ss x)).length ≤ 40040000 := by
        have h1 := HTL.out (k + 1)
        rw [HX.out, List.length_append] at h1
        have : ss.length * 40040 ≤ 1000 * 40040 := Nat.mul_le_mul_right _ hm
        omega
      have hO3 : RlRow N wr u7 ((ss.take k).flatMap (lkS name.data.toList key.data.toList ss)) := hO.out
      obtain ⟨base, hbase⟩ : ∃ base, (ss.take k).flatMap (lkS name.data.toList key.data.toList ss) = base := ⟨_, rfl⟩
      rw [hbase] at hO3 HX hbl
      have HO1 := Lib.hid hO3
      clear hx hfc hfx hO hO3 hbase e1 e2
      obtain ⟨wo, hwo⟩ : ∃ wo, wo = wr := ⟨_, rfl⟩
      subst hwo
      have HK1 := hK
      go_wp2
      go_loopw [7, 10] (fun v i W => ROfI name.data.toList key.data.toList ss x base N w2 v i W) (fun _ i _ => x.2.length - (intOf i).toNat)
      case atStart => exact ⟨0, rfl, Nat.zero_le _, Lib.hid (by simpa using HO1.out), hK⟩
      case round =>
        clear HO1 hK HK1
        obtain ⟨j, rfl, hj, hO, hK⟩ := hrel
        have hzr : N ≤ wr.heap.size := by have := hK.out.size; omega
        have e1 := (hK.out.cellLow (a := ⟨g, k * 2, none⟩) hNz hgN).trans HE1.out
        have e2 := (hK.out.cellLow (a := ⟨g, k * 2 + 1, none⟩) hNz hgN).trans HE12.out
        by_cases hjl : j < x.2.length
        · obtain ⟨f, hf⟩ : ∃ f, x.2[j]? = some f := ⟨_, List.getElem?_eq_getElem hjl⟩
          obtain ⟨g', rfl, hg', h1, h2⟩ := HFC.out j f hf
          have hfv := HFX.out f (List.mem_of_getElem? hf)
          have c1 := (hK.out.cellLow (a := ⟨g', j * 2, none⟩) hNz hg').trans h1
          have c2 := (hK.out.cellLow (a := ⟨g', j * 2 + 1, none⟩) hNz hg').trans h2
          have HXF : Hid (base ++ (x.2.take (j + 1)).flatMap (lkF name.data.toList key.data.toList ss x) = (base ++ (x.2.take j).flatMap (lkF name.data.toList key.data.toList ss x)) ++ lkF name.data.toList key.data.toList ss x f) := Lib.hid (by rw [flat_take_succ _ hf, List.append_assoc])
          have hbl2 : (base ++ (x.2.take j).flatMap (lkF name.data.toList key.data.toList ss x)).length + (lkF name.data.toList key.data.toList ss x f).length ≤ 40040000 := by
            have h1 := flat_take_le x.2 (j + 1) (lkF name.data.toList key.data.toList ss x)
            have h2 := congrArg List.length HXF.out
            simp only [List.length_append] at h2 ⊢
            omega
          have hO3 : RlRow N wr u7 (base ++ (x.2.take j).flatMap (lkF name.data.toList key.data.toList ss x)) := hO.out
          obtain ⟨base2, hbase2⟩ : ∃ base2, base ++ (x.2.take j).flatMap (lkF name.data.toList key.data.toList ss x) = base2 := ⟨_, rfl⟩
          rw [hbase2] at hO3 HXF hbl2
          obtain ⟨fk, fv⟩ := f
          simp only at c1 c2 HXF hfv hbl2
          obtain ⟨tv, htv⟩ : ∃ tv : ByteArray, (⟨fv.toArray⟩ : ByteArray) = tv := ⟨_, rfl⟩
          have htd : tv.data.toList = fv := by rw [← htv]
          rw [htv] at c2
          obtain ⟨tk, htk⟩ : ∃ tk : ByteArray, (⟨fk.toArray⟩ : ByteArray) = tk := ⟨_, rfl⟩
          have htkd : tk.data.toList = fk := by rw [← htk]
          rw [htk] at c1
          have HOx := Lib.hid hO3
          have HKx := Lib.hid hK.out
          by_cases hfk : tk = key
          · have HFF : Hid (lkF name.data.toList key.data.toList ss x ⟨fk, fv⟩ = (wordsL tv.data.toList).map (lkW name.data.toList ss x)) := Lib.hid (by unfold lkF; rw [if_pos (by show fk = _; rw [← htkd, hfk]), htd])
            rw [HFF.out] at HXF hbl2
            have hne : (tk.toList == key.toList) = true := by rw [hfk]; exact beq_self_eq_true _
            have hne2 : (!(tk.toList == key.toList)) = false := by rw [hne]; rfl
            have hvz : tv.size ≤ 1000 := by rw [Lib.size_eq, htd]; exact hfv
            have WD := Lib.hid (refWords_any tv wr (by omega))
            clear hf h1 h2 hO hO3 hK hbase2 htv htd htk htkd hfk hne hfv
            go_wp2_with fail
            refine WD.out.mono ?_
            rintro e w4 ⟨u, rfl, hU, hb6⟩
            have HK5 := Lib.hid (HKx.out.below hb6)
            have HO5 := Lib.hid (HOx.out.below hb6)
            have hnz4 : N ≤ w4.heap.size := by have := hb6.size; omega
            have HWM := Lib.hid (fun (wd : L8) (h : wd ∈ wordsL tv.data.toList) => Nat.le_trans (wordsL_mem h) (by rw [← Lib.size_eq]; exact hvz))
            obtain ⟨ws, hws⟩ : ∃ ws, wordsL tv.data.toList = ws := ⟨_, rfl⟩
            have hU2 : StrRow wr.heap.size w4 u (ws.map bytesOf) := by rw [← hws]; exact hU
            rw [hws] at HXF hbl2 HWM
            obtain ⟨uo, uc, hus⟩ := hU2.shape
            subst hus
            rw [List.length_map] at hU2
            have HU := Lib.hid hU2
            rw [List.length_map] at hbl2
            clear hU hU2 hb6 WD HKx HOx hws HFF
            rw [List.length_map]
            go_wp2
            go_loopw [7, 12] (fun v i W => ROfW name.data.toList ss x base2 ws N w4 v i W) (fun _ i _ => ws.length - (intOf i).toNat)
            case atStart => exact ⟨0, rfl, Nat.zero_le _, Lib.hid (by simpa using HO5.out), Lib.hid (KeepT.refl _ _ _)⟩
            case round =>
              clear HO5
              obtain ⟨m, rfl, hm', hO, hK⟩ := hrel
              have hzr2 : w4.heap.size ≤ wr.heap.size := hK.out.size
              by_cases hml : m < ws.length
              · obtain ⟨wd, hwd⟩ : ∃ wd, ws[m]? = some wd := ⟨_, List.getElem?_eq_getElem hml⟩
                obtain ⟨gu, hau⟩ : ∃ gu, uo = some ⟨gu, 0, none⟩ := by
                  rcases HU.out.2 with ⟨-, h0⟩ | ⟨gu, cp', cur, hz, -⟩
                  · rw [List.length_map] at h0
                    omega
                  · injection hz with z1 z2 z3
                    exact ⟨gu, z1⟩
                subst hau
                obtain ⟨tw, htw⟩ : ∃ tw, bytesOf wd = tw := ⟨_, rfl⟩
                have htwd : tw.data.toList = wd := by rw [← htw]; rfl
                have HALL : Hid (∀ W', KeepT 34 N w4 W' → W'.cell? ⟨g, k * 2, none⟩ = some (.int .i64 x.1) ∧ W'.cell? ⟨LB, 0, none⟩ = some (.slice eo es.length ec) ∧ W'.cell? ⟨LB, 1, none⟩ = some (.int .i64 next) ∧ W'.cell? ⟨gu, m, none⟩ = some (.string tw)) := Lib.hid fun W' hk' => by
                  have hkk := HK5.out.trans hk'
                  refine ⟨(hkk.cellLow (a := ⟨g, k * 2, none⟩) hNz hgN).trans HE1.out, (hkk.cellLow (a := ⟨LB, 0, none⟩) hNz hLN).trans (by simp [World.cell?, HE2.out]), (hkk.cellLow (a := ⟨LB, 1, none⟩) hNz hLN).trans (by simp [World.cell?, HE2.out]), ?_⟩
                  have e5 := World.ownsRow.cells (hk'.row HU.out (by decide)) (show (Value.slice (some ⟨gu, 0, none⟩) ws.length uc).ownBlock = some gu from rfl) m (.string (bytesOf wd)) (by simp [strVals, hwd])
                  rw [addrO, htw] at e5
                  exact e5
                have hcn := HNL.out wd
                have hwl := HWM.out wd (List.mem_of_getElem? hwd)
                have HXW : Hid (base2 ++ (ws.take (m + 1)).map (lkW name.data.toList ss x) = (base2 ++ (ws.take m).map (lkW name.data.toList ss x)) ++ [lkW name.data.toList ss x wd]) := Lib.hid (by rw [List.take_add_one, hwd]; simp)
                have hO3 : RlRow N wr u7 (base2 ++ (ws.take m).map (lkW name.data.toList ss x)) := hO.out
                have htl : (base2 ++ (ws.take m).map (lkW name.data.toList ss x)).length ≤ 40040000 := by
                  rw [List.length_append, List.length_map, List.length_take]
                  omega
                obtain ⟨t, ht⟩ : ∃ t, base2 ++ (ws.take m).map (lkW name.data.toList ss x) = t := ⟨_, rfl⟩
                rw [ht] at hO3 HXW htl
                obtain ⟨vo, vc, hvo⟩ := own_shape hO3
                subst hvo
                rw [← htwd] at hcn HXW
                have HND := Lib.hid (HNM.out wr.drew tw (by
                  have h1 := HB2.out.trans (((HK5.out.trans hK.out).toBelow hNz).mono (show w.heap.size ≤ N by have := HLB.out; omega))
                  exact h1.drew))
                obtain ⟨cn, hcn2⟩ : ∃ cn, namedL name.data.toList tw.data.toList ss = cn := ⟨_, rfl⟩
                rw [hcn2] at hcn HND
                have HLK : Hid (lkW name.data.toList ss x tw.data.toList = (x.1, cn, tw.data.toList)) := Lib.hid (by unfold lkW; rw [hcn2])
                have HO3 := Lib.hid hO3
                have hzN : N ≤ wr.heap.size := Nat.le_trans hnz4 hzr2
                have hmz : (m : Int) < (ws.length : Int) := by omega
                have P1 := HALL.out wr hK.out
                clear hwd hO3 hO ht htw htwd hcn2 hwl e1 e2 c1 c2
                go_wp2
                go_region_held3 (fun W' => W'.cell? ⟨g, k * 2, none⟩ = some (.int .i64 x.1) ∧ W'.cell? ⟨LB, 0, none⟩ = some (.slice eo es.length ec) ∧ W'.cell? ⟨LB, 1, none⟩ = some (.int .i64 next) ∧ W'.cell? ⟨gu, m, none⟩ = some (.string tw)) (first | exact P1 | exact P2 | exact P3 | exact P4)
                  (first
                    | (go_at_call 54; refine HND.out.mono ?_; rintro e w5 ⟨rfl, hbd⟩; have hb5 : Below wr.heap.size wr w5 := ⟨hbd.os, hbd.tape, hbd.output, hbd.size, hbd.block⟩; have HKP := Lib.hid (hK.out.below hb5); have P2 := HALL.out _ HKP.out; have HOA := Lib.hid (World.ownsRow.alloc (HO3.out.below hb5) (.cells #[.int .i64 x.1, .int .i64 cn, .string tw] 34)); have HNA := Lib.hid (World.news_of_block (cs := #[.int .i64 x.1, .int .i64 cn, .string tw]) (heap_alloc_new w5 (.cells #[.int .i64 x.1, .int .i64 cn, .string tw] 34))); have HKA := Lib.hid (HKP.out.below (below_grow1 w5 (.cells #[.int .i64 x.1, .int .i64 cn, .string tw] 34))); have P3 := HALL.out _ HKA.out; have hz5 : N ≤ w5.heap.size := Nat.le_trans hzN hb5.size; have hzA : w5.heap.size + 1 = (w5.alloc (.cells #[.int .i64 x.1, .int .i64 cn, .string tw] 34)).heap.size := (World.size_alloc _ _).symm; clear hbd hb5)
                    | (refine step_append_lies _ ?_ (.tmp 58) (.tmp 76) _ ?_ N 34 i0 _ 3 32 Tryz.underlying31 hi0 hz0 hz1 hz2 ?_ ?_ (.slice vo t.length vc) t.length (t.flatMap lkC) ?_ ?_ ⟨w5.heap.size, 0, none⟩ 1 1 [.int .i64 x.1, .int .i64 cn, .string tw] ?_ ?_ ?_ ?_ ?_ ?_ ?_ ?_ _ rfl ?_; (any_goals (first | exact HOA.out | exact HNA.out | rfl | (simp [Value.oneCell']; done) | (unfold maxLen; omega) | (simp; omega) | omega | skip)); intro gg cap w8 hown8 hgrow hat hlt8; (first | have HK8 := Lib.hid (KeepT.grown HKA.out HOA.out hgrow) | have HK8 := Lib.hid (KeepT.grownD HKA.out HOA.out hgrow)); have P4 := HALL.out _ HK8.out; have HO8 := Lib.hid hown8; clear hown8 hgrow hat))
                all_goals
                  have HN8 : Hid (RlRow N w8 (.slice (some ⟨gg, 0, none⟩) (t.length + 1) cap) (t ++ [(x.1, cn, tw.data.toList)])) := Lib.hid (RlRow.snoc (c := (x.1, cn, tw.data.toList)) HO8.out)
                  go_wp2
                  refine ⟨⟨m + 1, by go_num, by omega, ?_, HK8⟩, by simp [intOf]; omega⟩
                  rw [HXW.out, HLK.out]
                  exact HN8
              · have hO4 : RlRow N wr _ _ := hO.out
                rw [List.take_of_length_le (by omega), ← HXF.out] at hO4
                have HO4 := Lib.hid hO4
                have HK4 := Lib.hid (HK5.out.trans hK.out)
                clear hO hO4 hK
                go_wp2
                exact ⟨⟨j + 1, by go_num, by omega, HO4, HK4⟩, by simp [intOf]; omega⟩
          · have HFF : Hid (lkF name.data.toList key.data.toList ss x ⟨fk, fv⟩ = []) := Lib.hid (by
              unfold lkF; rw [if_neg]; intro e; exact hfk (by rw [← htk]; rw [show fk = key.data.toList from e]))
            rw [HFF.out, List.append_nil] at HXF
            have hne : (tk.toList == key.toList) = false := by
              rw [beq_eq_false_iff_ne]; exact fun e => hfk (toList_inj e)
            have hne2 : (!(tk.toList == key.toList)) = true := by rw [hne]; rfl
            clear hf h1 h2 hO hO3 hK hbase2 htv htd htk htkd hfk hne hfv
            go_wp2_with fail
            exact ⟨⟨j + 1, by go_num, by omega, by rw [HXF.out]; exact HOx, HKx⟩, by simp [intOf]; omega⟩
        · have hO4 : RlRow N wr _ _ := hO.out
          rw [List.take_of_length_le (by omega), ← HX.out] at hO4
          have HO4 := Lib.hid hO4
          clear hO hO4
          go_wp2
          exact ⟨⟨k + 1, by go_num, by omega, HO4, hK⟩, by simp [intOf]; omega⟩
    · have hO4 : RlRow N wr _ ((ss.take k).flatMap (lkS name.data.toList key.data.toList ss)) := hO.out
      rw [List.take_of_length_le (by omega)] at hO4
      have HO4 := Lib.hid (RlRow.low hO4 (Nat.le_of_lt hLN))
      clear hO hO4
      go_wp2
      go_ret
      refine ⟨_, rfl, ?_, HB2.out.trans ((hK.out.toBelow hNz).mono (by have := HLB.out; omega))⟩
      rw [HLB.out]
      exact HO4.out
end Go.Proofs.YtjbnjlkoipkpoaaGreatDoor.T
