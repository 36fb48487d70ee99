/- The reference's stanzas by their cells: stanzakeepref25.Sorted, walked. -/
import Derived.Test.YtjbnjlkoipkpoaaGreatDoorTSorted
import Derived.Test.YtjbnjlkoipkpoaaGreatDoorTRefRows
import Derived.BigRegion
import Derived.BigQuiet
namespace Go.Proofs.YtjbnjlkoipkpoaaGreatDoor.T
open Go.RowKit Go.Shelf
open Go.Proofs.YtjbnjlkoipkpoaaGreatDoor.B

/-- Two rows of different types: an append to one leaves the other. -/
theorem own_grown {w w' : World} {B B' : Nat} {e e' : TypeId} {s s' n m : Nat} {u v : Value} {xs ys : List Value} (h : w.ownsRow B e s u n xs) (hv : w.ownsRow B' e' s' v m ys) (hne : e ≠ e') (hg : w.grownBy w' v.ownBlock) : w'.ownsRow B e s u n xs := by
  refine ownsRow_of_block h fun g hgu => hg.block g (World.ownsRow.lt h g hgu).2 fun eq => ?_
  rcases h.2 with ⟨h0, _⟩ | ⟨g1, cap, cur, hu, _, hg1, _⟩
  · rw [h0] at hgu; simp [Value.ownBlock] at hgu
  · rcases hv.2 with ⟨h0, _⟩ | ⟨g2, cap2, cur2, hv2, _, hg2, _⟩
    · rw [h0] at eq; simp [Value.ownBlock] at eq
    · rw [hu] at hgu
      rw [hv2] at eq
      have e1 : g1 = g := by simpa [Value.ownBlock] using hgu
      have e2 : g = g2 := by simpa [Value.ownBlock] using eq
      rw [e1, e2, hg2] at hg1
      injection hg1 with e3
      injection e3 with _ e4
      exact absurd e4.symm hne
theorem own_ne {w : World} {B B' : Nat} {e e' : TypeId} {s s' n m g g' c c' : Nat} {xs ys : List Value} (h : w.ownsRow B e s (.slice (some ⟨g, 0, none⟩) n c) n xs) (h' : w.ownsRow B' e' s' (.slice (some ⟨g', 0, none⟩) m c') m ys) (hne : e ≠ e') : g ≠ g' := by
  intro eg
  rcases h.2 with ⟨h0, _⟩ | ⟨g1, cap, cur, hu, _, hg1, _⟩
  · cases h0
  · rcases h'.2 with ⟨h0, _⟩ | ⟨g2, cap2, cur2, hv2, _, hg2, _⟩
    · cases h0
    · injection hu with q1 _ _
      injection hv2 with q2 _ _
      injection q1 with q1
      injection q2 with q2
      injection q1 with q1 _ _
      injection q2 with q2 _ _
      rw [← q1, eg, q2, hg2] at hg1
      injection hg1 with e3
      injection e3 with _ e4
      exact hne e4.symm
/-- One-cell values in a row. -/
theorem own_get {w : World} {B : Nat} {e : TypeId} {n c g : Nat} {xs : List Value} (h : w.ownsRow B e 1 (.slice (some ⟨g, 0, none⟩) n c) n xs) {j : Nat} {u : Value} (hj : xs[j]? = some u) : w.cell? ⟨g, j, none⟩ = some u ∧ w.frozen? ⟨g, j, none⟩ = false ∧ B ≤ g ∧ g < w.heap.size := by
  have h1 := World.ownsRow.cells h (g := g) rfl j u hj
  rw [addrO] at h1
  have h2 := World.ownsRow.lt h g rfl
  exact ⟨h1, World.ownsRow.frozenAt h j, h2.1, h2.2⟩
theorem own_swap {w : World} {B : Nat} {e : TypeId} {n c g : Nat} {xs : List Value} (h : w.ownsRow B e 1 (.slice (some ⟨g, 0, none⟩) n c) n xs) (i j : Nat) (a b : Value) :
    (((w.setCell ⟨g, i, none⟩ a).setCell ⟨g, j, none⟩ b).drew).ownsRow B e 1 (.slice (some ⟨g, 0, none⟩) n c) n ((xs.set i a).set j b) := by
  have h1 := (World.ownsRow.stored h i a).1
  have h2 := (World.ownsRow.stored h1 j b).1
  exact ownsRow_of_block h2 fun _ _ => rfl
theorem own_else {w : World} {B : Nat} {e : TypeId} {s n c g g' : Nat} {xs : List Value} (h : w.ownsRow B e s (.slice (some ⟨g, 0, none⟩) n c) n xs) (hne : g ≠ g') (i j : Nat) (a b : Value) :
    (((w.setCell ⟨g', i, none⟩ a).setCell ⟨g', j, none⟩ b).drew).ownsRow B e s (.slice (some ⟨g, 0, none⟩) n c) n xs := by
  refine ownsRow_of_block h fun q hq => ?_
  have hq2 : g = q := by simpa [Value.ownBlock] using hq
  exact (Below.heap_setCell _ _ _ q (by show q ≠ g'; omega)).trans (Below.heap_setCell _ _ _ q (by show q ≠ g'; omega))
def mapR {α : Type} (f : Nat → α) (n : Nat) : List α := (List.range n).map f
theorem mapR_len {α : Type} (f : Nat → α) (n : Nat) : (mapR f n).length = n := by simp [mapR]
theorem mapR_get {α : Type} (f : Nat → α) {n j : Nat} (h : j < n) : (mapR f n)[j]? = some (f j) := by unfold mapR; rw [List.getElem?_map, List.getElem?_range h]; rfl
theorem mapR_succ {α : Type} (f : Nat → α) (n : Nat) : mapR f (n + 1) = mapR f n ++ [f n] := by unfold mapR; rw [List.range_succ, List.map_append]; rfl
theorem mapR_eq {α : Type} {f g : Nat → α} {n : Nat} (h : ∀ p, p < n → f p = g p) : mapR f n = mapR g n := by
  unfold mapR
  exact List.map_congr_left fun p hp => h p (List.mem_range.1 hp)
theorem mapR_swap {α : Type} (f : Nat → α) (d : Nat → Nat) {n i j : Nat} (hi : i < n) (hj : j < n) (hne : i ≠ j) : mapR (fun p => f (swf d i j p)) n = ((mapR (fun p => f (d p)) n).set i (f (d j))).set j (f (d i)) := by
  refine List.ext_getElem? fun p => ?_
  rw [List.getElem?_set, List.getElem?_set]
  simp only [List.length_set, mapR_len]
  by_cases hp : p < n
  · rw [mapR_get _ hp]
    show some (f (swf d i j p)) = _
    unfold swf
    by_cases c : p = j
    · have h1 : (if p = i then d j else if p = j then d i else d p) = d i := by rw [if_neg (by omega), if_pos c]
      rw [h1, if_pos c.symm, if_pos hj]
    · by_cases c2 : p = i
      · have h1 : (if p = i then d j else if p = j then d i else d p) = d j := if_pos c2
        rw [h1, if_neg (fun e => c e.symm), if_pos c2.symm, if_pos hi]
      · have h1 : (if p = i then d j else if p = j then d i else d p) = d p := by rw [if_neg c2, if_neg c]
        rw [h1, if_neg (fun e => c e.symm), if_neg (fun e => c2 e.symm), mapR_get _ hp]
  · rw [List.getElem?_eq_none (by rw [mapR_len]; omega), if_neg (by omega), if_neg (by omega), List.getElem?_eq_none (by rw [mapR_len]; omega)]
def txtV (key : L8) (ss : List St) (x : Nat) : Value := .string ⟨(cellAt key ss x).toArray⟩
def idV (ss : List St) (x : Nat) : Value := .int .i64 ((ss[x]?.map (·.1)).getD 0 : Nat)
theorem gtr_test (a b : ByteArray) : (Op.bytesLess a.toList b.toList || a.toList == b.toList) = !decide (b.data.toList < a.data.toList) := by
  rw [bytesLess_eq, Lib.toList_data, Lib.toList_data]
  rcases l8_tri a.data.toList b.data.toList with h | h | h
  · have : ¬ b.data.toList < a.data.toList := fun k => l8_irr _ (l8_trans h k)
    simp [h, this]
  · rw [h]; simp
  · have h1 : ¬ a.data.toList < b.data.toList := fun k => l8_irr _ (l8_trans h k)
    have h2 : ¬ a.data = b.data := fun k => by rw [k] at h; exact l8_irr _ h
    simp [h, h1, h2]
theorem nums_idsBy (ss : List St) (d : Nat → Nat) (n : Nat) : nums (idsBy ss d n) = mapR (fun p => idV ss (d p)) n := by
  unfold nums idsBy mapR idV
  rw [List.map_map]; rfl
def RSRel (N : Nat) (w2 : World) (key : L8) (ss : List St) (v6 v7 i : Value) (wr : World) : Prop :=
  ∃ (k : Nat) (d : Nat → Nat), i = .int .i64 k ∧ k ≤ ss.length ∧ Hid (wr.ownsRow N 9 1 v6 k (mapR (fun p => txtV key ss (d p)) k)) ∧ Hid (wr.ownsRow N 3 1 v7 k (mapR (fun p => idV ss (d p)) k)) ∧ Hid (Below N w2 wr) ∧
    Hid (Srt (ltc (cmpOf key ss)) d 0 k) ∧ Hid (∀ p, p < k → d p < k) ∧ Hid (∀ p, k ≤ p → d p = p)
theorem RSRel.dn {N : Nat} {w2 : World} {key : L8} {ss : List St} {v6 v7 i : Value} {wr : World} (h : RSRel N w2 key ss v6 v7 i wr) (nq : Nat) : RSRel N w2 key ss v6 v7 i (wr.drewN nq) :=
  let ⟨k, d, h1, h2, h3, h4, h5, h6⟩ := h
  ⟨k, d, h1, h2, Lib.hid (ownsRow_of_block h3.out fun _ _ => rfl), Lib.hid (ownsRow_of_block h4.out fun _ _ => rfl), Lib.hid (below_dn h5.out nq), h6⟩
set_option maxRecDepth 100000 in
set_option maxHeartbeats 12800000 in
theorem refSorted_any (ve : Value) (next : Int) (es : List (It × Nat)) (key : ByteArray) (w : World) (h : EntsAt w.heap.size w ve es) (hlen : es.length ≤ 1000000) (hfine : ∀ x ∈ stsOf es, FsFine x.2) :
    Calls Tryz.prog 50 #[.agg #[ve, .int .i64 next], .string key] w fun e w' => ∃ u zs, e = .returned u ∧ NumsAt w.heap.size w' u zs ∧ ByCells key.data.toList (stsOf es) zs ∧ Below w.heap.size w w' := by
  have mixed : Tryz.prog.follows .mixedOrders = true := by kernel_rfl
  obtain ⟨i0, hi0, hz0, hz1, hz2⟩ := info_parts infoS
  obtain ⟨j0, hj0, jz0, jz1, jz2⟩ := info_parts infoI
  have HFI := Lib.hid hfine
  have hsl := Nat.le_trans (stsOf_len es) hlen
  have HSS : Hid (∀ w', Below w.heap.size w w' → Calls Tryz.prog 53 #[.agg #[ve, .int .i64 next]] w' fun e w2 => ∃ u us, e = .returned u ∧ StsOwn w'.heap.size w.heap.size w2 u (stsOf es) us ∧ Below w'.heap.size w' w2) := Lib.hid fun w' hb => refStanzas_any ve next es w' w.heap.size hb.size (h.below hb (Nat.le_refl _)) hlen
  obtain ⟨eo, ec, hve, -⟩ := h
  subst hve
  clear hfine hlen
  generalize stsOf es = ss at *
  have hL := Lib.hid (cmpOf_less key.data.toList ss)
  go_enter Tryz.func50, Tryz.ntmps50
  obtain ⟨wa, hwa⟩ : ∃ wa, w.alloc (.cells #[.slice eo es.length ec, .int .i64 next] 26) = wa := ⟨_, rfl⟩
  have hba : Below w.heap.size w wa := by rw [← hwa]; exact below_grow1 w _
  have HBA := Lib.hid hba
  have HWA := Lib.hid hwa
  have ST := Lib.hid (HSS.out wa hba)
  clear hba hwa HSS
  go_wp2_with fail
  rw [HWA.out]
  refine ST.out.mono ?_
  rintro e w2 ⟨u, us, rfl, hS, hb2⟩
  have hzw := HBA.out.size
  have hzw2 := hb2.size
  have HB2 := Lib.hid (HBA.out.trans (hb2.mono hzw))
  have hS2 := hS.at_ (Nat.le_trans hzw hzw2)
  obtain ⟨N, hN⟩ : ∃ N, w2.heap.size = N := ⟨_, rfl⟩
  rw [hN] at hS2
  have HSA := Lib.hid hS2
  obtain ⟨so, sc, hsv, -⟩ := hS2
  subst hsv
  have hzN : w.heap.size ≤ N := by omega
  have HN := Lib.hid hN
  clear hS hb2 ST HBA HWA hN hzw hzw2
  go_wp2
  go_loopw [6, 7, 8] (fun v6 v7 i W => RSRel N w2 key.data.toList ss v6 v7 i W) (fun _ _ i _ => ss.length - (intOf i).toNat)
  case atStart => exact ⟨0, fun p => p, rfl, Nat.zero_le _, Lib.hid (World.ownsRow_nil _ _ _ _), Lib.hid (World.ownsRow_nil _ _ _ _), Lib.hid (Below.refl _ _), Lib.hid (Srt.few _ (by omega)), Lib.hid fun p h => absurd h (Nat.not_lt_zero p), Lib.hid fun _ _ => rfl⟩
  case round =>
    obtain ⟨k, d, rfl, hk, hT, hI, hW, hs, hdb, hdi⟩ := hrel
    have hzr : N ≤ wr.heap.size := by have := hW.out.size; have := HN.out; omega
    by_cases hlt : k < ss.length
    · obtain ⟨x, hx⟩ : ∃ x, ss[k]? = some x := ⟨_, List.getElem?_eq_getElem hlt⟩
      obtain ⟨so', sc', hsv', hcc⟩ := HSA.out.below hW.out (Nat.le_refl _)
      injection hsv' with q1 q2 q3
      subst q1
      subst q3
      clear q2
      obtain ⟨g, u, rfl, hgN, e1, e2, hfa⟩ := hcc k x hx
      obtain ⟨fo, fc, hfv, -⟩ := id hfa
      subst hfv
      have hgl : g < wr.heap.size := by omega
      have hkd := hdi.out k (Nat.le_refl _)
      have RC := Lib.hid (refCell_any key (.slice fo x.2.length fc) x.2 wr (hfa.up hzr) (HFI.out x (List.mem_of_getElem? hx)))
      have hcx := cellAt_get (key := key.data.toList) hx
      have X1 : Hid (mapR (fun p => txtV key.data.toList ss (d p)) (k + 1) = mapR (fun p => txtV key.data.toList ss (d p)) k ++ [.string ⟨(cellL key.data.toList x.2).toArray⟩]) := Lib.hid (by rw [mapR_succ, hkd]; unfold txtV; rw [hcx])
      have X2 : Hid (mapR (fun p => idV ss (d p)) (k + 1) = mapR (fun p => idV ss (d p)) k ++ [.int .i64 x.1]) := Lib.hid (by rw [mapR_succ, hkd]; unfold idV; rw [hx]; rfl)
      obtain ⟨tv, htv⟩ : ∃ tv : ByteArray, (⟨(cellL key.data.toList x.2).toArray⟩ : ByteArray) = tv := ⟨_, rfl⟩
      obtain ⟨id, hid⟩ : ∃ id, x.1 = id := ⟨_, rfl⟩
      rw [htv] at RC X1
      rw [hid] at e1 X2
      obtain ⟨tko, tc, hto⟩ := own_shape hT.out
      obtain ⟨io, ic, hio⟩ := own_shape hI.out
      subst hto
      subst hio
      have hk1 : k ≤ 1000000 := by omega
      obtain ⟨ts, hts⟩ : ∃ ts, mapR (fun p => txtV key.data.toList ss (d p)) k = ts := ⟨_, rfl⟩
      obtain ⟨ns, hns⟩ : ∃ ns, mapR (fun p => idV ss (d p)) k = ns := ⟨_, rfl⟩
      rw [hts] at hT X1
      rw [hns] at hI X2
      have HO := Lib.hid (World.ownsRow.alloc hT.out (.cells #[.string tv] 9))
      clear hx hkd hcx htv hid hcc hfa hts hns
      go_wp2_with fail
      refine RC.out.mono ?_
      rintro e w' ⟨rfl, rfl⟩
      go_wp2_with (at_builtin; refine wpList_append_lies _ rfl _ _ _ rfl N 9 i0 _ 1 16 Tryz.underlying39 hi0 hz0 hz1 hz2 rfl (by omega) (.slice tko k tc) k ts rfl HO.out ⟨wr.heap.size, 0, none⟩ 1 1 [.string tv] rfl rfl (World.news_of_block (cs := #[.string tv]) (heap_alloc_new wr _)) (by simp [Value.oneCell']) (by omega) (by unfold maxLen; omega) (by omega) (by simp; omega) _ rfl ?_; refine Hid.out ?_)
      refine Lib.hid ?_
      intro g6 c6 w8 hown8 hgrow _ hlt8
      have hb0 := hW.out.alloc hzr (.cells #[.string tv] 9)
      have hB8 := hb0.grown hgrow (by simp; omega) (fun q hq => (World.ownsRow.lt HO.out q hq).1)
      have hI8 := own_grown (World.ownsRow.alloc hI.out (.cells #[.string tv] 9)) HO.out (by decide) hgrow
      have hz8 : N ≤ w8.heap.size := by have := hgrow.size; simp at this; omega
      have HB8 := Lib.hid hB8
      have HI8 := Lib.hid hI8
      have HT8 := Lib.hid hown8
      have e3 : w8.cell? ⟨g, k * 2, none⟩ = some (.int .i64 id) := by
        have := (hgrow.block g (by simp; omega) (fun e => by have := (World.ownsRow.lt HO.out g e.symm).1; omega))
        have h9 : (wr.alloc (.cells #[.string tv] 9)).heap[g]? = wr.heap[g]? := Below.heap_alloc _ _ _ hgl
        have h10 : w8.heap[g]? = wr.heap[g]? := this.trans h9
        simp only [World.cell?, h10] at e1 ⊢
        exact e1
      have HOI := Lib.hid (World.ownsRow.alloc HI8.out (.cells #[.int .i64 id] 3))
      have hgl8 : g < w8.heap.size := by omega
      clear hown8 hgrow hb0 hB8 hI8 HO hT hI hW RC e1 e2
      go_wp2_with (at_builtin; refine wpList_append_lies _ rfl _ _ _ rfl N 3 j0 _ 1 8 Tryz.underlying68 hj0 jz0 jz1 jz2 rfl (by omega) (.slice io k ic) k ns rfl HOI.out ⟨w8.heap.size, 0, none⟩ 1 1 [.int .i64 id] rfl rfl (World.news_of_block (cs := #[.int .i64 id]) (heap_alloc_new w8 _)) (by simp [Value.oneCell']) (by omega) (by unfold maxLen; omega) (by omega) (by simp; omega) _ rfl ?_; refine Hid.out ?_)
      refine Lib.hid ?_
      intro g7 c7 w9 hown9 hgrow9 _ hlt9
      have hb9 := HB8.out.alloc hz8 (.cells #[.int .i64 id] 3)
      have HB9 := Lib.hid (hb9.grown hgrow9 (by simp; omega) (fun q hq => (World.ownsRow.lt HOI.out q hq).1))
      have hT9 := own_grown (World.ownsRow.alloc HT8.out (.cells #[.int .i64 id] 3)) HOI.out (by decide) hgrow9
      rw [← X1.out] at hT9
      rw [← X2.out] at hown9
      have hg67 := own_ne hT9 hown9 (by decide)
      have HT9 := Lib.hid hT9
      have HI9 := Lib.hid hown9
      have HG67 := Lib.hid hg67
      clear hown9 hgrow9 hb9 hT9 HOI HI8 HT8 HB8 e3 hg67 hlt8 hlt9
      obtain ⟨wo, hwo⟩ : ∃ wo, wo = wr := ⟨_, rfl⟩
      subst hwo
      go_wp2
      go_loopw [10] (fun s W => ∃ (j : Nat) (dj : Nat → Nat), s = .int .i64 j ∧ j ≤ k ∧ Hid (W.ownsRow N 9 1 (.slice (some ⟨g6, 0, none⟩) (k + 1) c6) (k + 1) (mapR (fun p => txtV key.data.toList ss (dj p)) (k + 1))) ∧ Hid (W.ownsRow N 3 1 (.slice (some ⟨g7, 0, none⟩) (k + 1) c7) (k + 1) (mapR (fun p => idV ss (dj p)) (k + 1))) ∧ Hid (Below N w2 W) ∧ Hid (∀ p, dj p = if p = j then d k else if j < p ∧ p ≤ k then d (p - 1) else d p) ∧ Hid (j < k → ltc (cmpOf key.data.toList ss) (d k) (d j) = true)) (fun s _ => (intOf s).toNat)
      case atStart => exact ⟨k, d, rfl, Nat.le_refl _, HT9, HI9, HB9, Lib.hid fun p => (by by_cases c : p = k; rw [if_pos c, c]; rw [if_neg c, if_neg (by omega)]), Lib.hid fun h => absurd h (Nat.lt_irrefl _)⟩
      case round =>
        clear HT9 HI9 HB9
        obtain ⟨j, dj, rfl, hjk, hT, hI, hW, hdj, hf⟩ := hrel
        have hcr : Hid (Crs d 0 k (k + 1)) := Lib.hid fun p q _ h2 h3 h4 => by
          rw [hdi.out q h3]
          have := hdb.out p h2
          omega
        have fin : Hid ((0 < j → ltc (cmpOf key.data.toList ss) (d k) (d (j - 1)) = false) → RSRel N w2 key.data.toList ss (.slice (some ⟨g6, 0, none⟩) (k + 1) c6) (.slice (some ⟨g7, 0, none⟩) (k + 1) c7) (.int .i64 (↑(k + 1))) wr) := Lib.hid fun f1 => by
          obtain ⟨z1, z2⟩ := back hL.out hs.out hcr.out (i := j) (Nat.zero_le _) hjk f1 hf.out hdj.out
          refine ⟨k + 1, dj, rfl, hlt, hT, hI, hW, Lib.hid z1, Lib.hid fun p hp => ?_, Lib.hid fun p hp => ?_⟩
          · obtain ⟨q, _, q2, q3⟩ := z2.2 p (Nat.zero_le _) hp
            rw [q3]
            by_cases c : q < k
            · have := hdb.out q c; omega
            · rw [hdi.out q (by omega)]; omega
          · rw [z2.1 p (by omega)]; exact hdi.out p (by omega)
        by_cases hj0 : 0 < j
        · obtain ⟨jp, rfl⟩ : ∃ jp, j = jp + 1 := ⟨j - 1, by omega⟩
          have v1 : dj (jp + 1) = d k := by rw [hdj.out, if_pos rfl]
          have v2 : dj jp = d jp := by rw [hdj.out, if_neg (by omega), if_neg (by omega)]
          obtain ⟨a0, a1, a2, a3⟩ := own_get hT.out (mapR_get (fun p => txtV key.data.toList ss (dj p)) (show jp < k + 1 by omega))
          obtain ⟨b0, b1, b2, b3⟩ := own_get hT.out (mapR_get (fun p => txtV key.data.toList ss (dj p)) (show jp + 1 < k + 1 by omega))
          have jz : (jp : Int) + 1 < ((k + 1 : Nat) : Int) := by omega
          have jz1 : (jp : Int) < ((k + 1 : Nat) : Int) := by omega
          have jz2 : (jp : Int) + 1 < (k : Int) + 1 := by omega
          have jz3 : (jp : Int) < (k : Int) + 1 := by omega
          have jp0 : (0 : Int) ≤ (jp : Int) + 1 := by omega
          have je0 : ((jp : Int) + 1).toNat = jp + 1 := by omega
          have jw : IntKind.i64.wrap (jp : Int) = (jp : Int) := IntWalk.i64_in _ (by omega)
          have jw1 : IntKind.i64.wrap ((jp : Int) + 1) = (jp : Int) + 1 := IntWalk.i64_in _ (by omega)
          have hgt : (0 : Int) < (jp : Int) + 1 := by omega
          have hgd : decide ((0 : Int) < (jp : Int) + 1) = true := decide_eq_true hgt
          have HC := Lib.hid (cmpOf_ltc key.data.toList ss (d k) (d jp))
          have V1 := Lib.hid v1
          have V2 := Lib.hid v2
          obtain ⟨ta, hta⟩ : ∃ ta : ByteArray, (⟨(cellAt key.data.toList ss (dj jp)).toArray⟩ : ByteArray) = ta := ⟨_, rfl⟩
          obtain ⟨tb, htb⟩ : ∃ tb : ByteArray, (⟨(cellAt key.data.toList ss (dj (jp + 1))).toArray⟩ : ByteArray) = tb := ⟨_, rfl⟩
          have hla : cellAt key.data.toList ss (d jp) = ta.data.toList := by rw [← hta, ← v2]
          have hlb : cellAt key.data.toList ss (d k) = tb.data.toList := by rw [← htb, ← v1]
          have GT := gtr_test ta tb
          have hc' := HC.out
          rw [hla, hlb] at hc'
          have eta : txtV key.data.toList ss (dj jp) = .string ta := by unfold txtV; rw [hta]
          have etb : txtV key.data.toList ss (dj (jp + 1)) = .string tb := by unfold txtV; rw [htb]
          rw [eta] at a0
          rw [etb] at b0
          obtain ⟨na, hna⟩ : ∃ na : Int, ((ss[dj jp]?.map (·.1)).getD 0 : Nat) = na := ⟨_, rfl⟩
          obtain ⟨nb, hnb⟩ : ∃ nb : Int, ((ss[dj (jp + 1)]?.map (·.1)).getD 0 : Nat) = nb := ⟨_, rfl⟩
          have ena : idV ss (dj jp) = .int .i64 na := by unfold idV; rw [hna]
          have enb : idV ss (dj (jp + 1)) = .int .i64 nb := by unfold idV; rw [hnb]
          have HGT := Lib.hid GT
          have HC' := Lib.hid hc'
          have HETA := Lib.hid eta
          have HETB := Lib.hid etb
          have HENA := Lib.hid ena
          have HENB := Lib.hid enb
          clear v1 v2 hta htb hla hlb GT hc' eta etb ena enb hna hnb
          by_cases hc : tb.data.toList < ta.data.toList
          · have tst : (Op.bytesLess ta.toList tb.toList || ta.toList == tb.toList) = false := by rw [HGT.out, decide_eq_true hc]; rfl
            have HCT : Hid (ltc (cmpOf key.data.toList ss) (d k) (d jp) = true) := Lib.hid (by rw [HC'.out]; exact decide_eq_true hc)
            go_wp2_with fail
            go_quiet (fail)
            obtain ⟨W1, hW1⟩ : ∃ W1, wr.drewN nq = W1 := ⟨_, rfl⟩
            rw [hW1]
            have hT1 : W1.ownsRow N 9 1 (.slice (some ⟨g6, 0, none⟩) (k + 1) c6) (k + 1) (mapR (fun p => txtV key.data.toList ss (dj p)) (k + 1)) := hW1 ▸ ownsRow_of_block hT.out fun _ _ => rfl
            have hI1 : W1.ownsRow N 3 1 (.slice (some ⟨g7, 0, none⟩) (k + 1) c7) (k + 1) (mapR (fun p => idV ss (dj p)) (k + 1)) := hW1 ▸ ownsRow_of_block hI.out fun _ _ => rfl
            have hB1 : Below N w2 W1 := hW1 ▸ below_dn hW.out nq
            clear a0 b0 a1 b1 a2 a3 b2 b3 hT hI hW hW1
            obtain ⟨a0, a1, a2, a3⟩ := own_get hT1 (mapR_get (fun p => txtV key.data.toList ss (dj p)) (show jp < k + 1 by omega))
            obtain ⟨b0, b1, -, -⟩ := own_get hT1 (mapR_get (fun p => txtV key.data.toList ss (dj p)) (show jp + 1 < k + 1 by omega))
            rw [HETA.out] at a0
            rw [HETB.out] at b0
            have hsw1 := own_swap hT1 jp (jp + 1) (.string tb) (.string ta)
            have hsw2 := own_else (i := jp) (j := jp + 1) (a := .string tb) (b := .string ta) hI1 (fun e => HG67.out e.symm)
            rw [show ((mapR (fun p => txtV key.data.toList ss (dj p)) (k + 1)).set jp (.string tb)).set (jp + 1) (.string ta) = mapR (fun p => txtV key.data.toList ss (swf dj jp (jp + 1) p)) (k + 1) by rw [mapR_swap _ _ (by omega) (by omega) (by omega), HETA.out, HETB.out]] at hsw1
            have hB2 : Below N w2 (((W1.setCell ⟨g6, jp, none⟩ (.string tb)).setCell ⟨g6, jp + 1, none⟩ (.string ta)).drew) := ((hB1.setCell (p := ⟨g6, jp, none⟩) a2 _).setCell (p := ⟨g6, jp + 1, none⟩) a2 _).drew
            have HSW1 := Lib.hid hsw1
            have HSW2 := Lib.hid hsw2
            have HB2 := Lib.hid hB2
            clear hsw1 hsw2 hB2 hT1 hI1 hB1
            go_wp2_with fail
            go_big_region_o
            obtain ⟨W2, hW2⟩ : ∃ W2, ((W1.setCell ⟨g6, jp, none⟩ (.string tb)).setCell ⟨g6, jp + 1, none⟩ (.string ta)).drew = W2 := ⟨_, rfl⟩
            rw [hW2] at HSW1 HSW2 HB2 ⊢
            clear a0 b0 a1 b1 a2 a3 hW2
            obtain ⟨x0, x1, x2, x3⟩ := own_get HSW2.out (mapR_get (fun p => idV ss (dj p)) (show jp < k + 1 by omega))
            obtain ⟨y0, y1, -, -⟩ := own_get HSW2.out (mapR_get (fun p => idV ss (dj p)) (show jp + 1 < k + 1 by omega))
            rw [HENA.out] at x0
            rw [HENB.out] at y0
            have hsw3 := own_swap HSW2.out jp (jp + 1) (.int .i64 nb) (.int .i64 na)
            have hsw4 := own_else (i := jp) (j := jp + 1) (a := .int .i64 nb) (b := .int .i64 na) HSW1.out HG67.out
            rw [show ((mapR (fun p => idV ss (dj p)) (k + 1)).set jp (.int .i64 nb)).set (jp + 1) (.int .i64 na) = mapR (fun p => idV ss (swf dj jp (jp + 1) p)) (k + 1) by rw [mapR_swap _ _ (by omega) (by omega) (by omega), HENA.out, HENB.out]] at hsw3
            have hB3 : Below N w2 (((W2.setCell ⟨g7, jp, none⟩ (.int .i64 nb)).setCell ⟨g7, jp + 1, none⟩ (.int .i64 na)).drew) := ((HB2.out.setCell (p := ⟨g7, jp, none⟩) x2 _).setCell (p := ⟨g7, jp + 1, none⟩) x2 _).drew
            have HSW3 := Lib.hid hsw3
            have HSW4 := Lib.hid hsw4
            have HB3 := Lib.hid hB3
            clear hsw3 hsw4 hB3 HSW1 HSW2 HB2
            go_wp2_with fail
            go_big_region_o
            go_wp2
            refine ⟨⟨jp, _, by go_num, by omega, HSW4, HSW3, HB3, Lib.hid fun p => ?_, Lib.hid fun _ => HCT.out⟩, by simp [intOf]⟩
            have hD := hdj.out
            unfold swf
            by_cases c1 : p = jp
            · rw [if_pos c1, V1.out, if_pos c1]
            · rw [if_neg c1]
              by_cases c2 : p = jp + 1
              · rw [if_pos c2, V2.out, if_neg c1, if_pos (by omega), c2]; rfl
              · rw [if_neg c2, if_neg c1, hD, if_neg c2]
                by_cases c3 : jp + 1 < p ∧ p ≤ k
                · rw [if_pos c3, if_pos (by omega)]
                · rw [if_neg c3, if_neg (by omega)]
          · have tst : (Op.bytesLess ta.toList tb.toList || ta.toList == tb.toList) = true := by rw [HGT.out, decide_eq_false hc]; rfl
            have HCT : Hid (ltc (cmpOf key.data.toList ss) (d k) (d jp) = false) := Lib.hid (by rw [HC'.out]; exact decide_eq_false hc)
            have FIN := Lib.hid (fin.out fun _ => HCT.out)
            clear fin
            go_wp2_with fail
            go_quiet (fail)
            go_wp2
            refine ⟨?_, by simp [intOf]; omega⟩
            rw [show Value.int .i64 ((k : Int) + 1) = .int .i64 (↑(k + 1)) by go_num]
            exact FIN.out.dn nq
        · have hj00 : j = 0 := by omega
          subst hj00
          have FIN := Lib.hid (fin.out fun h => absurd h (Nat.lt_irrefl _))
          have hgd : decide ((0 : Int) < ((0 : Nat) : Int)) = false := by decide
          clear fin
          go_wp2_with fail
          go_quiet (fail)
          go_wp2
          refine ⟨?_, by simp [intOf]; omega⟩
          rw [show Value.int .i64 ((k : Int) + 1) = .int .i64 (↑(k + 1)) by go_num]
          exact FIN.out.dn nq
    · have hk2 : k = ss.length := by omega
      subst hk2
      go_wp2
      go_ret
      refine ⟨_, idsBy ss d ss.length, rfl, ?_, byCells_of hdb.out hs.out, HB2.out.trans (hW.out.mono hzN)⟩
      refine NumsAt.low ?_ hzN
      unfold NumsAt
      rw [nums_idsBy, idsBy_len]
      exact hI.out
end Go.Proofs.YtjbnjlkoipkpoaaGreatDoor.T
