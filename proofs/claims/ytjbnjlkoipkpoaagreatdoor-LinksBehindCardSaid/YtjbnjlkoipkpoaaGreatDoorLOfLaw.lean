/- The law LinksOf, walked: a text that is looked at. -/
import Derived.Test.YtjbnjlkoipkpoaaGreatDoorLLists
import Derived.Test.YtjbnjlkoipkpoaaGreatDoorLF
import Derived.Test.YtjbnjlkoipkpoaaGreatDoorTTable
namespace Go.Proofs.YtjbnjlkoipkpoaaGreatDoor.T
open Go.RowKit Go.Shelf
open Go.Proofs.YtjbnjlkoipkpoaaGreatDoor.B

theorem links_mem {name key : L8} {ss : List St} (hfine : ∀ x ∈ ss, FsFine x.2) {l : Lk} (h : l ∈ linksL name key ss) : l.2.1 = namedL name l.2.2 ss ∧ l.2.2.length ≤ 1000 ∧ ∃ x ∈ ss, l.1 = x.1 := by
  obtain ⟨x, hx, hl⟩ := List.mem_flatMap.1 h
  obtain ⟨f, hf, hl⟩ := List.mem_flatMap.1 hl
  unfold lkF at hl
  split at hl
  · obtain ⟨wd, hw, rfl⟩ := List.mem_map.1 hl
    exact ⟨rfl, Nat.le_trans (wordsL_mem hw) ((hfine x hx).2 f hf), x, hx, rfl⟩
  · simp at hl
theorem links_few {name key : L8} {ss : List St} (hfine : ∀ x ∈ ss, FsFine x.2) (hm : ss.length ≤ 1000) : (linksL name key ss).length ≤ 40040000 := by
  have h1 := links_take (name := name) (key := key) (all := ss) hfine
  have h2 : ss.length * 40040 ≤ 1000 * 40040 := Nat.mul_le_mul_right _ hm
  unfold linksL
  omega
/-- Does a link go somewhere? -/
def looseB (l : Lk) : Bool := !((l.2.1 : Int) != 0)
def LoR (L : List Lk) (N : Nat) (w6 : World) (v i : Value) (wr : World) : Prop :=
  ∃ k : Nat, i = .int .i64 k ∧ k ≤ L.length ∧ Hid (RlRow N wr v ((L.take k).filter looseB)) ∧ Hid (Below N w6 wr)
set_option maxRecDepth 100000 in
set_option maxHeartbeats 12800000 in
theorem linksOf_main (s name key : ByteArray) (w : World) (hr : Ready w) (hg : Good30 s name key) :
    Calls Tryz.prog 3 #[.string s, .string name, .string key] w fun e w' => e = .returned (.bool true) ∧ Below w.heap.size w w' := by
  obtain ⟨i0, hi0, hz0, hz1, hz2⟩ := info_parts infoRl
  have AL := Lib.hid (alive30_any w hr)
  have LI := Lib.hid (fun w' => lists_ok s name key w' hg)
  have HR := Lib.hid hr
  obtain ⟨⟨hs, hn, hk⟩, he, h40⟩ := hg
  have hfine : ∀ x ∈ stanzasOf s.data.toList, FsFine x.2 := fun x hx => (stanzasOf_fine hx).1
  have hids : ∀ x ∈ stanzasOf s.data.toList, x.1 ≤ 1000000 := fun x hx => by have := stan_ids hx; omega
  have hxl := items_bound (s := s.data.toList) (by rw [size_len]; omega)
  have HFI := Lib.hid hfine
  have HID := Lib.hid hids
  have HLM := Lib.hid (fun l (hl : l ∈ linksL name.data.toList key.data.toList (stanzasOf s.data.toList)) => links_mem hfine hl)
  have hll := links_few (name := name.data.toList) (key := key.data.toList) hfine (by omega)
  have RO : Hid (∀ (ve : Value) (nx : Int) (w' : World), EntsAt w'.heap.size w' ve (numberFrom 1 (parse s.data.toList).st.items) → Calls Tryz.prog 14 #[.agg #[ve, .int .i64 nx], .string name, .string key] w' fun e w2 => ∃ u, e = .returned u ∧ RlRow w'.heap.size w2 u (linksL name.data.toList key.data.toList (stanzasOf s.data.toList)) ∧ Below w'.heap.size w' w2) :=
    Lib.hid fun ve nx w' h => refOf_any ve nx _ name key w' h (by rw [number_len]; omega) (by show (stanzasOf s.data.toList).length ≤ 1000; omega) hfine hids
  have OF : Hid (∀ (b : Nat) (w' : World), ListIn w' b s.data.toList → Ready w' → Calls Tryz.prog 13 #[.pointer (some ⟨b, 0, none⟩), .string name, .string key] w' fun e w2 => ∃ u, e = .returned u ∧ LkRow w'.heap.size w2 u (linksL name.data.toList key.data.toList (stanzasOf s.data.toList)) ∧ Below w'.heap.size w' w2) :=
    Lib.hid fun b w' h hr => of_any (some ⟨b, 0, none⟩) name key _ w' (by omega) hfine hids hr (stanzas_in h (by omega))
  have NM : Hid (∀ (b : Nat) (w' : World) (wd : ByteArray), ListIn w' b s.data.toList → wd.size ≤ 1000000 → Calls Tryz.prog 15 #[.pointer (some ⟨b, 0, none⟩), .string name, .string wd] w' fun e w2 => e = .returned (.int .i64 (namedL name.data.toList wd.data.toList (stanzasOf s.data.toList) : Nat)) ∧ Below w'.heap.size w' w2) :=
    Lib.hid fun b w' wd h hw => named_any (some ⟨b, 0, none⟩) name wd _ w' (by omega) hfine hids hw (stanzas_in h (by omega))
  have OFN : Hid (∀ w', Ready w' → Calls Tryz.prog 13 #[.pointer none, .string name, .string key] w' fun e w2 => (∃ ao c, e = .returned (.slice ao 0 c)) ∧ Below w'.heap.size w' w2) :=
    Lib.hid fun w' hr => (of_any none name key [] w' (by simp) (by simp) (by simp) hr (stanzas_nil w')).mono fun e w2 ⟨u, h1, h2, h3⟩ => ⟨by obtain ⟨ao, c, h4⟩ := own_shape h2; exact ⟨ao, c, by rw [h1, h4]; rfl⟩, h3⟩
  have NMN : Hid (∀ w', Calls Tryz.prog 15 #[.pointer none, .string name, .string key] w' fun e w2 => e = .returned (.int .i64 0) ∧ Below w'.heap.size w' w2) :=
    Lib.hid fun w' => named_any none name key [] w' (by simp) (by simp) (by simp) (by omega) (stanzas_nil w')
  have WD := Lib.hid (fun w' hr => words_any s w' (by omega) hr)
  have RW := Lib.hid (fun w' => refWords_any s w' (by omega))
  have hwl : (wordsB s.data.toList).length ≤ 9223372036854775807 := by
    have h1 := wordsL_len s.data.toList
    have h2 : s.data.toList.length = s.size := (Lib.size_eq s).symm
    unfold wordsB
    rw [List.length_map]
    omega
  obtain ⟨ws, hws⟩ : ∃ ws, wordsB s.data.toList = ws := ⟨_, rfl⟩
  rw [hws] at WD RW hwl
  obtain ⟨ss, hss⟩ : ∃ ss, stanzasOf s.data.toList = ss := ⟨_, rfl⟩
  obtain ⟨L, hL⟩ : ∃ L, linksL name.data.toList key.data.toList (stanzasOf s.data.toList) = L := ⟨_, rfl⟩
  rw [hL] at RO OF HLM hll
  rw [hss] at NM HLM HFI HID
  have SM := Lib.hid (fun va vb A B w' ha hb => same_yes va vb L A B w' ha hb hll)
  have DG := Lib.hid (fun v B w' h => dangling_any v L B w' h hll)
  have SM2 := Lib.hid (fun va vb A B w' ha hb => same_yes va vb (L.filter looseB) A B w' ha hb (Nat.le_trans (List.length_filter_le _ _) hll))
  have TX := Lib.hid (fun B va vb w' ha hb => texts_same B va vb ws w' ha hb hwl)
  clear hr he h40 hfine hids hxl hws hss hL
  go_enter Tryz.func3, Tryz.ntmps3
  go_wp2_with fail
  refine AL.out.mono ?_
  rintro e w1 ⟨rfl, hb1⟩
  have HB1 := Lib.hid hb1
  clear hb1 AL
  go_wp2_with fail
  refine (LI.out w1).mono ?_
  rintro e w2 ⟨b, ve, nx, rfl, hLI, hEN, hb2⟩
  obtain ⟨eo, ec, hve, -⟩ := id hEN
  subst hve
  have HB2 := Lib.hid (HB1.out.trans (hb2.mono HB1.out.size))
  obtain ⟨el, hel⟩ : ∃ el, (numberFrom 1 (parse s.data.toList).st.items).length = el := ⟨_, rfl⟩
  rw [hel] at hEN ⊢
  obtain ⟨wa, hwa⟩ : ∃ wa, w2.alloc (.cells #[.slice eo el ec, .int .i64 nx] 26) = wa := ⟨_, rfl⟩
  have hba : Below w2.heap.size w2 wa := by rw [← hwa]; exact below_grow1 w2 _
  have hEa : wa.heap[w2.heap.size]? = some (.cells #[.slice eo el ec, .int .i64 nx] 26 (0, 0)) := by rw [← hwa]; exact heap_alloc_new w2 _
  have hlb : w2.heap.size < wa.heap.size := (Array.getElem?_eq_some_iff.1 hEa).1
  have HLIA := Lib.hid (hLI.below hba)
  have HENA := Lib.hid ((hEN.below hba (Nat.le_refl _)).up hba.size)
  have HBA := Lib.hid (HB2.out.trans (hba.mono HB2.out.size))
  have HRA := Lib.hid (HR.out.stays HBA.out)
  have HWA := Lib.hid hwa
  have HEA := Lib.hid hEa
  obtain ⟨LB, hLB⟩ : ∃ LB, w2.heap.size = LB := ⟨_, rfl⟩
  rw [hLB] at HEA hlb
  have HLB := Lib.hid hLB
  clear hLI hEN hb2 hba hwa hEa LI HB1 HR hel HB2
  go_wp2_with fail
  rw [HWA.out]
  refine (OF.out b wa HLIA.out HRA.out).mono ?_
  rintro e w3 ⟨u, rfl, hU, hb3⟩
  have hE3 := (hb3.block _ hlb).trans HEA.out
  have HB3 := Lib.hid (HBA.out.trans (hb3.mono HBA.out.size))
  have HU := Lib.hid hU
  have HLI3 := Lib.hid (HLIA.out.below hb3)
  have HEN3 := Lib.hid ((HENA.out.below hb3 (Nat.le_refl _)).up hb3.size)
  have HR3 := Lib.hid (HRA.out.stays hb3)
  have c0 : w3.cell? ⟨LB, 0, none⟩ = some (.slice eo el ec) := by simp [World.cell?, hE3]
  have c1 : w3.cell? ⟨LB, 1, none⟩ = some (.int .i64 nx) := by simp [World.cell?, hE3]
  clear hU hb3 hE3 HLIA HENA HRA HEA HBA OF HWA
  go_wp2_with fail
  refine (RO.out _ nx w3 HEN3.out).mono ?_
  rintro e w4 ⟨u2, rfl, hU2, hb4⟩
  have HB4 := Lib.hid (HB3.out.trans (hb4.mono HB3.out.size))
  have HU4 := Lib.hid (HU.out.below hb4)
  have HLI4 := Lib.hid (HLI3.out.below hb4)
  have HR4 := Lib.hid (HR3.out.stays hb4)
  have HU2 := Lib.hid hU2
  obtain ⟨uo, uc, huo⟩ := own_shape hU2
  subst huo
  obtain ⟨xo, xc, hxo⟩ := own_shape HU4.out
  subst hxo
  have HCR : Hid (∀ W, Below w4.heap.size w4 W → ∀ (k : Nat) (l : Lk), L[k]? = some l → ∃ g, uo = some ⟨g, 0, none⟩ ∧ W.cell? ⟨g, k * 3, none⟩ = some (.int .i64 l.1) ∧ W.cell? ⟨g, k * 3 + 1, none⟩ = some (.int .i64 l.2.1) ∧ W.cell? ⟨g, k * 3 + 2, none⟩ = some (.string ⟨l.2.2.toArray⟩)) := Lib.hid fun W hW k l hl => by
    have hrow := HU2.out.below hW
    obtain ⟨g, hg, hvf⟩ : ∃ g, (Value.slice uo L.length uc).ownBlock = some g ∧ uo = some ⟨g, 0, none⟩ := by
      rcases hrow.2 with ⟨-, h0⟩ | ⟨g, cp', cur, hz, -⟩
      · have := (List.getElem?_eq_some_iff.1 hl).1; omega
      · injection hz with z1 z2 z3
        exact ⟨g, by rw [z1]; rfl, z1⟩
    obtain ⟨g1, g2, g3⟩ := lkC_get L k l hl
    have e1 := World.ownsRow.cells hrow hg _ _ g1
    have e2 := World.ownsRow.cells hrow hg _ _ g2
    have e3 := World.ownsRow.cells hrow hg _ _ g3
    rw [addrO] at e1 e2 e3
    exact ⟨g, hvf, e1, e2, e3⟩
  have hm5 := World.ownsRow_made (base := w4.heap.size) (e := 34) (size := 3) w4 #[] 0 (Nat.le_refl _) (Nat.zero_le _) rfl
  have hb5 : Below w4.heap.size w4 (w4.alloc (.cells #[] 34)) := below_grow1 w4 _
  obtain ⟨w5, hw5⟩ : ∃ w5, w4.alloc (.cells #[] 34) = w5 := ⟨_, rfl⟩
  rw [hw5] at hm5 hb5
  have HM5 : Hid (RlRow w4.heap.size w5 (.slice (some ⟨w4.heap.size, 0, none⟩) 0 0) []) := Lib.hid hm5
  have HB5 := Lib.hid hb5
  have HW5 := Lib.hid hw5
  have hzw4 := HB4.out.size
  clear hU2 hb4 hm5 hb5 hw5 HU HLI3 HEN3 HR3 HB3 RO c0 c1
  go_wp2_with fail
  rw [HW5.out]
  go_loopw [12, 14, 38] (fun v _ i W => LoR L w4.heap.size w4 v i W) (fun _ _ i _ => L.length - (intOf i).toNat)
  case atStart => exact ⟨0, rfl, Nat.zero_le _, HM5, HB5⟩
  case round =>
    clear HM5 HB5 HW5
    obtain ⟨k, rfl, hk, hO, hW⟩ := hrel
    by_cases hlt : k < L.length
    · obtain ⟨l, hl⟩ : ∃ l, L[k]? = some l := ⟨_, List.getElem?_eq_getElem hlt⟩
      obtain ⟨g, rfl, e1, e2, e3⟩ := HCR.out wr hW.out k l hl
      obtain ⟨hn1, hn2, -⟩ := HLM.out l (List.mem_of_getElem? hl)
      have HX : Hid ((L.take (k + 1)).filter looseB = (L.take k).filter looseB ++ (if looseB l then [l] else [])) := Lib.hid (take_filter hl)
      have htl : ((L.take k).filter looseB).length ≤ 40040000 := by
        have h1 := List.length_filter_le looseB (L.take k)
        rw [List.length_take] at h1; omega
      have hO3 : RlRow w4.heap.size wr u12 ((L.take k).filter looseB) := hO.out
      obtain ⟨base, hbase⟩ : ∃ base, (L.take k).filter looseB = base := ⟨_, rfl⟩
      rw [hbase] at hO3 HX htl
      obtain ⟨vo, vc, hvo⟩ := own_shape hO3
      subst hvo
      obtain ⟨l1, l2, l3⟩ := l
      obtain ⟨tw, htw⟩ : ∃ tw : ByteArray, (⟨l3.toArray⟩ : ByteArray) = tw := ⟨_, rfl⟩
      have HTW : Hid (tw = ⟨l3.toArray⟩) := Lib.hid htw.symm
      have HWR := hW
      have htd : tw.data.toList = l3 := by rw [← htw]
      simp only at e1 e2 e3 hn1 hn2
      rw [htw] at e3
      have NK : Hid (∀ W, Below w4.heap.size w4 W → Calls Tryz.prog 15 #[.pointer (some ⟨b, 0, none⟩), .string name, .string tw] W fun e w2 => e = .returned (.int .i64 (l2 : Nat)) ∧ Below W.heap.size W w2) := Lib.hid fun W hb => by
        have h := NM.out b W tw (HLI4.out.below hb) (by rw [Lib.size_eq, htd]; omega)
        rw [htd, ← hn1] at h
        exact h
      obtain ⟨W1, hW1⟩ : ∃ W1, wr.alloc (.cells #[.int .i64 l1, .int .i64 l2, .string tw] 34) = W1 := ⟨_, rfl⟩
      have hb4 : Below wr.heap.size wr W1 := by rw [← hW1]; exact below_grow1 wr _
      have hE : W1.heap[wr.heap.size]? = some (.cells #[.int .i64 l1, .int .i64 l2, .string tw] 34 (0, 0)) := by rw [← hW1]; exact heap_alloc_new wr _
      have q0 : W1.cell? ⟨wr.heap.size, 0, none⟩ = some (.int .i64 l1) := _root_.Go.Proofs.YtjbnjlkoipkpoaaGreatDoor.B.cell_of_row _ _ 0 _ _ hE
      have q1 : W1.cell? ⟨wr.heap.size, 1, none⟩ = some (.int .i64 l2) := _root_.Go.Proofs.YtjbnjlkoipkpoaaGreatDoor.B.cell_of_row _ _ 1 _ _ hE
      have q2 : W1.cell? ⟨wr.heap.size, 2, none⟩ = some (.string tw) := _root_.Go.Proofs.YtjbnjlkoipkpoaaGreatDoor.B.cell_of_row _ _ 2 _ _ hE
      have hzr := hW.out.size
      have hlB := (Array.getElem?_eq_some_iff.1 hE).1
      have HW4 := Lib.hid (hW.out.trans (hb4.mono hzr))
      have hO4 := hO3.below hb4
      have HW1 := Lib.hid hW1
      have hkz : (k : Int) < (L.length : Int) := by omega
      clear hl hO hn1 hn2 hbase htw htd hE hb4 hW1
      by_cases h0 : l2 = 0
      · subst h0
        have hlb : looseB (l1, 0, l3) = true := rfl
        have HX2 : Hid ((L.take (k + 1)).filter looseB = base ++ [(l1, 0, l3)]) := Lib.hid (by rw [HX.out, hlb, if_pos rfl])
        have hO0 := hO3
        have HOA := Lib.hid (World.ownsRow.alloc (World.ownsRow.alloc hO3 (.cells #[.int .i64 l1, .int .i64 (0 : Nat), .string tw] 34)) (.cells #[.int .i64 l1, .int .i64 (0 : Nat), .string tw] 34))
        have HNA : Hid (∀ j y, [Value.int .i64 l1, .int .i64 (0 : Nat), .string tw][j]? = some y → ((wr.alloc (.cells #[.int .i64 l1, .int .i64 (0 : Nat), .string tw] 34)).alloc (.cells #[.int .i64 l1, .int .i64 (0 : Nat), .string tw] 34)).cell? ((⟨wr.heap.size + 1, 0, none⟩ : Addr).add j) = some y) := Lib.hid (World.news_of_block (cs := #[.int .i64 l1, .int .i64 (0 : Nat), .string tw]) (by have := heap_alloc_new (wr.alloc (.cells #[.int .i64 l1, .int .i64 (0 : Nat), .string tw] 34)) (.cells #[.int .i64 l1, .int .i64 (0 : Nat), .string tw] 34); simpa using this))
        have HBA := Lib.hid ((HWR.out.alloc hzr (.cells #[.int .i64 l1, .int .i64 (0 : Nat), .string tw] 34)).alloc (by simp; omega) (.cells #[.int .i64 l1, .int .i64 (0 : Nat), .string tw] 34))
        have hlow : Hid (∀ q, (Value.slice vo base.length vc).ownBlock = some q → w4.heap.size ≤ q ∧ q < wr.heap.size) := Lib.hid fun q hq => World.ownsRow.lt hO3 q hq
        have HE2 : Hid (((wr.alloc (.cells #[.int .i64 l1, .int .i64 (0 : Nat), .string tw] 34)).alloc (.cells #[.int .i64 l1, .int .i64 (0 : Nat), .string tw] 34)).heap[wr.heap.size]? = some (.cells #[.int .i64 l1, .int .i64 (0 : Nat), .string tw] 34 (0, 0))) := Lib.hid ((Below.heap_alloc _ _ _ (by simp)).trans (heap_alloc_new wr _))
        clear HX hO3 hO4 hlb q0 q1 q2 HW1 HW4 hlB
        simp only [Int.natCast_zero] at *
        go_wp2_with (at_builtin; refine wpList_append_lies _ rfl _ _ _ rfl w4.heap.size 34 i0 _ 3 32 Tryz.underlying31 hi0 hz0 hz1 hz2 rfl (by omega) (.slice vo base.length vc) base.length (base.flatMap lkC) rfl HOA.out ⟨wr.heap.size + 1, 0, none⟩ 1 1 [.int .i64 l1, .int .i64 0, .string tw] rfl rfl HNA.out (by simp [Value.oneCell']) (by omega) (by unfold maxLen; omega) (by omega) (by simp; omega) _ rfl ?_; refine Hid.out ?_)
        refine Lib.hid ?_
        intro gg cap w8 hown8 hgrow hat hlt8
        have HN8 : Hid (RlRow w4.heap.size w8 (.slice (some ⟨gg, 0, none⟩) (base.length + 1) cap) (base ++ [(l1, 0, l3)])) := Lib.hid (RlRow.snoc (c := (l1, 0, l3)) (HTW.out ▸ hown8))
        have HB8 := Lib.hid (HBA.out.grown hgrow (by simp; omega) (fun q hq => (hlow.out q hq).1))
        have hne : some wr.heap.size ≠ (Value.slice vo base.length vc).ownBlock := fun e => by have := (hlow.out _ e.symm).2; omega
        have hE8 := (hgrow.block wr.heap.size (by simp; omega) hne).trans HE2.out
        have q1 : w8.cell? ⟨wr.heap.size, 1, none⟩ = some (.int .i64 0) := _root_.Go.Proofs.YtjbnjlkoipkpoaaGreatDoor.B.cell_of_row _ _ 1 _ _ hE8
        have q2 : w8.cell? ⟨wr.heap.size, 2, none⟩ = some (.string tw) := _root_.Go.Proofs.YtjbnjlkoipkpoaaGreatDoor.B.cell_of_row _ _ 2 _ _ hE8
        have hlB := (Array.getElem?_eq_some_iff.1 hE8).1
        have N1 := Lib.hid (NK.out w8.drew HB8.out.drew)
        have P1 := And.intro q1 q2
        clear hown8 hgrow hat hne hE8
        go_wp2_with fail
        go_region_held3 (fun W' => W'.cell? ⟨wr.heap.size, 1, none⟩ = some (.int .i64 0) ∧ W'.cell? ⟨wr.heap.size, 2, none⟩ = some (.string tw)) (first | exact P1 | exact P2)
          (first | (go_at_call 15; refine N1.out.mono ?_; rintro e w9 ⟨rfl, hbd⟩; have hb9 : Below w8.heap.size w8 w9 := ⟨hbd.os, hbd.tape, hbd.output, hbd.size, hbd.block⟩; have P2 := And.intro ((hb9.cell (p := ⟨wr.heap.size, 1, none⟩) hlB).trans q1) ((hb9.cell (p := ⟨wr.heap.size, 2, none⟩) hlB).trans q2); have HW9 := Lib.hid (HB8.out.trans (hb9.mono HB8.out.size)); have HO9 := Lib.hid (HN8.out.below hb9); clear hbd hb9))
        all_goals
          go_wp2
          exact ⟨⟨k + 1, by go_num, by omega, (by rw [HX2.out]; exact HO9), HW9⟩, by simp [intOf]; omega⟩
      · have hlb : looseB (l1, l2, l3) = false := by unfold looseB; simp; omega
        have HX2 : Hid ((L.take (k + 1)).filter looseB = base) := Lib.hid (by rw [HX.out, hlb, if_neg (by simp), List.append_nil])
        have hq : ((l2 : Int) == 0) = false := by rw [beq_eq_false_iff_ne]; omega
        have HO4 := Lib.hid hO4
        have N1 := Lib.hid (NK.out W1.drew HW4.out.drew)
        have P1 := And.intro q1 q2
        clear HX hO3 hO4 hlb h0
        go_wp2_with fail
        rw [HW1.out]
        go_region_held3 (fun W' => W'.cell? ⟨wr.heap.size, 1, none⟩ = some (.int .i64 l2) ∧ W'.cell? ⟨wr.heap.size, 2, none⟩ = some (.string tw)) (first | exact P1 | exact P2)
          (first | (go_at_call 15; refine N1.out.mono ?_; rintro e w9 ⟨rfl, hbd⟩; have hb9 : Below W1.heap.size W1 w9 := ⟨hbd.os, hbd.tape, hbd.output, hbd.size, hbd.block⟩; have P2 := And.intro ((hb9.cell (p := ⟨wr.heap.size, 1, none⟩) hlB).trans q1) ((hb9.cell (p := ⟨wr.heap.size, 2, none⟩) hlB).trans q2); have HW9 := Lib.hid (HW4.out.trans (hb9.mono HW4.out.size)); have HO9 := Lib.hid (HO4.out.below hb9); clear hbd hb9))
        all_goals
          go_wp2
          exact ⟨⟨k + 1, by go_num, by omega, (by rw [HX2.out]; exact HO9), HW9⟩, by simp [intOf]; omega⟩
    · have hO4 : RlRow w4.heap.size wr u12 ((L.take k).filter looseB) := hO.out
      rw [List.take_of_length_le (by omega)] at hO4
      obtain ⟨vo, vc, hvo⟩ := own_shape hO4
      subst hvo
      have HO4 := Lib.hid hO4
      have HBW := Lib.hid (HB4.out.trans (hW.out.mono hzw4))
      have HX4 := Lib.hid (HU4.out.below hW.out)
      have HU5 := Lib.hid (HU2.out.below hW.out)
      have HR5 := Lib.hid (HR4.out.stays hW.out)
      have S1 := Lib.hid (SM.out _ _ _ _ wr HX4.out HU5.out)
      have hltz : ¬ (k : Int) < (L.length : Int) := by omega
      clear hO hO4 hW HU4 HU2 HR4 HB4 HLI4 NM HCR
      go_wp2_with fail
      refine S1.out.mono ?_
      rintro e w6 ⟨rfl, hb6⟩
      have D1 := Lib.hid (DG.out _ _ w6 (HX4.out.below hb6))
      have HB6 := Lib.hid (HBW.out.trans (hb6.mono HBW.out.size))
      have HX6 := Lib.hid (HX4.out.below hb6)
      have HU6 := Lib.hid (HU5.out.below hb6)
      have HO6 := Lib.hid (HO4.out.below hb6)
      have HR6 := Lib.hid (HR5.out.stays hb6)
      clear hb6 S1 HX4 HU5 HO4 HR5 HBW
      go_wp2_with fail
      refine D1.out.mono ?_
      rintro e w7 ⟨d, rfl, hd, hb7⟩
      have S2 := Lib.hid (SM2.out d _ _ _ w7 hd (HO6.out.below hb7))
      have HB7 := Lib.hid (HB6.out.trans (hb7.mono HB6.out.size))
      have HX7 := Lib.hid (HX6.out.below hb7)
      have HU7 := Lib.hid (HU6.out.below hb7)
      have HR7 := Lib.hid (HR6.out.stays hb7)
      obtain ⟨dO, dC, hdv⟩ := own_shape hd
      subst hdv
      clear hb7 hd D1 HX6 HU6 HO6 HR6 HB6
      go_wp2_with fail
      refine S2.out.mono ?_
      rintro e w8 ⟨rfl, hb8⟩
      have S3 := Lib.hid (SM.out _ _ _ _ w8 (HX7.out.below hb8) (HU7.out.below hb8))
      have HB8 := Lib.hid (HB7.out.trans (hb8.mono HB7.out.size))
      have HR8 := Lib.hid (HR7.out.stays hb8)
      clear hb8 S2 HX7 HU7 HR7 HB7
      go_wp2_with fail
      refine S3.out.mono ?_
      rintro e w9 ⟨rfl, hb9⟩
      have HB9 := Lib.hid (HB8.out.trans (hb9.mono HB8.out.size))
      have HR9 := Lib.hid (HR8.out.stays hb9)
      have WD1 := Lib.hid (WD.out w9 HR9.out)
      clear hb9 S3 HB8 HR8
      go_wp2_with fail
      refine WD1.out.mono ?_
      rintro e w10 ⟨x1, rfl, hx1, hb10⟩
      have HB10 := Lib.hid (HB9.out.trans (hb10.mono HB9.out.size))
      have HR10 := Lib.hid (HR9.out.stays hb10)
      have HX1 := Lib.hid hx1
      obtain ⟨xo1, xc1, hx1v⟩ := own_shape hx1
      subst hx1v
      have RW1 := Lib.hid (RW.out w10)
      clear hb10 hx1 WD1 HB9 HR9
      go_wp2_with fail
      refine RW1.out.mono ?_
      rintro e w11 ⟨x2, rfl, hx2, hb11⟩
      have HB11 := Lib.hid (HB10.out.trans (hb11.mono HB10.out.size))
      have HR11 := Lib.hid (HR10.out.stays hb11)
      have T1 := Lib.hid (TX.out w11.heap.size _ x2 w11 (HX1.out.below hb11 (Nat.le_refl _)).at_ hx2.at_)
      obtain ⟨xo2, xc2, hx2v⟩ := own_shape hx2
      subst hx2v
      clear hb11 hx2 RW1 HB10 HR10 HX1
      go_wp2_with fail
      refine T1.out.mono ?_
      rintro e w12 ⟨rfl, n12, rfl⟩
      have HB12 := Lib.hid (below_dn HB11.out n12)
      have O1 := Lib.hid (OFN.out (w11.drewN n12) (HR11.out.stays (below_dn (Below.refl _ _) n12)))
      clear T1
      go_wp2_with fail
      refine O1.out.mono ?_
      rintro e w13 ⟨⟨ao, ca, rfl⟩, hb13⟩
      have HB13 := Lib.hid (HB12.out.trans (hb13.mono HB12.out.size))
      clear hb13 O1
      go_wp2_with fail
      refine (NMN.out w13).mono ?_
      rintro e w14 ⟨rfl, hb14⟩
      have HB14 := Lib.hid (HB13.out.trans (hb14.mono HB13.out.size))
      clear hb14
      go_wp2_with fail
      go_ret
      exact ⟨rfl, HB14.out⟩
theorem ofL_walk (s name key : ByteArray) (w : World) (hs : s.size ≤ 9223372036854775807) (hn : name.size ≤ 9223372036854775807) (hk : key.size ≤ 9223372036854775807) (hr : Ready w) :
    Calls Tryz.prog 3 #[.string s, .string name, .string key] w fun e w' => e = .returned (.bool true) ∧ Below w.heap.size w w' := by
  by_cases hg : Good30 s name key
  · exact linksOf_main s name key w hr hg
  · have AL := Lib.hid (alive30_any w hr)
    have LI := Lib.hid (fun w' => lists_no s name key w' hg hs hn hk)
    clear hr hg
    go_enter Tryz.func3, Tryz.ntmps3
    go_wp2_with fail
    refine AL.out.mono ?_
    rintro e w1 ⟨rfl, hb1⟩
    have HB1 := Lib.hid hb1
    clear hb1 AL
    go_wp2_with fail
    refine (LI.out w1).mono ?_
    rintro e w2 ⟨p, eo, el, ec, nx, rfl, hb2⟩
    have HB2 := Lib.hid ((HB1.out.trans (hb2.mono HB1.out.size)).alloc (Nat.le_trans HB1.out.size hb2.size) (.cells #[.slice eo el ec, .int .i64 nx] 26))
    clear hb2 LI HB1
    go_wp2_with fail
    go_ret
    exact ⟨rfl, HB2.out⟩
end Go.Proofs.YtjbnjlkoipkpoaaGreatDoor.T
