/- The law TableSorts, walked. -/
import Derived.Test.YtjbnjlkoipkpoaaGreatDoorTPlace
import Derived.Test.YtjbnjlkoipkpoaaGreatDoorTCounts
import Derived.Test.YtjbnjlkoipkpoaaGreatDoorTSorted
namespace Go.Proofs.YtjbnjlkoipkpoaaGreatDoor.T
open Go.RowKit Go.Shelf
open Go.Proofs.YtjbnjlkoipkpoaaGreatDoor.B

theorem less_test (a b : ByteArray) : Op.bytesLess a.toList b.toList = decide (a.data.toList < b.data.toList) := by
  rw [bytesLess_eq, Lib.toList_data, Lib.toList_data]
theorem valsAll_take {key : L8} {ss : List St} {k : Nat} {x : St} (h : ss[k]? = some x) : (valsAll key (ss.take (k + 1))).length = (valsAll key (ss.take k)).length + (valsOf key x.2).length := by
  rw [List.take_add_one, h]
  show (valsAll key (ss.take k ++ [x])).length = _
  rw [valsAll_snoc, List.length_append, List.length_map]
theorem one_at (k : ByteArray) (w : World) : StrsAt (w.alloc (.cells #[.string k] 9)).heap.size (w.alloc (.cells #[.string k] 9)) (.slice (some ⟨w.heap.size, 0, none⟩) 1 1) [k] := by
  refine ⟨_, 1, rfl, fun j s hs => ⟨_, rfl, by simp, ?_⟩⟩
  rw [addrO]
  cases j with
  | zero =>
    have e : k = s := by simpa using hs
    subst e
    exact _root_.Go.Proofs.YtjbnjlkoipkpoaaGreatDoor.B.cell_of_row _ _ 0 _ _ (heap_alloc_new w _)
  | succ j => simp at hs
theorem cntCells_get : ∀ (t : List Cnt) (k : Nat) (c : Cnt), t[k]? = some c → (t.flatMap cntC)[k * 2]? = some (.string ⟨c.1.toArray⟩) ∧ (t.flatMap cntC)[k * 2 + 1]? = some (.int .i64 c.2)
  | [], k, c, h => by simp at h
  | y :: r, 0, c, h => by simp at h; subst h; exact ⟨rfl, rfl⟩
  | y :: r, k + 1, c, h => by
    obtain ⟨h1, h2⟩ := cntCells_get r k c (by simpa using h)
    have e1 : (k + 1) * 2 = k * 2 + 1 + 1 := by omega
    rw [e1]
    have e : (y :: r).flatMap cntC = .string ⟨y.1.toArray⟩ :: .int .i64 y.2 :: r.flatMap cntC := rfl
    rw [e]
    exact ⟨by simpa using h1, by simpa using h2⟩
theorem sum_step {t : List Cnt} {k : Nat} {c : Cnt} (h : t[k]? = some c) : ((t.take (k + 1)).map (·.2)).sum = ((t.take k).map (·.2)).sum + c.2 ∧ ((t.take k).map (·.2)).sum + c.2 ≤ (t.map (·.2)).sum := by
  have e1 : ((t.take (k + 1)).map (·.2)).sum = ((t.take k).map (·.2)).sum + c.2 := by
    rw [List.take_add_one, h]
    simp
  refine ⟨e1, ?_⟩
  rw [← e1]
  have : (t.map (·.2)).sum = ((t.take (k + 1)).map (·.2)).sum + ((t.drop (k + 1)).map (·.2)).sum := by
    rw [← List.sum_append, ← List.map_append, List.take_append_drop]
  omega
/-- Where the first loop stands. -/
def S1Rel (key : L8) (ss : List St) (d : Nat → Nat) (w3 : World) (vl va i : Value) (wr : World) : Prop :=
  ∃ (k : Nat) (la : ByteArray) (a : Int), i = .int .i64 k ∧ vl = .string la ∧ va = .int .i64 a ∧ k ≤ ss.length ∧ Hid (∀ p, k = p + 1 → la.data.toList = cellAt key ss (d p) ∧ a = (d p : Nat)) ∧ Hid (Below w3.heap.size w3 wr)
def S2Rel (key : L8) (ss : List St) (w3 : World) (vn i : Value) (wr : World) : Prop :=
  ∃ k m : Nat, i = .int .i64 k ∧ vn = .int .i64 m ∧ k ≤ ss.length ∧ Hid (m = (valsAll key (ss.take k)).length) ∧ Hid (Below w3.heap.size w3 wr)
def S3Rel (key : L8) (base : Nat) (fs : List Fld) (w3 : World) (vn i : Value) (wr : World) : Prop :=
  ∃ k m : Nat, i = .int .i64 k ∧ vn = .int .i64 m ∧ k ≤ fs.length ∧ Hid (m = base + (valsOf key (fs.take k)).length) ∧ Hid (Below w3.heap.size w3 wr)
def S4Rel (t : List Cnt) (total : Nat) (w3 : World) (vn i : Value) (wr : World) : Prop :=
  ∃ k m : Nat, i = .int .i64 k ∧ vn = .int .i64 m ∧ k ≤ t.length ∧ m ≤ 1000000 ∧ Hid (m + ((t.take k).map (·.2)).sum = total) ∧ Hid (Below w3.heap.size w3 wr)
set_option maxRecDepth 100000 in
set_option maxHeartbeats 12800000 in
theorem sorts_main (s key : ByteArray) (w : World) (hr : Ready w) (hs : s.size ≤ 9223372036854775807) (hk : key.size ≤ 9223372036854775807) (hL : isLarge s [key] = false) (he : (parse s.data.toList).err = 0) :
    Calls Tryz.prog 10 #[.string s, .string key] w fun e w' => e = .returned (.bool true) ∧ Below w.heap.size w w' := by
  have hL' := hL
  unfold isLarge at hL'
  simp only [Bool.or_eq_false_iff, decide_eq_false_iff_not] at hL'
  obtain ⟨⟨hs2, -⟩, -⟩ := hL'
  have AL := Lib.hid (alive_any w hr)
  have HR := Lib.hid hr
  have hfew := stanzasOf_few s.data.toList
  have hxl := items_bound (s := s.data.toList) (by rw [size_len]; omega)
  have HFI := Lib.hid (fun (x : St) (hx : x ∈ stanzasOf s.data.toList) => (stanzasOf_fine hx).1)
  have LO := Lib.hid (fun w' => list_ok s (by omega) w' he)
  have LG : Hid (∀ w1 : World, Calls Tryz.prog 22 #[.string s, .slice (some ⟨w1.heap.size, 0, none⟩) 1 1] (w1.alloc (.cells #[.string key] 9)) fun e w' => e = .returned (.bool false) ∧ (w1.alloc (.cells #[.string key] 9)) = w') := Lib.hid fun w1 => by
    have := large_any s (.slice (some ⟨w1.heap.size, 0, none⟩) 1 1) [key] (w1.alloc (.cells #[.string key] 9)) (one_at key w1) hs (by simp) (fun x hx => by rw [List.mem_singleton.1 hx]; exact hk)
    rw [hL] at this
    exact this
  clear hL hr he
  go_enter Tryz.func10, Tryz.ntmps10
  go_wp2_with fail
  refine AL.out.mono ?_
  rintro e w1 ⟨rfl, hb1⟩
  have HB1 := Lib.hid (hb1.alloc hb1.size (.cells #[.string key] 9))
  have LG1 := Lib.hid (LG.out w1)
  clear hb1 AL LG
  obtain ⟨w1', hw1'⟩ : ∃ w1', w1.alloc (.cells #[.string key] 9) = w1' := ⟨_, rfl⟩
  rw [hw1'] at HB1 LG1
  go_wp2_with fail
  try rw [hw1']
  refine LG1.out.mono ?_
  rintro e w' ⟨rfl, rfl⟩
  clear LG1 hw1'
  go_wp2_with fail
  refine (LO.out _).mono ?_
  rintro e w2 ⟨b, rfl, hLI, -, hb2⟩
  have hz1 := HB1.out.size
  have HB2 := Lib.hid (HB1.out.trans (hb2.mono hz1))
  have HLI := Lib.hid hLI
  obtain ⟨ss, hss⟩ : ∃ ss, stanzasOf s.data.toList = ss := ⟨_, rfl⟩
  have SO := sorted_any (some ⟨b, 0, none⟩) key ss w2 (by rw [← hss]; omega) (by rw [← hss]; exact HFI.out) (HR.out.stays HB2.out) (fun w' hb => hss ▸ stanzas_in (hLI.below hb) (by omega))
  have SO := Lib.hid SO
  rw [hss] at HFI hfew
  have HSS := Lib.hid hss
  clear hLI hb2 LO HB1 hss hz1
  go_wp2_with fail
  refine SO.out.mono ?_
  rintro e w3 ⟨u, zs, rfl, hZ, hby, hb3⟩
  obtain ⟨d, hdb, hd, hzl, hzs⟩ := hby
  obtain ⟨uo, uc, hus⟩ := hZ.shape
  subst hus
  have hz2 := HB2.out.size
  have HB3 := Lib.hid (HB2.out.trans (hb3.mono hz2))
  have HLI3 := Lib.hid (HLI.out.below hb3)
  have HZ := Lib.hid hZ
  have HDB := Lib.hid hdb
  have HD := Lib.hid hd
  have HZS := Lib.hid hzs
  have LN := len_in HLI3.out
  rw [HSS.out] at LN
  have LN := Lib.hid LN
  have HR3 := Lib.hid (HR.out.stays HB3.out)
  rw [hzl] at HZ ⊢
  have hZown : w3.ownsRow w2.heap.size 3 1 (.slice uo ss.length uc) ss.length (nums zs) := by
    have := HZ.out
    unfold NumsAt at this
    rwa [hzl] at this
  have HZO := Lib.hid hZown
  clear hb3 hdb hd hzs hZ SO HLI HB2 hz2 HZ hZown HR
  go_wp2_with fail
  refine LN.out.mono ?_
  rintro e w' ⟨rfl, rfl⟩
  have hneq : ((ss.length : Int) != (ss.length : Int)) = false := by simp
  clear LN
  have hwN := HB3.out.size
  go_wp2
  go_loopw [8, 9, 45] (fun vl va i W => S1Rel key.data.toList ss d w3 vl va i W) (fun _ _ i _ => ss.length - (intOf i).toNat)
  case atStart => exact ⟨0, ⟨#[]⟩, -1, rfl, rfl, rfl, Nat.zero_le _, Lib.hid fun p h => by omega, Lib.hid (Below.refl _ _)⟩
  case round =>
    obtain ⟨k, la, a, rfl, rfl, rfl, hk, hla, hW⟩ := hrel
    by_cases hlt : k < ss.length
    · obtain ⟨x, hx⟩ : ∃ x, ss[d k]? = some x := ⟨_, List.getElem?_eq_getElem (HDB.out k hlt)⟩
      have hx' : (stanzasOf s.data.toList)[d k]? = some x := by rw [HSS.out]; exact hx
      have hzk : zs[k]? = some x.1 := by rw [HZS.out k hlt, hx]; rfl
      have hfx := HFI.out x (List.mem_of_getElem? hx)
      have hcx := cellAt_get (key := key.data.toList) hx
      have hr6 := ownsRow_of_block HZO.out fun g hg => hW.out.block g (World.ownsRow.lt HZO.out g hg).2
      obtain ⟨g', hg', hao'⟩ : ∃ g', (Value.slice uo ss.length uc).ownBlock = some g' ∧ uo = some ⟨g', 0, none⟩ := by
        rcases hr6.2 with ⟨-, h0⟩ | ⟨g', cp', cur, hz, -⟩
        · omega
        · injection hz with z1 z2 z3
          exact ⟨g', by rw [z1]; rfl, z1⟩
      have e5 := World.ownsRow.cells hr6 hg' k (.int .i64 x.1) (by unfold nums; rw [List.getElem?_map, hzk]; rfl)
      rw [addrO] at e5
      subst hao'
      have GT := Lib.hid (get_in (HLI3.out.below hW.out) hx' (by omega))
      have PL : Hid (∀ W, Below w3.heap.size w3 W → Calls Tryz.prog 46 #[.pointer (some ⟨b, 0, none⟩), .int .i64 (x.1 : Nat)] W fun e w' => e = .returned (.int .i64 (d k : Nat)) ∧ Below W.heap.size W w') := Lib.hid fun W hb => place_in (HLI3.out.below hb) hx' (by omega)
      obtain ⟨tv, htv⟩ : ∃ tv : ByteArray, (⟨(cellL key.data.toList x.2).toArray⟩ : ByteArray) = tv := ⟨_, rfl⟩
      have htc : cellAt key.data.toList ss (d k) = tv.data.toList := by rw [hcx, ← htv]
      have CE : Hid (∀ W u2, Below w3.heap.size w3 W → FieldsAt W.heap.size W u2 x.2 → Calls Tryz.prog 31 #[.string key, u2] W fun e w' => e = .returned (.string tv) ∧ Below W.heap.size W w') := Lib.hid fun W u2 hb hf => htv ▸ cell_any key u2 x.2 W hf hfx (HR3.out.stays hb)
      obtain ⟨id, hid⟩ : ∃ id, x.1 = id := ⟨_, rfl⟩
      obtain ⟨dk, hdk⟩ : ∃ dk, d k = dk := ⟨_, rfl⟩
      have HTC := Lib.hid htc
      have HDK := Lib.hid hdk
      rw [hid] at e5 GT PL
      rw [hdk] at PL
      have hdl : dk ≤ 1000000 := by have := HDB.out k hlt; omega
      clear hx hx' hzk hfx hcx hr6 hg' htv htc hid hdk
      go_wp2_with fail
      refine GT.out.mono ?_
      rintro e w4 ⟨u2, rfl, hf2, hb4⟩
      have HB4 := Lib.hid (hW.out.trans (hb4.mono hW.out.size))
      have CE2 := Lib.hid (CE.out w4 u2 HB4.out hf2)
      obtain ⟨fo, fc, hu2, -⟩ := hf2
      subst hu2
      clear hb4 GT CE
      go_wp2_with fail
      refine CE2.out.mono ?_
      rintro e w5 ⟨rfl, hb5⟩
      have HB5 := Lib.hid (HB4.out.trans (hb5.mono HB4.out.size))
      have P5 := Lib.hid (PL.out w5 HB5.out)
      clear hb5 CE2 HB4 hW
      by_cases hk0 : k = 0
      · subst hk0
        clear hla
        go_wp2_with fail
        refine P5.out.mono ?_
        rintro e w6 ⟨rfl, hb6⟩
        have HB6 := Lib.hid (HB5.out.trans (hb6.mono HB5.out.size))
        clear hb6 P5
        go_wp2
        refine ⟨⟨1, tv, dk, by go_num, rfl, rfl, hlt, Lib.hid fun p hp => ?_, HB6⟩, by simp [intOf]; omega⟩
        have hp0 : p = 0 := by omega
        subst hp0
        exact ⟨HTC.out.symm, by rw [HDK.out]⟩
      · obtain ⟨p, rfl⟩ : ∃ p, k = p + 1 := ⟨k - 1, by omega⟩
        obtain ⟨l1, l2⟩ := hla.out p rfl
        obtain ⟨dp, hdp⟩ : ∃ dp, d p = dp := ⟨_, rfl⟩
        rw [hdp] at l2
        have hrr := HD.out p (p + 1) (Nat.zero_le _) (by omega) hlt
        unfold Rr at hrr
        rw [cmpOf_ltc, cmpOf_ltc, ← l1, HTC.out, hdp, HDK.out] at hrr
        subst l2
        have hdpl : dp ≤ 1000000 := by have := HDB.out p (by omega); omega
        have hnl : Op.bytesLess tv.toList la.toList = false := by
          rw [less_test]
          rcases hrr with h | ⟨h, _⟩
          · rw [decide_eq_true_iff] at h
            exact decide_eq_false fun k => l8_irr _ (l8_trans h k)
          · exact h
        have hgt : (0 : Int) < (p : Int) + 1 := by omega
        have hgd : decide ((0 : Int) < (p : Int) + 1) = true := decide_eq_true hgt
        by_cases hce : tv = la
        · subst hce
          have hlt2 : dp < dk := by
            rcases hrr with h | ⟨_, h⟩
            · rw [decide_eq_true_iff] at h
              exact absurd h (l8_irr _)
            · exact h
          have heq : (tv.toList == tv.toList) = true := by simp
          have hle : decide ((dk : Int) ≤ (dp : Int)) = false := decide_eq_false (by omega)
          have hle2 : ¬ (dk : Int) ≤ (dp : Int) := by omega
          have hle3 : decide (dk ≤ dp) = false := decide_eq_false (by omega)
          clear hrr l1 hdp hla
          go_wp2_with fail
          refine P5.out.mono ?_
          rintro e w6 ⟨rfl, hb6⟩
          have HB6 := Lib.hid (HB5.out.trans (hb6.mono HB5.out.size))
          have P6 := Lib.hid (PL.out w6 HB6.out)
          clear hb6 P5 HB5
          go_wp2_with fail
          refine P6.out.mono ?_
          rintro e w7 ⟨rfl, hb7⟩
          have HB7 := Lib.hid (HB6.out.trans (hb7.mono HB6.out.size))
          clear hb7 P6
          go_wp2
          refine ⟨⟨p + 1 + 1, tv, dk, by go_num, rfl, rfl, hlt, Lib.hid fun q hq => ?_, HB7⟩, by simp [intOf]; omega⟩
          have hq0 : q = p + 1 := by omega
          subst hq0
          exact ⟨HTC.out.symm, by rw [HDK.out]⟩
        · have heq : (tv.toList == la.toList) = false := by rw [beq_eq_false_iff_ne]; exact fun e => hce (toList_inj e)
          have HCE := Lib.hid hce
          clear hrr l1 hdp hla hce
          go_wp2_with fail
          refine P5.out.mono ?_
          rintro e w6 ⟨rfl, hb6⟩
          have HB6 := Lib.hid (HB5.out.trans (hb6.mono HB5.out.size))
          clear hb6 P5 HB5
          go_wp2
          refine ⟨⟨p + 1 + 1, tv, dk, by go_num, rfl, rfl, hlt, Lib.hid fun q hq => ?_, HB6⟩, by simp [intOf]; omega⟩
          have hq0 : q = p + 1 := by omega
          subst hq0
          exact ⟨HTC.out.symm, by rw [HDK.out]⟩
    · have ST := stanzas_in (HLI3.out.below hW.out) (by omega)
      rw [HSS.out] at ST
      have ST := Lib.hid ST
      have HW := hW
      clear hW hla
      go_wp2_with fail
      refine ST.out.mono ?_
      rintro e w6 ⟨v, ρ, us, rfl, hS, -, hb6⟩
      have HB6 := Lib.hid (HW.out.trans (hb6.mono HW.out.size))
      obtain ⟨so, sc, hsv⟩ := hS.row.shape
      subst hsv
      have HSA := Lib.hid hS
      have hvl := valsAll_len (key := key.data.toList) HFI.out
      clear hS hb6 ST HW
      go_wp2
      go_loopw [15, 88] (fun vn i W => S2Rel key.data.toList ss w6 vn i W) (fun _ i _ => ss.length - (intOf i).toNat)
      case atStart => exact ⟨0, 0, rfl, rfl, Nat.zero_le _, Lib.hid rfl, Lib.hid (Below.refl _ _)⟩
      case round =>
        obtain ⟨k, m, rfl, rfl, hk, hm, hW⟩ := hrel
        by_cases hlt : k < ss.length
        · obtain ⟨x, hx⟩ : ∃ x, ss[k]? = some x := ⟨_, List.getElem?_eq_getElem hlt⟩
          have hsa := HSA.out.below hW.out
          obtain ⟨f, hf⟩ : ∃ f, us[k]? = some f := ⟨_, List.getElem?_eq_getElem (by rw [hsa.len]; exact hlt)⟩
          obtain ⟨g1, g2⟩ := stCells_get ss us k x f hx hf
          obtain ⟨g, hg, hao⟩ : ∃ g, (Value.slice so ss.length sc).ownBlock = some g ∧ so = some ⟨g, 0, none⟩ := by
            rcases hsa.row.1.2 with ⟨-, h0⟩ | ⟨g, cp', cur, hz, -⟩
            · omega
            · injection hz with z1 z2 z3
              exact ⟨g, by rw [z1]; rfl, z1⟩
          have e1 := hsa.row.1.cells hg _ _ g1
          have e2 := hsa.row.1.cells hg _ _ g2
          rw [addrO] at e1 e2
          subst hao
          have hfa := FieldsAt.row (hsa.its k f x hf hx).1
          have hfx := (HFI.out x (List.mem_of_getElem? hx)).1
          have HVT := Lib.hid (valsAll_take (key := key.data.toList) hx)
          have hva := valsAll_len (key := key.data.toList) (ss := ss.take k) (fun y hy => HFI.out y (List.mem_of_mem_take hy))
          have hva2 : (ss.take k).length * 40 ≤ 400 * 40 := Nat.mul_le_mul_right _ (by rw [List.length_take]; omega)
          have hmb : m ≤ 16000 := by rw [hm.out]; omega
          obtain ⟨W1, hW1⟩ : ∃ W1, wr.alloc (.cells #[.int .i64 x.1, f] 61) = W1 := ⟨_, rfl⟩
          have hb4 : Below wr.heap.size wr W1 := by rw [← hW1]; exact below_grow1 wr _
          have hE : W1.heap[wr.heap.size]? = some (.cells #[.int .i64 x.1, f] 61 (0, 0)) := by rw [← hW1]; exact heap_alloc_new wr _
          have p1 : W1.cell? ⟨wr.heap.size, 1, none⟩ = some f := _root_.Go.Proofs.YtjbnjlkoipkpoaaGreatDoor.B.cell_of_row _ _ 1 _ _ hE
          obtain ⟨fo, fc, hfv, hfc⟩ := (hfa.below hb4 (Nat.le_refl _)).up hb4.size
          subst hfv
          obtain ⟨fs, hfs⟩ : ∃ fs, x.2 = fs := ⟨_, rfl⟩
          rw [hfs] at hfc hfx HVT hW1 hE p1
          have HFC := Lib.hid hfc
          have HB4 := Lib.hid (hW.out.trans (hb4.mono hW.out.size))
          obtain ⟨base, hbase⟩ : ∃ base, (valsAll key.data.toList (ss.take k)).length = base := ⟨_, rfl⟩
          rw [hbase] at HVT hm
          rw [hfs] at e2
          clear hsa hfa g1 g2 hx hf hg hE hW hfc hb4 hva hva2 hbase hfs
          obtain ⟨wo, hwo⟩ : ∃ wo, wo = wr := ⟨_, rfl⟩
          subst hwo
          go_wp2
          try rw [hW1]
          have HW1 := Lib.hid hW1
          clear hW1
          go_loopw [15, 95] (fun vn i W => S3Rel key.data.toList base fs W1 vn i W) (fun _ i _ => fs.length - (intOf i).toNat)
          case atStart => exact ⟨0, m, rfl, rfl, Nat.zero_le _, Lib.hid (by rw [hm.out]; rfl), Lib.hid (Below.refl _ _)⟩
          case round =>
            obtain ⟨j, n, rfl, rfl, hj, hn, hW⟩ := hrel
            have hvo := valsOf_len key.data.toList (fs.take j)
            have hnb : n ≤ 17000 := by
              rw [hn.out, ← hm.out]
              rw [List.length_take] at hvo
              omega
            by_cases hjl : j < fs.length
            · obtain ⟨y, hy⟩ : ∃ y, fs[j]? = some y := ⟨_, List.getElem?_eq_getElem hjl⟩
              obtain ⟨q, rfl, hq, h1, h2⟩ := HFC.out j y hy
              have c1 := (hW.out.cell (p := ⟨q, j * 2, none⟩) hq).trans h1
              have c2 := (hW.out.cell (p := ⟨q, j * 2 + 1, none⟩) hq).trans h2
              have et : fs.take (j + 1) = fs.take j ++ [y] := by rw [List.take_add_one, hy]; rfl
              have E1 := Lib.hid (show (valsOf key.data.toList (fs.take (j + 1))).length = _ by rw [et, valsOf_snoc, List.length_append])
              obtain ⟨yk, yv⟩ := y
              simp only at c1 c2 E1
              obtain ⟨tk, htk⟩ : ∃ tk : ByteArray, (⟨yk.toArray⟩ : ByteArray) = tk := ⟨_, rfl⟩
              have hyk : yk = tk.data.toList := by rw [← htk]
              rw [htk] at c1
              subst hyk
              have hzr := hW.out.size
              clear h1 h2 hy et htk hvo
              by_cases hfk : tk = key
              · subst hfk
                have E2 := E1.out
                rw [if_pos rfl] at E2
                have E3 := Lib.hid E2
                clear E1 E2
                go_wp2
                refine ⟨⟨j + 1, n + 1, by go_num, by go_num, by omega, Lib.hid ?_, Lib.hid (hW.out.trans ((below_grow1 wr _).mono hzr))⟩, by simp [intOf]; omega⟩
                rw [E3.out, hn.out]; rfl
              · have E2 := E1.out
                rw [if_neg (fun e => hfk (by
                  have : tk.data = key.data := Array.ext' e
                  exact ByteArray.ext this))] at E2
                have E3 := Lib.hid E2
                have hne : (tk.toList == key.toList) = false := by rw [beq_eq_false_iff_ne]; exact fun e => hfk (toList_inj e)
                have HFK := Lib.hid hfk
                clear E1 E2 hfk
                go_wp2
                refine ⟨⟨j + 1, n, by go_num, rfl, by omega, Lib.hid ?_, Lib.hid (hW.out.trans ((below_grow1 wr _).mono hzr))⟩, by simp [intOf]; omega⟩
                rw [E3.out, hn.out]; rfl
            · have hn2 := hn.out
              rw [List.take_of_length_le (by omega)] at hn2
              have HM2 : Hid (n = (valsAll key.data.toList (ss.take (k + 1))).length) := Lib.hid (by rw [HVT.out, hn2])
              have HW2 := Lib.hid (HB4.out.trans (hW.out.mono HB4.out.size))
              clear hn2 hn hW
              go_wp2
              exact ⟨⟨k + 1, n, by go_num, rfl, by omega, HM2, HW2⟩, by simp [intOf]; omega⟩
        · have hm2 := hm.out
          rw [List.take_of_length_le (by omega)] at hm2
          have HWW := Lib.hid (HB6.out.trans (hW.out.mono HB6.out.size))
          have CO := Lib.hid (counts_any (some ⟨b, 0, none⟩) key ss wr (by omega) HFI.out (fun w' hb => by
            have := stanzas_in ((HLI3.out.below HWW.out).below hb) (by omega : s.size ≤ 60000)
            rw [HSS.out] at this
            exact this))
          have HTS := Lib.hid (tab_sum _ (valsAll key.data.toList ss) rfl)
          have htl := tabOf_len _ (valsAll key.data.toList ss) rfl
          rw [← hm2] at HTS htl
          have hmb : m ≤ 16000 := by rw [hm2]; omega
          obtain ⟨t, ht⟩ : ∃ t, tabOf (valsAll key.data.toList ss) = t := ⟨_, rfl⟩
          rw [ht] at HTS htl CO
          clear hm2 hm hW ht
          go_wp2_with fail
          refine CO.out.mono ?_
          rintro e w8 ⟨u, rfl, hC, hb8⟩
          obtain ⟨co, cc, hcu⟩ := own_shape hC
          subst hcu
          have HCR := Lib.hid hC
          have HB8 := Lib.hid (HB3.out.trans ((HWW.out.trans (hb8.mono HWW.out.size)).mono hwN))
          clear hC hb8 CO
          go_wp2
          go_loopw [15, 111] (fun vn i W => S4Rel t m w8 vn i W) (fun _ i _ => t.length - (intOf i).toNat)
          case atStart => exact ⟨0, m, rfl, rfl, Nat.zero_le _, by omega, Lib.hid rfl, Lib.hid (Below.refl _ _)⟩
          case round =>
            obtain ⟨k, r, rfl, rfl, hk, hrb, hr, hW⟩ := hrel
            by_cases hkl : k < t.length
            · obtain ⟨c, hc⟩ : ∃ c, t[k]? = some c := ⟨_, List.getElem?_eq_getElem hkl⟩
              obtain ⟨g1, g2⟩ := cntCells_get t k c hc
              obtain ⟨s1, s2⟩ := sum_step hc
              have hcr := ownsRow_of_block HCR.out fun g hg => hW.out.block g (World.ownsRow.lt HCR.out g hg).2
              obtain ⟨g, hg, hao⟩ : ∃ g, (Value.slice co t.length cc).ownBlock = some g ∧ co = some ⟨g, 0, none⟩ := by
                rcases hcr.2 with ⟨-, h0⟩ | ⟨g, cp', cur, hz, -⟩
                · omega
                · injection hz with z1 z2 z3
                  exact ⟨g, by rw [z1]; rfl, z1⟩
              have e1 := World.ownsRow.cells hcr hg _ _ g1
              have e2 := World.ownsRow.cells hcr hg _ _ g2
              rw [addrO] at e1 e2
              subst hao
              rw [HTS.out] at s2
              have hr2 := hr.out
              obtain ⟨cn, hcn⟩ : ∃ cn, c.2 = cn := ⟨_, rfl⟩
              rw [hcn] at e2 s1 s2
              have hcr3 : cn ≤ r := by omega
              have HR2 : Hid ((r - cn) + ((t.take (k + 1)).map (·.2)).sum = m) := Lib.hid (by rw [s1]; omega)
              have hzr := hW.out.size
              clear g1 g2 hcr hg hc s1 s2 hr hr2 hcn
              go_wp2
              exact ⟨⟨k + 1, r - cn, by go_num, by go_num, by omega, by omega, HR2, Lib.hid (hW.out.trans ((below_grow1 wr _).mono hzr))⟩, by simp [intOf]; omega⟩
            · have hr2 := hr.out
              rw [List.take_of_length_le (by omega), HTS.out] at hr2
              have hr0 : r = 0 := by omega
              subst hr0
              have HBF := Lib.hid (HB8.out.trans (hW.out.mono (by have := HB8.out.size; omega)))
              clear hr hr2 hW
              go_wp2
              go_ret
              exact ⟨rfl, HBF.out⟩
end Go.Proofs.YtjbnjlkoipkpoaaGreatDoor.T
