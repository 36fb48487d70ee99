/- A key's values and how often each one is there: table.Counts, walked. -/
import Derived.Test.YtjbnjlkoipkpoaaGreatDoorTKeys
import Derived.Test.YtjbnjlkoipkpoaaGreatDoorTSrtW
import Derived.Test.YtjbnjlkoipkpoaaGreatDoorTCntLaw
import Derived.Test.YtjbnjlkoipkpoaaGreatDoorTTable
import Derived.Test.YtjbnjlkoipkpoaaGreatDoorBRefSplit
import Derived.Maps.OwnOps
import Derived.Maps.RangeWalk
namespace Go.Proofs.YtjbnjlkoipkpoaaGreatDoor.T
open Go.RowKit Go.Shelf Go.Maps
open Go.Proofs.YtjbnjlkoipkpoaaGreatDoor.B

theorem infoCt : (Tryz.prog.info? 88).map (fun i => (i.zero, i.size, i.bytes)) = some (some (.agg #[.string ⟨#[]⟩, .int .i64 0]), 2, 24) := by kernel_rfl
theorem keyedS : Keyed Tryz.prog 9 := string_keyed Tryz.underlying9
theorem zeroI (w : World) : (zeroValue 3).run Tryz.prog w = .ok (.int .i64 0) w := by kernel_rfl
/-- A key's values in all stanzas. -/
def valsAll (key : L8) (ss : List St) : List L8 := ss.flatMap fun x => (valsOf key x.2).map (·.data.toList)
theorem valsAll_snoc (key : L8) (ss : List St) (x : St) : valsAll key (ss ++ [x]) = valsAll key ss ++ (valsOf key x.2).map (·.data.toList) := by simp [valsAll]
theorem valsAll_len {key : L8} {ss : List St} (h : ∀ x ∈ ss, FsFine x.2) : (valsAll key ss).length ≤ ss.length * 40 := by
  induction ss with
  | nil => simp [valsAll]
  | cons x r ih =>
    have h1 := ih fun y hy => h y (by simp [hy])
    have h2 := (vals_fine (key := key) (h x (by simp))).1
    have e : valsAll key (x :: r) = (valsOf key x.2).map (·.data.toList) ++ valsAll key r := rfl
    rw [e, List.length_append, List.length_map, List.length_cons, Nat.succ_mul]
    omega
/-- A map that counts texts. -/
def MapOf (w : World) (B : Nat) (vs : List L8) : Prop :=
  ∃ D : DataW Unit, w.ownsMap Tryz.prog 9 (plainElem Tryz.prog 3) B vs.length D ∧ (∀ l : L8, D.atKey (.string l) (.lit (.int .i64 0)) = .lit (.int .i64 (vs.count l : Nat))) ∧ ∀ l : L8, Maps.has D (.string l) = decide (l ∈ vs)
theorem MapOf.block {w w' : World} {B : Nat} {vs : List L8} (h : MapOf w B vs) (hk : w'.heap[B]? = w.heap[B]?) : MapOf w' B vs :=
  let ⟨D, h1, h2⟩ := h
  ⟨D, ownsMap_of_block h1 hk, h2⟩
theorem MapOf.lt {w : World} {B : Nat} {vs : List L8} (h : MapOf w B vs) : B < w.heap.size := let ⟨_, h1, _⟩ := h; h1.lt
theorem MapOf.made (w : World) : MapOf (w.alloc (.map #[] 0)) w.heap.size [] := ⟨.map [], World.ownsMap_made _ _ _ _, fun _ => rfl, fun _ => rfl⟩
theorem keys_of {w : World} {B n : Nat} {D : DataW Unit} (hown : w.ownsMap Tryz.prog 9 (plainElem Tryz.prog 3) B n D) : (strKeys D).Nodup ∧ ∀ x, x ∈ strKeys D ↔ Maps.has D (.string x) = true := by
  obtain ⟨es, hD, hpw, _⟩ := hown.entries keyedS
  obtain ⟨es', hD', hko⟩ := hown.keysOf
  obtain rfl : es = es' := by rw [hD] at hD'; simpa using hD'
  subst hD
  have hk : ∀ p ∈ es, ∃ x, p.1 = .string x := fun p hp => by obtain ⟨v, hv⟩ := hko p hp; obtain ⟨x, _, hx, _⟩ := Maps.keyOf_str Tryz.underlying9 hv; exact ⟨x, hx⟩
  constructor
  · show (es.map fun p => strOf p.1).Nodup
    refine List.pairwise_map.2 (hpw.imp_of_mem fun {p q} hp' hq' hne e => hne ?_)
    obtain ⟨a, ha⟩ := hk p hp'
    obtain ⟨b, hb⟩ := hk q hq'
    rw [ha, hb] at e ⊢
    exact congrArg _ e
  · intro x
    rw [has_eq, List.any_eq_true]
    show x ∈ es.map (fun p => strOf p.1) ↔ _
    rw [List.mem_map]
    constructor
    · rintro ⟨p, hp', rfl⟩
      obtain ⟨a, ha⟩ := hk p hp'
      exact ⟨p, hp', by rw [ha]; simp [Lit.sameKey, strOf]⟩
    · rintro ⟨p, hp', hs⟩
      obtain ⟨a, ha⟩ := hk p hp'
      rw [ha] at hs
      exact ⟨p, hp', by rw [ha]; simpa [Lit.sameKey, strOf] using hs⟩
theorem size_le {w : World} {B n : Nat} {D : DataW Unit} {k : TypeId} {R : Value → Option (DataW Unit × List MemPlace)} (hown : w.ownsMap Tryz.prog k R B n D) : Maps.size D ≤ n := by
  obtain ⟨es, clock, _, _, hs, rfl⟩ := hown
  show ((es.toList.map _).foldr DataW.insert []).length ≤ n
  rw [length_sorted, List.length_map]
  simpa using hs
theorem MapOf.put {w' : World} {B : Nat} {vs : List L8} {D : DataW Unit} {l : L8} (hI : IsMap D) (h2 : ∀ l : L8, D.atKey (.string l) (.lit (.int .i64 0)) = .lit (.int .i64 (vs.count l : Nat))) (h3 : ∀ l : L8, Maps.has D (.string l) = decide (l ∈ vs))
    (h : w'.ownsMap Tryz.prog 9 (plainElem Tryz.prog 3) B (vs.length + 1) (D.put (.string l) (.lit (.int .i64 ((vs.count l : Nat) + 1 : Int))))) : MapOf w' B (vs ++ [l]) := by
  refine ⟨_, by rw [List.length_append]; exact h, fun x => ?_, fun x => ?_⟩
  · by_cases e : x = l
    · subst e
      rw [atKey_put_same hI (show WideAt.IsKeyLit (.string x) from trivial), List.count_append]
      simp
    · rw [atKey_put_other (fun k => e (by simpa using k)), h2, List.count_append]
      have : ¬ l = x := fun k => e k.symm
      simp [this]
  · by_cases e : x = l
    · subst e
      rw [has_put_same hI (show WideAt.IsKeyLit (.string x) from trivial)]
      simp
    · rw [has_put_other (fun k => e (by simpa using k)), h3]
      simp [e]
theorem KeepBut.grown {w0 W W' : World} {rb : Nat} (h : KeepBut w0 rb W) (hg : W.grownBy W' (some rb)) : KeepBut w0 rb W' :=
  ⟨hg.os.trans h.os, hg.tape.trans h.tape, hg.output.trans h.output, Nat.le_trans h.size hg.size, fun k h1 h2 => (hg.block k (Nat.lt_of_lt_of_le h1 h.size) (fun e => h2 (by injection e))).trans (h.block k h1 h2)⟩
theorem KeepBut.trans {w0 W W' : World} {rb : Nat} (h : KeepBut w0 rb W) (k : KeepBut W rb W') : KeepBut w0 rb W' :=
  ⟨k.os.trans h.os, k.tape.trans h.tape, k.output.trans h.output, Nat.le_trans h.size k.size, fun i h1 h2 => (k.block i (Nat.lt_of_lt_of_le h1 h.size) h2).trans (h.block i h1 h2)⟩
theorem KeepBut.toBelow {w0 W : World} {rb : Nat} (h : KeepBut w0 rb W) (hz : rb ≤ w0.heap.size) : Below rb w0 W := ⟨h.os, h.tape, h.output, h.size, fun k hk => h.block k (by omega) (by omega)⟩
theorem stanzas_but {w W : World} {ρ : Col} {v : Value} {ss : List St} {us : List Value} {rb : Nat} (h : StanzasAt w ρ v ss us) (hk : KeepBut w rb W) (hρ : ρ rb = none) : StanzasAt W ρ v ss us :=
  h.keep (Ext.refl _ _) (σ := fun k => if k = rb then some 0 else none) ⟨hk.os, hk.tape, hk.output, hk.size, fun k h1 h2 => hk.block k h1 fun e => by rw [if_pos e] at h2; cases h2⟩ (fun g hg => if_neg fun e => hg (by rw [e]; exact hρ)) (h.fits.more hk.size)
def cntC (c : Cnt) : List Value := [.string ⟨c.1.toArray⟩, .int .i64 c.2]
/-- A row of counts. -/
def CntRow (B : Nat) (w : World) (v : Value) (t : List Cnt) : Prop := w.ownsRow B 88 2 v t.length (t.flatMap cntC)
theorem CntRow.snoc {B gg cap : Nat} {w : World} {t : List Cnt} {c : Cnt} (h : w.ownsRow B 88 2 (.slice (some ⟨gg, 0, none⟩) (t.length + 1) cap) (t.length + 1) (t.flatMap cntC ++ [.string ⟨c.1.toArray⟩, .int .i64 c.2])) : CntRow B w (.slice (some ⟨gg, 0, none⟩) (t.length + 1) cap) (t ++ [c]) := by
  unfold CntRow
  rw [List.length_append, flat_snoc]
  exact h
theorem CntRow.low {B B' : Nat} {w : World} {v : Value} {t : List Cnt} (h : CntRow B w v t) (hB : B' ≤ B) : CntRow B' w v t := by
  refine ⟨h.1, ?_⟩
  rcases h.2 with h0 | ⟨g, cap, cur, hv, hB2, hr⟩
  · exact .inl h0
  · exact .inr ⟨g, cap, cur, hv, by omega, hr⟩
def CoRel (key : L8) (B : Nat) (w2 : World) (ss : List St) (i : Value) (wr : World) : Prop :=
  ∃ k : Nat, i = .int .i64 k ∧ k ≤ ss.length ∧ Hid (MapOf wr B (valsAll key (ss.take k))) ∧ Hid (KeepBut w2 B wr)
def CoIn (B : Nat) (w3 : World) (base : List L8) (xs : List ByteArray) (i : Value) (wr : World) : Prop :=
  ∃ k : Nat, i = .int .i64 k ∧ k ≤ xs.length ∧ Hid (MapOf wr B (base ++ (xs.take k).map (·.data.toList))) ∧ Hid (KeepBut w3 B wr)
def CoOut (N : Nat) (w6 : World) (vs : List L8) (ks : List L8) (v i : Value) (wr : World) : Prop :=
  ∃ k : Nat, i = .int .i64 k ∧ k ≤ ks.length ∧ Hid (CntRow N wr v ((ks.take k).map fun x => (x, vs.count x))) ∧ Hid (Below N w6 wr)
set_option maxRecDepth 100000 in
set_option maxHeartbeats 6400000 in
theorem counts_any (q : Option Addr) (key : ByteArray) (ss : List St) (w : World) (hm : ss.length ≤ 1000) (hfine : ∀ x ∈ ss, FsFine x.2)
    (HS : ∀ w', Below w.heap.size w w' → Calls Tryz.prog 30 #[.pointer q] w' (StanzasPost ss w')) :
    Calls Tryz.prog 47 #[.pointer q, .string key] w fun e w' => ∃ u, e = .returned u ∧ CntRow w.heap.size w' u (tabOf (valsAll key.data.toList ss)) ∧ Below w.heap.size w w' := by
  obtain ⟨i0, hi0, hz0, hz1, hz2⟩ := info_parts infoCt
  have hmm := @run_makeMap Tryz.prog
  have hb1 := below_grow1 w (.map #[] 0)
  have hM1 := MapOf.made w
  have hs1 : (w.alloc (.map #[] 0)).heap.size = w.heap.size + 1 := by simp
  obtain ⟨w1, hw1⟩ : ∃ w1, w.alloc (.map #[] 0) = w1 := ⟨_, rfl⟩
  rw [hw1] at hb1 hM1 hs1
  have ST := Lib.hid (HS w1 hb1)
  have HW1 := Lib.hid hw1
  have HFI := Lib.hid hfine
  have HB1 := Lib.hid hb1
  have HM1 := Lib.hid hM1
  have hvl := valsAll_len (key := key.data.toList) hfine
  clear HS hw1 hfine hb1 hM1
  obtain ⟨B, hB⟩ : ∃ B, w.heap.size = B := ⟨_, rfl⟩
  rw [hB] at hs1 HM1
  have HB := Lib.hid hB
  go_enter Tryz.func47, Tryz.ntmps47
  go_upto_region 2 with fail
  rw [HW1.out]
  try simp only [hB]
  go_wp2_with fail
  refine ST.out.mono ?_
  rintro e w2 ⟨v, ρ, us, rfl, hS, hρ, hb2⟩
  have HB2 := Lib.hid (HB1.out.trans (hb2.mono (by omega)))
  have HSA := Lib.hid hS
  have hρB : ρ B = none := hρ B (by omega)
  have HM2 := Lib.hid (HM1.out.block (hb2.block B (by omega)))
  obtain ⟨so, sc, hsv⟩ := hS.row.shape
  subst hsv
  have hzw2 : B < w2.heap.size := by have := hb2.size; omega
  have HR := Lib.hid hρB
  clear hS hρ hb2 ST hρB HM1 HB1 hmm hB
  go_wp2
  go_loopw [17] (fun i W => CoRel key.data.toList B w2 ss i W) (fun i _ => ss.length - (intOf i).toNat)
  case atStart => exact ⟨0, rfl, Nat.zero_le _, HM2, Lib.hid (KeepBut.refl _ _)⟩
  case round =>
    clear HM2
    obtain ⟨k, rfl, hk, hM, hK⟩ := hrel
    by_cases hlt : k < ss.length
    · obtain ⟨x, hx⟩ : ∃ x, ss[k]? = some x := ⟨_, List.getElem?_eq_getElem hlt⟩
      have hsa := stanzas_but HSA.out hK.out HR.out
      obtain ⟨f, hf⟩ : ∃ f, us[k]? = some f := ⟨_, List.getElem?_eq_getElem (by rw [hsa.len]; exact hlt)⟩
      obtain ⟨g1, g2⟩ := stCells_get ss us k x f hx hf
      obtain ⟨g, hg, hao⟩ : ∃ g, (Value.slice so ss.length sc).ownBlock = some g ∧ so = some ⟨g, 0, none⟩ := by
        rcases hsa.row.1.2 with ⟨-, h0⟩ | ⟨g, cp', cur, hz, -⟩
        · omega
        · injection hz with z1 z2 z3
          exact ⟨g, by rw [z1]; rfl, z1⟩
      have e1 := hsa.row.1.cells hg _ _ g1
      have e2 := hsa.row.1.cells hg _ _ g2
      rw [addrO] at e1 e2
      subst hao
      have hfa := FieldsAt.row (hsa.its k f x hf hx).1
      obtain ⟨fo, fc, hfv, -⟩ := id hfa
      subst hfv
      have hfx := HFI.out x (List.mem_of_getElem? hx)
      obtain ⟨W1, hW1⟩ : ∃ W1, wr.alloc (.cells #[.int .i64 x.1, .slice fo x.2.length fc] 61) = W1 := ⟨_, rfl⟩
      have hb4 : Below wr.heap.size wr W1 := by rw [← hW1]; exact below_grow1 wr _
      have hE : W1.heap[wr.heap.size]? = some (.cells #[.int .i64 x.1, .slice fo x.2.length fc] 61 (0, 0)) := by rw [← hW1]; exact heap_alloc_new wr _
      have p1 : W1.cell? ⟨wr.heap.size, 1, none⟩ = some (.slice fo x.2.length fc) := _root_.Go.Proofs.YtjbnjlkoipkpoaaGreatDoor.B.cell_of_row _ _ 1 _ _ hE
      have V := Lib.hid (values_any key (.slice fo x.2.length fc) x.2 W1 ((hfa.below hb4 (Nat.le_refl _)).up hb4.size) (Nat.le_trans hfx.1 (by omega)))
      have hMB := hM.out.lt
      have HM4 := Lib.hid (hM.out.block (hb4.block B hMB))
      have HK4 := Lib.hid (hK.out.below hb4)
      have HVS : Hid (valsAll key.data.toList (ss.take (k + 1)) = valsAll key.data.toList (ss.take k) ++ (valsOf key.data.toList x.2).map (·.data.toList)) := Lib.hid (by rw [List.take_add_one, hx]; exact valsAll_snoc _ _ x)
      have hl1 : (valsAll key.data.toList (ss.take k)).length + (valsOf key.data.toList x.2).length ≤ 1000000 := by
        have h1 := valsAll_len (key := key.data.toList) (ss := ss.take (k + 1)) (fun y hy => HFI.out y (List.mem_of_mem_take hy))
        rw [HVS.out, List.length_append, List.length_map, List.length_take] at h1
        have : min (k + 1) ss.length * 40 ≤ 1000 * 40 := Nat.mul_le_mul_right _ (by omega)
        omega
      have hv40 := (vals_fine (key := key.data.toList) hfx).2
      obtain ⟨xs, hxs⟩ : ∃ xs, valsOf key.data.toList x.2 = xs := ⟨_, rfl⟩
      obtain ⟨base, hbase⟩ : ∃ base, valsAll key.data.toList (ss.take k) = base := ⟨_, rfl⟩
      rw [hxs] at V HVS hl1 hv40
      rw [hbase] at HM4 HVS hl1
      have HXL := Lib.hid hv40
      have hMB4 : B < W1.heap.size := by have := hb4.size; omega
      clear hsa hfa g1 g2 hx hf hg hb4 hE hM hK hfx hbase hv40
      go_wp2_with fail
      try rw [hW1]
      refine V.out.mono ?_
      rintro e w3 ⟨u, rfl, hU, hb3⟩
      obtain ⟨uo, uc, hus⟩ := hU.shape
      subst hus
      have HM5 := Lib.hid (HM4.out.block (hb3.block B hMB4))
      have HK5 := Lib.hid (HK4.out.below hb3)
      have HU := Lib.hid hU
      obtain ⟨N1, hN1⟩ : ∃ N1, W1.heap.size = N1 := ⟨_, rfl⟩
      rw [hN1] at HU hMB4
      clear hU hb3 V HM4 HK4 p1 hN1 hW1
      obtain ⟨wo, hwo⟩ : ∃ wo, wo = wr := ⟨_, rfl⟩
      subst hwo
      go_wp2
      go_loopw [26] (fun i W => CoIn B w3 base xs i W) (fun i _ => xs.length - (intOf i).toNat)
      case atStart => exact ⟨0, rfl, Nat.zero_le _, Lib.hid (by simpa using HM5.out), Lib.hid (KeepBut.refl _ _)⟩
      case round =>
        clear HM5
        obtain ⟨j, rfl, hj, hM, hK⟩ := hrel
        by_cases hjl : j < xs.length
        · obtain ⟨s, hs⟩ : ∃ s, xs[j]? = some s := ⟨_, List.getElem?_eq_getElem hjl⟩
          obtain ⟨g', hg', hao'⟩ : ∃ g', (Value.slice uo xs.length uc).ownBlock = some g' ∧ uo = some ⟨g', 0, none⟩ := by
            rcases HU.out.2 with ⟨-, h0⟩ | ⟨g', cp', cur, hz, -⟩
            · omega
            · injection hz with z1 z2 z3
              exact ⟨g', by rw [z1]; rfl, z1⟩
          have hlt' := World.ownsRow.lt HU.out g' hg'
          have e5 := World.ownsRow.cells HU.out hg' j (.string s) (by simp [strVals, hs])
          rw [addrO] at e5
          have e6 : wr.cell? ⟨g', j, none⟩ = some (.string s) := by
            have h9 := hK.out.block g' hlt'.2 (by omega)
            simp only [World.cell?, h9] at e5 ⊢
            exact e5
          subst hao'
          have hsz : s.size ≤ maxLen := by
            have := HXL.out s (List.mem_of_getElem? hs)
            rw [Lib.size_eq]; unfold maxLen; omega
          have HKEY := Lib.hid (WideMaps.keyOf_string_mk Tryz.underlying9 hsz)
          have HX2 : Hid (base ++ (xs.take (j + 1)).map (·.data.toList) = (base ++ (xs.take j).map (·.data.toList)) ++ [s.data.toList]) := Lib.hid (by rw [List.take_add_one, hs]; simp)
          have hcl : (base ++ (xs.take j).map (·.data.toList)).length ≤ 1000000 := by
            rw [List.length_append, List.length_map, List.length_take]; omega
          obtain ⟨vs, hvs⟩ : ∃ vs, base ++ (xs.take j).map (·.data.toList) = vs := ⟨_, rfl⟩
          rw [hvs] at HX2 hcl
          have hM' : MapOf wr B vs := hvs ▸ hM.out
          obtain ⟨D, hown, h2, h3⟩ := hM'
          have HO := Lib.hid hown
          have H2 := Lib.hid h2
          have H3 := Lib.hid h3
          have hcnt : vs.count s.data.toList ≤ 1000000 := Nat.le_trans (List.count_le_length) hcl
          clear hs hg' hlt' e5 hsz hvs hM hown h2 h3
          go_wp2_with (at_lookup; refine wpList_lookup_own_int _ rfl _ _ 96 rfl 9 3 .i64 keyedS Tryz.underlying96 Tryz.underlying3 (zeroI _) B vs.length D rfl HO.out _ _ rfl HKEY.out ?_; intro c hat _; refine Hid.out ?_)
          refine Lib.hid ?_
          obtain rfl : c = (vs.count s.data.toList : Nat) := by
            rw [H2.out] at hat
            injection hat with hat
            injection hat with _ hat
            exact hat.symm
          clear hat
          have hwf : (Lit.int .i64 ((vs.count s.data.toList : Nat) + 1 : Int)).wf = true := WalkArith.wf_i64 (by omega)
          have HWF := Lib.hid (plainElem_int (H := Unit) Tryz.underlying3 hwf)
          clear hwf
          go_wp2_with (at_mapUpdate; refine wpList_mapUpdate_own _ rfl _ _ _ 96 rfl 9 3 keyedS Tryz.underlying96 (plainElem Tryz.prog 3) B vs.length D rfl HO.out (by unfold maxLen; omega) _ _ _ rfl rfl HKEY.out _ _ HWF.out ?_; intro w7 hm7 hg7; refine Hid.out ?_)
          refine Lib.hid ?_
          have HM7 := Lib.hid (MapOf.put (HO.out.tidy keyedS).isMap H2.out H3.out hm7)
          have HK7 := Lib.hid (hK.out.grown hg7)
          clear hm7 hg7 hK
          go_wp2_with fail
          go_roundw
          case rel => exact ⟨j + 1, by go_num, by omega, by rw [HX2.out]; exact HM7, HK7⟩
          case measure => simp [intOf]; omega
        · have hMe := hM.out
          rw [List.take_of_length_le (by omega), ← HVS.out] at hMe
          have HM8 := Lib.hid hMe
          have HK8 := Lib.hid (HK5.out.trans hK.out)
          clear hMe hM hK HK5
          go_wp2
          exact ⟨⟨k + 1, by go_num, by omega, HM8, HK8⟩, by simp [intOf]; omega⟩
    · have hM3 := hM.out
      rw [List.take_of_length_le (by omega)] at hM3
      obtain ⟨vs, hvs⟩ : ∃ vs, valsAll key.data.toList ss = vs := ⟨_, rfl⟩
      rw [hvs] at hM3 hvl
      have hvz : ∀ y ∈ vs, y.length ≤ 1000 := fun y hy => by
        rw [← hvs] at hy
        obtain ⟨x, hx, hy⟩ := List.mem_flatMap.1 hy
        obtain ⟨s, hs, rfl⟩ := List.mem_map.1 hy
        exact (vals_fine (key := key.data.toList) (HFI.out x hx)).2 s hs
      have HVZ := Lib.hid hvz
      have HVE := Lib.hid hvs
      have HM3 := Lib.hid hM3
      obtain ⟨D, hown, -, h3⟩ := hM3
      obtain ⟨hnd, hmem⟩ := keys_of hown
      have hsl := size_le hown
      have hvl2 : vs.length ≤ 40000 := by omega
      have SO := Lib.hid (sortedS_any B vs.length D (plainElem Tryz.prog 3) wr hown (by unfold maxLen; omega) (by omega))
      have HND := Lib.hid hnd
      have HMEM : Hid (∀ x : L8, x ∈ strKeys D ↔ x ∈ vs) := Lib.hid fun x => by rw [hmem, h3]; simp
      have HBW : Hid (Below w.heap.size w wr) := Lib.hid (HB2.out.trans (HB.out ▸ hK.out.toBelow (by omega)))
      have hBw := hown.lt
      clear hM hown h3 hnd hmem hK hvs hvz
      go_wp2_with fail
      refine (keysS_any _ _).mono ?_
      rintro e w' ⟨rfl, rfl⟩
      go_wp2_with fail
      refine SO.out.mono ?_
      rintro e w6 ⟨u, ks0, rfl, hperm, hrow, hb6⟩
      obtain ⟨ks, hks⟩ : ∃ ks, ks0.mergeSort (fun x y => decide (x ≤ y)) = ks := ⟨_, rfl⟩
      have hrise : ks.Pairwise (· < ·) := hks ▸ sort_rising (hperm.nodup_iff.2 HND.out)
      have hkm : ∀ x, x ∈ ks ↔ x ∈ vs := fun x => by rw [← hks, (List.mergeSort_perm ks0 _).mem_iff, hperm.mem_iff]; exact HMEM.out x
      have hkl : ks0.length = ks.length := by rw [← hks, List.length_mergeSort]
      rw [hks, hkl] at hrow
      have HTAB := Lib.hid (tab_eq vs ks hrise hkm)
      have HKM := Lib.hid hkm
      have hkn : ks.length ≤ 1000000 := by
        have h1 := congrArg List.length HTAB.out
        rw [List.length_map] at h1
        have := tabOf_len _ vs rfl
        omega
      have hsw : (wr.alloc (.cells #[.map (some B)] 96)).heap.size = wr.heap.size + 1 := by simp
      have hzw6 := hb6.size
      rw [hsw] at hrow hb6 hzw6
      have HB6 : Hid (Below w.heap.size w w6) := Lib.hid ((HBW.out.alloc HBW.out.size _).trans (hb6.mono (by have := HBW.out.size; omega)))
      have HM6 : Hid (MapOf w6 B vs) := Lib.hid (HM3.out.block ((hb6.block B (by omega)).trans (Below.heap_alloc _ _ _ hBw)))
      obtain ⟨ko, kc, hku⟩ := own_shape hrow
      subst hku
      have HROW := Lib.hid hrow
      obtain ⟨N, hN⟩ : ∃ N, w6.heap.size = N := ⟨_, rfl⟩
      have HN := Lib.hid hN
      have hBN : B < N := by omega
      have hwN : w.heap.size ≤ N := by have := HB6.out.size; omega
      clear hrow hb6 hperm hrise hkm hks SO HND HMEM HBW HM3 hsw hzw6 hN hkl
      go_wp2
      go_loopw [10, 40] (fun v i W => CoOut N w6 vs ks v i W) (fun _ i _ => ks.length - (intOf i).toNat)
      case atStart => exact ⟨0, rfl, Nat.zero_le _, Lib.hid (World.ownsRow_nil _ _ _ _), Lib.hid (Below.refl _ _)⟩
      case round =>
        obtain ⟨k, rfl, hk, hO, hW⟩ := hrel
        have hzr : N ≤ wr.heap.size := by have := hW.out.size; have := HN.out; omega
        by_cases hkl : k < ks.length
        · obtain ⟨x, hx⟩ : ∃ x, ks[k]? = some x := ⟨_, List.getElem?_eq_getElem hkl⟩
          have hr6 := ownsRow_of_block HROW.out fun g hg => hW.out.block g (by have := (World.ownsRow.lt HROW.out g hg).2; have := HN.out; omega)
          obtain ⟨g', hg', hao'⟩ : ∃ g', (Value.slice ko ks.length kc).ownBlock = some g' ∧ ko = some ⟨g', 0, none⟩ := by
            rcases hr6.2 with ⟨-, h0⟩ | ⟨g', cp', cur, hz, -⟩
            · omega
            · injection hz with z1 z2 z3
              exact ⟨g', by rw [z1]; rfl, z1⟩
          have e5 := World.ownsRow.cells hr6 hg' k (encStr x) (by rw [List.getElem?_map, hx]; rfl)
          rw [addrO] at e5
          subst hao'
          obtain ⟨s, rfl⟩ : ∃ s : ByteArray, s.data.toList = x := ⟨⟨x.toArray⟩, rfl⟩
          have es : (⟨s.data.toList.toArray⟩ : ByteArray) = s := rfl
          have e6 : wr.cell? ⟨g', k, none⟩ = some (.string s) := e5
          have hsz : s.size ≤ maxLen := by
            have := HVZ.out _ ((HKM.out _).1 (List.mem_of_getElem? hx))
            rw [Lib.size_eq]; unfold maxLen; omega
          have HKEY := Lib.hid (WideMaps.keyOf_string_mk Tryz.underlying9 hsz)
          obtain ⟨D, hown, h2, -⟩ := HM6.out.block (hW.out.block B hBN)
          have HD := Lib.hid hown
          have H2 := Lib.hid h2
          have HX : Hid ((ks.take (k + 1)).map (fun x => (x, vs.count x)) = (ks.take k).map (fun x => (x, vs.count x)) ++ [(s.data.toList, vs.count s.data.toList)]) := Lib.hid (by rw [List.take_add_one, hx]; simp)
          have htl : ((ks.take k).map fun x => (x, vs.count x)).length = k := by rw [List.length_map, List.length_take]; omega
          have hO3 : CntRow N wr u10 ((ks.take k).map fun x => (x, vs.count x)) := hO.out
          obtain ⟨t, ht⟩ : ∃ t, (ks.take k).map (fun x => (x, vs.count x)) = t := ⟨_, rfl⟩
          rw [ht] at hO3 HX htl
          obtain ⟨vo, vc, hvo⟩ := own_shape hO3
          subst hvo
          have hcl : vs.count s.data.toList ≤ 1000000 := Nat.le_trans List.count_le_length (by omega)
          obtain ⟨cn, hcn⟩ : ∃ cn, vs.count s.data.toList = cn := ⟨_, rfl⟩
          rw [hcn] at HX hcl
          have HCN := Lib.hid hcn
          have HTL := Lib.hid htl
          have htl2 : t.length ≤ 1000000 := by omega
          have HO := Lib.hid (World.ownsRow.alloc hO3 (.cells #[.string s, .int .i64 cn] 88))
          clear hr6 hx hg' e5 es hsz hown h2 hO hO3 ht hcn htl
          go_wp2_with (at_lookup; refine wpList_lookup_own_int _ rfl _ _ 96 rfl 9 3 .i64 keyedS Tryz.underlying96 Tryz.underlying3 (zeroI _) B vs.length D rfl HD.out _ _ rfl HKEY.out ?_; intro c hat _; refine Hid.out ?_)
          refine Lib.hid ?_
          obtain rfl : c = (cn : Nat) := by
            rw [H2.out, HCN.out] at hat
            injection hat with hat
            injection hat with _ hat
            exact hat.symm
          clear hat
          go_wp2_with (at_builtin; refine wpList_append_lies _ rfl _ _ _ rfl N 88 i0 _ 2 24 Tryz.underlying82 hi0 hz0 hz1 hz2 rfl (by omega) (.slice vo t.length vc) t.length (t.flatMap cntC) rfl HO.out ⟨wr.heap.size, 0, none⟩ 1 1 [.string s, .int .i64 cn] rfl rfl (World.news_of_block (cs := #[.string s, .int .i64 cn]) (heap_alloc_new wr _)) (by simp [Value.oneCell']) (by omega) (by unfold maxLen; omega) (by omega) (by simp; omega) _ rfl ?_; refine Hid.out ?_)
          refine Lib.hid ?_
          intro gg cap w8 hown8 hgrow _ _
          have hb0 := hW.out.alloc hzr (.cells #[.string s, .int .i64 cn] 88)
          have HB8 := Lib.hid (hb0.grown hgrow (by simp; omega) (fun q hq => (World.ownsRow.lt HO.out q hq).1))
          have HN8 : Hid (CntRow N w8 (.slice (some ⟨gg, 0, none⟩) (t.length + 1) cap) (t ++ [(s.data.toList, cn)])) := Lib.hid (CntRow.snoc (c := (s.data.toList, cn)) hown8)
          clear hown8 hgrow hb0
          go_wp2
          refine ⟨⟨k + 1, by go_num, by omega, ?_, HB8⟩, by simp [intOf]; omega⟩
          rw [HX.out]
          exact HN8
        · have hO4 : CntRow N wr _ ((ks.take k).map fun x => (x, vs.count x)) := hO.out
          rw [List.take_of_length_le (by omega), HTAB.out] at hO4
          have HO4 := Lib.hid (CntRow.low hO4 hwN)
          clear hO4 hO
          go_wp2
          go_ret
          exact ⟨_, rfl, by rw [HVE.out]; exact HO4.out, HB6.out.trans (hW.out.mono hwN)⟩
end Go.Proofs.YtjbnjlkoipkpoaaGreatDoor.T
