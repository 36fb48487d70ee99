/- The reference's Drop and Put, walked. -/
import Derived.Test.YtmdofcpigknaoaaIRefAdd
namespace Go.Proofs.Ytmdofcpigknaoaa.I
open Go Go.Maps Go.Proofs Go.RowKit Go.Sort
attribute [local go_sem] geq_t leq_t

/-- Where a row of stanzas is new. -/
def MNew (A : Nat → Prop) (w w' : World) (v : Value) (m : Ms) : Prop := MsIn (fun b => A b ∨ (w.heap.size ≤ b ∧ b < w'.heap.size)) w' v m ∧ Below w.heap.size w w'
def RD (A : Nat → Prop) (id : Int) (N : Nat) (w : World) (m : Ms) (v5 i : Value) (wr : World) : Prop :=
  ∃ k : Nat, i = .int .i64 k ∧ k ≤ m.length ∧ Hid (MOwn A N wr v5 (rDrop (m.take k) id)) ∧ Hid (Below N w wr)
set_option maxRecDepth 100000 in
set_option maxHeartbeats 6400000 in
theorem refDrop_any (A : Nat → Prop) (v : Value) (m : Ms) (id : Int) (w : World) (hA : ∀ b, A b → b < w.heap.size) (h : MsIn A w v m) (hlen : m.length ≤ 1000000) :
    Calls Try.prog 8 #[v, .int .i64 id] w fun e w' => ∃ u, e = .returned u ∧ MNew A w w' u (rDrop m id) := by
  obtain ⟨i0, hi0, hz0, hz1, hz2⟩ := info_parts infoSt
  obtain ⟨ao, cp, rfl, -⟩ := _root_.id h
  have HM := Lib.hid h
  have HA := Lib.hid hA
  obtain ⟨N, hN⟩ : ∃ N, w.heap.size = N := ⟨_, rfl⟩
  have HN := Lib.hid hN
  rw [hN] at HA
  clear h hA
  go_enter Try.func8, Try.ntmps8
  go_wp2
  go_loopw [5, 6] (fun v5 i W => RD A id N w m v5 i W) (fun _ i _ => m.length - (iOf i).toNat)
  case atStart => exact ⟨0, rfl, Nat.zero_le _, Lib.hid (MOwn.nil _ _ _), Lib.hid (Below.refl _ _)⟩
  case round =>
    obtain ⟨k, rfl, hk, hO, hW⟩ := hrel
    have hzr : N ≤ wr.heap.size := by have := hW.out.size; omega
    by_cases hlt : k < m.length
    · obtain ⟨s, hs⟩ : ∃ s, m[k]? = some s := ⟨_, List.getElem?_eq_getElem hlt⟩
      obtain ⟨g, fo, fc, rfl, hg, c1, c2, hF⟩ := (HM.out.below hW.out HA.out).at hs
      have HET : Hid (rDrop (m.take (k + 1)) id = rDrop (m.take k) id ++ (if s.1 = id then [] else [s])) := Lib.hid (by rw [List.take_add_one, hs]; exact rDrop_snoc _ _ _)
      have hql := rDrop_len (m.take k) id
      rw [List.length_take] at hql
      obtain ⟨q, hq⟩ : ∃ q, rDrop (m.take k) id = q := ⟨_, rfl⟩
      rw [hq] at HET hO hql
      have HF := Lib.hid hF
      obtain ⟨sid, sf⟩ := s
      simp only at c1 c2 HET HF
      have hq6 : q.length ≤ 1000000 := by omega
      clear hs hF hql hq
      by_cases hid : sid = id
      · subst hid
        have HM8 : Hid (MOwn A N wr u5 (rDrop (m.take (k + 1)) sid)) := Lib.hid (by rw [HET.out, if_pos rfl, List.append_nil]; exact hO.out)
        clear hO
        go_wp2
        exact ⟨⟨k + 1, by go_num, by omega, HM8, hW⟩, by simp [iOf]; omega⟩
      · have HE2 : Hid (rDrop (m.take (k + 1)) id = q ++ [(sid, sf)]) := Lib.hid (by rw [HET.out, if_neg hid])
        obtain ⟨us, hl, hrow, hf⟩ := hO.out
        obtain ⟨vo, vc, hv⟩ := own_sh hrow
        subst hv
        have HO := Lib.hid (World.ownsRow.alloc hrow (.cells #[.int .i64 sid, .slice fo sf.length fc] 69))
        have HLT := Lib.hid (World.ownsRow.lt hrow)
        have HL := Lib.hid hl
        have HFS := Lib.hid hf
        clear HET hO hl hrow hf
        go_wp2_with (at_builtin; refine wpList_append_lies _ rfl _ _ _ rfl N 69 i0 _ 2 32 Try.underlying29 hi0 hz0 hz1 hz2 rfl (by omega) (.slice vo (q.length) vc) (q.length) _ rfl HO.out ⟨wr.heap.size, 0, none⟩ 1 1 [.int .i64 sid, .slice fo sf.length fc] rfl rfl (World.news_of_block (cs := #[.int .i64 sid, .slice fo sf.length fc]) (heap_alloc_new wr (.cells #[.int .i64 sid, .slice fo sf.length fc] 69))) (by simp [Value.oneCell']) (by omega) (by unfold maxLen; omega) (by omega) (by simp; omega) _ rfl ?_; refine Hid.out ?_)
        refine Lib.hid ?_
        intro gg cap w8 hown8 hgrow _ _
        have hb0 := hW.out.alloc hzr (.cells #[.int .i64 sid, .slice fo sf.length fc] 69)
        have HB8 := Lib.hid (hb0.grown hgrow (by simp; omega) (fun q hq => (HLT.out q hq).1))
        have HM8 : Hid (MOwn A N w8 (.slice (some ⟨gg, 0, none⟩) (q.length + 1) cap) (rDrop (m.take (k + 1)) id)) := Lib.hid (by rw [HE2.out]; exact MOwn.snoc (v := .slice (some ⟨gg, 0, none⟩) (q.length + 1) cap) (s := (sid, sf)) HL.out HFS.out HF.out hown8 hW.out HB8.out HA.out rfl)
        clear hown8 hgrow hb0
        go_wp2
        exact ⟨⟨k + 1, by go_num, by omega, HM8, HB8⟩, by simp [iOf]; omega⟩
    · have ht : m.take k = m := List.take_of_length_le (by omega)
      have HM8 : Hid (MOwn A N wr u5 (rDrop m id)) := Lib.hid (by have := hO.out; rwa [ht] at this)
      clear hO ht
      go_wp2
      go_ret
      exact ⟨_, rfl, by rw [HN.out]; exact HM8.out.row, by rw [HN.out]; exact hW.out⟩
/-- Put, where the number is none. -/
theorem refPut_no (v vf : Value) (id : Int) (w : World) (hid : id < 1) :
    Calls Try.prog 12 #[v, .int .i64 id, vf] w fun e w' => e = .returned (.tuple #[v, .int .i64 1]) ∧ w' = w := by
  go_enter Try.func12, Try.ntmps12
  go_wp2_with fail
  exact bodyPost_ret (v := .tuple #[v, .int .i64 1]) (by simp [results, Try.results12, go_sem]) rfl ⟨rfl, rfl⟩
def RP (A : Nat → Prop) (id : Int) (fs : List Fld) (N : Nat) (w : World) (l : Ms) (v8 v9 i : Value) (wr : World) : Prop :=
  ∃ (k : Nat) (dn : Bool), i = .int .i64 k ∧ v9 = .bool dn ∧ dn = insDone id (l.take k) ∧ k ≤ l.length ∧ Hid (MOwn A N wr v8 (insOut id fs (l.take k))) ∧ Hid (Below N w wr)
set_option maxRecDepth 100000 in
set_option maxHeartbeats 6400000 in
theorem refPut_any (A : Nat → Prop) (v vf : Value) (m : Ms) (id : Int) (fs : List Fld) (w : World) (hA : ∀ b, A b → b < w.heap.size) (h : MsIn A w v m) (hlen : m.length ≤ 1000000) (hfs : FldsIn A w vf fs) (hid : 1 ≤ id) :
    Calls Try.prog 12 #[v, .int .i64 id, vf] w fun e w' => ∃ u, e = .returned (.tuple #[u, .int .i64 0]) ∧ MNew A w w' u (rPut m id fs) := by
  obtain ⟨i0, hi0, hz0, hz1, hz2⟩ := info_parts infoSt
  obtain ⟨⟨fo, fc, rfl, -⟩, -⟩ := _root_.id hfs
  have hidz : ¬ id < 1 := by omega
  have DR := Lib.hid (refDrop_any A v m id w hA h hlen)
  have HA0 := Lib.hid hA
  have HFS0 := Lib.hid hfs
  have hdl := rDrop_len m id
  clear h hA hfs
  go_enter Try.func12, Try.ntmps12
  go_wp2_with fail
  refine DR.out.mono ?_
  rintro e w1 ⟨u, rfl, hu, hb1⟩
  obtain ⟨ao, cp, rfl, -⟩ := _root_.id hu
  have HRP : Hid (rPut m id fs = rIns id fs (rDrop m id)) := Lib.hid rfl
  obtain ⟨l, hl⟩ : ∃ l, rDrop m id = l := ⟨_, rfl⟩
  rw [hl] at hu hdl HRP
  rw [hl]
  obtain ⟨A1, hA1⟩ : ∃ A1 : Nat → Prop, (fun b => A b ∨ (w.heap.size ≤ b ∧ b < w1.heap.size)) = A1 := ⟨_, rfl⟩
  rw [hA1] at hu
  have HA1 : Hid (∀ b, A1 b → (A b ∨ (w.heap.size ≤ b ∧ b < w1.heap.size))) := Lib.hid fun b hb => by rw [← hA1] at hb; exact hb
  have HAA : Hid (∀ b, A b → A1 b) := Lib.hid fun b hb => by rw [← hA1]; exact .inl hb
  have HFS : Hid (FldsIn A1 w1 (.slice fo fs.length fc) fs) := Lib.hid ((HFS0.out.keep fun b hb => hb1.block b (HA0.out b hb)).wide HAA.out)
  obtain ⟨N, hN⟩ : ∃ N, w1.heap.size = N := ⟨_, rfl⟩
  have HN := Lib.hid hN
  have HA : Hid (∀ b, A1 b → b < N) := Lib.hid fun b hb => by
    have h1 := HA1.out b hb
    have h2 := hb1.size
    rcases h1 with h1 | h1
    · have := HA0.out b h1; omega
    · omega
  have HB1 := Lib.hid hb1
  have HM := Lib.hid hu
  have hl6 : l.length ≤ 1000000 := by omega
  clear hu hb1 hl hA1 hdl hlen HFS0 HA0 DR
  go_wp2
  go_loopw [8, 9, 10] (fun v8 v9 i W => RP A1 id fs N w1 l v8 v9 i W) (fun _ _ i _ => l.length - (iOf i).toNat)
  case atStart => exact ⟨0, false, rfl, rfl, rfl, Nat.zero_le _, Lib.hid (MOwn.nil _ _ _), Lib.hid (Below.refl _ _)⟩
  case round =>
    obtain ⟨k, dn, rfl, rfl, hdn, hk, hO, hW⟩ := hrel
    have hzr : N ≤ wr.heap.size := by have := hW.out.size; omega
    have HFW : Hid (FldsIn A1 wr (.slice fo fs.length fc) fs) := Lib.hid (HFS.out.keep fun b hb => hW.out.block b (HA.out b hb))
    have hal := insOut_len id fs (l.take k)
    rw [List.length_take] at hal
    by_cases hlt : k < l.length
    · obtain ⟨s, hs⟩ : ∃ s, l[k]? = some s := ⟨_, List.getElem?_eq_getElem hlt⟩
      obtain ⟨g, so, sc, rfl, hg, c1, c2, hF⟩ := (HM.out.below hW.out HA.out).at hs
      obtain ⟨g', so', sc', hgg, hgN, -, -, -⟩ := HM.out.at hs
      cases hgg
      rw [hN] at hgN
      have et : l.take (k + 1) = l.take k ++ [s] := by rw [List.take_add_one, hs]; rfl
      have HET := Lib.hid et
      obtain ⟨p, hpp⟩ : ∃ p, l.take k = p := ⟨_, rfl⟩
      rw [hpp] at hdn hO hal HET
      obtain ⟨q, hq⟩ : ∃ q, insOut id fs p = q := ⟨_, rfl⟩
      rw [hq] at hO hal
      have HQ := Lib.hid hq
      have HF := Lib.hid hF
      obtain ⟨sid, sf⟩ := s
      simp only at c1 c2 HF
      have hq6 : q.length ≤ 1000001 := by omega
      obtain ⟨us, hl, hrow, hf⟩ := hO.out
      obtain ⟨vo, vc, hv⟩ := own_sh hrow
      subst hv
      have HO := Lib.hid (World.ownsRow.alloc hrow (.cells #[.int .i64 sid, .slice so sf.length sc] 69))
      have HOS := Lib.hid (World.ownsRow.alloc hrow (.cells #[.int .i64 id, .slice fo fs.length fc] 69))
      have HLT := Lib.hid (World.ownsRow.lt hrow)
      have HL := Lib.hid hl
      have HFL := Lib.hid hf
      clear et hs hF hpp hq hO hal hl hrow hf
      by_cases hnow : dn = false ∧ id < sid
      · obtain ⟨rfl, hgt⟩ := hnow
        obtain ⟨ho, hd⟩ := insOut_now (fs := fs) (p := p) (x := (sid, sf)) hdn.symm hgt
        have HOUT := Lib.hid ho
        have HD := Lib.hid hd
        clear ho hd hdn HO
        go_wp2_with (at_builtin; refine wpList_append_lies _ rfl _ _ _ rfl N 69 i0 _ 2 32 Try.underlying29 hi0 hz0 hz1 hz2 rfl (by omega) (.slice vo (q.length) vc) (q.length) _ rfl HOS.out ⟨wr.heap.size, 0, none⟩ 1 1 [.int .i64 id, .slice fo fs.length fc] rfl rfl (World.news_of_block (cs := #[.int .i64 id, .slice fo fs.length fc]) (heap_alloc_new wr (.cells #[.int .i64 id, .slice fo fs.length fc] 69))) (by simp [Value.oneCell']) (by omega) (by unfold maxLen; omega) (by omega) (by simp; omega) _ rfl ?_; refine Hid.out ?_)
        refine Lib.hid ?_
        intro gg cap w8 hown8 hgrow _ _
        have hb0 := hW.out.alloc hzr (.cells #[.int .i64 id, .slice fo fs.length fc] 69)
        have HB8 := Lib.hid (hb0.grown hgrow (by simp; omega) (fun q hq => (HLT.out q hq).1))
        have hM8 : MOwn A1 N w8 (.slice (some ⟨gg, 0, none⟩) (q.length + 1) cap) (q ++ [(id, fs)]) := MOwn.snoc (s := (id, fs)) HL.out HFL.out HFW.out hown8 hW.out HB8.out HA.out rfl
        have x1 : w8.cell? ⟨g, k * 2, none⟩ = some (.int .i64 sid) := by rw [HB8.out.cell (p := ⟨g, k * 2, none⟩) hgN, ← hW.out.cell (p := ⟨g, k * 2, none⟩) hgN]; exact c1
        have x2 : w8.cell? ⟨g, k * 2 + 1, none⟩ = some (.slice so sf.length sc) := by rw [HB8.out.cell (p := ⟨g, k * 2 + 1, none⟩) hgN, ← hW.out.cell (p := ⟨g, k * 2 + 1, none⟩) hgN]; exact c2
        have HF8 : Hid (FldsIn A1 w8 (.slice so sf.length sc) sf) := Lib.hid (HF.out.keep fun b hb => (HB8.out.block b (HA.out b hb)).trans (hW.out.block b (HA.out b hb)).symm)
        have hz8 : N ≤ w8.heap.size := by have := HB8.out.size; have := HN.out; omega
        obtain ⟨q2, hq2⟩ : ∃ q2, q ++ [(id, fs)] = q2 := ⟨_, rfl⟩
        have hl2 : q.length + 1 = q2.length := by rw [← hq2]; simp
        rw [hq2, hl2] at hM8
        obtain ⟨us2, hus2, hrow2, hf2⟩ := hM8
        have hql2 : q2.length ≤ 1000002 := by omega
        have HO2 := Lib.hid (World.ownsRow.alloc hrow2 (.cells #[.int .i64 sid, .slice so sf.length sc] 69))
        have HLT2 := Lib.hid (World.ownsRow.lt hrow2)
        have HQ2 := Lib.hid hq2
        have HUS2 := Lib.hid hus2
        have HF2 := Lib.hid hf2
        try rw [hl2]
        have hgl8 : g < w8.heap.size := by omega
        clear hown8 hgrow hb0 hq2 hrow2 hl2 c1 c2 hus2 hf2
        go_wp2_with (at_builtin; refine wpList_append_lies _ rfl _ _ _ rfl N 69 i0 _ 2 32 Try.underlying29 hi0 hz0 hz1 hz2 rfl (by omega) (.slice (some ⟨gg, 0, none⟩) (q2.length) cap) (q2.length) _ rfl HO2.out ⟨w8.heap.size, 0, none⟩ 1 1 [.int .i64 sid, .slice so sf.length sc] rfl rfl (World.news_of_block (cs := #[.int .i64 sid, .slice so sf.length sc]) (heap_alloc_new w8 (.cells #[.int .i64 sid, .slice so sf.length sc] 69))) (by simp [Value.oneCell']) (by omega) (by unfold maxLen; omega) (by omega) (by simp; omega) _ rfl ?_; refine Hid.out ?_)
        refine Lib.hid ?_
        intro gg2 cap2 w9 hown9 hgrow9 _ _
        have hb9 := HB8.out.alloc hz8 (.cells #[.int .i64 sid, .slice so sf.length sc] 69)
        have HB9 := Lib.hid (hb9.grown hgrow9 (by simp; omega) (fun q hq => (HLT2.out q hq).1))
        have HM9 : Hid (MOwn A1 N w9 (.slice (some ⟨gg2, 0, none⟩) (q2.length + 1) cap2) (insOut id fs (l.take (k + 1)))) := Lib.hid (by rw [HET.out, HOUT.out, HQ.out, HQ2.out]; exact MOwn.snoc (v := .slice (some ⟨gg2, 0, none⟩) (q2.length + 1) cap2) (s := (sid, sf)) HUS2.out HF2.out HF8.out hown9 HB8.out HB9.out HA.out rfl)
        clear hown9 hgrow9 hb9
        go_wp2
        exact ⟨⟨k + 1, true, by go_num, rfl, by rw [HET.out, HD.out], by omega, HM9, HB9⟩, by simp [iOf]; omega⟩
      · have hor : insDone id p = true ∨ ¬ id < (sid, sf).1 := by
          cases dn
          · exact .inr fun h => hnow ⟨rfl, h⟩
          · exact .inl hdn.symm
        obtain ⟨ho, hd⟩ := insOut_on (fs := fs) (p := p) (x := (sid, sf)) hor
        have HOUT := Lib.hid ho
        have HD : Hid (dn = insDone id (p ++ [(sid, sf)])) := Lib.hid (hdn.trans hd.symm)
        clear ho hd hor HOS hdn
        cases dn
        · have hng : ¬ id < sid := fun h => hnow ⟨rfl, h⟩
          clear hnow
          go_wp2_with (at_builtin; refine wpList_append_lies _ rfl _ _ _ rfl N 69 i0 _ 2 32 Try.underlying29 hi0 hz0 hz1 hz2 rfl (by omega) (.slice vo (q.length) vc) (q.length) _ rfl HO.out ⟨wr.heap.size, 0, none⟩ 1 1 [.int .i64 sid, .slice so sf.length sc] rfl rfl (World.news_of_block (cs := #[.int .i64 sid, .slice so sf.length sc]) (heap_alloc_new wr (.cells #[.int .i64 sid, .slice so sf.length sc] 69))) (by simp [Value.oneCell']) (by omega) (by unfold maxLen; omega) (by omega) (by simp; omega) _ rfl ?_; refine Hid.out ?_)
          refine Lib.hid ?_
          intro gg cap w8 hown8 hgrow _ _
          have hb0 := hW.out.alloc hzr (.cells #[.int .i64 sid, .slice so sf.length sc] 69)
          have HB8 := Lib.hid (hb0.grown hgrow (by simp; omega) (fun q hq => (HLT.out q hq).1))
          have HM8 : Hid (MOwn A1 N w8 (.slice (some ⟨gg, 0, none⟩) (q.length + 1) cap) (insOut id fs (l.take (k + 1)))) := Lib.hid (by rw [HET.out, HOUT.out, HQ.out]; exact MOwn.snoc (v := .slice (some ⟨gg, 0, none⟩) (q.length + 1) cap) (s := (sid, sf)) HL.out HFL.out HF.out hown8 hW.out HB8.out HA.out rfl)
          clear hown8 hgrow hb0
          go_wp2
          exact ⟨⟨k + 1, false, by go_num, rfl, by rw [HET.out]; exact HD.out, by omega, HM8, HB8⟩, by simp [iOf]; omega⟩
        · clear hnow
          go_wp2_with (at_builtin; refine wpList_append_lies _ rfl _ _ _ rfl N 69 i0 _ 2 32 Try.underlying29 hi0 hz0 hz1 hz2 rfl (by omega) (.slice vo (q.length) vc) (q.length) _ rfl HO.out ⟨wr.heap.size, 0, none⟩ 1 1 [.int .i64 sid, .slice so sf.length sc] rfl rfl (World.news_of_block (cs := #[.int .i64 sid, .slice so sf.length sc]) (heap_alloc_new wr (.cells #[.int .i64 sid, .slice so sf.length sc] 69))) (by simp [Value.oneCell']) (by omega) (by unfold maxLen; omega) (by omega) (by simp; omega) _ rfl ?_; refine Hid.out ?_)
          refine Lib.hid ?_
          intro gg cap w8 hown8 hgrow _ _
          have hb0 := hW.out.alloc hzr (.cells #[.int .i64 sid, .slice so sf.length sc] 69)
          have HB8 := Lib.hid (hb0.grown hgrow (by simp; omega) (fun q hq => (HLT.out q hq).1))
          have HM8 : Hid (MOwn A1 N w8 (.slice (some ⟨gg, 0, none⟩) (q.length + 1) cap) (insOut id fs (l.take (k + 1)))) := Lib.hid (by rw [HET.out, HOUT.out, HQ.out]; exact MOwn.snoc (v := .slice (some ⟨gg, 0, none⟩) (q.length + 1) cap) (s := (sid, sf)) HL.out HFL.out HF.out hown8 hW.out HB8.out HA.out rfl)
          clear hown8 hgrow hb0
          go_wp2
          exact ⟨⟨k + 1, true, by go_num, rfl, by rw [HET.out]; exact HD.out, by omega, HM8, HB8⟩, by simp [iOf]; omega⟩
    · have ht : l.take k = l := List.take_of_length_le (by omega)
      rw [ht] at hdn hO hal
      have HE := Lib.hid (insOut_end (id := id) (fs := fs) (l := l))
      obtain ⟨q, hq⟩ : ∃ q, insOut id fs l = q := ⟨_, rfl⟩
      rw [hq] at hO hal HE
      have hq6 : q.length ≤ 1000001 := by omega
      have HBW : Hid (Below w.heap.size w wr) := Lib.hid (HB1.out.trans (hW.out.mono (by rw [← HN.out]; exact HB1.out.size)))
      have HWD : Hid (∀ (w' : World) u, w1.heap.size ≤ w'.heap.size → Below w.heap.size w w' → MOwn A1 N w' u (rPut m id fs) → MNew A w w' u (rPut m id fs)) := Lib.hid fun w' u hz hb hm => ⟨hm.row.wide fun b hb' => by
        have h9 := HB1.out.size
        have h8 := HN.out
        rcases hb' with h1 | h1
        · rcases HA1.out b h1 with h2 | h2
          · exact .inl h2
          · exact .inr ⟨h2.1, by omega⟩
        · exact .inr ⟨by omega, h1.2⟩, hb⟩
      clear ht hq hal
      cases dn
      · have HEQ : Hid (q ++ [(id, fs)] = rPut m id fs) := Lib.hid (by rw [HRP.out]; exact HE.out.2 hdn.symm)
        obtain ⟨us, hl, hrow, hf⟩ := hO.out
        obtain ⟨vo, vc, hv⟩ := own_sh hrow
        subst hv
        have HOS := Lib.hid (World.ownsRow.alloc hrow (.cells #[.int .i64 id, .slice fo fs.length fc] 69))
        have HLT := Lib.hid (World.ownsRow.lt hrow)
        have HL := Lib.hid hl
        have HFL := Lib.hid hf
        clear hdn HE hO hl hrow hf
        go_wp2_with (at_builtin; refine wpList_append_lies _ rfl _ _ _ rfl N 69 i0 _ 2 32 Try.underlying29 hi0 hz0 hz1 hz2 rfl (by omega) (.slice vo (q.length) vc) (q.length) _ rfl HOS.out ⟨wr.heap.size, 0, none⟩ 1 1 [.int .i64 id, .slice fo fs.length fc] rfl rfl (World.news_of_block (cs := #[.int .i64 id, .slice fo fs.length fc]) (heap_alloc_new wr (.cells #[.int .i64 id, .slice fo fs.length fc] 69))) (by simp [Value.oneCell']) (by omega) (by unfold maxLen; omega) (by omega) (by simp; omega) _ rfl ?_; refine Hid.out ?_)
        refine Lib.hid ?_
        intro gg cap w8 hown8 hgrow _ _
        have hb0 := hW.out.alloc hzr (.cells #[.int .i64 id, .slice fo fs.length fc] 69)
        have HB8 := Lib.hid (hb0.grown hgrow (by simp; omega) (fun q hq => (HLT.out q hq).1))
        have HM8 : Hid (MOwn A1 N w8 (.slice (some ⟨gg, 0, none⟩) (q.length + 1) cap) (rPut m id fs)) := Lib.hid (by rw [← HEQ.out]; exact MOwn.snoc (v := .slice (some ⟨gg, 0, none⟩) (q.length + 1) cap) (s := (id, fs)) HL.out HFL.out HFW.out hown8 hW.out HB8.out HA.out rfl)
        have FIN := Lib.hid (HWD.out w8 _ (by have := HB8.out.size; omega) (HB1.out.trans (HB8.out.mono (by rw [← HN.out]; exact HB1.out.size))) HM8.out)
        clear hown8 hgrow hb0
        go_wp2
        exact bodyPost_ret (v := .tuple #[_, .int .i64 0]) (by simp [results, Try.results12, go_sem]) rfl ⟨_, rfl, FIN.out⟩
      · have HM8 : Hid (MOwn A1 N wr u8 (rPut m id fs)) := Lib.hid (by rw [HRP.out, ← HE.out.1 hdn.symm]; exact hO.out)
        have FIN := Lib.hid (HWD.out wr u8 (by rw [HN.out]; exact hzr) HBW.out HM8.out)
        clear hdn HE hO HM8
        go_wp2
        exact bodyPost_ret (v := .tuple #[_, .int .i64 0]) (by simp [results, Try.results12, go_sem]) rfl ⟨_, rfl, FIN.out⟩
end Go.Proofs.Ytmdofcpigknaoaa.I
