/- The reference's add, walked. -/
import Derived.Test.YtmdofcpigknaoaaIRefW
namespace Go.Proofs.Ytmdofcpigknaoaa.I
open Go Go.Maps Go.Proofs Go.RowKit Go.Sort
attribute [local go_sem] geq_t leq_t

theorem bl_of {a b : ByteArray} (h : a.data.toList < b.data.toList) : Op.bytesLess a.toList b.toList = true ∧ (a.toList == b.toList) = false ∧ Op.bytesLess b.toList a.toList = false ∧ (b.toList == a.toList) = false := by
  have ne : ¬ a.data.toList = b.data.toList := fun e => by rw [e] at h; exact l8_irr _ h
  have ng : ¬ b.data.toList < a.data.toList := fun k => l8_irr _ (l8_trans h k)
  refine ⟨?_, ?_, ?_, ?_⟩
  · rw [bytesLess_eq, Lib.toList_data, Lib.toList_data]; exact decide_eq_true h
  · rw [Lib.toList_data, Lib.toList_data, beq_eq_false_iff_ne]; exact ne
  · rw [bytesLess_eq, Lib.toList_data, Lib.toList_data]; exact decide_eq_false ng
  · rw [Lib.toList_data, Lib.toList_data, beq_eq_false_iff_ne]; exact fun e => ne e.symm
theorem ba_ext {a b : ByteArray} (h : a.data.toList = b.data.toList) : a = b := by
  have : a.data = b.data := Array.ext' h
  exact ByteArray.ext this
def RA (s : L8) (N : Nat) (w : World) (l : List L8) (v5 v6 i : Value) (wr : World) : Prop :=
  ∃ (k : Nat) (dn : Bool), i = .int .i64 k ∧ v6 = .bool dn ∧ dn = addDone s (l.take k) ∧ k ≤ l.length ∧ Hid (SOwn N wr v5 (addOut s (l.take k))) ∧ Hid (Below N w wr)
set_option maxRecDepth 100000 in
set_option maxHeartbeats 6400000 in
theorem refAdd_any (v : Value) (l : List L8) (s : ByteArray) (w : World) (h : StrsAt w v l) (hr : l.Pairwise (· < ·)) (hlen : l.length ≤ 1000000) :
    Calls Try.prog 44 #[v, .string s] w fun e w' => ∃ u, e = .returned u ∧ SOwn w.heap.size w' u (rAdd s.data.toList l) ∧ Below w.heap.size w w' := by
  obtain ⟨i0, hi0, hz0, hz1, hz2⟩ := info_parts infoS
  obtain ⟨ao, cp, rfl, -, hA⟩ := h
  have HA : Hid (∀ (k : Nat) (f : L8), l[k]? = some f → ∃ a, ao = some a ∧ a.block < w.heap.size ∧ w.cell? (a.add k) = some (.string ⟨f.toArray⟩)) := Lib.hid fun k f hk => by
    obtain ⟨a, e, hc⟩ := hA k f hk
    exact ⟨a, e, by have := World.block_lt_of_cell? _ _ hc; rwa [add_block] at this, hc⟩
  have HR := Lib.hid hr
  obtain ⟨N, hN⟩ : ∃ N, w.heap.size = N := ⟨_, rfl⟩
  have HN := Lib.hid hN
  rw [hN] at HA
  clear hA hr
  go_enter Try.func44, Try.ntmps44
  go_wp2
  go_loopw [5, 6, 7] (fun v5 v6 i W => RA s.data.toList N w l v5 v6 i W) (fun _ _ i _ => l.length - (iOf i).toNat)
  case atStart => exact ⟨0, false, rfl, rfl, rfl, Nat.zero_le _, Lib.hid (World.ownsRow_nil _ _ _ _), Lib.hid (Below.refl _ _)⟩
  case round =>
    obtain ⟨k, dn, rfl, rfl, hdn, hk, hO, hW⟩ := hrel
    have hzr : N ≤ wr.heap.size := by have := hW.out.size; omega
    have hal := addOut_len s.data.toList (l.take k)
    rw [List.length_take] at hal
    by_cases hlt : k < l.length
    · obtain ⟨f, hf⟩ : ∃ f, l[k]? = some f := ⟨_, List.getElem?_eq_getElem hlt⟩
      obtain ⟨a, rfl, ha1, ha2⟩ := HA.out k f hf
      have et : l.take (k + 1) = l.take k ++ [f] := by rw [List.take_add_one, hf]; rfl
      have hp : (l.take k ++ [f]).Pairwise (· < ·) := by rw [← et]; exact List.Pairwise.sublist (List.take_sublist _ _) HR.out
      have x1 : wr.cell? (a.add k) = some (.string ⟨f.toArray⟩) := by rw [hW.out.cell (p := a.add k) (by rw [add_block]; exact ha1)]; exact ha2
      obtain ⟨tf, htf⟩ : ∃ tf : ByteArray, (⟨f.toArray⟩ : ByteArray) = tf := ⟨_, rfl⟩
      have hfl : f = tf.data.toList := by rw [← htf]
      rw [htf] at x1
      have HET := Lib.hid et
      obtain ⟨p, hpp⟩ : ∃ p, l.take k = p := ⟨_, rfl⟩
      rw [hpp] at hdn hO hal hp HET
      obtain ⟨q, hq⟩ : ∃ q, addOut s.data.toList p = q := ⟨_, rfl⟩
      rw [hq] at hO hal
      have HQ := Lib.hid hq
      have hql : q.length ≤ 1000001 := by omega
      obtain ⟨vo, vc, hv⟩ := own_sh hO.out
      subst hv
      have HO := Lib.hid (World.ownsRow.alloc hO.out (.cells #[.string tf] 9))
      have HOS := Lib.hid (World.ownsRow.alloc hO.out (.cells #[.string s] 9))
      have HLT := Lib.hid (World.ownsRow.lt hO.out)
      clear et hf ha2 htf hpp hq hO hal
      subst hfl
      cases dn
      · have HD := Lib.hid hdn.symm
        clear hdn
        by_cases hcmp : tf.data.toList < s.data.toList
        · obtain ⟨l1, l2, -, -⟩ := bl_of hcmp
          have HOUT := Lib.hid (addOut_low HD.out hcmp)
          have HDN : Hid (addDone s.data.toList (p ++ [tf.data.toList]) = false) := Lib.hid (by rw [addDone_snoc, HD.out, decide_eq_true hcmp]; rfl)
          clear hcmp hp
          go_wp2_with (at_builtin; refine wpList_append_lies _ rfl _ _ _ rfl N 9 i0 _ 1 16 Try.underlying55 hi0 hz0 hz1 hz2 rfl (by omega) (.slice vo (q.length) vc) (q.length) _ rfl HO.out ⟨wr.heap.size, 0, none⟩ 1 1 [.string tf] rfl rfl (World.news_of_block (cs := #[.string tf]) (heap_alloc_new wr (.cells #[.string tf] 9))) (by simp [Value.oneCell']) (by omega) (by unfold maxLen; omega) (by omega) (by simp; omega) _ rfl ?_; refine Hid.out ?_)
          refine Lib.hid ?_
          intro gg cap w8 hown8 hgrow _ _
          have hb0 := hW.out.alloc hzr (.cells #[.string tf] 9)
          have HB8 : Hid (Below N w w8) := Lib.hid (hb0.grown hgrow (by simp; omega) (fun q hq => (HLT.out q hq).1))
          have HM8 : Hid (SOwn N w8 (.slice (some ⟨gg, 0, none⟩) (q.length + 1) cap) (addOut s.data.toList (l.take (k + 1)))) := Lib.hid (by rw [HET.out, HOUT.out, HQ.out]; exact SOwn.snoc (Lib.mk_data tf) hown8)
          clear hown8 hgrow hb0
          go_wp2
          exact ⟨⟨k + 1, false, by go_num, rfl, by rw [HET.out, HDN.out], by omega, HM8, HB8⟩, by simp [iOf]; omega⟩
        · by_cases heq : tf.data.toList = s.data.toList
          · obtain rfl := ba_ext heq
            have l1 : Op.bytesLess tf.toList tf.toList = false := by rw [bytesLess_eq]; exact decide_eq_false (l8_irr _)
            have l2 : (tf.toList == tf.toList) = true := by simp
            have HOUT := Lib.hid (addOut_same HD.out)
            have HDN : Hid (addDone tf.data.toList (p ++ [tf.data.toList]) = true) := Lib.hid (by rw [addDone_snoc, HD.out, decide_eq_false (l8_irr _)]; rfl)
            clear hcmp hp heq HO
            go_wp2_with (at_builtin; refine wpList_append_lies _ rfl _ _ _ rfl N 9 i0 _ 1 16 Try.underlying55 hi0 hz0 hz1 hz2 rfl (by omega) (.slice vo (q.length) vc) (q.length) _ rfl HOS.out ⟨wr.heap.size, 0, none⟩ 1 1 [.string tf] rfl rfl (World.news_of_block (cs := #[.string tf]) (heap_alloc_new wr (.cells #[.string tf] 9))) (by simp [Value.oneCell']) (by omega) (by unfold maxLen; omega) (by omega) (by simp; omega) _ rfl ?_; refine Hid.out ?_)
            refine Lib.hid ?_
            intro gg cap w8 hown8 hgrow _ _
            have hb0 := hW.out.alloc hzr (.cells #[.string tf] 9)
            have HB8 : Hid (Below N w w8) := Lib.hid (hb0.grown hgrow (by simp; omega) (fun q hq => (HLT.out q hq).1))
            have HM8 : Hid (SOwn N w8 (.slice (some ⟨gg, 0, none⟩) (q.length + 1) cap) (addOut tf.data.toList (l.take (k + 1)))) := Lib.hid (by rw [HET.out, HOUT.out, HQ.out]; exact SOwn.snoc (Lib.mk_data tf) hown8)
            have x8 : w8.cell? (a.add k) = some (.string tf) := by rw [HB8.out.cell (p := a.add k) (by rw [add_block]; exact ha1), ← hW.out.cell (p := a.add k) (by rw [add_block]; exact ha1)]; exact x1
            clear hown8 hgrow hb0
            go_wp2
            exact ⟨⟨k + 1, true, by go_num, rfl, by rw [HET.out, HDN.out], by omega, HM8, HB8⟩, by simp [iOf]; omega⟩
          · have hgt := l8_tri hcmp heq
            obtain ⟨-, -, l1, l2⟩ := bl_of hgt
            have HOUT := Lib.hid (addOut_now HD.out hgt)
            have HDN : Hid (addDone s.data.toList (p ++ [tf.data.toList]) = true) := Lib.hid (by rw [addDone_snoc, HD.out, decide_eq_false hcmp]; rfl)
            clear hcmp hp heq hgt HO
            go_wp2_with (at_builtin; refine wpList_append_lies _ rfl _ _ _ rfl N 9 i0 _ 1 16 Try.underlying55 hi0 hz0 hz1 hz2 rfl (by omega) (.slice vo (q.length) vc) (q.length) _ rfl HOS.out ⟨wr.heap.size, 0, none⟩ 1 1 [.string s] rfl rfl (World.news_of_block (cs := #[.string s]) (heap_alloc_new wr (.cells #[.string s] 9))) (by simp [Value.oneCell']) (by omega) (by unfold maxLen; omega) (by omega) (by simp; omega) _ rfl ?_; refine Hid.out ?_)
            refine Lib.hid ?_
            intro gg cap w8 hown8 hgrow _ _
            have hb0 := hW.out.alloc hzr (.cells #[.string s] 9)
            have HB8 : Hid (Below N w w8) := Lib.hid (hb0.grown hgrow (by simp; omega) (fun q hq => (HLT.out q hq).1))
            have hM8 : SOwn N w8 (.slice (some ⟨gg, 0, none⟩) (q.length + 1) cap) (q ++ [s.data.toList]) := SOwn.snoc rfl hown8
            have x8 : w8.cell? (a.add k) = some (.string tf) := by rw [HB8.out.cell (p := a.add k) (by rw [add_block]; exact ha1), ← hW.out.cell (p := a.add k) (by rw [add_block]; exact ha1)]; exact x1
            have hz8 : N ≤ w8.heap.size := by have := HB8.out.size; have := HN.out; omega
            obtain ⟨q2, hq2⟩ : ∃ q2, q ++ [s.data.toList] = q2 := ⟨_, rfl⟩
            have hl2 : q.length + 1 = q2.length := by rw [← hq2]; simp
            rw [hq2, hl2] at hM8
            have hql2 : q2.length ≤ 1000002 := by omega
            have HO2 := Lib.hid (World.ownsRow.alloc hM8 (.cells #[.string tf] 9))
            have HLT2 := Lib.hid (World.ownsRow.lt hM8)
            have HQ2 := Lib.hid hq2
            try rw [hl2]
            have HL2 := Lib.hid hl2
            clear hown8 hgrow hb0 hq2 hM8 hl2 x1
            go_wp2_with (at_builtin; refine wpList_append_lies _ rfl _ _ _ rfl N 9 i0 _ 1 16 Try.underlying55 hi0 hz0 hz1 hz2 rfl (by omega) (.slice (some ⟨gg, 0, none⟩) (q2.length) cap) (q2.length) _ rfl HO2.out ⟨w8.heap.size, 0, none⟩ 1 1 [.string tf] rfl rfl (World.news_of_block (cs := #[.string tf]) (heap_alloc_new w8 (.cells #[.string tf] 9))) (by simp [Value.oneCell']) (by omega) (by unfold maxLen; omega) (by omega) (by simp; omega) _ rfl ?_; refine Hid.out ?_)
            refine Lib.hid ?_
            intro gg2 cap2 w9 hown9 hgrow9 _ _
            have hb9 := HB8.out.alloc hz8 (.cells #[.string tf] 9)
            have HB9 : Hid (Below N w w9) := Lib.hid (hb9.grown hgrow9 (by simp; omega) (fun q hq => (HLT2.out q hq).1))
            have HM9 : Hid (SOwn N w9 (.slice (some ⟨gg2, 0, none⟩) (q2.length + 1) cap2) (addOut s.data.toList (l.take (k + 1)))) := Lib.hid (by rw [HET.out, HOUT.out, HQ.out, HQ2.out]; exact SOwn.snoc (Lib.mk_data tf) hown9)
            clear hown9 hgrow9 hb9
            go_wp2
            exact ⟨⟨k + 1, true, by go_num, rfl, by rw [HET.out, HDN.out], by omega, HM9, HB9⟩, by simp [iOf]; omega⟩
      · have HD := Lib.hid hdn.symm
        clear hdn
        obtain ⟨ho, hgt⟩ := addOut_high hp HD.out
        obtain ⟨-, -, l1, l2⟩ := bl_of hgt
        have HOUT := Lib.hid ho
        have HDN : Hid (addDone s.data.toList (p ++ [tf.data.toList]) = true) := Lib.hid (by rw [addDone_snoc, HD.out]; rfl)
        clear hp ho hgt
        go_wp2_with (at_builtin; refine wpList_append_lies _ rfl _ _ _ rfl N 9 i0 _ 1 16 Try.underlying55 hi0 hz0 hz1 hz2 rfl (by omega) (.slice vo (q.length) vc) (q.length) _ rfl HO.out ⟨wr.heap.size, 0, none⟩ 1 1 [.string tf] rfl rfl (World.news_of_block (cs := #[.string tf]) (heap_alloc_new wr (.cells #[.string tf] 9))) (by simp [Value.oneCell']) (by omega) (by unfold maxLen; omega) (by omega) (by simp; omega) _ rfl ?_; refine Hid.out ?_)
        refine Lib.hid ?_
        intro gg cap w8 hown8 hgrow _ _
        have hb0 := hW.out.alloc hzr (.cells #[.string tf] 9)
        have HB8 : Hid (Below N w w8) := Lib.hid (hb0.grown hgrow (by simp; omega) (fun q hq => (HLT.out q hq).1))
        have HM8 : Hid (SOwn N w8 (.slice (some ⟨gg, 0, none⟩) (q.length + 1) cap) (addOut s.data.toList (l.take (k + 1)))) := Lib.hid (by rw [HET.out, HOUT.out, HQ.out]; exact SOwn.snoc (Lib.mk_data tf) hown8)
        clear hown8 hgrow hb0
        go_wp2
        exact ⟨⟨k + 1, true, by go_num, rfl, by rw [HET.out, HDN.out], by omega, HM8, HB8⟩, by simp [iOf]; omega⟩
    · have ht : l.take k = l := List.take_of_length_le (by omega)
      rw [ht] at hdn hO hal
      have HE := Lib.hid (addOut_end (s := s.data.toList) (l := l))
      obtain ⟨q, hq⟩ : ∃ q, addOut s.data.toList l = q := ⟨_, rfl⟩
      rw [hq] at hO hal HE
      have hql : q.length ≤ 1000001 := by omega
      obtain ⟨vo, vc, hv⟩ := own_sh hO.out
      subst hv
      have HO := Lib.hid hO.out
      have HOS := Lib.hid (World.ownsRow.alloc hO.out (.cells #[.string s] 9))
      have HLT := Lib.hid (World.ownsRow.lt hO.out)
      clear ht hq hO hal
      cases dn
      · have HEQ : Hid (q ++ [s.data.toList] = rAdd s.data.toList l) := Lib.hid (by rw [← HE.out, if_neg (by rw [← hdn]; simp)])
        clear hdn HE HO
        go_wp2_with (at_builtin; refine wpList_append_lies _ rfl _ _ _ rfl N 9 i0 _ 1 16 Try.underlying55 hi0 hz0 hz1 hz2 rfl (by omega) (.slice vo (q.length) vc) (q.length) _ rfl HOS.out ⟨wr.heap.size, 0, none⟩ 1 1 [.string s] rfl rfl (World.news_of_block (cs := #[.string s]) (heap_alloc_new wr (.cells #[.string s] 9))) (by simp [Value.oneCell']) (by omega) (by unfold maxLen; omega) (by omega) (by simp; omega) _ rfl ?_; refine Hid.out ?_)
        refine Lib.hid ?_
        intro gg cap w8 hown8 hgrow _ _
        have hb0 := hW.out.alloc hzr (.cells #[.string s] 9)
        have HB8 : Hid (Below w.heap.size w w8) := Lib.hid (by rw [HN.out]; exact hb0.grown hgrow (by simp; omega) (fun q hq => (HLT.out q hq).1))
        have HM8 : Hid (SOwn w.heap.size w8 (.slice (some ⟨gg, 0, none⟩) (q.length + 1) cap) (rAdd s.data.toList l)) := Lib.hid (by rw [HN.out, ← HEQ.out]; exact SOwn.snoc rfl hown8)
        clear hown8 hgrow hb0
        go_wp2
        go_ret
        exact ⟨_, rfl, HM8.out, HB8.out⟩
      · have HEQ : Hid (q = rAdd s.data.toList l) := Lib.hid (by rw [← HE.out, if_pos hdn.symm])
        clear hdn HE HOS
        go_wp2
        go_ret
        exact ⟨_, rfl, by rw [HN.out, ← HEQ.out]; exact HO.out, by rw [HN.out]; exact hW.out⟩
end Go.Proofs.Ytmdofcpigknaoaa.I
