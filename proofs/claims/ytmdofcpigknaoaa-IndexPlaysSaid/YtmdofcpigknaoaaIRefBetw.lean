/- The reference's Between, walked. -/
import Derived.Test.YtmdofcpigknaoaaIRefDrop
namespace Go.Proofs.Ytmdofcpigknaoaa.I
open Go Go.Maps Go.Proofs Go.RowKit Go.Sort
attribute [local go_sem] geq_t leq_t

theorem rWho_snoc (p : Fld → Bool) (l : Ms) (s : Int × List Fld) : rWho p (l ++ [s]) = rWho p l ++ (if s.2.any p = true then [s.1] else []) := by
  unfold rWho
  rw [List.filter_append, List.map_append]
  by_cases h : s.2.any p = true <;> simp [h]
theorem rWho_len (p : Fld → Bool) (l : Ms) : (rWho p l).length ≤ l.length := by
  unfold rWho; rw [List.length_map]; exact List.length_filter_le _ _
theorem toList_inj8 {a b : ByteArray} (h : a.toList = b.toList) : a = b := ba_ext (by rw [Lib.toList_data, Lib.toList_data] at h; exact h)
def RB1 (p : Fld → Bool) (N : Nat) (w : World) (m : Ms) (v11 i : Value) (wr : World) : Prop :=
  ∃ k : Nat, i = .int .i64 k ∧ k ≤ m.length ∧ Hid (IOwn N wr v11 (rWho p (m.take k))) ∧ Hid (Below N w wr)
def RB2 (p : Fld → Bool) (w0 : World) (fs : List Fld) (v13 i : Value) (wr : World) : Prop :=
  ∃ (j : Nat) (ok : Bool), i = .int .i64 j ∧ v13 = .bool ok ∧ ok = (fs.take j).any p ∧ j ≤ fs.length ∧ Hid (Below w0.heap.size w0 wr)
set_option maxRecDepth 100000 in
set_option maxHeartbeats 6400000 in
theorem refBetween_any (A : Nat → Prop) (v : Value) (m : Ms) (key lo hi : ByteArray) (all : Bool) (w : World) (hA : ∀ b, A b → b < w.heap.size) (h : MsIn A w v m) (hlen : m.length ≤ 1000000) :
    Calls Try.prog 31 #[v, .string key, .string lo, .string hi, .bool all] w fun e w' => ∃ u, e = .returned u ∧ IOwn w.heap.size w' u (rWho (pick key.data.toList lo.data.toList hi.data.toList all) m) ∧ Below w.heap.size w w' := by
  obtain ⟨i0, hi0, hz0, hz1, hz2⟩ := info_parts infoI
  obtain ⟨ao, cp, rfl, -⟩ := _root_.id h
  have HM := Lib.hid h
  obtain ⟨P, hP⟩ : ∃ P, pick key.data.toList lo.data.toList hi.data.toList all = P := ⟨_, rfl⟩
  have HP : Hid (∀ tk tv : ByteArray, P ⟨tk.data.toList, tv.data.toList⟩ = (decide (tk = key) && (all || (!(Op.bytesLess tv.toList lo.toList) && (Op.bytesLess tv.toList hi.toList || tv.toList == hi.toList))))) := Lib.hid fun tk tv => by
    rw [← hP]
    unfold pick inR
    simp only [Lib.toList_data]
    congr 1
    by_cases e : tk = key
    · subst e; simp
    · rw [decide_eq_false e, beq_eq_false_iff_ne]; exact fun e' => e (ba_ext e')
  rw [hP]
  have HA := Lib.hid hA
  obtain ⟨N, hN⟩ : ∃ N, w.heap.size = N := ⟨_, rfl⟩
  have HN := Lib.hid hN
  rw [hN] at HA
  clear h hA hP
  go_enter Try.func31, Try.ntmps31
  go_wp2
  go_loopw [11, 12] (fun v11 i W => RB1 P N w m v11 i W) (fun _ i _ => m.length - (iOf i).toNat)
  case atStart => exact ⟨0, rfl, Nat.zero_le _, Lib.hid (World.ownsRow_nil _ _ _ _), Lib.hid (Below.refl _ _)⟩
  case round =>
    obtain ⟨k, rfl, hk, hO, hW⟩ := hrel
    have hzr : N ≤ wr.heap.size := by have := hW.out.size; omega
    have hwl := rWho_len P (m.take k)
    rw [List.length_take] at hwl
    by_cases hlt : k < m.length
    · obtain ⟨s, hs⟩ : ∃ s, m[k]? = some s := ⟨_, List.getElem?_eq_getElem hlt⟩
      obtain ⟨g, fo, fc, rfl, hg, c1, c2, hF⟩ := (HM.out.below hW.out HA.out).at hs
      have HET : Hid (rWho P (m.take (k + 1)) = rWho P (m.take k) ++ (if s.2.any P = true then [s.1] else [])) := Lib.hid (by rw [List.take_add_one, hs]; exact rWho_snoc _ _ _)
      obtain ⟨q, hq⟩ : ∃ q, rWho P (m.take k) = q := ⟨_, rfl⟩
      rw [hq] at HET hO hwl
      obtain ⟨sid, sf⟩ := s
      simp only at c1 c2 HET hF
      obtain ⟨⟨fo', fc', hfv, hfl, hcs⟩, -⟩ := hF
      try simp only at hfl
      injection hfv with e1 e2 e3
      subst e1
      subst e3
      have HC1 := Lib.hid c1
      have HC2 := Lib.hid c2
      have HCS := Lib.hid hcs
      have hq6 : q.length ≤ 1000000 := by omega
      have hkz : (k : Int) < (m.length : Int) := by omega
      obtain ⟨wo, hwo⟩ : ∃ wo, wo = wr := ⟨_, rfl⟩
      subst hwo
      clear hs hq hwl hcs c1 e2 hk
      go_wp2
      go_loopw [13, 14] (fun v13 i W => RB2 P wo sf v13 i W) (fun _ i _ => sf.length - (iOf i).toNat)
      case atStart => exact ⟨0, false, rfl, rfl, rfl, Nat.zero_le _, Lib.hid (Below.refl _ _)⟩
      case round =>
        obtain ⟨j, ok, rfl, rfl, hok, hj, hB⟩ := hrel
        have c2 := (hB.out.cell (p := ⟨g, k * 2 + 1, none⟩) hg).trans HC2.out
        by_cases hjl : j < sf.length
        · obtain ⟨y, hy⟩ : ∃ y, sf[j]? = some y := ⟨_, List.getElem?_eq_getElem hjl⟩
          obtain ⟨gf, of, rfl, h1, h2⟩ := HCS.out j y hy
          have d1 := (hB.out.cell (World.block_lt_of_cell? _ _ h1)).trans h1
          have d2 := (hB.out.cell (World.block_lt_of_cell? _ _ h2)).trans h2
          have HE : Hid ((sf.take (j + 1)).any P = (ok || P y)) := Lib.hid (by rw [List.take_add_one, hy, hok]; simp)
          obtain ⟨yk, yv⟩ := y
          simp only at d1 d2 HE
          obtain ⟨tk, htk⟩ : ∃ tk : ByteArray, (⟨yk.toArray⟩ : ByteArray) = tk := ⟨_, rfl⟩
          obtain ⟨tv, htv⟩ : ∃ tv : ByteArray, (⟨yv.toArray⟩ : ByteArray) = tv := ⟨_, rfl⟩
          have hyk : yk = tk.data.toList := by rw [← htk]
          have hyv : yv = tv.data.toList := by rw [← htv]
          rw [htk] at d1
          rw [htv] at d2
          subst hyk
          subst hyv
          have HPT := Lib.hid (HP.out tk tv)
          have HB2 : Hid (Below wo.heap.size wo (wr.alloc (.cells #[.string tk, .string tv] 45))) := Lib.hid (hB.out.alloc hB.out.size _)
          clear h1 h2 hy htk htv hok hB
          cases ok with
          | true =>
            clear HPT
            go_wp2
            exact ⟨⟨j + 1, true, by go_num, rfl, by rw [HE.out]; rfl, by omega, HB2⟩, by simp [iOf]; omega⟩
          | false =>
            by_cases hfk : tk = key
            · subst hfk
              have heq0 : (tk.toList == tk.toList) = true := by simp
              cases all with
              | true =>
                have HV : Hid (P ⟨tk.data.toList, tv.data.toList⟩ = true) := Lib.hid (by rw [HPT.out]; simp)
                clear HPT
                go_wp2
                exact ⟨⟨j + 1, true, by go_num, rfl, by rw [HE.out, HV.out]; rfl, by omega, HB2⟩, by simp [iOf]; omega⟩
              | false =>
                cases b1 : Op.bytesLess tv.toList lo.toList with
                | true =>
                  have HV : Hid (P ⟨tk.data.toList, tv.data.toList⟩ = false) := Lib.hid (by rw [HPT.out, b1]; simp)
                  clear HPT
                  go_wp2
                  exact ⟨⟨j + 1, false, by go_num, rfl, by rw [HE.out, HV.out]; rfl, by omega, HB2⟩, by simp [iOf]; omega⟩
                | false =>
                  cases b2 : (Op.bytesLess tv.toList hi.toList || tv.toList == hi.toList) with
                  | true =>
                    have HV : Hid (P ⟨tk.data.toList, tv.data.toList⟩ = true) := Lib.hid (by rw [HPT.out, b1, b2]; simp)
                    clear HPT
                    go_wp2
                    exact ⟨⟨j + 1, true, by go_num, rfl, by rw [HE.out, HV.out]; rfl, by omega, HB2⟩, by simp [iOf]; omega⟩
                  | false =>
                    have HV : Hid (P ⟨tk.data.toList, tv.data.toList⟩ = false) := Lib.hid (by rw [HPT.out, b1, b2]; simp)
                    clear HPT
                    go_wp2
                    exact ⟨⟨j + 1, false, by go_num, rfl, by rw [HE.out, HV.out]; rfl, by omega, HB2⟩, by simp [iOf]; omega⟩
            · have hne : (tk.toList == key.toList) = false := by rw [beq_eq_false_iff_ne]; exact fun e => hfk (toList_inj8 e)
              have HV : Hid (P ⟨tk.data.toList, tv.data.toList⟩ = false) := Lib.hid (by rw [HPT.out, decide_eq_false hfk]; rfl)
              clear HPT hfk
              go_wp2
              exact ⟨⟨j + 1, false, by go_num, rfl, by rw [HE.out, HV.out]; rfl, by omega, HB2⟩, by simp [iOf]; omega⟩
        · have ht : sf.take j = sf := List.take_of_length_le (by omega)
          rw [ht] at hok
          have hW2 := hW.out.trans (hB.out.mono hzr)
          have hzr2 : N ≤ wr.heap.size := by have := hW2.size; omega
          have c1 := (hB.out.cell (p := ⟨g, k * 2, none⟩) hg).trans HC1.out
          have hO2 := own_below hO.out hB.out
          have HW2 := Lib.hid hW2
          clear ht hB hW2 HC1 HC2
          cases ok with
          | true =>
            have HE2 : Hid (rWho P (m.take (k + 1)) = q ++ [sid]) := Lib.hid (by rw [HET.out, if_pos hok.symm])
            obtain ⟨vo, vc, hv⟩ := own_sh hO2
            subst hv
            have HO := Lib.hid (World.ownsRow.alloc hO2 (.cells #[.int .i64 sid] 3))
            have HLT := Lib.hid (World.ownsRow.lt hO2)
            clear hok hO2 hO hW
            go_wp2_with (at_builtin; refine wpList_append_lies _ rfl _ _ _ rfl N 3 i0 _ 1 8 Try.underlying51 hi0 hz0 hz1 hz2 rfl (by omega) (.slice vo (q.length) vc) (q.length) _ rfl HO.out ⟨wr.heap.size, 0, none⟩ 1 1 [.int .i64 sid] rfl rfl (World.news_of_block (cs := #[.int .i64 sid]) (heap_alloc_new wr (.cells #[.int .i64 sid] 3))) (by simp [Value.oneCell']) (by omega) (by unfold maxLen; omega) (by omega) (by simp; omega) _ rfl ?_; refine Hid.out ?_)
            refine Lib.hid ?_
            intro gg cap w8 hown8 hgrow _ _
            have hb0 := HW2.out.alloc hzr2 (.cells #[.int .i64 sid] 3)
            have HB8 : Hid (Below N w w8) := Lib.hid (hb0.grown hgrow (by simp; omega) (fun q hq => (HLT.out q hq).1))
            have HM8 : Hid (IOwn N w8 (.slice (some ⟨gg, 0, none⟩) (q.length + 1) cap) (rWho P (m.take (k + 1)))) := Lib.hid (by rw [HE2.out]; exact IOwn.snoc hown8)
            clear hown8 hgrow hb0
            go_wp2
            exact ⟨⟨k + 1, by go_num, by omega, HM8, HB8⟩, by simp [iOf]; omega⟩
          | false =>
            have HM8 : Hid (IOwn N wr u11 (rWho P (m.take (k + 1)))) := Lib.hid (by rw [HET.out, if_neg (by rw [← hok]; simp), List.append_nil]; exact hO2)
            clear hok hO2 hO hW
            go_wp2
            exact ⟨⟨k + 1, by go_num, by omega, HM8, HW2⟩, by simp [iOf]; omega⟩
    · have ht : m.take k = m := List.take_of_length_le (by omega)
      have HM8 : Hid (IOwn N wr u11 (rWho P m)) := Lib.hid (by have := hO.out; rwa [ht] at this)
      clear hO ht hwl
      go_wp2
      go_ret
      exact ⟨_, rfl, by rw [HN.out]; exact HM8.out, by rw [HN.out]; exact hW.out⟩
end Go.Proofs.Ytmdofcpigknaoaa.I
