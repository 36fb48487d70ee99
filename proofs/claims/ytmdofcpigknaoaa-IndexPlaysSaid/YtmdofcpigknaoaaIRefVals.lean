/- The reference's Values and Count, walked. -/
import Derived.Test.YtmdofcpigknaoaaIRefKeys
namespace Go.Proofs.Ytmdofcpigknaoaa.I
open Go Go.Maps Go.Proofs Go.RowKit Go.Sort

set_option maxRecDepth 100000 in
set_option maxHeartbeats 6400000 in
theorem refValues_any (A : Nat → Prop) (v : Value) (m : Ms) (key : ByteArray) (w : World) (hA : ∀ b, A b → b < w.heap.size) (h : MsIn A w v m) (hlen : m.length ≤ 900) (hfew : ∀ s ∈ m, s.2.length ≤ 1000) :
    Calls Try.prog 33 #[v, .string key] w fun e w' => ∃ u, e = .returned u ∧ SOwn w.heap.size w' u (addAllS ((valsM key.data.toList) m)) ∧ Below w.heap.size w w' := by
  obtain ⟨ao, cp, rfl, -⟩ := _root_.id h
  have HM := Lib.hid h
  have HFW := Lib.hid hfew
  have HA := Lib.hid hA
  obtain ⟨N, hN⟩ : ∃ N, w.heap.size = N := ⟨_, rfl⟩
  have HN := Lib.hid hN
  rw [hN] at HA
  clear h hA hfew
  go_enter Try.func33, Try.ntmps33
  go_wp2_with fail
  go_loopw [5, 6] (fun v3 i W => RK1 (valsM key.data.toList) N w m v3 i W) (fun _ i _ => m.length - (iOf i).toNat)
  case atStart => exact ⟨0, rfl, Nat.zero_le _, Lib.hid (World.ownsRow_nil _ _ _ _), Lib.hid (Below.refl _ _)⟩
  case round =>
    obtain ⟨k, rfl, hk, hO, hW⟩ := hrel
    have hzr : N ≤ wr.heap.size := by have := hW.out.size; omega
    by_cases hlt : k < m.length
    · obtain ⟨s, hs⟩ : ∃ s, m[k]? = some s := ⟨_, List.getElem?_eq_getElem hlt⟩
      obtain ⟨g, fo, fc, rfl, hg, c1, c2, hF⟩ := HM.out.at hs
      rw [hN] at hg
      have HC2 := Lib.hid c2
      have HET : Hid ((valsM key.data.toList) (m.take (k + 1)) = (valsM key.data.toList) (m.take k) ++ valsF key.data.toList s.2) := Lib.hid (by rw [List.take_add_one, hs]; exact valsM_snoc _ _ _)
      have hbl := valsM_len (key := key.data.toList) (m := m.take k) (c := 1000) fun t ht => HFW.out t (List.mem_of_mem_take ht)
      rw [List.length_take] at hbl
      have hfx := HFW.out s (List.mem_of_getElem? hs)
      obtain ⟨base, hbase⟩ : ∃ base, (valsM key.data.toList) (m.take k) = base := ⟨_, rfl⟩
      rw [hbase] at HET hO hbl
      have hb9 : base.length ≤ 900000 := Nat.le_trans hbl (Nat.le_trans (Nat.mul_le_mul_right 1000 (show min k m.length ≤ 900 by omega)) (by decide))
      obtain ⟨sid, sf⟩ := s
      simp only at c2 HET hF hfx HC2
      obtain ⟨⟨fo', fc', hfv, hfl, hcs⟩, -⟩ := hF
      try simp only at hfl
      injection hfv with e1 e2 e3
      subst e1
      subst e3
      have HCS : Hid (∀ (j : Nat) (f : Fld), sf[j]? = some f → ∃ g o, fo = some ⟨g, o, none⟩ ∧ g < N ∧ w.cell? ⟨g, o + j * 2, none⟩ = some (.string ⟨f.key.toArray⟩) ∧ w.cell? ⟨g, o + j * 2 + 1, none⟩ = some (.string ⟨f.val.toArray⟩)) := Lib.hid fun j f hf => by
        obtain ⟨g, o, e, h1, h2⟩ := hcs j f hf
        exact ⟨g, o, e, by have := World.block_lt_of_cell? _ _ h1; rw [hN] at this; exact this, h1, h2⟩
      have hkz : (k : Int) < (m.length : Int) := by omega
      have x2 := (hW.out.cell (p := ⟨g, k * 2 + 1, none⟩) hg).trans HC2.out
      clear hs hbase hbl hcs c1 c2 e2 hk
      go_wp2_with fail
      go_loopw [5, 7] (fun v3 i W => RK2 (valsF key.data.toList) base N w sf v3 i W) (fun _ i _ => sf.length - (iOf i).toNat)
      case atStart => exact ⟨0, rfl, Nat.zero_le _, Lib.hid (by simpa [valsF] using hO.out), hW⟩
      case round =>
        clear hO hW hzr x2
        obtain ⟨j, rfl, hj, hO, hW⟩ := hrel
        have hzr : N ≤ wr.heap.size := by have := hW.out.size; have := HN.out; omega
        have x2 := (hW.out.cell (p := ⟨g, k * 2 + 1, none⟩) hg).trans HC2.out
        by_cases hjl : j < sf.length
        · obtain ⟨y, hy⟩ : ∃ y, sf[j]? = some y := ⟨_, List.getElem?_eq_getElem hjl⟩
          obtain ⟨gf, of, rfl, hgf, h1, h2⟩ := HCS.out j y hy
          have d1 := (hW.out.cell (p := ⟨gf, of + j * 2, none⟩) hgf).trans h1
          have d2 := (hW.out.cell (p := ⟨gf, of + j * 2 + 1, none⟩) hgf).trans h2
          have HE : Hid (valsF key.data.toList (sf.take (j + 1)) = valsF key.data.toList (sf.take j) ++ (if y.key = key.data.toList then [y.val] else [])) := Lib.hid (by rw [List.take_add_one, hy, Option.toList_some, valsF_snoc])
          have hal := addAllS_len (base ++ valsF key.data.toList (sf.take j))
          have hal2 := valsF_len key.data.toList (sf.take j)
          rw [List.length_append] at hal
          rw [List.length_take] at hal2
          have har := addAllS_rising (base ++ valsF key.data.toList (sf.take j))
          obtain ⟨yk, yv⟩ := y
          simp only at d1 d2 HE
          obtain ⟨tk, htk⟩ : ∃ tk : ByteArray, (⟨yk.toArray⟩ : ByteArray) = tk := ⟨_, rfl⟩
          obtain ⟨tv, htv⟩ : ∃ tv : ByteArray, (⟨yv.toArray⟩ : ByteArray) = tv := ⟨_, rfl⟩
          have hyk : yk = tk.data.toList := by rw [← htk]
          have hyv : yv = tv.data.toList := by rw [← htv]
          rw [htk] at d1
          rw [htv] at d2
          subst hyk
          subst hyv
          clear h1 h2 hy htk htv
          by_cases hfk : tk = key
          · subst hfk
            have heq0 : (tk.toList == tk.toList) = true := by simp
            have HE2 : Hid (addAllS (base ++ valsF tk.data.toList (sf.take (j + 1))) = rAdd tv.data.toList (addAllS (base ++ valsF tk.data.toList (sf.take j)))) := Lib.hid (by rw [HE.out, if_pos rfl, ← List.append_assoc, addAllS_snoc])
            obtain ⟨q, hq⟩ : ∃ q, addAllS (base ++ valsF tk.data.toList (sf.take j)) = q := ⟨_, rfl⟩
            rw [hq] at HE2 hO hal har
            have AD := Lib.hid (refAdd_any _ q tv wr (StrsAt.of hO.out) har (by omega))
            clear hq hal hal2 har hO HE
            go_wp2_with fail
            refine AD.out.mono ?_
            rintro e w2 ⟨u, rfl, hu, hb2⟩
            have HM8 : Hid (SOwn N w2 u (addAllS (base ++ valsF tk.data.toList (sf.take (j + 1))))) := Lib.hid (by rw [HE2.out]; exact own_low hu hzr)
            have HB8 : Hid (Below N w w2) := Lib.hid (hW.out.trans (hb2.mono hzr))
            clear hu hb2
            go_wp2_with fail
            exact ⟨⟨j + 1, by go_num, by omega, HM8, HB8⟩, by simp [iOf]; omega⟩
          · have hne : (tk.toList == key.toList) = false := by rw [beq_eq_false_iff_ne]; exact fun e => hfk (toListInj e)
            have HM8 : Hid (SOwn N wr u5 (addAllS (base ++ valsF key.data.toList (sf.take (j + 1))))) := Lib.hid (by rw [HE.out, if_neg (fun e => hfk (ba_ext e)), List.append_nil]; exact hO.out)
            clear hal hal2 har hO HE hfk
            go_wp2_with fail
            exact ⟨⟨j + 1, by go_num, by omega, HM8, hW⟩, by simp [iOf]; omega⟩
        · have ht : sf.take j = sf := List.take_of_length_le (by omega)
          have HM8 : Hid (SOwn N wr u5 (addAllS ((valsM key.data.toList) (m.take (k + 1))))) := Lib.hid (by rw [HET.out]; have := hO.out; rwa [ht] at this)
          clear ht hO
          go_wp2_with fail
          exact ⟨⟨k + 1, by go_num, by omega, HM8, hW⟩, by simp [iOf]; omega⟩
    · have ht : m.take k = m := List.take_of_length_le (by omega)
      have HM8 : Hid (SOwn N wr u5 (addAllS ((valsM key.data.toList) m))) := Lib.hid (by have := hO.out; rwa [ht] at this)
      clear hO ht
      go_wp2_with fail
      go_ret
      exact ⟨_, rfl, by rw [HN.out]; exact HM8.out, by rw [HN.out]; exact hW.out⟩
theorem cntF_snoc (k v : L8) (f : Fld) : ∀ fs, cntF k v (fs ++ [f]) = cntF k v fs + (if f.key = k ∧ f.val = v then 1 else 0)
  | [] => by simp [cntF]
  | g :: r => by
    rw [List.cons_append, cntF, cntF, cntF_snoc k v f r]; omega
theorem rCount_snoc (k v : L8) (s : Int × List Fld) : ∀ m, rCount k v (m ++ [s]) = rCount k v m + cntF k v s.2
  | [] => by simp [rCount]
  | t :: r => by
    rw [List.cons_append, rCount, rCount, rCount_snoc k v s r]; omega
theorem rCount_nonneg (k v : L8) : ∀ m, 0 ≤ rCount k v m
  | [] => Int.le_refl _
  | s :: r => by
    have := rCount_nonneg k v r
    have := cntF_nonneg k v s.2
    rw [rCount]; omega
theorem rCount_le (k v : L8) : ∀ m : Ms, (∀ s ∈ m, s.2.length ≤ 1000) → rCount k v m ≤ (m.length : Int) * 1000
  | [], _ => by simp [rCount]
  | s :: r, h => by
    have h1 := rCount_le k v r fun t ht => h t (by simp [ht])
    have h2 := cntF_le k v s.2
    have h3 := h s (by simp)
    rw [rCount, List.length_cons]; omega
def RC1 (k v : L8) (w : World) (m : Ms) (v7 i : Value) (wr : World) : Prop :=
  ∃ (n : Nat) (c : Int), i = .int .i64 n ∧ v7 = .int .i64 c ∧ c = rCount k v (m.take n) ∧ n ≤ m.length ∧ wr = w
def RC2 (k v : L8) (base : Int) (w : World) (fs : List Fld) (v7 i : Value) (wr : World) : Prop :=
  ∃ (j : Nat) (c : Int), i = .int .i64 j ∧ v7 = .int .i64 c ∧ c = base + cntF k v (fs.take j) ∧ j ≤ fs.length ∧ wr = w
set_option maxRecDepth 100000 in
set_option maxHeartbeats 6400000 in
theorem refCount_any (A : Nat → Prop) (v : Value) (m : Ms) (key val : ByteArray) (w : World) (h : MsIn A w v m) (hlen : m.length ≤ 900) (hfew : ∀ s ∈ m, s.2.length ≤ 1000) :
    Calls Try.prog 34 #[v, .string key, .string val] w fun e w' => e = .returned (.int .i64 (rCount key.data.toList val.data.toList m)) ∧ w' = w := by
  obtain ⟨ao, cp, rfl, -⟩ := _root_.id h
  have HM := Lib.hid h
  have HFW := Lib.hid hfew
  clear h hfew
  go_enter Try.func34, Try.ntmps34
  go_wp2
  go_loopw [7, 8] (fun v7 i W => RC1 key.data.toList val.data.toList w m v7 i W) (fun _ i _ => m.length - (iOf i).toNat)
  case atStart => exact ⟨0, 0, rfl, rfl, rfl, Nat.zero_le _, rfl⟩
  case round =>
    obtain ⟨k, c, rfl, rfl, hc, hk, hW⟩ := hrel
    subst hW
    by_cases hlt : k < m.length
    · obtain ⟨s, hs⟩ : ∃ s, m[k]? = some s := ⟨_, List.getElem?_eq_getElem hlt⟩
      obtain ⟨g, fo, fc, rfl, hg, c1, c2, hF⟩ := HM.out.at hs
      have HET : Hid (rCount key.data.toList val.data.toList (m.take (k + 1)) = c + cntF key.data.toList val.data.toList s.2) := Lib.hid (by rw [List.take_add_one, hs, hc]; exact rCount_snoc _ _ _ _)
      have hb1 := rCount_nonneg key.data.toList val.data.toList (m.take k)
      have hb2 := rCount_le key.data.toList val.data.toList (m.take k) fun t ht => HFW.out t (List.mem_of_mem_take ht)
      rw [List.length_take] at hb2
      have hc9 : 0 ≤ c ∧ c ≤ 900000 := by rw [hc]; omega
      have hfx := HFW.out s (List.mem_of_getElem? hs)
      obtain ⟨sid, sf⟩ := s
      simp only at c2 HET hF hfx
      obtain ⟨⟨fo', fc', hfv, hfl, hcs⟩, -⟩ := hF
      try simp only at hfl
      injection hfv with e1 e2 e3
      subst e1
      subst e3
      have HCS := Lib.hid hcs
      have hkz : (k : Int) < (m.length : Int) := by omega
      clear hs hcs c1 e2 hk hb1 hb2 hc
      go_wp2
      go_loopw [7, 9] (fun v7 i W => RC2 key.data.toList val.data.toList c wr sf v7 i W) (fun _ i _ => sf.length - (iOf i).toNat)
      case atStart => exact ⟨0, c, rfl, rfl, by simp [cntF], Nat.zero_le _, rfl⟩
      case round =>
        obtain ⟨j, d, rfl, rfl, hd, hj, hW⟩ := hrel
        subst hW
        by_cases hjl : j < sf.length
        · obtain ⟨y, hy⟩ : ∃ y, sf[j]? = some y := ⟨_, List.getElem?_eq_getElem hjl⟩
          obtain ⟨gf, of, rfl, d1, d2⟩ := HCS.out j y hy
          have HE : Hid (c + cntF key.data.toList val.data.toList (sf.take (j + 1)) = d + (if y.key = key.data.toList ∧ y.val = val.data.toList then 1 else 0)) := Lib.hid (by rw [List.take_add_one, hy, Option.toList_some, cntF_snoc, hd]; omega)
          have hn1 := cntF_nonneg key.data.toList val.data.toList (sf.take j)
          have hn2 := cntF_le key.data.toList val.data.toList (sf.take j)
          rw [List.length_take] at hn2
          have hd9 : 0 ≤ d ∧ d ≤ 1000000 := by rw [hd]; omega
          obtain ⟨yk, yv⟩ := y
          simp only at d1 d2 HE
          obtain ⟨tk, htk⟩ : ∃ tk : ByteArray, (⟨yk.toArray⟩ : ByteArray) = tk := ⟨_, rfl⟩
          obtain ⟨tv, htv⟩ : ∃ tv : ByteArray, (⟨yv.toArray⟩ : ByteArray) = tv := ⟨_, rfl⟩
          have hyk : yk = tk.data.toList := by rw [← htk]
          have hyv : yv = tv.data.toList := by rw [← htv]
          rw [htk] at d1
          rw [htv] at d2
          subst hyk
          subst hyv
          clear hy htk htv hn1 hn2 hd
          by_cases hfk : tk = key
          · subst hfk
            have heq0 : (tk.toList == tk.toList) = true := by simp
            by_cases hfv : tv = val
            · subst hfv
              have heq1 : (tv.toList == tv.toList) = true := by simp
              have HE2 : Hid (c + cntF tk.data.toList tv.data.toList (sf.take (j + 1)) = d + 1) := Lib.hid (by rw [HE.out, if_pos ⟨rfl, rfl⟩])
              clear HE
              go_wp2
              exact ⟨⟨j + 1, d + 1, by go_num, by go_num, HE2.out.symm, by omega, rfl⟩, by simp [iOf]; omega⟩
            · have hne : (tv.toList == val.toList) = false := by rw [beq_eq_false_iff_ne]; exact fun e => hfv (toListInj e)
              have HE2 : Hid (c + cntF tk.data.toList val.data.toList (sf.take (j + 1)) = d) := Lib.hid (by rw [HE.out, if_neg (fun e => hfv (ba_ext e.2))]; omega)
              clear HE hfv
              go_wp2
              exact ⟨⟨j + 1, d, by go_num, rfl, HE2.out.symm, by omega, rfl⟩, by simp [iOf]; omega⟩
          · have hne : (tk.toList == key.toList) = false := by rw [beq_eq_false_iff_ne]; exact fun e => hfk (toListInj e)
            have HE2 : Hid (c + cntF key.data.toList val.data.toList (sf.take (j + 1)) = d) := Lib.hid (by rw [HE.out, if_neg (fun e => hfk (ba_ext e.1))]; omega)
            clear HE hfk
            go_wp2
            exact ⟨⟨j + 1, d, by go_num, rfl, HE2.out.symm, by omega, rfl⟩, by simp [iOf]; omega⟩
        · have ht : sf.take j = sf := List.take_of_length_le (by omega)
          rw [ht] at hd
          have HD : Hid (d = rCount key.data.toList val.data.toList (m.take (k + 1))) := Lib.hid (hd.trans HET.out.symm)
          clear ht hd
          go_wp2
          exact ⟨⟨k + 1, d, by go_num, rfl, HD.out, by omega, rfl⟩, by simp [iOf]; omega⟩
    · have ht : m.take k = m := List.take_of_length_le (by omega)
      rw [ht] at hc
      subst hc
      clear ht
      go_wp2
      go_ret
      exact ⟨rfl, rfl⟩
end Go.Proofs.Ytmdofcpigknaoaa.I
