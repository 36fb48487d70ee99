/- The reference's Keys, Values, Count, walked. -/
import Derived.Test.YtmdofcpigknaoaaIRefDrop
namespace Go.Proofs.Ytmdofcpigknaoaa.I
open Go Go.Maps Go.Proofs Go.RowKit Go.Sort

theorem keysM_snoc (m : Ms) (s : Int × List Fld) : keysM (m ++ [s]) = keysM m ++ keysF s.2 := by simp [keysM]
theorem valsM_snoc (key : L8) (m : Ms) (s : Int × List Fld) : valsM key (m ++ [s]) = valsM key m ++ valsF key s.2 := by simp [valsM]
theorem keysF_snoc (l : List Fld) (f : Fld) : keysF (l ++ [f]) = keysF l ++ [f.key] := by simp [keysF]
theorem valsF_snoc (key : L8) (l : List Fld) (f : Fld) : valsF key (l ++ [f]) = valsF key l ++ (if f.key = key then [f.val] else []) := by
  unfold valsF
  rw [List.filter_append, List.map_append]
  by_cases h : f.key = key <;> simp [h]
theorem keysF_len (l : List Fld) : (keysF l).length = l.length := by simp [keysF]
theorem valsF_len (key : L8) (l : List Fld) : (valsF key l).length ≤ l.length := by unfold valsF; rw [List.length_map]; exact List.length_filter_le _ _
theorem keysM_len {m : Ms} {c : Nat} (h : ∀ s ∈ m, s.2.length ≤ c) : (keysM m).length ≤ m.length * c := by
  induction m with
  | nil => simp [keysM]
  | cons s r ih =>
    have h1 := h s (by simp)
    have h2 := ih fun t ht => h t (by simp [ht])
    have e : keysM (s :: r) = keysF s.2 ++ keysM r := by simp [keysM]
    rw [e, List.length_append, keysF_len, List.length_cons, Nat.add_mul]
    omega
theorem valsM_len {key : L8} {m : Ms} {c : Nat} (h : ∀ s ∈ m, s.2.length ≤ c) : (valsM key m).length ≤ m.length * c := by
  induction m with
  | nil => simp [valsM]
  | cons s r ih =>
    have h1 := h s (by simp)
    have h2 := ih fun t ht => h t (by simp [ht])
    have h3 := valsF_len key s.2
    have e : valsM key (s :: r) = valsF key s.2 ++ valsM key r := by simp [valsM]
    rw [e, List.length_append, List.length_cons, Nat.add_mul]
    omega
theorem toListInj {a b : ByteArray} (h : a.toList = b.toList) : a = b := ba_ext (by rw [Lib.toList_data, Lib.toList_data] at h; exact h)
def RK1 (ks : Ms → List L8) (N : Nat) (w : World) (m : Ms) (v3 i : Value) (wr : World) : Prop :=
  ∃ k : Nat, i = .int .i64 k ∧ k ≤ m.length ∧ Hid (SOwn N wr v3 (addAllS (ks (m.take k)))) ∧ Hid (Below N w wr)
def RK2 (kf : List Fld → List L8) (base : List L8) (N : Nat) (w : World) (fs : List Fld) (v3 i : Value) (wr : World) : Prop :=
  ∃ j : Nat, i = .int .i64 j ∧ j ≤ fs.length ∧ Hid (SOwn N wr v3 (addAllS (base ++ kf (fs.take j)))) ∧ Hid (Below N w wr)
set_option maxRecDepth 100000 in
set_option maxHeartbeats 6400000 in
theorem refKeys_any (A : Nat → Prop) (v : Value) (m : Ms) (w : World) (hA : ∀ b, A b → b < w.heap.size) (h : MsIn A w v m) (hlen : m.length ≤ 900) (hfew : ∀ s ∈ m, s.2.length ≤ 1000) :
    Calls Try.prog 32 #[v] w fun e w' => ∃ u, e = .returned u ∧ SOwn w.heap.size w' u (addAllS (keysM m)) ∧ Below w.heap.size w w' := by
  obtain ⟨ao, cp, rfl, -⟩ := _root_.id h
  have HM := Lib.hid h
  have HFW := Lib.hid hfew
  have HA := Lib.hid hA
  obtain ⟨N, hN⟩ : ∃ N, w.heap.size = N := ⟨_, rfl⟩
  have HN := Lib.hid hN
  rw [hN] at HA
  clear h hA hfew
  go_enter Try.func32, Try.ntmps32
  go_wp2_with fail
  go_loopw [3, 4] (fun v3 i W => RK1 keysM N w m v3 i W) (fun _ i _ => m.length - (iOf i).toNat)
  case atStart => exact ⟨0, rfl, Nat.zero_le _, Lib.hid (World.ownsRow_nil _ _ _ _), Lib.hid (Below.refl _ _)⟩
  case round =>
    obtain ⟨k, rfl, hk, hO, hW⟩ := hrel
    have hzr : N ≤ wr.heap.size := by have := hW.out.size; omega
    by_cases hlt : k < m.length
    · obtain ⟨s, hs⟩ : ∃ s, m[k]? = some s := ⟨_, List.getElem?_eq_getElem hlt⟩
      obtain ⟨g, fo, fc, rfl, hg, c1, c2, hF⟩ := HM.out.at hs
      rw [hN] at hg
      have HC2 := Lib.hid c2
      have HET : Hid (keysM (m.take (k + 1)) = keysM (m.take k) ++ keysF s.2) := Lib.hid (by rw [List.take_add_one, hs]; exact keysM_snoc _ _)
      have hbl := keysM_len (m := m.take k) (c := 1000) fun t ht => HFW.out t (List.mem_of_mem_take ht)
      rw [List.length_take] at hbl
      have hfx := HFW.out s (List.mem_of_getElem? hs)
      obtain ⟨base, hbase⟩ : ∃ base, keysM (m.take k) = base := ⟨_, rfl⟩
      rw [hbase] at HET hO hbl
      have hb9 : base.length ≤ 900000 := Nat.le_trans hbl (Nat.le_trans (Nat.mul_le_mul_right 1000 (show min k m.length ≤ 900 by omega)) (by decide))
      obtain ⟨sid, sf⟩ := s
      simp only at c2 HET hF hfx HC2
      obtain ⟨⟨fo', fc', hfv, hfl, hcs⟩, -⟩ := hF
      try simp only at hfl
      injection hfv with e1 e2 e3
      subst e1
      subst e3
      have HCS : Hid (∀ (j : Nat) (f : Fld), sf[j]? = some f → ∃ g o, fo = some ⟨g, o, none⟩ ∧ g < N ∧ w.cell? ⟨g, o + j * 2, none⟩ = some (.string ⟨f.key.toArray⟩)) := Lib.hid fun j f hf => by
        obtain ⟨g, o, e, h1, -⟩ := hcs j f hf
        exact ⟨g, o, e, by have := World.block_lt_of_cell? _ _ h1; rw [hN] at this; exact this, h1⟩
      have hkz : (k : Int) < (m.length : Int) := by omega
      have x2 := (hW.out.cell (p := ⟨g, k * 2 + 1, none⟩) hg).trans HC2.out
      clear hs hbase hbl hcs c1 c2 e2 hk
      go_wp2_with fail
      go_loopw [3, 5] (fun v3 i W => RK2 keysF base N w sf v3 i W) (fun _ i _ => sf.length - (iOf i).toNat)
      case atStart => exact ⟨0, rfl, Nat.zero_le _, Lib.hid (by simpa [keysF] using hO.out), hW⟩
      case round =>
        clear hO hW hzr x2
        obtain ⟨j, rfl, hj, hO, hW⟩ := hrel
        have hzr : N ≤ wr.heap.size := by have := hW.out.size; have := HN.out; omega
        have x2 := (hW.out.cell (p := ⟨g, k * 2 + 1, none⟩) hg).trans HC2.out
        by_cases hjl : j < sf.length
        · obtain ⟨y, hy⟩ : ∃ y, sf[j]? = some y := ⟨_, List.getElem?_eq_getElem hjl⟩
          obtain ⟨gf, of, rfl, hgf, h1⟩ := HCS.out j y hy
          have d1 := (hW.out.cell (p := ⟨gf, of + j * 2, none⟩) hgf).trans h1
          have HE : Hid (addAllS (base ++ keysF (sf.take (j + 1))) = rAdd y.key (addAllS (base ++ keysF (sf.take j)))) := Lib.hid (by rw [List.take_add_one, hy, Option.toList_some, keysF_snoc, ← List.append_assoc, addAllS_snoc])
          have hal := addAllS_len (base ++ keysF (sf.take j))
          rw [List.length_append, keysF_len, List.length_take] at hal
          have har := addAllS_rising (base ++ keysF (sf.take j))
          obtain ⟨q, hq⟩ : ∃ q, addAllS (base ++ keysF (sf.take j)) = q := ⟨_, rfl⟩
          rw [hq] at HE hO hal har
          obtain ⟨tk, htk⟩ : ∃ tk : ByteArray, (⟨y.key.toArray⟩ : ByteArray) = tk := ⟨_, rfl⟩
          have hyk : y.key = tk.data.toList := by rw [← htk]
          rw [htk] at d1
          rw [hyk] at HE
          have AD := Lib.hid (refAdd_any _ q tk wr (StrsAt.of hO.out) har (by omega))
          clear h1 hy htk hyk hq hal har hO
          go_wp2_with fail
          refine AD.out.mono ?_
          rintro e w2 ⟨u, rfl, hu, hb2⟩
          have HM8 : Hid (SOwn N w2 u (addAllS (base ++ keysF (sf.take (j + 1))))) := Lib.hid (by rw [HE.out]; exact own_low hu hzr)
          have HB8 : Hid (Below N w w2) := Lib.hid (hW.out.trans (hb2.mono hzr))
          clear hu hb2
          go_wp2_with fail
          exact ⟨⟨j + 1, by go_num, by omega, HM8, HB8⟩, by simp [iOf]; omega⟩
        · have ht : sf.take j = sf := List.take_of_length_le (by omega)
          have HM8 : Hid (SOwn N wr u3 (addAllS (keysM (m.take (k + 1))))) := Lib.hid (by rw [HET.out]; have := hO.out; rwa [ht] at this)
          clear ht hO
          go_wp2_with fail
          exact ⟨⟨k + 1, by go_num, by omega, HM8, hW⟩, by simp [iOf]; omega⟩
    · have ht : m.take k = m := List.take_of_length_le (by omega)
      have HM8 : Hid (SOwn N wr u3 (addAllS (keysM m))) := Lib.hid (by have := hO.out; rwa [ht] at this)
      clear hO ht
      go_wp2_with fail
      go_ret
      exact ⟨_, rfl, by rw [HN.out]; exact HM8.out, by rw [HN.out]; exact hW.out⟩
end Go.Proofs.Ytmdofcpigknaoaa.I
