/- The reference's parser: stanzakeepref05.Parse. -/
import Derived.Test.YtjbnjlkoipkpoaaGreatDoorTRefSt
import Derived.Test.YtjbnjlkoipkpoaaGreatDoorBList
import Derived.Test.YtjbnjlkoipkpoaaGreatDoorTLines
import Derived.Deep.RegionHeld3
import Derived.Deep.DrawnRows
import Derived.BigRegion
import Derived.Deep.DeepCutAuto
namespace Go.Proofs.YtjbnjlkoipkpoaaGreatDoor.B
open Go.RowKit Go.Shelf
open Go.Proofs.YtjbnjlkoipkpoaaGreatDoor.T
attribute [local go_sem ↓] Go.wp_at_zero Go.wp_at_succ

def ItemsR (C : Nat) (w : World) (v : Value) (xs : List It) (vs : List Value) : Prop :=
  w.ownsRow C 111 3 v xs.length (itemCells xs vs) ∧ vs.length = xs.length ∧ ∀ (i : Nat) (u : Value) (x : It), vs[i]? = some u → xs[i]? = some x → FdR C w u x.fields
def RefPost (t : List UInt8) (w : World) (e : Ending) (w' : World) : Prop :=
  if (parse t).err = 0 then ∃ v vs, e = .returned (.tuple #[v, .int .i64 (-9), .int .i64 0]) ∧ ItemsR w.heap.size w' v (parse t).st.items vs ∧ Below w.heap.size w w'
  else ∃ (i : Int) (n : Nat), e = .returned (.tuple #[.slice none 0 0, .int .i64 i, .int .i64 n]) ∧ n ≠ 0 ∧ n ≤ 100 ∧ Below w.heap.size w w'
theorem mass_sum : ∀ xs : List LineD, massOf (xs.map (·.text)) = lineSum xs
  | [] => rfl
  | x :: t => by rw [List.map_cons, massOf_cons, mass_sum t]; simp [lineSum]
theorem linesMass (s : ByteArray) : massOf ((splitL s.data.toList).map (·.text)) ≤ s.size + 1 := by
  rw [mass_sum, Lib.size_eq]
  exact splitL_sum _
theorem drop_cons {xs : List LineD} {k : Nat} {x : LineD} (h : xs[k]? = some x) : xs.drop k = x :: xs.drop (k + 1) := by
  have h1 := (List.getElem?_eq_some_iff.1 h).1
  rw [List.drop_eq_getElem_cons h1]
  rw [List.getElem?_eq_getElem h1] at h
  injection h with h
  rw [h]
theorem mass_take_succ {xs : List LineD} {k : Nat} {x : LineD} (h : xs[k]? = some x) : massOf ((xs.take (k + 1)).map (·.text)) = massOf ((xs.take k).map (·.text)) + (x.text.length + 1) := by
  rw [List.take_add_one, h]
  simp only [Option.toList_some, List.map_append, List.map_cons, List.map_nil]
  exact massOf_snoc _ _
theorem set3 {W : World} {N : Nat} {cs : Array Value} (h : W.heap[N]? = some (.cells cs 111 (0, 0))) (hs : cs.size = 3) (a b c : Value) :
    (((W.setCell ⟨N, 0, none⟩ a).setCell ⟨N, 1, none⟩ b).setCell ⟨N, 2, none⟩ c).heap[N]? = some (.cells #[a, b, c] 111 (0, 0)) ∧ (∀ k, k ≠ N → (((W.setCell ⟨N, 0, none⟩ a).setCell ⟨N, 1, none⟩ b).setCell ⟨N, 2, none⟩ c).heap[k]? = W.heap[k]?) := by
  match cs, hs with
  | ⟨[u, v, z]⟩, _ =>
    refine ⟨by simp [World.setCell, Array.getElem?_modify, h], fun k hk => ?_⟩
    exact ((Below.heap_setCell _ _ _ _ hk).trans (Below.heap_setCell _ _ _ _ hk)).trans (Below.heap_setCell _ _ _ _ hk)
theorem beh_next {xs : List LineD} {k : Nat} {x : LineD} (h : xs[k]? = some x) : behB (kindsOf xs) (k + 1) = isPart (kindOf x.text) := by
  show isPart ((kindsOf xs).getD k 0) = _
  simp [kindsOf_get h]
def KRel (w2 : World) (xs : List LineD) (v i : Value) (wr : World) : Prop :=
  ∃ k : Nat, i = .int .i64 k ∧ k ≤ xs.length ∧ Hid (NumsAt w2.heap.size wr v (kindsOf (xs.take k))) ∧ Hid (Below w2.heap.size w2 wr)
def PRelR (N : Nat) (w1 : World) (xs : List LineD) (vo rc i : Value) (wr : World) : Prop :=
  ∃ (k : Nat) (s : Rs) (vf : Value) (vs : List Value), i = .int .i64 k ∧ k ≤ xs.length ∧ rc = .int .i64 s.records ∧ s.records ≤ k ∧ s.fields.length ≤ k ∧ s.out.length ≤ 2 * k ∧ s.raw.length ≤ massOf ((xs.take k).map (·.text)) ∧
    Hid (RefSt N wr s vo vf vs) ∧ Hid (rpar false Rs.zero xs = rpar (behB (kindsOf xs) k) s (xs.drop k)) ∧ Hid (Below N w1 wr)
def AtNormal (R : Act → World → Prop) : Exit → Act → World → Prop
  | .normal, a, w => R a w
  | _, _, _ => False
/-- A region is cut around that is the last of its sequence: eight slots are forgotten. -/
theorem wp_cut8 {P : Program} {c : Code} {Q : Exit → Act → World → Prop} {a : Act} {w : World} (m0 m1 m2 m3 m4 m5 m6 m7 : Nat) (J : World → Prop)
    (first : ∀ R : Act → World → Prop, (∀ u0 u1 u2 u3 u4 u5 u6 u7 w', J w' → R ((((((((a.put (some m0) u0).put (some m1) u1).put (some m2) u2).put (some m3) u3).put (some m4) u4).put (some m5) u5).put (some m6) u6).put (some m7) u7) w') → c.wp P (AtNormal R) a w)
    (rest : ∀ u0 u1 u2 u3 u4 u5 u6 u7 w', J w' → Q .normal ((((((((a.put (some m0) u0).put (some m1) u1).put (some m2) u2).put (some m3) u3).put (some m4) u4).put (some m5) u5).put (some m6) u6).put (some m7) u7) w') : c.wp P Q a w :=
  wp_mono (first (fun a' w' => Q .normal a' w') rest) fun e a' w' h => by cases e <;> first | exact h | exact h.elim
theorem below_grown_dw {B : Nat} {w X w' : World} {row : Option Nat} (hg : X.drew.grownBy w' row) (hb : Below B w X) (hB : B ≤ X.heap.size) (hr : ∀ k, row = some k → B ≤ k) : Below B w w' := below_grown_dn (Y := X.drew) hb rfl rfl rfl rfl hg hB hr
theorem below_grown_w {B : Nat} {w X w' : World} {row : Option Nat} (hg : X.grownBy w' row) (hb : Below B w X) (hB : B ≤ X.heap.size) (hr : ∀ k, row = some k → B ≤ k) : Below B w w' := below_grown_dn (Y := X) hb rfl rfl rfl rfl hg hB hr
def PushQ (N : Nat) (w10 : World) (n : Nat) (xs : List Value) (wx : World) : Prop := ∃ v wz, wx = World.setCell wz ⟨N, 2, none⟩ v ∧ Below w10.heap.size w10 wz ∧ wz.ownsRow w10.heap.size 95 2 v n xs
set_option maxRecDepth 100000 in
set_option maxHeartbeats 12800000 in
theorem refParse_any (s : ByteArray) (hs : s.size ≤ 60000) (w : World) : Calls Tryz.prog 61 #[.string s] w (RefPost s.data.toList w) := by
  obtain ⟨i0, hi0, hz0, hz1, hz2⟩ := info_parts infoI
  obtain ⟨j0, hj0, hy0, hy1, hy2⟩ := info_parts infoIt
  obtain ⟨l0, hl0, hx0, hx1, hx2⟩ := info_parts infoFd
  have SP := Lib.hid (refSplit s (by omega) w)
  have hmass0 := linesMass s
  have hlen0 : (splitL s.data.toList).length ≤ 60001 := by
    have h1 := massOf_len ((splitL s.data.toList).map (·.text))
    rw [List.length_map] at h1
    omega
  obtain ⟨R, hR⟩ : ∃ R, RefPost s.data.toList w = R := ⟨_, rfl⟩
  have HOK : Hid (∀ e w', (parse s.data.toList).err = 0 → (∃ v vs, e = .returned (.tuple #[v, .int .i64 (-9), .int .i64 0]) ∧ ItemsR w.heap.size w' v (parse s.data.toList).st.items vs ∧ Below w.heap.size w w') → R e w') := Lib.hid fun e w' h1 h2 => by rw [← hR]; unfold RefPost; rw [if_pos h1]; exact h2
  have HNO : Hid (∀ e w', (parse s.data.toList).err ≠ 0 → (∃ (i : Int) (n : Nat), e = .returned (.tuple #[.slice none 0 0, .int .i64 i, .int .i64 n]) ∧ n ≠ 0 ∧ n ≤ 100 ∧ Below w.heap.size w w') → R e w') := Lib.hid fun e w' h1 h2 => by rw [← hR]; unfold RefPost; rw [if_neg h1]; exact h2
  have HPP := Lib.hid (rpar_parse s.data.toList)
  rw [hR]
  obtain ⟨xs, hxs⟩ : ∃ xs, splitL s.data.toList = xs := ⟨_, rfl⟩
  rw [hxs] at SP hmass0 hlen0 HPP
  have hmass : massOf (xs.map (·.text)) ≤ 200000 := by omega
  clear hR hxs hmass0
  go_enter Tryz.func61, Tryz.ntmps61
  go_wp2_with fail
  refine SP.out.mono ?_
  rintro e w2 ⟨vl, rfl, hL, hb2⟩
  have HL := Lib.hid (LinesAt.row hL)
  obtain ⟨lo, lc, hvl⟩ := own_shape hL
  subst hvl
  have HB2 := Lib.hid hb2
  clear hL hb2 SP
  have K0 : KRel w2 xs (.slice none 0 0) (.int .i64 (0 : Nat)) w2 := ⟨0, rfl, Nat.zero_le _, Lib.hid (NumsAt.nil _ _), Lib.hid (Below.refl _ _)⟩
  have HK0 := Lib.hid K0
  clear K0
  go_wp2
  go_loopw [6, 7] (fun v i wr => KRel w2 xs v i wr) (fun _ i _ => xs.length - (intOf i).toNat)
  case atStart => exact HK0.out
  case round =>
    clear HK0
    obtain ⟨k, rfl, hk, hN, hW⟩ := hrel
    by_cases hlt : k < xs.length
    · obtain ⟨x, hx⟩ : ∃ x, xs[k]? = some x := ⟨_, List.getElem?_eq_getElem hlt⟩
      obtain ⟨lo', lc', hv, hL⟩ := HL.out
      injection hv with hv1 hv2 hv3
      subst hv1
      obtain ⟨g, rfl, hg, h2, -⟩ := hL k x hx
      have c2 := (hW.out.cell (p := ⟨g, k * 4 + 2, none⟩) hg).trans h2
      have hml := massOf_mem (ls := xs.map (·.text)) (s := x.text) (List.mem_map_of_mem (List.mem_of_getElem? hx))
      obtain ⟨tx, htx⟩ : ∃ tx : ByteArray, (⟨x.text.toArray⟩ : ByteArray) = tx := ⟨_, rfl⟩
      have htd : tx.data.toList = x.text := by rw [← htx]
      have hts : tx.size ≤ 200000 := by rw [Lib.size_eq, htd]; omega
      rw [htx] at c2
      have KD := Lib.hid (fun w' => by have := refKind tx (by omega) w'; rw [htd] at this; exact this)
      obtain ⟨K, hK⟩ : ∃ K, kindOf x.text = K := ⟨_, rfl⟩
      rw [hK] at KD
      have E1 : Hid (kindsOf (xs.take (k + 1)) = kindsOf (xs.take k) ++ [K]) := Lib.hid (by rw [List.take_add_one, hx, ← hK]; simp [kindsOf])
      have hN3 : NumsAt w2.heap.size wr u6 (kindsOf (xs.take k)) := hN.out
      have hkl : (kindsOf (xs.take k)).length = k := by rw [kindsOf_len, List.length_take]; omega
      obtain ⟨ws, hws⟩ : ∃ ws, kindsOf (xs.take k) = ws := ⟨_, rfl⟩
      rw [hws] at hN3 hkl E1
      obtain ⟨vo, vc, hvs⟩ := hN3.shape
      subst hvs
      have HN3 := Lib.hid hN3
      have hwl : ws.length ≤ k := by omega
      have hzr := hW.out.size
      have HO := Lib.hid (fun n => World.ownsRow.alloc (w := wr.drewN n) HN3.out (.cells #[.int .i64 K] 3))
      clear hx hL h2 hv2 hv3 htx htd hK hws hN3 hN hkl hml
      go_wp2_with (first | (go_at_call 103; refine (KD.out _).mono ?_; rintro e w' ⟨rfl, nd, rfl⟩) | (at_builtin; refine wpList_append_lies _ rfl _ _ _ rfl w2.heap.size 3 i0 _ 1 8 Tryz.underlying68 hi0 hz0 hz1 hz2 rfl (by omega) (.slice vo ws.length vc) ws.length (nums ws) rfl (HO.out _) ⟨wr.heap.size, 0, none⟩ 1 1 [.int .i64 K] rfl rfl (World.news_of_block (cs := #[.int .i64 K]) (heap_alloc_new (wr.drewN nd) _)) (by simp [Value.oneCell']) (by omega) (by unfold maxLen; omega) (by omega) (by simp; omega) _ rfl ?_; refine Hid.out ?_))
      refine Lib.hid ?_
      intro gg cap w8 hown8 hgrow hat hlt8
      have hb0 := (below_dn hW.out nd).alloc (by show w2.heap.size ≤ wr.heap.size; exact hzr) (.cells #[.int .i64 K] 3)
      have HB8 := Lib.hid (hb0.grown hgrow hb0.size (fun q hq => (World.ownsRow.lt HN3.out q hq).1))
      have hN8 : NumsAt w2.heap.size w8 (.slice (some ⟨gg, 0, none⟩) (ws.length + 1) cap) (ws ++ [K]) := by
        have e1 : nums (ws ++ [K]) = nums ws ++ [.int .i64 K] := by simp [nums]
        unfold NumsAt
        rw [e1, List.length_append]
        exact hown8
      have HN8 := Lib.hid hN8
      clear hown8 hgrow hat hb0 hN8
      go_wp2
      refine ⟨⟨k + 1, by go_num, by omega, ?_, HB8⟩, by simp [intOf]; omega⟩
      rw [E1.out]
      exact HN8
    · have hN3 : NumsAt w2.heap.size wr u6 (kindsOf (xs.take k)) := hN.out
      rw [List.take_of_length_le (by omega)] at hN3
      obtain ⟨ko, kc, hks⟩ := hN3.shape
      rw [kindsOf_len] at hks
      have hzr := hW.out.size
      have HIK := Lib.hid hN3.ints
      have HLW := Lib.hid ((HL.out.below hW.out (Nat.le_refl _)).up hzr)
      have HBW := Lib.hid (HB2.out.trans (hW.out.mono HB2.out.size))
      have hzw := HBW.out.size
      subst hks
      clear hN hN3 HL HB2 hW
      obtain ⟨w1, rfl⟩ : ∃ w1 : World, w1 = wr := ⟨_, rfl⟩
      obtain ⟨N, hN⟩ : ∃ N, w1.heap.size = N := ⟨_, rfl⟩
      rw [hN] at HIK HLW
      have R0 : PRelR N w1 xs (.slice none 0 0) (.int .i64 (0 : Nat)) (.int .i64 (0 : Nat)) (w1.alloc (.cells #[.int .i64 2, .string ⟨#[]⟩, .slice none 0 0] 111)) := by
        refine ⟨0, Rs.zero, .slice none 0 0, [], rfl, Nat.zero_le _, rfl, Nat.le_refl _, Nat.le_refl _, Nat.le_refl _, Nat.zero_le _, Lib.hid ?_, Lib.hid rfl, Lib.hid (hN ▸ below_grow1 w1 _)⟩
        exact ⟨by rw [← hN]; exact heap_alloc_new w1 _, World.ownsRow_nil _ _ _ _, rfl, fun i u x h _ => by simp at h, FdR.nil _ _, fun _ => rfl⟩
      have HR0 := Lib.hid R0
      have HNN := Lib.hid hN
      clear R0
      go_wp2
      try rw [hN]
      clear hN
      go_loopw [8, 10, 11] (fun vo rc i W => PRelR N w1 xs vo rc i W) (fun _ _ i _ => xs.length - (intOf i).toNat)
      case atStart => exact HR0.out
      case round =>
        clear HR0
        obtain ⟨k, st, vf, vs, rfl, hk, rfl, hrk, hfk, hok, hraw, hS, hP, hW⟩ := hrel
        have hNr : N ≤ wr.heap.size := HNN.out ▸ hW.out.size
        obtain ⟨vo, hvo⟩ : ∃ vo, u8 = vo := ⟨_, rfl⟩
        subst hvo
        by_cases hlt : k < xs.length
        · obtain ⟨x, hx⟩ : ∃ x, xs[k]? = some x := ⟨_, List.getElem?_eq_getElem hlt⟩
          have hLr := (HLW.out.below hW.out (Nat.le_refl _))
          have hKr := (HIK.out.below hW.out (Nat.le_refl _))
          have WC0 := wrong_any _ _ xs k x st.fields.length st.records wr (hLr.up hNr) (hKr.up hNr) hx (by omega) hmass (by omega) (by omega)
          have hPx := hP.out
          rw [drop_cons hx, rpar_cons, wrongN_eq] at hPx
          obtain ⟨wn, hwn⟩ : ∃ wn, wrongAt (behB (kindsOf xs) k) st.fields.length st.records x (xs.drop (k + 1)) = wn := ⟨_, rfl⟩
          rw [hwn] at WC0 hPx
          have hwn100 : wn ≤ 100 := by
            rw [← hwn]
            unfold wrongAt
            repeat' split
            all_goals first | omega | (rename_i h4 h5; rcases unf_is x (xs.drop (k + 1)) (by simpa using h4) with ⟨_, h6, _⟩ | ⟨_, h6, _⟩ <;> omega)
          have hU0 : wn = 0 → kindOf x.text = 4 → unfoldN (saidL x (xs.drop (k + 1))) = 0 := fun h1 h4 => by
            rw [← hwn] at h1
            unfold wrongAt at h1
            split at h1
            · cases h1
            · split at h1
              · rename_i h5; exact absurd h4 h5
              · split at h1
                · rename_i h5; exact absurd h1 h5
                · rename_i h5; simpa using h5
          have HU00 := Lib.hid hU0
          have WC := Lib.hid WC0
          obtain ⟨fo, fc, hvf⟩ := hS.out.fld.shape
          have c2 : wr.cell? ⟨N, 2, none⟩ = some (.slice fo st.fields.length fc) := by rw [← hvf]; simp [World.cell?, hS.out.now, nowC]
          have HX := Lib.hid hx
          have HLR := Lib.hid hLr
          have HKR := Lib.hid hKr
          clear WC0 hwn hx hLr hKr hU0
          have hNl : N < wr.heap.size := (Array.getElem?_eq_some_iff.1 hS.out.now).1
          go_wp2_with fail
          refine WC.out.mono ?_
          rintro e w5 ⟨rfl, hb5⟩
          have hS5 := hS.out.below hb5
          have hW5 := hW.out.trans (hb5.mono hNr)
          have hN5 : N ≤ w5.heap.size := Nat.le_trans hNr hb5.size
          by_cases hw0 : wn = 0
          · subst hw0
            have HU0 := Lib.hid (HU00.out rfl)
            rw [if_neg (by simp)] at hPx
            obtain ⟨lo', lc', hv, hL⟩ := HLR.out
            injection hv with hv1 hv2 hv3
            subst hv1
            obtain ⟨g, rfl, hg, h2, h3⟩ := hL k x HX.out
            obtain ⟨ko', kc', hv, hK⟩ := HKR.out
            injection hv with hv1 hv4 hv5
            subst hv1
            obtain ⟨ka, rfl, hka, h4⟩ := hK k _ (kindsOf_get HX.out)
            have d2 := (hb5.cell (p := ⟨g, k * 4 + 2, none⟩) (by show g < wr.heap.size; omega)).trans h2
            have d4 := (hb5.cell (p := ka.add k) (by rw [add_block]; omega)).trans h4
            obtain ⟨tx, htx⟩ : ∃ tx : ByteArray, (⟨x.text.toArray⟩ : ByteArray) = tx := ⟨_, rfl⟩
            have htd : tx.data.toList = x.text := by rw [← htx]
            have hml := massOf_mem (ls := xs.map (·.text)) (s := x.text) (List.mem_map_of_mem (List.mem_of_getElem? HX.out))
            have hts : tx.size ≤ 200000 := by rw [Lib.size_eq, htd]; omega
            rw [htx] at d2
            have hmt := mass_take_succ HX.out
            have hmk : massOf ((xs.take (k + 1)).map (·.text)) ≤ massOf (xs.map (·.text)) := by rw [List.map_take]; exact massOf_take _ _
            obtain ⟨rb, hrb⟩ : ∃ rb : ByteArray, (⟨st.raw.toArray⟩ : ByteArray) = rb := ⟨_, rfl⟩
            have hrd : rb.data.toList = st.raw := by rw [← hrb]
            have hrs : rb.size ≤ 200000 := by rw [Lib.size_eq, hrd]; omega
            have n0 : w5.cell? ⟨N, 0, none⟩ = some (.int .i64 (nowK st)) := by simp [World.cell?, hS5.now, nowC]
            have n1 : w5.cell? ⟨N, 1, none⟩ = some (.string rb) := by rw [← hrb]; simp [World.cell?, hS5.now, nowC]
            have n2 : w5.cell? ⟨N, 2, none⟩ = some (.slice fo st.fields.length fc) := by rw [← hvf]; simp [World.cell?, hS5.now, nowC]
            have m0 : w5.frozen? ⟨N, 0, none⟩ = false := by simp [World.frozen?, hS5.now]
            have m1 : w5.frozen? ⟨N, 1, none⟩ = false := by simp [World.frozen?, hS5.now]
            have m2 : w5.frozen? ⟨N, 2, none⟩ = false := by simp [World.frozen?, hS5.now]
            have hNl5 : N < w5.heap.size := (Array.getElem?_eq_some_iff.1 hS5.now).1
            have HS5 := Lib.hid hS5
            have HW5 := Lib.hid hW5
            have HPX := Lib.hid hPx
            have HVF := Lib.hid hvf
            have HRB := Lib.hid hrb
            have HTX := Lib.hid htx
            have HMT := Lib.hid hmt
            clear hL hK h2 h3 h4 hv2 hv3 hv4 hv5 htx hrb hrd htd hS5 hW5 hPx hvf hmt WC c2 hS hP hW
            by_cases hk1 : kindOf x.text = 1
            · rw [hk1] at d4
              have HK1 := Lib.hid hk1
              obtain ⟨oo, oc, hvo⟩ := own_shape HS5.out.out
              subst hvo
              have HSW := HS5
              clear hk1
              by_cases hr0 : st.raw = []
              · have HFIN : Hid (st.fin = st.out) := Lib.hid (by unfold Rs.fin; rw [if_pos hr0])
                have hrb0 : rb = ⟨#[]⟩ := by rw [← HRB.out, hr0]
                subst hrb0
                clear hr0
                have HOY := Lib.hid (World.ownsRow.alloc (HSW.out.own_n (n := st.out.length) rfl) (.cells #[.int .i64 1, .string (tx ++ ⟨#[10]⟩), .slice none 0 0] 111))
                go_wp2_with (at_builtin; refine wpList_append_lies _ rfl _ _ _ rfl (N + 1) 111 j0 _ 3 48 Tryz.underlying104 hj0 hy0 hy1 hy2 rfl (by omega) (.slice oo st.out.length oc) (st.out.length) _ rfl HOY.out ⟨w5.heap.size, 0, none⟩ 1 1 [.int .i64 1, .string (tx ++ ⟨#[10]⟩), .slice none 0 0] rfl rfl (World.news_of_block (cs := #[.int .i64 1, .string (tx ++ ⟨#[10]⟩), .slice none 0 0]) (heap_alloc_new w5 _)) (by simp [Value.oneCell']) (by omega) (by unfold maxLen; omega) (by omega) (by simp; omega) _ rfl ?_; refine Hid.out ?_)
                refine Lib.hid ?_
                intro g2 cap2 w9 hown8 hgrow hat hlt8
                have hb6 := below_grow1 w5 (.cells #[.int .i64 1, .string (tx ++ ⟨#[10]⟩), .slice none 0 0] 111)
                have hS6 := HSW.out.below hb6
                have HS9 := Lib.hid (hS6.push (n := st.out.length) ⟨1, x.text ++ [10], []⟩ (.slice none 0 0) (FdR.nil _ _) (by first | rfl | simp) (by
                  have e9 : It.cells ⟨1, x.text ++ [10], []⟩ (.slice none 0 0) = [.int .i64 1, .string (tx ++ ⟨#[10]⟩), .slice none 0 0] := by
                    rw [← HTX.out]
                    have e10 : ((⟨x.text.toArray⟩ : ByteArray) ++ ⟨#[10]⟩) = ⟨(x.text ++ [10]).toArray⟩ := by apply ByteArray.ext; simp
                    rw [e10]; rfl
                  rw [e9]; exact hown8) hgrow)
                have hb7 := HW5.out.alloc (by omega) (.cells #[.int .i64 1, .string (tx ++ ⟨#[10]⟩), .slice none 0 0] 111)
                have HB9 := Lib.hid (hb7.grown hgrow (HNN.out ▸ hb7.size) (fun q hq => by have := (World.ownsRow.lt HSW.out.out q hq).1; omega))
                have q0 : w9.cell? ⟨N, 0, none⟩ = some (.int .i64 (nowK st)) := by have := HS9.out.now; simp [World.cell?, this, nowC]; rfl
                have q1 : w9.cell? ⟨N, 1, none⟩ = some (.string ⟨#[]⟩) := by have := HS9.out.now; rw [← HRB.out]; simp [World.cell?, this, nowC]
                have q2 : w9.cell? ⟨N, 2, none⟩ = some (.slice fo st.fields.length fc) := by have := HS9.out.now; rw [← HVF.out]; simp [World.cell?, this, nowC]
                have r0 : w9.frozen? ⟨N, 0, none⟩ = false := by have := HS9.out.now; simp [World.frozen?, this]
                have r1 : w9.frozen? ⟨N, 1, none⟩ = false := by have := HS9.out.now; simp [World.frozen?, this]
                have r2 : w9.frozen? ⟨N, 2, none⟩ = false := by have := HS9.out.now; simp [World.frozen?, this]
                have hz9 : N < w9.heap.size := (Array.getElem?_eq_some_iff.1 HS9.out.now).1
                clear hown8 hgrow hat hb6 hb7 hS6
                go_wp2
                obtain ⟨y1, y2⟩ := set3 HS9.out.now rfl (.int .i64 2) (.string ⟨#[]⟩) (.slice none 0 0)
                refine ⟨⟨k + 1, st.blank x, .slice none 0 0, _, by go_num, by omega, rfl, by show st.records ≤ k + 1; omega, Nat.zero_le _, ?_, Nat.zero_le _, Lib.hid (HS9.out.write ?_ y1 (fun k _ hk => y2 k hk) (FdR.nil _ _) (fun _ => rfl)), Lib.hid ?_, Lib.hid (((HB9.out.setCell (Nat.le_refl _) _).setCell (Nat.le_refl _) _).setCell (Nat.le_refl _) _)⟩, by simp [intOf]; omega⟩
                · show (st.fin ++ [_]).length ≤ 2 * (k + 1)
                  have := HFIN.out
                  rw [this]; simp; omega
                · show st.fin ++ [_] = _
                  rw [HFIN.out]
                · rw [HPX.out, beh_next HX.out]
                  have e11 : st.step x (xs.drop (k + 1)) = st.blank x := by unfold Rs.step; rw [if_pos HK1.out]
                  rw [e11]
              · have HFIN : Hid (st.fin = st.out ++ [st.now]) := Lib.hid (by unfold Rs.fin; rw [if_neg hr0])
                have hrd : rb.data.toList = st.raw := by rw [← HRB.out]
                have hne : (rb.toList == []) = false := by rw [Lib.toList_data, hrd, beq_eq_false_iff_ne]; exact hr0
                have hne2 : rb.toList.isEmpty = false := by
                  rw [Lib.toList_data, hrd]
                  cases h : st.raw with
                  | nil => exact absurd h hr0
                  | cons a b => rfl
                clear hr0 hrd
                have HOX := Lib.hid (World.ownsRow.alloc (HSW.out.out) (.cells #[.int .i64 (nowK st), .string rb, .slice fo st.fields.length fc] 111))
                go_wp2_with (at_builtin; refine wpList_append_lies _ rfl _ _ _ rfl (N + 1) 111 j0 _ 3 48 Tryz.underlying104 hj0 hy0 hy1 hy2 rfl (by omega) (.slice oo st.out.length oc) st.out.length (itemCells st.out vs) rfl HOX.out ⟨w5.heap.size, 0, none⟩ 1 1 [.int .i64 (nowK st), .string rb, .slice fo st.fields.length fc] rfl rfl (World.news_of_block (cs := #[.int .i64 (nowK st), .string rb, .slice fo st.fields.length fc]) (heap_alloc_new w5 _)) (by simp [Value.oneCell']) (by omega) (by unfold maxLen; omega) (by omega) (by simp; omega) _ rfl ?_; refine Hid.out ?_)
                refine Lib.hid ?_
                intro gg cap w8 hown8 hgrow hat hlt8
                have hb6 := below_grow1 w5 (.cells #[.int .i64 (nowK st), .string rb, .slice fo st.fields.length fc] 111)
                have hS6 := HSW.out.below hb6
                have hown9 : w8.ownsRow (N + 1) 111 3 (.slice (some ⟨gg, 0, none⟩) (st.out.length + 1) cap) (st.out.length + 1) (itemCells st.out vs ++ st.now.cells vf) := by
                  have e9 : st.now.cells vf = [.int .i64 (nowK st), .string rb, .slice fo st.fields.length fc] := by
                    rw [HVF.out, ← HRB.out]; rfl
                  rw [e9]; exact hown8
                have HS8 := Lib.hid (hS6.push st.now vf hS6.fld rfl hown9 hgrow)
                have hb7 := HW5.out.alloc (by omega) (.cells #[.int .i64 (nowK st), .string rb, .slice fo st.fields.length fc] 111)
                have HB8 := Lib.hid (hb7.grown hgrow (HNN.out ▸ hb7.size) (fun q hq => by have := (World.ownsRow.lt HSW.out.out q hq).1; omega))
                have d28 := ((hb6.cell (p := ⟨g, k * 4 + 2, none⟩) (by show g < w5.heap.size; omega)).trans d2)
                have d29 := (hgrow.cell_far ⟨g, k * 4 + 2, none⟩ (by show g < _; simp; omega) (fun e => by have := (World.ownsRow.lt HSW.out.out g e.symm).1; omega)).trans d28
                have hz8 : N < w8.heap.size := (Array.getElem?_eq_some_iff.1 HS8.out.now).1
                clear hown8 hown9 hgrow hat hb6 hb7 hS6 HOX d28
                have HOY := Lib.hid (World.ownsRow.alloc (HS8.out.own_n (n := st.out.length + 1) (by simp)) (.cells #[.int .i64 1, .string (tx ++ ⟨#[10]⟩), .slice none 0 0] 111))
                go_wp2_with (at_builtin; refine wpList_append_lies _ rfl _ _ _ rfl (N + 1) 111 j0 _ 3 48 Tryz.underlying104 hj0 hy0 hy1 hy2 rfl (by omega) (.slice (some ⟨gg, 0, none⟩) (st.out.length + 1) cap) (st.out.length + 1) _ rfl HOY.out ⟨w8.heap.size, 0, none⟩ 1 1 [.int .i64 1, .string (tx ++ ⟨#[10]⟩), .slice none 0 0] rfl rfl (World.news_of_block (cs := #[.int .i64 1, .string (tx ++ ⟨#[10]⟩), .slice none 0 0]) (heap_alloc_new w8 _)) (by simp [Value.oneCell']) (by omega) (by unfold maxLen; omega) (by omega) (by simp; omega) _ rfl ?_; refine Hid.out ?_)
                refine Lib.hid ?_
                intro g2 cap2 w9 hown8 hgrow hat hlt8
                have hb6 := below_grow1 w8 (.cells #[.int .i64 1, .string (tx ++ ⟨#[10]⟩), .slice none 0 0] 111)
                have hS6 := HS8.out.below hb6
                have HS9 := Lib.hid (hS6.push (n := st.out.length + 1) ⟨1, x.text ++ [10], []⟩ (.slice none 0 0) (FdR.nil _ _) (by first | rfl | simp) (by
                  have e9 : It.cells ⟨1, x.text ++ [10], []⟩ (.slice none 0 0) = [.int .i64 1, .string (tx ++ ⟨#[10]⟩), .slice none 0 0] := by
                    rw [← HTX.out]
                    have e10 : ((⟨x.text.toArray⟩ : ByteArray) ++ ⟨#[10]⟩) = ⟨(x.text ++ [10]).toArray⟩ := by apply ByteArray.ext; simp
                    rw [e10]; rfl
                  rw [e9]; exact hown8) hgrow)
                have hb7 := HB8.out.alloc (by omega) (.cells #[.int .i64 1, .string (tx ++ ⟨#[10]⟩), .slice none 0 0] 111)
                have HB9 := Lib.hid (hb7.grown hgrow (HNN.out ▸ hb7.size) (fun q hq => by have := (World.ownsRow.lt HS8.out.out q hq).1; omega))
                have q0 : w9.cell? ⟨N, 0, none⟩ = some (.int .i64 (nowK st)) := by have := HS9.out.now; simp [World.cell?, this, nowC]; rfl
                have q1 : w9.cell? ⟨N, 1, none⟩ = some (.string rb) := by have := HS9.out.now; rw [← HRB.out]; simp [World.cell?, this, nowC]
                have q2 : w9.cell? ⟨N, 2, none⟩ = some (.slice fo st.fields.length fc) := by have := HS9.out.now; rw [← HVF.out]; simp [World.cell?, this, nowC]
                have r0 : w9.frozen? ⟨N, 0, none⟩ = false := by have := HS9.out.now; simp [World.frozen?, this]
                have r1 : w9.frozen? ⟨N, 1, none⟩ = false := by have := HS9.out.now; simp [World.frozen?, this]
                have r2 : w9.frozen? ⟨N, 2, none⟩ = false := by have := HS9.out.now; simp [World.frozen?, this]
                have hz9 : N < w9.heap.size := (Array.getElem?_eq_some_iff.1 HS9.out.now).1
                clear hown8 hgrow hat hb6 hb7 hS6
                go_wp2
                obtain ⟨y1, y2⟩ := set3 HS9.out.now rfl (.int .i64 2) (.string ⟨#[]⟩) (.slice none 0 0)
                refine ⟨⟨k + 1, st.blank x, .slice none 0 0, _, by go_num, by omega, rfl, by show st.records ≤ k + 1; omega, Nat.zero_le _, ?_, Nat.zero_le _, Lib.hid (HS9.out.write ?_ y1 (fun k _ hk => y2 k hk) (FdR.nil _ _) (fun _ => rfl)), Lib.hid ?_, Lib.hid (((HB9.out.setCell (Nat.le_refl _) _).setCell (Nat.le_refl _) _).setCell (Nat.le_refl _) _)⟩, by simp [intOf]; omega⟩
                · show (st.fin ++ [_]).length ≤ 2 * (k + 1)
                  have := HFIN.out
                  rw [this]; simp; omega
                · show st.fin ++ [_] = _
                  rw [HFIN.out]
                · rw [HPX.out, beh_next HX.out]
                  have e11 : st.step x (xs.drop (k + 1)) = st.blank x := by unfold Rs.step; rw [if_pos HK1.out]
                  rw [e11]
            · have hk1b : ((kindOf x.text : Int) == 1) = false := by rw [beq_eq_false_iff_ne]; omega
              have HK1 := Lib.hid hk1
              clear hk1
              obtain ⟨w6, hw6⟩ : ∃ w6, (w5.setCell ⟨N, 1, none⟩ (.string (rb ++ tx ++ ⟨#[10]⟩))).drew = w6 := ⟨_, rfl⟩
              have hoth : ∀ j, j ≠ N → w6.heap[j]? = w5.heap[j]? := fun j hj => by rw [← hw6]; exact Below.heap_setCell _ _ _ _ hj
              have hrt : rb ++ tx ++ ⟨#[10]⟩ = ⟨(st.line x).raw.toArray⟩ := by
                apply ByteArray.ext
                apply Array.ext'
                rw [data_app, data_app, ← HRB.out, ← HTX.out]
                show st.raw ++ x.text ++ [10] = st.raw ++ (x.text ++ [10])
                simp
              have hnow : w6.heap[N]? = some (.cells (nowC (st.line x) vf) 111 (0, 0)) := by
                have e : nowC (st.line x) vf = (nowC st vf).setIfInBounds 1 (.string (rb ++ tx ++ ⟨#[10]⟩)) := by rw [hrt]; rfl
                rw [← hw6, e]
                show (w5.setCell ⟨N, 1, none⟩ (.string (rb ++ tx ++ ⟨#[10]⟩))).heap[N]? = _
                simp [World.setCell, Array.getElem?_modify, HS5.out.now]
              have hS6 : RefSt N w6 (st.line x) u8 vf vs := HS5.out.write rfl hnow (fun j _ hj => hoth j hj) (HS5.out.fld.keep (by omega) fun j _ hj => hoth j hj) HS5.out.nilF
              have hz6 : w6.heap.size = w5.heap.size := by rw [← hw6]; simp [World.setCell]
              have hW6 : Below N w1 w6 := by rw [← hw6]; exact below_dn (HW5.out.setCell (Nat.le_refl _) _) 1
              have d6 : w6.cell? (ka.add k) = some (.int .i64 (kindOf x.text)) := by
                have h1 : (ka.add k).block ≠ N := by rw [add_block]; omega
                have h2 := World.cell?_of_block (a := ka.add k) (hoth _ h1)
                rw [h2]; exact d4
              have hZ6 := Lib.hid hz6
              have HS6 := Lib.hid hS6
              have HW6 := Lib.hid hW6
              have HOTH := Lib.hid hoth
              clear hoth hnow hS6 hz6 hW6 hrt
              go_upto_region 23 with fail
              go_cut [10] (fun c wx => c = .int .i64 st.records ∧ w6 = wx)
              case first =>
                go_region_with (fail)
                all_goals
                  go_wp2
                  go_meet
                  exact ⟨rfl, rfl⟩
              case rest =>
                obtain ⟨rfl, rfl⟩ := hcut
                clear hw6
                by_cases hk4 : kindOf x.text = 4
                · have HK4 := Lib.hid hk4
                  have hN6 : N < w6.heap.size := by have := hZ6.out; omega
                  have hu0 : unfoldN (saidL x (xs.drop (k + 1))) = 0 := HU0.out hk4
                  have SD := Lib.hid (fun (w' : World) (hb : Below N w6 w') => said_any (.slice (some ⟨g, 0, none⟩) xs.length lc) (.slice (some ka) xs.length kc) xs k x w' (((HLW.out.below HW6.out (Nat.le_refl _)).below hb (Nat.le_refl _)).up (by have := hb.size; omega)) (((HIK.out.below HW6.out (Nat.le_refl _)).below hb (Nat.le_refl _)).up (by have := hb.size; omega)) HX.out (by omega))
                  have UF := Lib.hid (fun (w' : World) (base : Nat) (u : Value) (h : w'.ownsRow base 9 1 u (saidL x (xs.drop (k + 1))).length ((saidL x (xs.drop (k + 1))).flatMap strC)) => by
                    have h1 := unf_said h hk4 (by have h1 := mass_said x (xs.drop (k + 1)); have h2 := mass_drop xs k; rw [drop_cons HX.out] at h2; omega)
                    rw [hu0, if_pos rfl] at h1
                    exact h1)
                  obtain ⟨F, hF⟩ : ∃ F, unfoldF (saidL x (xs.drop (k + 1))) = F := ⟨_, rfl⟩
                  rw [hF] at UF
                  have HF := Lib.hid hF
                  obtain ⟨fk, fv⟩ := F
                  obtain ⟨kb, hkb⟩ : ∃ kb : ByteArray, (⟨fk.toArray⟩ : ByteArray) = kb := ⟨_, rfl⟩
                  obtain ⟨vb, hvb⟩ : ∃ vb : ByteArray, (⟨fv.toArray⟩ : ByteArray) = vb := ⟨_, rfl⟩
                  unfold fvl fdV at UF
                  simp only [hkb, hvb] at UF
                  have HKB := Lib.hid hkb
                  have HVB := Lib.hid hvb
                  rw [hk4] at d6
                  clear hk4 hu0 hF hkb hvb
                  by_cases hf0 : st.fields = []
                  · have hvn := HS6.out.nilF hf0
                    have hnk : nowK st = 2 := by unfold nowK; rw [if_pos hf0]
                    have HF0 := Lib.hid hf0
                    have e0 : w6.cell? ⟨N, 0, none⟩ = some (.int .i64 2) := by have := HS6.out.now; simp [World.cell?, this, nowC, nowK, Rs.line, hf0]
                    have g0 : w6.frozen? ⟨N, 0, none⟩ = false := by have := HS6.out.now; simp [World.frozen?, this]
                    obtain ⟨w7, hw7⟩ : ∃ w7, w6.setCell ⟨N, 0, none⟩ (.int .i64 3) = w7 := ⟨_, rfl⟩
                    have hoth7 : ∀ j, j ≠ N → w7.heap[j]? = w6.heap[j]? := fun j hj => by rw [← hw7]; exact Below.heap_setCell _ _ _ _ hj
                    have hnow7 : w7.heap[N]? = some (.cells #[.int .i64 3, .string ⟨(st.line x).raw.toArray⟩, .slice none 0 0] 111 (0, 0)) := by
                      rw [← hw7]
                      have := HS6.out.now
                      rw [hvn] at this
                      simp [World.setCell, Array.getElem?_modify, this, nowC]
                    have hb7 : Below N w6 w7 := by rw [← hw7]; exact (Below.refl N w6).setCell (p := ⟨N, 0, none⟩) (Nat.le_refl _) _
                    have HB7 := Lib.hid hb7
                    have HN7 := Lib.hid hnow7
                    have HO7 := Lib.hid hoth7
                    have hz7 : N < w7.heap.size := (Array.getElem?_eq_some_iff.1 hnow7).1
                    clear hf0 hvn hnk hoth7 hnow7 hb7 n0 n1 n2 m0 m1 m2
                    go_wp2_with fail
                    refine (SD.out w7 HB7.out).mono ?_
                    rintro e w8 ⟨u, rfl, hU, hb8⟩
                    have UU := Lib.hid (UF.out w8 _ u hU)
                    have HB8 := Lib.hid hb8
                    have hz8 := hb8.size
                    clear hU hb8
                    go_wp2_with fail
                    refine UU.out.mono ?_
                    rintro e w9 ⟨rfl, hb9⟩
                    have hb79 : Below w7.heap.size w7 w9 := HB8.out.trans (hb9.mono hz8)
                    have hz9 := hb79.size
                    obtain ⟨b, hb⟩ : ∃ b, w9.heap.size = b := ⟨_, rfl⟩
                    obtain ⟨w10, hw10⟩ : ∃ w10, w9.alloc (.cells #[.string kb, .string vb] 95) = w10 := ⟨_, rfl⟩
                    have hb710 : Below w7.heap.size w7 w10 := by rw [← hw10]; exact hb79.alloc hz9 _
                    have hE10 : w10.heap[b]? = some (.cells #[.string kb, .string vb] 95 (0, 0)) := by rw [← hw10, ← hb]; exact heap_alloc_new w9 _
                    have hbl : b < w10.heap.size := (Array.getElem?_eq_some_iff.1 hE10).1
                    have hNb : N < b := by omega
                    have s0 : w10.cell? ⟨b, 0, none⟩ = some (.string kb) := by simp [World.cell?, hE10]
                    have s1 : w10.cell? ⟨b, 1, none⟩ = some (.string vb) := by simp [World.cell?, hE10]
                    have hnow10 := (hb710.block N hz7).trans HN7.out
                    have t2 : w10.cell? ⟨N, 2, none⟩ = some (.slice none 0 0) := by simp [World.cell?, hnow10]
                    have u2 : w10.frozen? ⟨N, 2, none⟩ = false := by simp [World.frozen?, hnow10]
                    have HB710 := Lib.hid hb710
                    have HN10 := Lib.hid hnow10
                    have hN10 : N < w10.heap.size := by omega
                    clear hb9 hb79 hE10 hb710 hnow10 UU
                    go_upto_region 29 with fail
                    refine wp_cut8 106 107 108 109 110 111 112 113 (PushQ N w10 1 [.string kb, .string vb]) ?_ ?_
                    · intro J hJ
                      simp only [Act.put, List.setIfInBounds_toArray, List.set_cons_zero, List.set_cons_succ] at hJ
                      have HJ := Lib.hid hJ
                      clear hJ
                      try clear i0
                      try clear hi0
                      try clear hz0
                      try clear hz1
                      try clear hz2
                      try clear j0
                      try clear hj0
                      try clear hy0
                      try clear hy1
                      try clear hy2
                      try clear HOK
                      try clear HNO
                      try clear HPP
                      try clear hmass
                      try clear hlen0
                      try clear HLW
                      try clear HIK
                      try clear HBW
                      try clear hzw
                      try clear HNN
                      try clear hk
                      try clear hrk
                      try clear hfk
                      try clear hok
                      try clear hraw
                      try clear hNr
                      try clear hlt
                      try clear HX
                      try clear HLR
                      try clear HKR
                      try clear hNl
                      try clear HU00
                      try clear hw0
                      try clear HU0
                      try clear hmk
                      try clear hml
                      try clear hts
                      try clear hrs
                      try clear hN5
                      try clear hNl5
                      try clear HS5
                      try clear HW5
                      try clear HPX
                      try clear HVF
                      try clear HRB
                      try clear HTX
                      try clear HMT
                      try clear HK1
                      try clear HK4
                      try clear HZ6
                      try clear HS6
                      try clear HW6
                      try clear HOTH
                      try clear SD
                      try clear UF
                      try clear HF
                      try clear HKB
                      try clear HVB
                      try clear d2
                      try clear d4
                      try clear d6
                      try clear hg
                      try clear hka
                      try clear hwn100
                      try clear UU
                      try clear HB8
                      try clear hz8
                      try clear hz9
                      try clear HB7
                      try clear HN7
                      try clear HO7
                      try clear hz7
                      try clear HB710
                      try clear HN10
                      try clear hN6
                      try clear HF0
                      try clear hrd
                      try clear HNF
                      try clear hb5
                      try clear k0
                      have HA0 : Hid ((w10.alloc (.cells #[] 95)).ownsRow w10.heap.size 95 2 (.slice (some ⟨w10.heap.size, 0, none⟩) 0 0) 0 []) := Lib.hid (World.ownsRow_made w10 #[] 0 (Nat.le_refl _) (Nat.zero_le _) rfl)
                      have HA1 := Lib.hid (World.ownsRow.alloc HA0.out (.cells #[.string kb, .string vb] 95))
                      have HB1' : Hid (((w10.alloc (.cells #[.string kb, .string vb] 95)).alloc (.cells #[] 95)).ownsRow w10.heap.size 95 2 (.slice (some ⟨w10.heap.size + 1, 0, none⟩) 0 0) 0 []) := Lib.hid (by
                        have := World.ownsRow_made (base := w10.heap.size) (e := 95) (size := 2) (w10.alloc (.cells #[.string kb, .string vb] 95)) #[] 0 (by simp) (Nat.zero_le _) rfl
                        simpa using this)
                      have B0 := Lib.hid (below_grow1 w10 (.cells #[] 95))
                      have BA := Lib.hid ((below_grow1 w10 (.cells #[] 95)).alloc (by simp) (.cells #[.string kb, .string vb] 95))
                      have BB := Lib.hid ((below_grow1 w10 (.cells #[.string kb, .string vb] 95)).alloc (by simp) (.cells #[] 95))
                      have NA : Hid (∀ j u, [Value.string kb, .string vb][j]? = some u → ((w10.alloc (.cells #[] 95)).alloc (.cells #[.string kb, .string vb] 95)).cell? ((⟨w10.heap.size + 1, 0, none⟩ : Addr).add j) = some u) := Lib.hid (by
                        have h := World.news_of_block (w := (w10.alloc (.cells #[] 95)).alloc (.cells #[.string kb, .string vb] 95)) (cs := #[.string kb, .string vb]) (heap_alloc_new (w10.alloc (.cells #[] 95)) _)
                        simpa using h)
                      have NB : Hid (∀ j u, [Value.string kb, .string vb][j]? = some u → ((w10.alloc (.cells #[.string kb, .string vb] 95)).alloc (.cells #[] 95)).cell? ((⟨w10.heap.size, 0, none⟩ : Addr).add j) = some u) := Lib.hid (by
                        intro j u hj
                        have h := World.news_of_block (cs := #[.string kb, .string vb]) (heap_alloc_new w10 (.cells #[.string kb, .string vb] 95)) j u hj
                        rw [World.cell?_alloc_lt _ _ _ (by rw [add_block]; simp)]
                        exact h)
                      go_region_law (first
                        | (refine step_append_none (by rfl) (.tmp 106) (.tmp 108) _ (by rfl) w10.heap.size 95 l0 2 Tryz.underlying59 hl0 (.slice (some ⟨w10.heap.size, 0, none⟩) 0 0) 0 [] (by rfl) HA0.out (by rfl) ?_)
                        | (refine step_append_none (by rfl) (.tmp 106) (.tmp 108) _ (by rfl) w10.heap.size 95 l0 2 Tryz.underlying59 hl0 (.slice (some ⟨w10.heap.size, 0, none⟩) 0 0) 0 [] (by rfl) HA1.out (by rfl) ?_)
                        | (refine step_append_none (by rfl) (.tmp 106) (.tmp 108) _ (by rfl) w10.heap.size 95 l0 2 Tryz.underlying59 hl0 (.slice (some ⟨w10.heap.size + 1, 0, none⟩) 0 0) 0 [] (by rfl) HB1'.out (by rfl) ?_)
                        | (refine step_append_lies _ ?_ (.tmp 109) (.tmp 111) _ ?_ w10.heap.size 95 l0 _ 2 32 Tryz.underlying59 hl0 hx0 hx1 hx2 ?_ ?_ (.slice (some ⟨w10.heap.size, 0, none⟩) 0 0) 0 [] ?_ ?_ ⟨w10.heap.size + 1, 0, none⟩ 1 1 [.string kb, .string vb] ?_ ?_ ?_ ?_ ?_ ?_ ?_ ?_ _ rfl ?_; (any_goals (first | exact HA1.out | exact NA.out | exact BA.out.size | rfl | (simp [Value.oneCell']; done) | (unfold maxLen; omega) | omega | skip)); intro g2 c2 w12 hown2 hgrow2 hat2 hlt2; have hBB : Hid (Below w10.heap.size w10 w12) := Lib.hid (below_grown_dw (X := (w10.alloc (.cells #[] 95)).alloc (.cells #[.string kb, .string vb] 95)) hgrow2 BA.out BA.out.size (fun q hq => (World.ownsRow.lt HA1.out q hq).1)); have t3 := (hBB.out.cell (p := ⟨N, 2, none⟩) hN10).trans t2; have u3 := (hBB.out.frozen (p := ⟨N, 2, none⟩) hN10).trans u2; have HOWN2 := Lib.hid hown2; clear hown2 hgrow2 hat2)
                        | (refine step_append_lies _ ?_ (.tmp 109) (.tmp 111) _ ?_ w10.heap.size 95 l0 _ 2 32 Tryz.underlying59 hl0 hx0 hx1 hx2 ?_ ?_ (.slice (some ⟨w10.heap.size + 1, 0, none⟩) 0 0) 0 [] ?_ ?_ ⟨w10.heap.size, 0, none⟩ 1 1 [.string kb, .string vb] ?_ ?_ ?_ ?_ ?_ ?_ ?_ ?_ _ rfl ?_; (any_goals (first | exact HB1'.out | exact NB.out | exact BB.out.size | rfl | (simp [Value.oneCell']; done) | (unfold maxLen; omega) | omega | skip)); intro g2 c2 w12 hown2 hgrow2 hat2 hlt2; have hBB : Hid (Below w10.heap.size w10 w12) := Lib.hid (below_grown_dw (X := (w10.alloc (.cells #[.string kb, .string vb] 95)).alloc (.cells #[] 95)) hgrow2 BB.out BB.out.size (fun q hq => (World.ownsRow.lt HB1'.out q hq).1)); have t3 := (hBB.out.cell (p := ⟨N, 2, none⟩) hN10).trans t2; have u3 := (hBB.out.frozen (p := ⟨N, 2, none⟩) hN10).trans u2; have HOWN2 := Lib.hid hown2; clear hown2 hgrow2 hat2))
                      all_goals
                        exact HJ.out _ _ _ _ _ _ _ _ _ ⟨_, w12, rfl, hBB.out, HOWN2.out⟩
                    · rintro u106 u107 u108 u109 u110 u111 u112 u113 wc ⟨v, w12, rfl, hBB, hown⟩
                      simp only [Act.put, List.setIfInBounds_toArray, List.set_cons_zero, List.set_cons_succ]
                      have hfin := ref_end (v := v) (ls := saidL x (xs.drop (k + 1))) (F := ⟨fk, fv⟩) HS6.out HW6.out HB7.out HO7.out HN10.out HB710.out hBB (by rw [HF0.out]; rw [← HKB.out, ← HVB.out] at hown; exact hown) HF.out hN6
                      have HFIN := Lib.hid hfin
                      clear hfin hown hBB
                      go_wp2
                      refine ⟨⟨k + 1, st.field x (saidL x (xs.drop (k + 1))), v, vs, by go_num, by omega, by rw [field_recs0 _ _ HF0.out]; go_num, by rw [field_recs0 _ _ HF0.out]; omega, by rw [field_fields]; omega, by show st.out.length ≤ 2 * (k + 1); omega, by rw [field_raw, HMT.out]; omega, Lib.hid HFIN.out.1, Lib.hid ?_, Lib.hid HFIN.out.2⟩, by simp [intOf]; omega⟩
                      rw [HPX.out, beh_next HX.out, step_field HK1.out HK4.out]
                  · have HF0 := Lib.hid hf0
                    have hnp : 0 < st.fields.length := List.length_pos_iff.2 hf0
                    obtain ⟨gf, cf, hvn, hgN, hgf⟩ := World.ownsRow.form HS6.out.fld hnp
                    have hnl : (st.line x).fields.length = st.fields.length := rfl
                    rw [hnl] at hvn
                    have hcl : ∀ j u, (st.fields.flatMap Fd.cells)[j]? = some u → w6.cell? ((⟨gf, 0, none⟩ : Addr).add j) = some u := World.ownsRow.cells HS6.out.fld (by rw [hvn]; rfl)
                    have hxl : (st.fields.flatMap Fd.cells).length = st.fields.length * 2 := HS6.out.fld.1
                    have e0 : w6.cell? ⟨N, 0, none⟩ = some (.int .i64 3) := by have := HS6.out.now; simp [World.cell?, this, nowC, nowK, Rs.line, hf0]
                    have g0 : w6.frozen? ⟨N, 0, none⟩ = false := by have := HS6.out.now; simp [World.frozen?, this]
                    obtain ⟨w7, hw7⟩ : ∃ w7, w6.setCell ⟨N, 0, none⟩ (.int .i64 3) = w7 := ⟨_, rfl⟩
                    have hoth7 : ∀ j, j ≠ N → w7.heap[j]? = w6.heap[j]? := fun j hj => by rw [← hw7]; exact Below.heap_setCell _ _ _ _ hj
                    have hnow7 : w7.heap[N]? = some (.cells #[.int .i64 3, .string ⟨(st.line x).raw.toArray⟩, .slice (some ⟨gf, 0, none⟩) st.fields.length cf] 111 (0, 0)) := by
                      rw [← hw7]
                      have := HS6.out.now
                      rw [hvn] at this
                      simp [World.setCell, Array.getElem?_modify, this, nowC]
                    have hb7 : Below N w6 w7 := by rw [← hw7]; exact (Below.refl N w6).setCell (p := ⟨N, 0, none⟩) (Nat.le_refl _) _
                    have HB7 := Lib.hid hb7
                    have HN7 := Lib.hid hnow7
                    have HO7 := Lib.hid hoth7
                    have hz7 : N < w7.heap.size := (Array.getElem?_eq_some_iff.1 hnow7).1
                    have hz67 : w7.heap.size = w6.heap.size := by rw [← hw7]; simp [World.setCell]
                    have hcl7 : ∀ j u, (st.fields.flatMap Fd.cells)[j]? = some u → w7.cell? ((⟨gf, 0, none⟩ : Addr).add j) = some u := fun j u hj => (World.cell?_of_block (a := (⟨gf, 0, none⟩ : Addr).add j) (hoth7 _ (by rw [add_block]; show gf ≠ N; omega))).trans (hcl j u hj)
                    have HCL7 := Lib.hid hcl7
                    have hgf7 : gf < w7.heap.size := by omega
                    have hnf : st.fields.length ≤ 60001 := by omega
                    have HVN := Lib.hid hvn
                    clear hf0 hvn hoth7 hnow7 hb7 n0 n1 n2 m0 m1 m2 hcl hcl7 hz67 hnl
                    go_wp2_with fail
                    refine (SD.out w7 HB7.out).mono ?_
                    rintro e w8 ⟨u, rfl, hU, hb8⟩
                    have UU := Lib.hid (UF.out w8 _ u hU)
                    have HB8 := Lib.hid hb8
                    have hz8 := hb8.size
                    clear hU hb8
                    go_wp2_with fail
                    refine UU.out.mono ?_
                    rintro e w9 ⟨rfl, hb9⟩
                    have hb79 : Below w7.heap.size w7 w9 := HB8.out.trans (hb9.mono hz8)
                    have hz9 := hb79.size
                    obtain ⟨b, hb⟩ : ∃ b, w9.heap.size = b := ⟨_, rfl⟩
                    obtain ⟨w10, hw10⟩ : ∃ w10, w9.alloc (.cells #[.string kb, .string vb] 95) = w10 := ⟨_, rfl⟩
                    have hb710 : Below w7.heap.size w7 w10 := by rw [← hw10]; exact hb79.alloc hz9 _
                    have hE10 : w10.heap[b]? = some (.cells #[.string kb, .string vb] 95 (0, 0)) := by rw [← hw10, ← hb]; exact heap_alloc_new w9 _
                    have hbl : b < w10.heap.size := (Array.getElem?_eq_some_iff.1 hE10).1
                    have hNb : N < b := by omega
                    have s0 : w10.cell? ⟨b, 0, none⟩ = some (.string kb) := by simp [World.cell?, hE10]
                    have s1 : w10.cell? ⟨b, 1, none⟩ = some (.string vb) := by simp [World.cell?, hE10]
                    have hnow10 := (hb710.block N hz7).trans HN7.out
                    have t2 : w10.cell? ⟨N, 2, none⟩ = some (.slice (some ⟨gf, 0, none⟩) st.fields.length cf) := by simp [World.cell?, hnow10]
                    have u2 : w10.frozen? ⟨N, 2, none⟩ = false := by simp [World.frozen?, hnow10]
                    have HSRC : Hid (∀ j u, (st.fields.flatMap Fd.cells)[j]? = some u → w10.cell? ((⟨gf, 0, none⟩ : Addr).add j) = some u) := Lib.hid (fun j u hj => (hb710.cell (p := (⟨gf, 0, none⟩ : Addr).add j) (by rw [add_block]; exact hgf7)).trans (HCL7.out j u hj))
                    have hg10 : gf < w10.heap.size := by have := hb710.size; omega
                    have HB710 := Lib.hid hb710
                    have HN10 := Lib.hid hnow10
                    have hN10 : N < w10.heap.size := by omega
                    clear hb9 hb79 hE10 hb710 hnow10 UU
                    go_upto_region 29 with fail
                    refine wp_cut8 106 107 108 109 110 111 112 113 (PushQ N w10 (st.fields.length + 1) (st.fields.flatMap Fd.cells ++ [.string kb, .string vb])) ?_ ?_
                    · intro J hJ
                      simp only [Act.put, List.setIfInBounds_toArray, List.set_cons_zero, List.set_cons_succ] at hJ
                      have HJ := Lib.hid hJ
                      clear hJ
                      try clear i0
                      try clear hi0
                      try clear hz0
                      try clear hz1
                      try clear hz2
                      try clear j0
                      try clear hj0
                      try clear hy0
                      try clear hy1
                      try clear hy2
                      try clear HOK
                      try clear HNO
                      try clear HPP
                      try clear hmass
                      try clear hlen0
                      try clear HLW
                      try clear HIK
                      try clear HBW
                      try clear hzw
                      try clear HNN
                      try clear hk
                      try clear hrk
                      try clear hfk
                      try clear hok
                      try clear hraw
                      try clear hNr
                      try clear hlt
                      try clear HX
                      try clear HLR
                      try clear HKR
                      try clear hNl
                      try clear HU00
                      try clear hw0
                      try clear HU0
                      try clear hmk
                      try clear hml
                      try clear hts
                      try clear hrs
                      try clear hN5
                      try clear hNl5
                      try clear HS5
                      try clear HW5
                      try clear HPX
                      try clear HVF
                      try clear HRB
                      try clear HTX
                      try clear HMT
                      try clear HK1
                      try clear HK4
                      try clear HZ6
                      try clear HS6
                      try clear HW6
                      try clear HOTH
                      try clear SD
                      try clear UF
                      try clear HF
                      try clear HKB
                      try clear HVB
                      try clear d2
                      try clear d4
                      try clear d6
                      try clear hg
                      try clear hka
                      try clear hwn100
                      try clear UU
                      try clear HB8
                      try clear hz8
                      try clear hz9
                      try clear HB7
                      try clear HN7
                      try clear HO7
                      try clear hz7
                      try clear HB710
                      try clear HN10
                      try clear hN6
                      try clear HF0
                      try clear hrd
                      try clear HNF
                      try clear hb5
                      try clear k0
                      try clear HCL7 HVN
                      have HA0 : Hid ((w10.alloc (.cells #[] 95)).ownsRow w10.heap.size 95 2 (.slice (some ⟨w10.heap.size, 0, none⟩) 0 0) 0 []) := Lib.hid (World.ownsRow_made w10 #[] 0 (Nat.le_refl _) (Nat.zero_le _) rfl)
                      have HA1 := Lib.hid (World.ownsRow.alloc HA0.out (.cells #[.string kb, .string vb] 95))
                      have HB1' : Hid (((w10.alloc (.cells #[.string kb, .string vb] 95)).alloc (.cells #[] 95)).ownsRow w10.heap.size 95 2 (.slice (some ⟨w10.heap.size + 1, 0, none⟩) 0 0) 0 []) := Lib.hid (by
                        have := World.ownsRow_made (base := w10.heap.size) (e := 95) (size := 2) (w10.alloc (.cells #[.string kb, .string vb] 95)) #[] 0 (by simp) (Nat.zero_le _) rfl
                        simpa using this)
                      have B0 := Lib.hid (below_grow1 w10 (.cells #[] 95))
                      have BA := Lib.hid ((below_grow1 w10 (.cells #[] 95)).alloc (by simp) (.cells #[.string kb, .string vb] 95))
                      have BB := Lib.hid ((below_grow1 w10 (.cells #[.string kb, .string vb] 95)).alloc (by simp) (.cells #[] 95))
                      have NA : Hid (∀ j u, [Value.string kb, .string vb][j]? = some u → ((w10.alloc (.cells #[] 95)).alloc (.cells #[.string kb, .string vb] 95)).cell? ((⟨w10.heap.size + 1, 0, none⟩ : Addr).add j) = some u) := Lib.hid (by
                        have h := World.news_of_block (w := (w10.alloc (.cells #[] 95)).alloc (.cells #[.string kb, .string vb] 95)) (cs := #[.string kb, .string vb]) (heap_alloc_new (w10.alloc (.cells #[] 95)) _)
                        simpa using h)
                      have NB : Hid (∀ j u, [Value.string kb, .string vb][j]? = some u → ((w10.alloc (.cells #[.string kb, .string vb] 95)).alloc (.cells #[] 95)).cell? ((⟨w10.heap.size, 0, none⟩ : Addr).add j) = some u) := Lib.hid (by
                        intro j u hj
                        have h := World.news_of_block (cs := #[.string kb, .string vb]) (heap_alloc_new w10 (.cells #[.string kb, .string vb] 95)) j u hj
                        rw [World.cell?_alloc_lt _ _ _ (by rw [add_block]; simp)]
                        exact h)
                      go_region_law (first
                        | (refine step_append_lies _ ?_ (.tmp 106) (.tmp 108) _ ?_ w10.heap.size 95 l0 _ 2 32 Tryz.underlying59 hl0 hx0 hx1 hx2 ?_ ?_ (.slice (some ⟨w10.heap.size, 0, none⟩) 0 0) 0 [] ?_ ?_ ⟨gf, 0, none⟩ st.fields.length cf (st.fields.flatMap Fd.cells) ?_ hxl ?_ (fdCells_one' _) hnp ?_ ?_ ?_ _ rfl ?_; (any_goals (first | exact HA0.out | exact (fun j u hj => (B0.out.cell (p := (⟨gf, 0, none⟩ : Addr).add j) (by rw [add_block]; exact hg10)).trans (HSRC.out j u hj)) | exact B0.out.size | rfl | (unfold maxLen; omega) | omega | skip)); intro g1 c1 w11 hown1 hgrow1 hat1 hlt1; have hb11 : Hid (Below w10.heap.size w10 w11) := Lib.hid (below_grown_dw (X := w10.alloc (.cells #[] 95)) hgrow1 B0.out B0.out.size (fun q hq => (World.ownsRow.lt HA0.out q hq).1)); simp only [Nat.zero_add, List.nil_append] at hown1; have HOWN1 := Lib.hid hown1; have s0' := (hb11.out.cell (p := ⟨b, 0, none⟩) hbl).trans s0; have s1' := (hb11.out.cell (p := ⟨b, 1, none⟩) hbl).trans s1; clear hown1 hgrow1 hat1)
                        | (refine step_append_lies _ ?_ (.tmp 106) (.tmp 108) _ ?_ w10.heap.size 95 l0 _ 2 32 Tryz.underlying59 hl0 hx0 hx1 hx2 ?_ ?_ (.slice (some ⟨w10.heap.size, 0, none⟩) 0 0) 0 [] ?_ ?_ ⟨gf, 0, none⟩ st.fields.length cf (st.fields.flatMap Fd.cells) ?_ hxl ?_ (fdCells_one' _) hnp ?_ ?_ ?_ _ rfl ?_; (any_goals (first | exact HA1.out | exact (fun j u hj => (BA.out.cell (p := (⟨gf, 0, none⟩ : Addr).add j) (by rw [add_block]; exact hg10)).trans (HSRC.out j u hj)) | exact BA.out.size | rfl | (unfold maxLen; omega) | omega | skip)); intro g1 c1 w11 hown1 hgrow1 hat1 hlt1; have hb11 : Hid (Below w10.heap.size w10 w11) := Lib.hid (below_grown_dw (X := (w10.alloc (.cells #[] 95)).alloc (.cells #[.string kb, .string vb] 95)) hgrow1 BA.out BA.out.size (fun q hq => (World.ownsRow.lt HA1.out q hq).1)); have HE : Hid (∀ j u, [Value.string kb, .string vb][j]? = some u → w11.cell? ((⟨w10.heap.size + 1, 0, none⟩ : Addr).add j) = some u) := Lib.hid (fun j u hj => (hgrow1.cell_far _ (by rw [add_block]; show w10.heap.size + 1 < _; first | (simp; done) | (simp; omega)) (by rw [add_block]; show some (w10.heap.size + 1) ≠ some (w10.heap.size); simp)).trans (NA.out j u hj)); have hez : w10.heap.size + 1 < w11.heap.size := Nat.lt_of_lt_of_le (by first | (simp; done) | (simp; omega)) hgrow1.size; simp only [Nat.zero_add, List.nil_append] at hown1; have HOWN1 := Lib.hid hown1; have s0' := (hb11.out.cell (p := ⟨b, 0, none⟩) hbl).trans s0; have s1' := (hb11.out.cell (p := ⟨b, 1, none⟩) hbl).trans s1; clear hown1 hgrow1 hat1)
                        | (refine step_append_lies _ ?_ (.tmp 106) (.tmp 108) _ ?_ w10.heap.size 95 l0 _ 2 32 Tryz.underlying59 hl0 hx0 hx1 hx2 ?_ ?_ (.slice (some ⟨w10.heap.size + 1, 0, none⟩) 0 0) 0 [] ?_ ?_ ⟨gf, 0, none⟩ st.fields.length cf (st.fields.flatMap Fd.cells) ?_ hxl ?_ (fdCells_one' _) hnp ?_ ?_ ?_ _ rfl ?_; (any_goals (first | exact HB1'.out | exact (fun j u hj => (BB.out.cell (p := (⟨gf, 0, none⟩ : Addr).add j) (by rw [add_block]; exact hg10)).trans (HSRC.out j u hj)) | exact BB.out.size | rfl | (unfold maxLen; omega) | omega | skip)); intro g1 c1 w11 hown1 hgrow1 hat1 hlt1; have hb11 : Hid (Below w10.heap.size w10 w11) := Lib.hid (below_grown_dw (X := (w10.alloc (.cells #[.string kb, .string vb] 95)).alloc (.cells #[] 95)) hgrow1 BB.out BB.out.size (fun q hq => (World.ownsRow.lt HB1'.out q hq).1)); have HE : Hid (∀ j u, [Value.string kb, .string vb][j]? = some u → w11.cell? ((⟨w10.heap.size, 0, none⟩ : Addr).add j) = some u) := Lib.hid (fun j u hj => (hgrow1.cell_far _ (by rw [add_block]; show w10.heap.size < _; first | (simp; done) | (simp; omega)) (by rw [add_block]; show some (w10.heap.size) ≠ some (w10.heap.size + 1); simp)).trans (NB.out j u hj)); have hez : w10.heap.size < w11.heap.size := Nat.lt_of_lt_of_le (by first | (simp; done) | (simp; omega)) hgrow1.size; simp only [Nat.zero_add, List.nil_append] at hown1; have HOWN1 := Lib.hid hown1; have s0' := (hb11.out.cell (p := ⟨b, 0, none⟩) hbl).trans s0; have s1' := (hb11.out.cell (p := ⟨b, 1, none⟩) hbl).trans s1; clear hown1 hgrow1 hat1)
                        | (refine step_append_lies _ ?_ (.tmp 109) (.tmp 111) _ ?_ w10.heap.size 95 l0 _ 2 32 Tryz.underlying59 hl0 hx0 hx1 hx2 ?_ ?_ (.slice (some ⟨g1, 0, none⟩) st.fields.length c1) st.fields.length (st.fields.flatMap Fd.cells) ?_ ?_ ⟨w11.heap.size, 0, none⟩ 1 1 [.string kb, .string vb] ?_ ?_ ?_ ?_ ?_ ?_ ?_ ?_ _ rfl ?_; (any_goals (first | exact (World.ownsRow.alloc HOWN1.out (.cells #[.string kb, .string vb] 95)) | exact (World.news_of_block (w := w11.alloc (.cells #[.string kb, .string vb] 95)) (cs := #[.string kb, .string vb]) (heap_alloc_new w11 _)) | exact (hb11.out.alloc hb11.out.size (.cells #[.string kb, .string vb] 95)).size | rfl | (simp [Value.oneCell']; done) | (unfold maxLen; omega) | omega | skip)); intro g2 c2 w12 hown2 hgrow2 hat2 hlt2; have hBB : Hid (Below w10.heap.size w10 w12) := Lib.hid (below_grown_w (X := w11.alloc (.cells #[.string kb, .string vb] 95)) hgrow2 (hb11.out.alloc hb11.out.size (.cells #[.string kb, .string vb] 95)) (hb11.out.alloc hb11.out.size (.cells #[.string kb, .string vb] 95)).size (fun q hq => (World.ownsRow.lt HOWN1.out q hq).1)); have t3 := (hBB.out.cell (p := ⟨N, 2, none⟩) hN10).trans t2; have u3 := (hBB.out.frozen (p := ⟨N, 2, none⟩) hN10).trans u2; have HOWN2 := Lib.hid hown2; clear hown2 hgrow2 hat2)
                        | (refine step_append_lies _ ?_ (.tmp 109) (.tmp 111) _ ?_ w10.heap.size 95 l0 _ 2 32 Tryz.underlying59 hl0 hx0 hx1 hx2 ?_ ?_ (.slice (some ⟨g1, 0, none⟩) st.fields.length c1) st.fields.length (st.fields.flatMap Fd.cells) ?_ ?_ ⟨w10.heap.size + 1, 0, none⟩ 1 1 [.string kb, .string vb] ?_ ?_ ?_ ?_ ?_ ?_ ?_ ?_ _ rfl ?_; (any_goals (first | exact HOWN1.out | exact HE.out | exact hb11.out.size | rfl | (simp [Value.oneCell']; done) | (unfold maxLen; omega) | omega | skip)); intro g2 c2 w12 hown2 hgrow2 hat2 hlt2; have hBB : Hid (Below w10.heap.size w10 w12) := Lib.hid (below_grown_w (X := w11) hgrow2 hb11.out hb11.out.size (fun q hq => (World.ownsRow.lt HOWN1.out q hq).1)); have t3 := (hBB.out.cell (p := ⟨N, 2, none⟩) hN10).trans t2; have u3 := (hBB.out.frozen (p := ⟨N, 2, none⟩) hN10).trans u2; have HOWN2 := Lib.hid hown2; clear hown2 hgrow2 hat2)
                        | (refine step_append_lies _ ?_ (.tmp 109) (.tmp 111) _ ?_ w10.heap.size 95 l0 _ 2 32 Tryz.underlying59 hl0 hx0 hx1 hx2 ?_ ?_ (.slice (some ⟨g1, 0, none⟩) st.fields.length c1) st.fields.length (st.fields.flatMap Fd.cells) ?_ ?_ ⟨w10.heap.size, 0, none⟩ 1 1 [.string kb, .string vb] ?_ ?_ ?_ ?_ ?_ ?_ ?_ ?_ _ rfl ?_; (any_goals (first | exact HOWN1.out | exact HE.out | exact hb11.out.size | rfl | (simp [Value.oneCell']; done) | (unfold maxLen; omega) | omega | skip)); intro g2 c2 w12 hown2 hgrow2 hat2 hlt2; have hBB : Hid (Below w10.heap.size w10 w12) := Lib.hid (below_grown_w (X := w11) hgrow2 hb11.out hb11.out.size (fun q hq => (World.ownsRow.lt HOWN1.out q hq).1)); have t3 := (hBB.out.cell (p := ⟨N, 2, none⟩) hN10).trans t2; have u3 := (hBB.out.frozen (p := ⟨N, 2, none⟩) hN10).trans u2; have HOWN2 := Lib.hid hown2; clear hown2 hgrow2 hat2))
                      all_goals
                        exact HJ.out _ _ _ _ _ _ _ _ _ ⟨_, w12, rfl, hBB.out, HOWN2.out⟩
                    · rintro u106 u107 u108 u109 u110 u111 u112 u113 wc ⟨v, w12, rfl, hBB, hown⟩
                      simp only [Act.put, List.setIfInBounds_toArray, List.set_cons_zero, List.set_cons_succ]
                      have hfin := ref_end (v := v) (ls := saidL x (xs.drop (k + 1))) (F := ⟨fk, fv⟩) HS6.out HW6.out HB7.out HO7.out HN10.out HB710.out hBB (by rw [List.flatMap_append]; rw [← HKB.out, ← HVB.out] at hown; exact hown) HF.out hN6
                      have HFIN := Lib.hid hfin
                      clear hfin hown hBB
                      go_wp2
                      refine ⟨⟨k + 1, st.field x (saidL x (xs.drop (k + 1))), v, vs, by go_num, by omega, by rw [field_recs1 _ _ HF0.out], by rw [field_recs1 _ _ HF0.out]; omega, by rw [field_fields]; omega, by show st.out.length ≤ 2 * (k + 1); omega, by rw [field_raw, HMT.out]; omega, Lib.hid HFIN.out.1, Lib.hid ?_, Lib.hid HFIN.out.2⟩, by simp [intOf]; omega⟩
                      rw [HPX.out, beh_next HX.out, step_field HK1.out HK4.out]
                · have hk4b : ((kindOf x.text : Int) == 4) = false := by rw [beq_eq_false_iff_ne]; omega
                  have HK4 := Lib.hid hk4
                  clear hk4
                  go_wp2
                  refine ⟨⟨k + 1, st.line x, vf, vs, by go_num, by omega, rfl, by show st.records ≤ k + 1; omega, by show st.fields.length ≤ k + 1; omega, by show st.out.length ≤ 2 * (k + 1); omega, ?_, HS6, Lib.hid ?_, HW6⟩, by simp [intOf]; omega⟩
                  · show (st.raw ++ (x.text ++ [10])).length ≤ _
                    rw [HMT.out, List.length_append, List.length_append]; simp only [List.length_cons, List.length_nil]; omega
                  · rw [HPX.out, beh_next HX.out]
                    have e11 : st.step x (xs.drop (k + 1)) = st.line x := by unfold Rs.step; rw [if_neg HK1.out, if_neg HK4.out]
                    rw [e11]
          · have hne : ((wn : Int) != 0) = true := by rw [bne_iff_ne]; omega
            have HER : Hid ((parse s.data.toList).err ≠ 0) := Lib.hid (by
              have h1 := HPP.out
              rw [hPx, if_pos hw0] at h1
              intro h2
              rw [if_pos h2] at h1
              cases h1)
            have HB5 := Lib.hid hb5
            have HW5 := Lib.hid hW5
            clear hPx hS5 hb5 hW5 WC hS hP
            go_wp2
            exact HNO.out _ _ HER.out ⟨(k : Int), wn, rfl, hw0, hwn100, HBW.out.trans (HW5.out.mono (by have := HNN.out; omega))⟩
        · have hPx := hP.out
          rw [List.drop_eq_nil_of_le (by omega : xs.length ≤ k)] at hPx
          have h1 := HPP.out
          have e1 : rpar (behB (kindsOf xs) k) st [] = some st := rfl
          rw [hPx, e1] at h1
          have h1' : some st.fin = _ := h1
          have hE : (parse s.data.toList).err = 0 ∧ (parse s.data.toList).st.items = st.fin := by
            by_cases h2 : (parse s.data.toList).err = 0
            · rw [if_pos h2] at h1'
              injection h1' with h3
              exact ⟨h2, h3.symm⟩
            · rw [if_neg h2] at h1'
              cases h1'
          have HE := Lib.hid hE
          obtain ⟨fo, fc, hvf⟩ := hS.out.fld.shape
          obtain ⟨oo, oc, hvo⟩ := own_shape hS.out.out
          subst hvo
          have hmk : massOf ((xs.take k).map (·.text)) ≤ massOf (xs.map (·.text)) := by rw [List.map_take]; exact massOf_take _ _
          obtain ⟨rb, hrb⟩ : ∃ rb : ByteArray, (⟨st.raw.toArray⟩ : ByteArray) = rb := ⟨_, rfl⟩
          have hrd : rb.data.toList = st.raw := by rw [← hrb]
          have n0 : wr.cell? ⟨N, 0, none⟩ = some (.int .i64 (nowK st)) := by simp [World.cell?, hS.out.now, nowC]
          have n1 : wr.cell? ⟨N, 1, none⟩ = some (.string rb) := by rw [← hrb]; simp [World.cell?, hS.out.now, nowC]
          have n2 : wr.cell? ⟨N, 2, none⟩ = some (.slice fo st.fields.length fc) := by rw [← hvf]; simp [World.cell?, hS.out.now, nowC]
          have HBE := Lib.hid (HBW.out.trans (hW.out.mono (by have := HNN.out; omega)))
          have hNB : w.heap.size ≤ N := by have := HNN.out; omega
          by_cases hr0 : st.raw = []
          · have hrb0 : rb = ⟨#[]⟩ := by rw [← hrb, hr0]
            have HF : Hid ((parse s.data.toList).st.items = st.out) := Lib.hid (by rw [hE.2]; unfold Rs.fin; rw [if_pos hr0])
            subst hrb0
            clear hP hPx h1 h1' e1 hE hrb hrd hr0 hvf
            go_wp2
            refine HOK.out _ _ HE.out.1 ⟨_, vs, rfl, ?_, HBE.out⟩
            rw [HF.out]
            exact ⟨own_base hS.out.out (by omega), hS.out.len, fun i u x a b => own_base (hS.out.its i u x a b) (by omega)⟩
          · have hne : (rb.toList == []) = false := by rw [Lib.toList_data, hrd, beq_eq_false_iff_ne]; exact hr0
            have hne2 : rb.toList.isEmpty = false := by
              rw [Lib.toList_data, hrd]
              cases h : st.raw with
              | nil => exact absurd h hr0
              | cons a b => rfl
            have HF : Hid ((parse s.data.toList).st.items = st.out ++ [st.now]) := Lib.hid (by rw [hE.2]; unfold Rs.fin; rw [if_neg hr0])
            have HS := Lib.hid hS.out
            have HVF := Lib.hid hvf
            have HRB := Lib.hid hrb
            have HOX := Lib.hid (World.ownsRow.alloc hS.out.out (.cells #[.int .i64 (nowK st), .string rb, .slice fo st.fields.length fc] 111))
            clear hP hPx h1 h1' e1 hE hrb hrd hr0 hvf hS
            go_wp2_with (at_builtin; refine wpList_append_lies _ rfl _ _ _ rfl (N + 1) 111 j0 _ 3 48 Tryz.underlying104 hj0 hy0 hy1 hy2 rfl (by omega) (.slice oo st.out.length oc) st.out.length (itemCells st.out vs) rfl HOX.out ⟨wr.heap.size, 0, none⟩ 1 1 [.int .i64 (nowK st), .string rb, .slice fo st.fields.length fc] rfl rfl (World.news_of_block (cs := #[.int .i64 (nowK st), .string rb, .slice fo st.fields.length fc]) (heap_alloc_new wr _)) (by simp [Value.oneCell']) (by omega) (by unfold maxLen; omega) (by omega) (by simp; omega) _ rfl ?_; refine Hid.out ?_)
            refine Lib.hid ?_
            intro gg cap w8 hown8 hgrow hat hlt8
            have hb6 := below_grow1 wr (.cells #[.int .i64 (nowK st), .string rb, .slice fo st.fields.length fc] 111)
            have hS6 := HS.out.below hb6
            have hown9 : w8.ownsRow (N + 1) 111 3 (.slice (some ⟨gg, 0, none⟩) (st.out.length + 1) cap) (st.out.length + 1) (itemCells st.out vs ++ st.now.cells vf) := by
              have e9 : st.now.cells vf = [.int .i64 (nowK st), .string rb, .slice fo st.fields.length fc] := by
                rw [HVF.out, ← HRB.out]; rfl
              rw [e9]; exact hown8
            have HS8 := Lib.hid (hS6.push st.now vf hS6.fld rfl hown9 hgrow)
            have hb7 := HBE.out.alloc (by omega) (.cells #[.int .i64 (nowK st), .string rb, .slice fo st.fields.length fc] 111)
            have HB8 := Lib.hid (hb7.grown hgrow hb7.size (fun q hq => by have := (World.ownsRow.lt HS.out.out q hq).1; omega))
            clear hown8 hown9 hgrow hat hb6 hb7 hS6
            go_wp2
            refine HOK.out _ _ HE.out.1 ⟨_, vs ++ [vf], rfl, ?_, HB8.out⟩
            rw [HF.out]
            have h8 := HS8.out
            exact ⟨by have := own_base h8.out (by omega : w.heap.size ≤ N + 1); simpa [go_sem] using this, h8.len, fun i u x a b => own_base (h8.its i u x a b) (by omega)⟩
end Go.Proofs.YtjbnjlkoipkpoaaGreatDoor.B
