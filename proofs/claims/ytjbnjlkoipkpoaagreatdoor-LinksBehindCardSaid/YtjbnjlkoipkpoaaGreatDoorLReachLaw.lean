/- The law LinksReach, walked. -/
import Derived.Test.YtjbnjlkoipkpoaaGreatDoorLG
import Derived.Test.YtjbnjlkoipkpoaaGreatDoorLH
import Derived.Test.YtjbnjlkoipkpoaaGreatDoorLAlive
namespace Go.Proofs.YtjbnjlkoipkpoaaGreatDoor.T
open Go.RowKit Go.Shelf Go.Maps
open Go.Proofs.YtjbnjlkoipkpoaaGreatDoor.B

/-- The copy of the links, as far as it has come. -/
def CpR (t : List ZLk) (N : Nat) (w2 : World) (v i : Value) (wr : World) : Prop :=
  ∃ k : Nat, i = .int .i64 k ∧ k ≤ t.length ∧ Hid (ZlRow N wr v (t.take k)) ∧ Hid (Below N w2 wr)
theorem zs_same (B1 B2 : Nat) (va vb : Value) (zs : List Int) (w : World) (ha : ZRow B1 w va zs) (hb : ZRow B2 w vb zs) (hn : zs.length ≤ 9223372036854775807) :
    Calls Tryz.prog 35 #[va, vb] w fun e w' => e = .returned (.bool true) ∧ ∃ n, w' = w.drewN n :=
  zints_same w.heap.size va vb zs w (ZRow.at_ ha) (ZRow.at_ hb) hn
theorem Reached.len {ps : List (Int × Int)} {id : Int} {zs : List Int} (h : Reached ps id zs) : zs.length ≤ ps.length := by
  have : zs.length ≤ (ps.map (·.2)).length := nodup_len (up_nodup h.1) fun x hx => by
    obtain ⟨p, hp, e⟩ := ((h.2 x).1 hx).mem
    exact List.mem_map.2 ⟨p, hp, e⟩
  simpa using this
set_option maxRecDepth 100000 in
set_option maxHeartbeats 6400000 in
theorem reachL_main (v : Value) (t : List ZLk) (id : Int) (w : World) (h : LinkArg w v t) (hid : (Lit.int .i64 id).wf = true) (hr : Ready w) (h60 : t.length ≤ 60) :
    Calls Tryz.prog 5 #[v, .int .i64 id] w fun e w' => e = .returned (.bool true) ∧ Below w.heap.size w w' := by
  obtain ⟨i0, hi0, hz0, hz1, hz2⟩ := info_parts infoLk
  have AL := Lib.hid (alive30_any w hr)
  have hwf : ∀ p ∈ t.map prI, WfP p := fun p hp => by obtain ⟨l, hl, rfl⟩ := List.mem_map.1 hp; exact h.wf l hl
  have RE : Hid (∀ (u : Value) (B : Nat) (W : World), ZlRow B W u t → Calls Tryz.prog 36 #[u, .int .i64 id] W fun e w' => ∃ x zs, e = .returned x ∧ ZRow W.heap.size w' x zs ∧ Reached (t.map prI) id zs ∧ Below W.heap.size W w') :=
    Lib.hid fun u B W hu => reach_any u (t.map prI) id W (LwAt.ls hu) (by rw [List.length_map]; omega) hwf hid
  have RR : Hid (∀ W : World, Below w.heap.size w W → Calls Tryz.prog 37 #[v, .int .i64 id] W fun e w' => ∃ x zs, e = .returned x ∧ ZRow W.heap.size w' x zs ∧ Reached (t.map prI) id zs ∧ Below W.heap.size W w') :=
    Lib.hid fun W hb => refReach_any v (t.map prI) id W ((h.at_.below hb (Nat.le_refl _)).up hb.size).lsOff (by rw [List.length_map]; omega)
  have SM : Hid (∀ (u : Value) (B : Nat) (W : World), ZlRow B W u t → Below w.heap.size w W → Calls Tryz.prog 16 #[u, v] W fun e w' => e = .returned (.bool true) ∧ Below W.heap.size W w') :=
    Lib.hid fun u B W hu hb => same_z u v t _ _ W (ZlRow.lw hu) (Nat.le_refl _) (h.at_.below hb (Nat.le_refl _)) hb.size (by omega)
  obtain ⟨ao, cp, rfl, hc⟩ := h.at_
  have HC := Lib.hid hc
  have hml : (t.map prI).length ≤ 60 := by rw [List.length_map]; exact h60
  clear h hwf hid hr hc
  obtain ⟨ps, hps⟩ : ∃ ps, t.map prI = ps := ⟨_, rfl⟩
  rw [hps] at RE RR hml
  clear hps
  go_enter Tryz.func5, Tryz.ntmps5
  go_wp2_with fail
  refine AL.out.mono ?_
  rintro e w1 ⟨rfl, hb1⟩
  have HB1 := Lib.hid hb1
  have hm2 := World.ownsRow_made (base := w1.heap.size) (e := 66) (size := 3) w1 #[] 0 (Nat.le_refl _) (Nat.zero_le _) rfl
  obtain ⟨w2, hw2⟩ : ∃ w2, w1.alloc (.cells #[] 66) = w2 := ⟨_, rfl⟩
  rw [hw2] at hm2
  have hb2 : Below w1.heap.size w1 w2 := by rw [← hw2]; exact below_grow1 w1 _
  have HM2 : Hid (ZlRow w1.heap.size w2 (.slice (some ⟨w1.heap.size, 0, none⟩) 0 0) []) := Lib.hid hm2
  have HB2 := Lib.hid hb2
  have HW2 := Lib.hid hw2
  obtain ⟨N, hN⟩ : ∃ N, w1.heap.size = N := ⟨_, rfl⟩
  rw [hN] at HM2 HB2
  have HN := Lib.hid hN
  clear hb1 hm2 hb2 hw2 AL
  go_wp2_with fail
  rw [HW2.out]
  try simp only [hN]
  clear hN
  go_loopw [5, 7, 16] (fun v _ i W => CpR t N w1 v i W) (fun _ _ i _ => t.length - (intOf i).toNat)
  case atStart => exact ⟨0, rfl, Nat.zero_le _, HM2, HB2⟩
  case round =>
    clear HM2
    obtain ⟨k, rfl, hk, hO, hW⟩ := hrel
    have hbw : Below w.heap.size w wr := HB1.out.trans (hW.out.mono (by have := HB1.out.size; have := HN.out; omega))
    by_cases hlt : k < t.length
    · obtain ⟨l, hl⟩ : ∃ l, t[k]? = some l := ⟨_, List.getElem?_eq_getElem hlt⟩
      obtain ⟨g, off, rfl, hg, e1, e2, e3⟩ := HC.out k l hl
      have e1 := (hbw.cell (p := ⟨g, off + k * 3, none⟩) hg).trans e1
      have e2 := (hbw.cell (p := ⟨g, off + k * 3 + 1, none⟩) hg).trans e2
      have e3 := (hbw.cell (p := ⟨g, off + k * 3 + 2, none⟩) hg).trans e3
      have HX : Hid (t.take (k + 1) = t.take k ++ [l]) := Lib.hid (by rw [List.take_add_one, hl]; rfl)
      have htl : (t.take k).length ≤ 60 := by rw [List.length_take]; omega
      obtain ⟨l1, l2, l3⟩ := l
      simp only at e1 e2 e3
      have hO3 : ZlRow N wr u5 (t.take k) := hO.out
      obtain ⟨base, hbase⟩ : ∃ base, t.take k = base := ⟨_, rfl⟩
      rw [hbase] at hO3 HX htl
      obtain ⟨vo, vc, hvo⟩ := own_shape hO3
      subst hvo
      have hzr := hW.out.size
      have hzN : N ≤ w1.heap.size := by have := HN.out; omega
      have hNr : N ≤ wr.heap.size := Nat.le_trans hzN hzr
      have HOA := Lib.hid (World.ownsRow.alloc (World.ownsRow.alloc hO3 (.cells #[.int .i64 l1, .int .i64 l2, .string l3] 34)) (.cells #[.int .i64 l1, .int .i64 l2, .string l3] 66))
      have HNA : Hid (∀ j y, [Value.int .i64 l1, .int .i64 l2, .string l3][j]? = some y → ((wr.alloc (.cells #[.int .i64 l1, .int .i64 l2, .string l3] 34)).alloc (.cells #[.int .i64 l1, .int .i64 l2, .string l3] 66)).cell? ((⟨wr.heap.size + 1, 0, none⟩ : Addr).add j) = some y) := Lib.hid (World.news_of_block (cs := #[.int .i64 l1, .int .i64 l2, .string l3]) (by have := heap_alloc_new (wr.alloc (.cells #[.int .i64 l1, .int .i64 l2, .string l3] 34)) (.cells #[.int .i64 l1, .int .i64 l2, .string l3] 66); simpa using this))
      have HBA := Lib.hid ((hW.out.alloc hNr (.cells #[.int .i64 l1, .int .i64 l2, .string l3] 34)).alloc (by simp; omega) (.cells #[.int .i64 l1, .int .i64 l2, .string l3] 66))
      have hlow : Hid (∀ q, (Value.slice vo base.length vc).ownBlock = some q → N ≤ q) := Lib.hid fun q hq => (World.ownsRow.lt hO3 q hq).1
      have hkz : (k : Int) < (t.length : Int) := by omega
      clear hl hO hO3 hW hbw hbase
      go_wp2_with (at_builtin; refine wpList_append_lies _ rfl _ _ _ rfl N 66 i0 _ 3 32 Tryz.underlying29 hi0 hz0 hz1 hz2 rfl (by omega) (.slice vo base.length vc) base.length (base.flatMap zlC) rfl HOA.out ⟨wr.heap.size + 1, 0, none⟩ 1 1 [.int .i64 l1, .int .i64 l2, .string l3] rfl rfl HNA.out (by simp [Value.oneCell']) (by omega) (by unfold maxLen; omega) (by omega) (by simp; omega) _ rfl ?_; refine Hid.out ?_)
      refine Lib.hid ?_
      intro gg cap w8 hown8 hgrow hat hlt8
      have HN8 := Lib.hid (ZlRow.snoc (c := (l1, l2, l3)) hown8)
      have HB8 := Lib.hid (HBA.out.grown hgrow (by simp; omega) hlow.out)
      clear hown8 hgrow hat
      go_wp2_with fail
      exact ⟨⟨k + 1, by go_num, by omega, (by rw [HX.out]; exact HN8), HB8⟩, by simp [intOf]; omega⟩
    · have hO4 : ZlRow N wr u5 (t.take k) := hO.out
      rw [List.take_of_length_le (by omega)] at hO4
      have HO4 := Lib.hid hO4
      have HBW := Lib.hid hbw
      obtain ⟨uo, uc, huo⟩ := own_shape hO4
      subst huo
      have R1 := Lib.hid (RE.out _ N wr hO4)
      have hltz : ¬ (k : Int) < (t.length : Int) := by omega
      clear hO hO4 hW hbw
      go_wp2_with fail
      refine R1.out.mono ?_
      rintro e w3 ⟨x, zs, rfl, hx, hzs, hb3⟩
      have HB3 := Lib.hid (HBW.out.trans (hb3.mono HBW.out.size))
      have R2 := Lib.hid (RR.out w3 HB3.out)
      have HX3 := Lib.hid hx
      have HZ3 := Lib.hid hzs
      have HO5 := Lib.hid (HO4.out.below hb3)
      clear hx hzs hb3 R1
      go_wp2_with fail
      refine R2.out.mono ?_
      rintro e w4 ⟨y, zs2, rfl, hy, hzs2, hb4⟩
      obtain rfl := HZ3.out.uniq hzs2
      have HB4 := Lib.hid (HB3.out.trans (hb4.mono HB3.out.size))
      have HO6 := Lib.hid (HO5.out.below hb4)
      have IS := Lib.hid (zs_same _ _ x y zs w4 (HX3.out.below hb4) hy (by have := HZ3.out.len; omega))
      clear hy hzs2 hb4 R2
      go_wp2_with fail
      refine IS.out.mono ?_
      rintro e w5 ⟨rfl, n5, hw5⟩
      have HB5 := Lib.hid (hw5 ▸ below_dn HB4.out n5)
      have hb45 : Below w4.heap.size w4 w5 := hw5 ▸ below_dn (Below.refl _ _) n5
      have SS := Lib.hid (SM.out _ N w5 (HO6.out.below hb45) HB5.out)
      clear hw5 hb45 IS
      go_wp2_with fail
      refine SS.out.mono ?_
      rintro e w6 ⟨rfl, hb6⟩
      have HB6 := Lib.hid (HB5.out.trans (hb6.mono HB5.out.size))
      clear hb6
      go_wp2_with fail
      go_ret
      exact ⟨rfl, HB6.out⟩
theorem reachL_big (v : Value) (t : List ZLk) (id : Int) (w : World) (h : LinkArg w v t) (hr : Ready w) (h60 : 60 < t.length) :
    Calls Tryz.prog 5 #[v, .int .i64 id] w fun e w' => e = .returned (.bool true) ∧ Below w.heap.size w w' := by
  have AL := Lib.hid (alive30_any w hr)
  have hl := h.len
  obtain ⟨ao, cp, rfl, -⟩ := h.at_
  clear h hr
  have h60z : (60 : Int) < (t.length : Int) := by omega
  go_enter Tryz.func5, Tryz.ntmps5
  go_wp2_with fail
  refine AL.out.mono ?_
  rintro e w1 ⟨rfl, hb1⟩
  have HB1 := Lib.hid hb1
  clear hb1
  go_wp2_with fail
  go_ret
  exact ⟨rfl, HB1.out⟩
theorem reachL_walk (v : Value) (t : List ZLk) (id : Int) (w : World) (h : LinkArg w v t) (hid : (Lit.int .i64 id).wf = true) (hr : Ready w) :
    Calls Tryz.prog 5 #[v, .int .i64 id] w fun e w' => e = .returned (.bool true) ∧ Below w.heap.size w w' := by
  by_cases h60 : 60 < t.length
  · exact reachL_big v t id w h hr h60
  · exact reachL_main v t id w h hid hr (by omega)
end Go.Proofs.YtjbnjlkoipkpoaaGreatDoor.T
