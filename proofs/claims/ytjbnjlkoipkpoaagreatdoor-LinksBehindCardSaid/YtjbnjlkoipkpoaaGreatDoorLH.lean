/- stanzakeepref30.Reach, walked. stanzakeepref30.Order, walked. Links of any numbers in memory; the law's row of links, out of the condition that it can be read; law30.same at them. -/
import Derived.Test.YtjbnjlkoipkpoaaGreatDoorLG
import Derived.Test.YtjbnjlkoipkpoaaGreatDoorLE
import Derived.Test.YtjbnjlkoipkpoaaGreatDoorTOpen
import Derived.Deep.Fields
namespace Go.Proofs.YtjbnjlkoipkpoaaGreatDoor.T
open Go.RowKit Go.Shelf Go.Maps
open Go.Proofs.YtjbnjlkoipkpoaaGreatDoor.B

/-- Links lie in memory, at whatever place of a block; what is looked at: from where, whereto. -/
def LsOff (B : Nat) (w : World) (v : Value) (ps : List (Int × Int)) : Prop :=
  ∃ (ao : Option Addr) (cp : Nat), v = .slice ao ps.length cp ∧ ∀ (k : Nat) (p : Int × Int), ps[k]? = some p → ∃ g off, ao = some ⟨g, off, none⟩ ∧ g < B ∧ w.cell? ⟨g, off + k * 3, none⟩ = some (.int .i64 p.1) ∧ w.cell? ⟨g, off + k * 3 + 1, none⟩ = some (.int .i64 p.2)
theorem LsAt.off {B : Nat} {w : World} {v : Value} {ps : List (Int × Int)} (h : LsAt B w v ps) : LsOff B w v ps :=
  let ⟨ao, cp, h1, h2⟩ := h
  ⟨ao, cp, h1, fun k p hk => let ⟨g, s, h3, h4, h5, h6, h7⟩ := h2 k p hk; ⟨g, 0, h3, h4, by rw [Nat.zero_add]; exact h5, by rw [Nat.zero_add]; exact h6⟩⟩
theorem ZRow.snoc {B gg cap : Nat} {w : World} {zs : List Int} {z : Int} (h : w.ownsRow B 3 1 (.slice (some ⟨gg, 0, none⟩) (zs.length + 1) cap) (zs.length + 1) (zVals zs ++ [.int .i64 z])) : ZRow B w (.slice (some ⟨gg, 0, none⟩) (zs.length + 1) cap) (zs ++ [z]) := by
  unfold ZRow zVals
  rw [List.length_append, List.map_append]
  exact h
theorem ZRow.below {B : Nat} {w w' : World} {v : Value} {zs : List Int} (h : ZRow B w v zs) (hb : Below w.heap.size w w') : ZRow B w' v zs := ownsRow_of_block h fun g hg => hb.block g (World.ownsRow.lt h g hg).2
def RrO (ps : List (Int × Int)) (id : Int) (w : World) (gg : Nat) (v gv : Value) (wr : World) : Prop :=
  ∃ (f : List Int) (g : Bool), gv = .bool g ∧ (ps.length - f.length) + (if g then 1 else 0) ≤ gg ∧ Hid (ZRow w.heap.size wr v f) ∧ Hid (RSt ps id f) ∧ Hid (g = false → ∀ x, x ∈ f ↔ Rch ps id x) ∧ Hid (Below w.heap.size w wr)
def RrI (ps : List (Int × Int)) (id : Int) (w : World) (f0 : List Int) (v gv i : Value) (wr : World) : Prop :=
  ∃ (k : Nat) (f : List Int) (g : Bool), i = .int .i64 k ∧ k ≤ ps.length ∧ gv = .bool g ∧ Hid (ZRow w.heap.size wr v f) ∧ Hid (RIn ps id k f0 f g) ∧ Hid (Below w.heap.size w wr)
def RrS (f : List Int) (wo : World) (gg : Nat) (v : Value) (wr : World) : Prop :=
  ∃ out : List Int, f.length - out.length ≤ gg ∧ Hid (ZRow wo.heap.size wr v out) ∧ Hid (Sel f out) ∧ Hid (Below wo.heap.size wo wr)
def RrM (f out : List Int) (b ok i : Value) : Prop :=
  ∃ (k : Nat) (b' : Int) (ok' : Bool), b = .int .i64 b' ∧ ok = .bool ok' ∧ i = .int .i64 k ∧ k ≤ f.length ∧ Hid (Least f out k b' ok')
set_option maxRecDepth 100000 in
set_option maxHeartbeats 6400000 in
theorem refReach_any (v : Value) (ps : List (Int × Int)) (id : Int) (w : World) (h : LsOff w.heap.size w v ps) (hn : ps.length ≤ 40040000) :
    Calls Tryz.prog 37 #[v, .int .i64 id] w fun e w' => ∃ u zs, e = .returned u ∧ ZRow w.heap.size w' u zs ∧ Reached ps id zs ∧ Below w.heap.size w w' := by
  obtain ⟨i0, hi0, hz0, hz1, hz2⟩ := info_parts infoI
  obtain ⟨ao, cp, rfl, hc⟩ := h
  have HC := Lib.hid hc
  clear hc
  go_enter Tryz.func37, Tryz.ntmps37
  go_wp2_with fail
  go_loopg [5, 6, 7] (ps.length + 1) (fun gg s5 s6 _ wr => RrO ps id w gg s5 s6 wr)
  case atStart => exact ⟨[], true, rfl, by simp, Lib.hid (World.ownsRow_nil _ _ _ _), Lib.hid (RSt.start _ _), Lib.hid (fun h => by cases h), Lib.hid (Below.refl _ _)⟩
  case round =>
    obtain ⟨f, g, rfl, hgg, hO, hS, hD, hW⟩ := hrel
    cases g with
    | true =>
      simp only [if_true] at hgg
      have hfl := hS.out.len
      have HI0 := Lib.hid (RIn.start hS.out)
      have HO0 := hO
      have HW0 := hW
      obtain ⟨wo, hwo⟩ : ∃ wo, wo = wr := ⟨_, rfl⟩
      subst hwo
      clear hO hW hD
      go_wp2_with fail
      go_loopw [5, 6, 7] (fun v gv i W => RrI ps id w f v gv i W) (fun _ _ i _ => ps.length - (intOf i).toNat)
      case atStart => exact ⟨0, f, false, rfl, Nat.zero_le _, rfl, HO0, HI0, HW0⟩
      case round =>
        clear HO0 HI0 HW0
        obtain ⟨k, f1, g1, rfl, hk, rfl, hO, hI, hW⟩ := hrel
        have hfl1 := hI.out.1.len
        by_cases hlt : k < ps.length
        · obtain ⟨p, hp⟩ : ∃ p, ps[k]? = some p := ⟨_, List.getElem?_eq_getElem hlt⟩
          obtain ⟨ga, off, rfl, hga, e1, e2⟩ := HC.out k p hp
          have e1 := (hW.out.cell (p := ⟨ga, off + k * 3, none⟩) hga).trans e1
          have e2 := (hW.out.cell (p := ⟨ga, off + k * 3 + 1, none⟩) hga).trans e2
          have hkz : (k : Int) < (ps.length : Int) := by omega
          have hzr := hW.out.size
          have HP := Lib.hid hp
          obtain ⟨vo, vc, hvo⟩ := own_shape hO.out
          subst hvo
          have HA := Lib.hid (fun n => has_any (.slice vo f1.length vc) f1 n wr (ZRow.at_ hO.out) (by omega))
          obtain ⟨pf, pt⟩ := p
          simp only at e1 e2
          clear hp
          by_cases h0 : pt = 0
          · have hq : (pt != 0) = false := by rw [h0]; rfl
            have HI2 := Lib.hid (hI.out.pass HP.out (fun h => absurd h0 h))
            clear HA h0
            go_wp2_with fail
            exact ⟨⟨k + 1, f1, g1, by go_num, by omega, rfl, hO, HI2, hW⟩, by simp [intOf]; omega⟩
          · have hq : (pt != 0) = true := by rw [bne_iff_ne]; exact h0
            have HT := Lib.hid (HA.out pt)
            obtain ⟨b1, hb1⟩ : ∃ b, f1.contains pt = b := ⟨_, rfl⟩
            rw [hb1] at HT
            cases b1 with
            | true =>
              have HI2 := Lib.hid (hI.out.pass HP.out (fun _ _ => by simpa using hb1))
              clear HA h0 hb1
              go_wp2_with fail
              refine HT.out.mono ?_
              rintro e w' ⟨rfl, rfl⟩
              go_wp2_with fail
              exact ⟨⟨k + 1, f1, g1, by go_num, by omega, rfl, hO, HI2, hW⟩, by simp [intOf]; omega⟩
            | false =>
              have hnt : pt ∉ f1 := by simpa using hb1
              have HOA := Lib.hid (World.ownsRow.alloc hO.out (.cells #[.int .i64 pt] 3))
              have HNA : Hid (∀ j y, [Value.int .i64 pt][j]? = some y → (wr.alloc (.cells #[.int .i64 pt] 3)).cell? ((⟨wr.heap.size, 0, none⟩ : Addr).add j) = some y) := Lib.hid (World.news_of_block (cs := #[.int .i64 pt]) (heap_alloc_new wr _))
              have HBA := Lib.hid (hW.out.alloc hzr (.cells #[.int .i64 pt] 3))
              have hlow : Hid (∀ q, (Value.slice vo f1.length vc).ownBlock = some q → w.heap.size ≤ q) := Lib.hid fun q hq => (World.ownsRow.lt hO.out q hq).1
              have FIN : Hid (∀ (gg cap : Nat) (w8 : World), w8.ownsRow w.heap.size 3 1 (.slice (some ⟨gg, 0, none⟩) (f1.length + 1) cap) (f1.length + 1) (zVals f1 ++ [.int .i64 pt]) → (wr.alloc (.cells #[.int .i64 pt] 3)).grownBy w8 (Value.slice vo f1.length vc).ownBlock → Hid (ZRow w.heap.size w8 (.slice (some ⟨gg, 0, none⟩) (f1.length + 1) cap) (f1 ++ [pt])) ∧ Hid (Below w.heap.size w w8)) := Lib.hid fun gg cap w8 h1 h2 => ⟨Lib.hid (ZRow.snoc h1), Lib.hid (HBA.out.grown h2 (by simp; omega) hlow.out)⟩
              by_cases h1 : pf = id
              · have hq2 : (pf == id) = true := by rw [h1]; simp
                have HI2 := Lib.hid (hI.out.take HP.out h0 hnt (.inl h1))
                clear HA h0 hb1 hnt h1
                go_wp2_with fail
                refine HT.out.mono ?_
                rintro e w' ⟨rfl, rfl⟩
                go_wp2_with (at_builtin; refine wpList_append_lies _ rfl _ _ _ rfl w.heap.size 3 i0 _ 1 8 Tryz.underlying68 hi0 hz0 hz1 hz2 rfl (by omega) (.slice vo f1.length vc) f1.length (zVals f1) rfl HOA.out ⟨wr.heap.size, 0, none⟩ 1 1 [.int .i64 pt] rfl rfl HNA.out (by simp [Value.oneCell']) (by omega) (by unfold maxLen; omega) (by omega) (by simp; omega) _ rfl ?_; refine Hid.out ?_)
                refine Lib.hid ?_
                intro gg cap w8 hown8 hgrow hat hlt8
                obtain ⟨HN8, HB8⟩ := FIN.out gg cap w8 hown8 hgrow
                clear hown8 hgrow hat
                go_wp2
                exact ⟨⟨k + 1, f1 ++ [pt], true, by go_num, by omega, rfl, HN8, HI2, HB8⟩, by simp [intOf]; omega⟩
              · have hq2 : (pf == id) = false := by rw [beq_eq_false_iff_ne]; exact h1
                have HF := Lib.hid (HA.out pf)
                obtain ⟨b2, hb2⟩ : ∃ b, f1.contains pf = b := ⟨_, rfl⟩
                rw [hb2] at HF
                cases b2 with
                | true =>
                  have HI2 := Lib.hid (hI.out.take HP.out h0 hnt (.inr (by simpa using hb2)))
                  clear HA h0 hb1 hnt h1 hb2
                  go_wp2_with fail
                  refine HT.out.mono ?_
                  rintro e w' ⟨rfl, rfl⟩
                  go_wp2_with fail
                  refine HF.out.mono ?_
                  rintro e w' ⟨rfl, rfl⟩
                  go_wp2_with (at_builtin; refine wpList_append_lies _ rfl _ _ _ rfl w.heap.size 3 i0 _ 1 8 Tryz.underlying68 hi0 hz0 hz1 hz2 rfl (by omega) (.slice vo f1.length vc) f1.length (zVals f1) rfl HOA.out ⟨wr.heap.size, 0, none⟩ 1 1 [.int .i64 pt] rfl rfl HNA.out (by simp [Value.oneCell']) (by omega) (by unfold maxLen; omega) (by omega) (by simp; omega) _ rfl ?_; refine Hid.out ?_)
                  refine Lib.hid ?_
                  intro gg cap w8 hown8 hgrow hat hlt8
                  obtain ⟨HN8, HB8⟩ := FIN.out gg cap w8 hown8 hgrow
                  clear hown8 hgrow hat
                  go_wp2
                  exact ⟨⟨k + 1, f1 ++ [pt], true, by go_num, by omega, rfl, HN8, HI2, HB8⟩, by simp [intOf]; omega⟩
                | false =>
                  have HI2 := Lib.hid (hI.out.pass HP.out (fun _ h => by
                    rcases h with h | h
                    · exact absurd h h1
                    · have : f1.contains pf = true := by simpa using h
                      rw [hb2] at this; cases this))
                  clear HA h0 hb1 hnt h1 hb2
                  go_wp2_with fail
                  refine HT.out.mono ?_
                  rintro e w' ⟨rfl, rfl⟩
                  go_wp2_with fail
                  refine HF.out.mono ?_
                  rintro e w' ⟨rfl, rfl⟩
                  go_wp2_with fail
                  exact ⟨⟨k + 1, f1, g1, by go_num, by omega, rfl, hO, HI2, hW⟩, by simp [intOf]; omega⟩
        · obtain ⟨hS2, hF⟩ := hI.out.fin (by omega)
          have HS2 := Lib.hid hS2
          have HD2 : Hid (g1 = false → ∀ x, x ∈ f1 ↔ Rch ps id x) := Lib.hid fun e => by
            rcases hF with h | h
            · rw [e] at h; cases h.1
            · exact h.2
          have hm2 : (ps.length - f1.length) + (if g1 then 1 else 0) < (ps.length - f.length) + 1 := by
            rcases hF with ⟨h1, h2⟩ | ⟨h1, h2⟩
            · rw [h1, if_pos rfl]; omega
            · rw [h1, if_neg (by simp)]
              have : f.length ≤ f1.length := by
                rcases hI.out.2 with h | h
                · omega
                · rw [h.2.1]; exact Nat.le_refl _
              omega
          clear hF hS2 hI
          go_wp2_with fail
          go_roundg ((ps.length - f1.length) + (if g1 then 1 else 0))
          case measure => omega
          case rel => exact ⟨f1, g1, rfl, Nat.le_refl _, hO, HS2, HD2, hW⟩
    | false =>
      have hF := hD.out rfl
      have hfl := hS.out.len
      have HF := Lib.hid hF
      have HND := Lib.hid hS.out.nd
      have HOF := hO
      have HWF := hW
      obtain ⟨vo, vc, hvo⟩ := own_shape hO.out
      subst hvo
      obtain ⟨wo, hwo⟩ : ∃ wo, wo = wr := ⟨_, rfl⟩
      subst hwo
      clear hF hD hO hW hS
      go_wp2_with fail
      go_loopg [8, 9, 10, 11] f.length (fun gg s8 _ _ _ wr => RrS f wo gg s8 wr)
      case atStart => exact ⟨[], by simp, Lib.hid (World.ownsRow_nil _ _ _ _), Lib.hid (Sel.start _), Lib.hid (Below.refl _ _)⟩
      case round =>
        obtain ⟨out, hgg2, hO, hS, hW⟩ := hrel
        have hol := hS.out.len
        have hRF := HOF.out.below hW.out
        obtain ⟨oo, oc, hov⟩ := own_shape hO.out
        subst hov
        by_cases hlt : out.length < f.length
        · have HAo := Lib.hid (fun n => has_any (.slice oo out.length oc) out n wr (ZRow.at_ hO.out) (by omega))
          obtain ⟨gf, hgf, hvf⟩ : ∃ g, (Value.slice vo f.length vc).ownBlock = some g ∧ vo = some ⟨g, 0, none⟩ := by
            rcases hRF.2 with ⟨-, h0⟩ | ⟨g, cp', cur, hz, -⟩
            · omega
            · injection hz with z1 z2 z3
              exact ⟨g, by rw [z1]; rfl, z1⟩
          have HCF : Hid (∀ (k : Nat) (z : Int), f[k]? = some z → wr.cell? ⟨gf, k, none⟩ = some (.int .i64 z)) := Lib.hid fun k z hz => by
            have := World.ownsRow.cells hRF hgf k (.int .i64 z) (by unfold zVals; rw [List.getElem?_map, hz]; rfl)
            rwa [addrO] at this
          subst hvf
          have hltz : (out.length : Int) < (f.length : Int) := by omega
          clear hRF hgf
          go_wp2_with fail
          go_loop [9, 10, 11] (fun b ok i => RrM f out b ok i) (fun _ _ i => f.length - (intOf i).toNat)
          case atStart => exact ⟨0, 0, false, rfl, rfl, rfl, Nat.zero_le _, Lib.hid (Least.start _ _ _)⟩
          case round =>
            obtain ⟨k, b, ok, rfl, rfl, rfl, hk, hL⟩ := hrel
            by_cases hkl : k < f.length
            · obtain ⟨z, hz⟩ : ∃ z, f[k]? = some z := ⟨_, List.getElem?_eq_getElem hkl⟩
              have e1 := HCF.out k z hz
              have HZ := Lib.hid hz
              have hkz : (k : Int) < (f.length : Int) := by omega
              have HT := Lib.hid (HAo.out z)
              obtain ⟨b1, hb1⟩ : ∃ b, out.contains z = b := ⟨_, rfl⟩
              rw [hb1] at HT
              clear hz
              cases b1 with
              | true =>
                have HL2 := Lib.hid (hL.out.pass HZ.out (.inl (by simpa using hb1)))
                clear hb1
                go_wp2_with fail
                refine HT.out.mono ?_
                rintro e w' ⟨rfl, rfl⟩
                go_wp2_with fail
                exact ⟨⟨k + 1, b, ok, rfl, rfl, by go_num, by omega, HL2⟩, by simp [intOf]; omega⟩
              | false =>
                have hnt : z ∉ out := by simpa using hb1
                cases ok with
                | false =>
                  have HL2 := Lib.hid (hL.out.take HZ.out hnt (.inl rfl))
                  clear hb1 hnt
                  go_wp2_with fail
                  refine HT.out.mono ?_
                  rintro e w' ⟨rfl, rfl⟩
                  go_wp2_with fail
                  exact ⟨⟨k + 1, z, true, rfl, rfl, by go_num, by omega, HL2⟩, by simp [intOf]; omega⟩
                | true =>
                  by_cases hzb : z < b
                  · have HL2 := Lib.hid (hL.out.take HZ.out hnt (.inr hzb))
                    clear hb1 hnt
                    go_wp2_with fail
                    refine HT.out.mono ?_
                    rintro e w' ⟨rfl, rfl⟩
                    go_wp2_with fail
                    exact ⟨⟨k + 1, z, true, rfl, rfl, by go_num, by omega, HL2⟩, by simp [intOf]; omega⟩
                  · have HL2 := Lib.hid (hL.out.pass HZ.out (.inr ⟨rfl, by omega⟩))
                    clear hb1 hnt
                    go_wp2_with fail
                    refine HT.out.mono ?_
                    rintro e w' ⟨rfl, rfl⟩
                    go_wp2_with fail
                    exact ⟨⟨k + 1, b, true, rfl, rfl, by go_num, by omega, HL2⟩, by simp [intOf]; omega⟩
            · have HS2 := Lib.hid (hS.out.next HND.out hlt hL.out (by omega))
              have hzr := hW.out.size
              have HOA := Lib.hid (World.ownsRow.alloc hO.out (.cells #[.int .i64 b] 3))
              have HNA : Hid (∀ j y, [Value.int .i64 b][j]? = some y → (wr.alloc (.cells #[.int .i64 b] 3)).cell? ((⟨wr.heap.size, 0, none⟩ : Addr).add j) = some y) := Lib.hid (World.news_of_block (cs := #[.int .i64 b]) (heap_alloc_new wr _))
              have HBA := Lib.hid (hW.out.alloc hzr (.cells #[.int .i64 b] 3))
              have hlow : Hid (∀ q, (Value.slice oo out.length oc).ownBlock = some q → wo.heap.size ≤ q) := Lib.hid fun q hq => (World.ownsRow.lt hO.out q hq).1
              clear hL HAo HCF
              go_wp2_with (at_builtin; refine wpList_append_lies _ rfl _ _ _ rfl wo.heap.size 3 i0 _ 1 8 Tryz.underlying68 hi0 hz0 hz1 hz2 rfl (by omega) (.slice oo out.length oc) out.length (zVals out) rfl HOA.out ⟨wr.heap.size, 0, none⟩ 1 1 [.int .i64 b] rfl rfl HNA.out (by simp [Value.oneCell']) (by omega) (by unfold maxLen; omega) (by omega) (by simp; omega) _ rfl ?_; refine Hid.out ?_)
              refine Lib.hid ?_
              intro gg cap w8 hown8 hgrow hat hlt8
              have HN8 := Lib.hid (ZRow.snoc hown8)
              have HB8 := Lib.hid (HBA.out.grown hgrow (by simp; omega) hlow.out)
              clear hown8 hgrow hat
              go_wp2_with fail
              go_roundg (f.length - (out.length + 1))
              case measure => omega
              case rel => exact ⟨out ++ [b], by simp, HN8, HS2, HB8⟩
        · have HR := Lib.hid (hS.out.fin (ps := ps) (id := id) (by omega) HF.out)
          have HO4 := Lib.hid (ZRow.low hO.out HWF.out.size)
          have HB4 := Lib.hid (HWF.out.trans (hW.out.mono HWF.out.size))
          have hltz : ¬ (out.length : Int) < (f.length : Int) := by omega
          clear hO hS hW hRF
          go_wp2_with fail
          go_ret
          exact ⟨_, rfl, _, HO4.out, HR.out, HB4.out⟩
end Go.Proofs.YtjbnjlkoipkpoaaGreatDoor.T

namespace Go.Proofs.YtjbnjlkoipkpoaaGreatDoor.T
open Go.RowKit Go.Shelf Go.Maps
open Go.Proofs.YtjbnjlkoipkpoaaGreatDoor.B

theorem RlRow.lsAt {B : Nat} {w : World} {v : Value} {t : List Lk} (h : RlRow B w v t) : LsAt w.heap.size w v (t.map prZ) := by
  rcases h.2 with ⟨h0, h1⟩ | ⟨g, cap, cur, hv, hB, hr⟩
  · exact ⟨none, 0, by rw [h0, List.length_map, h1], fun k p hp => by have := (List.getElem?_eq_some_iff.1 hp).1; rw [List.length_map] at this; omega⟩
  · refine ⟨_, cap, by rw [hv, List.length_map], fun k p hp => ?_⟩
    rw [List.getElem?_map] at hp
    obtain ⟨l, hl, rfl⟩ := Option.map_eq_some_iff.1 hp
    obtain ⟨g1, g2, g3⟩ := lkC_get t k l hl
    have hob : v.ownBlock = some g := by rw [hv]; rfl
    have e1 := World.ownsRow.cells h hob _ _ g1
    have e2 := World.ownsRow.cells h hob _ _ g2
    have e3 := World.ownsRow.cells h hob _ _ g3
    rw [addrO] at e1 e2 e3
    exact ⟨g, _, rfl, (World.ownsRow.lt h g hob).2, e1, e2, e3⟩
/-- The reference's next one: the first that is ready; 0: none. -/
def nextAt (f : Int → List Int) (out : List Int) : List St → Int
  | [] => 0
  | x :: r => if readyB f out x.1 = true then x.1 else nextAt f out r
theorem nextAt_find {f : Int → List Int} {out : List Int} : ∀ ss : List St, (ss.find? (fun x => readyB f out x.1) = none ∧ nextAt f out ss = 0) ∨ ∃ x ∈ ss, ss.find? (fun x => readyB f out x.1) = some x ∧ nextAt f out ss = x.1
  | [] => .inl ⟨rfl, rfl⟩
  | x :: r => by
    unfold nextAt
    rw [List.find?_cons]
    cases h : readyB f out x.1 with
    | true => exact .inr ⟨x, by simp, rfl, by simp⟩
    | false =>
      simp only [Bool.false_eq_true, if_false]
      rcases nextAt_find (f := f) (out := out) r with h | ⟨y, hy, h⟩
      · exact .inl h
      · exact .inr ⟨y, by simp [hy], h⟩
theorem any_take {α : Type} {ps : List α} {q : α → Bool} {k : Nat} {p : α} (hp : ps[k]? = some p) : (ps.take (k + 1)).any q = ((ps.take k).any q || q p) := by
  rw [List.take_add_one, hp]; simp
/-- What the reference's Order answers. -/
def ROrdPost (N : Nat) (os : List Int) (n : Nat) (e : Ending) (w' : World) : Prop :=
  if os.length < n then e = .returned (.tuple #[.slice none 0 0, .int .i64 13]) else ∃ u, e = .returned (.tuple #[u, .int .i64 0]) ∧ ZRow N w' u os
def RoO (f : Int → List Int) (ss : List St) (w3 : World) (gg : Nat) (v : Value) (wr : World) : Prop :=
  ∃ out : List Int, ss.length - out.length ≤ gg ∧ out.length ≤ ss.length ∧ Hid (ZRow w3.heap.size wr v out) ∧ Hid (orderL f ss (ss.length - out.length) out = orderL f ss ss.length []) ∧ Hid (Below w3.heap.size w3 wr)
def RoN (f : Int → List Int) (ss : List St) (wo : World) (out : List Int) (nx i : Value) (wr : World) : Prop :=
  ∃ (k : Nat) (i' n' : Int), i = .int .i64 i' ∧ i' = (k : Int) - 1 ∧ k ≤ ss.length ∧ nx = .int .i64 n' ∧ Hid (n' = nextAt f out (ss.drop k)) ∧ Hid (Below wo.heap.size wo wr)
def RoK (ps : List (Int × Int)) (wo : World) (out : List Int) (id : Int) (ok j : Value) (wr : World) : Prop :=
  ∃ (k : Nat) (b : Bool), j = .int .i64 k ∧ k ≤ ps.length ∧ ok = .bool b ∧ Hid (b = (!out.contains id && !(ps.take k).any (heldB out id))) ∧ Hid (Below wo.heap.size wo wr)
set_option maxRecDepth 100000 in
set_option maxHeartbeats 12800000 in
theorem refOrder_any (ve : Value) (next : Int) (es : List (It × Nat)) (name key : ByteArray) (w : World) (h : EntsAt w.heap.size w ve es) (hlen : es.length ≤ 1000000) (hss : (stsOf es).length ≤ 1000) (hfine : ∀ x ∈ stsOf es, FsFine x.2) (hids : ∀ x ∈ stsOf es, x.1 ≤ 1000000) (hid1 : ∀ x ∈ stsOf es, 1 ≤ x.1) :
    Calls Tryz.prog 40 #[.agg #[ve, .int .i64 next], .string name, .string key] w fun e w' => ROrdPost w.heap.size (ordOf name.data.toList key.data.toList (stsOf es)) (stsOf es).length e w' ∧ Below w.heap.size w w' := by
  obtain ⟨i0, hi0, hz0, hz1, hz2⟩ := info_parts infoI
  have HIDS := Lib.hid hids
  have HID1 := Lib.hid hid1
  have hm := hss
  have HLN := Lib.hid (links_take (name := name.data.toList) (key := key.data.toList) (all := stsOf es) hfine)
  have HSS : Hid (∀ w', Below w.heap.size w w' → Calls Tryz.prog 53 #[.agg #[ve, .int .i64 next]] w' fun e w2 => ∃ u us, e = .returned u ∧ StsOwn w'.heap.size w.heap.size w2 u (stsOf es) us ∧ Below w'.heap.size w' w2) := Lib.hid fun w' hb => refStanzas_any ve next es w' w.heap.size hb.size (h.below hb (Nat.le_refl _)) (by omega)
  have HOF : Hid (∀ w', Below w.heap.size w w' → Calls Tryz.prog 14 #[.agg #[ve, .int .i64 next], .string name, .string key] w' fun e w2 => ∃ u, e = .returned u ∧ RlRow w'.heap.size w2 u (linksL name.data.toList key.data.toList (stsOf es)) ∧ Below w'.heap.size w' w2) :=
    Lib.hid fun w' hb => refOf_any ve next es name key w' ((h.below hb (Nat.le_refl _)).up hb.size) hlen hss hfine hids
  obtain ⟨eo, ec, hve, -⟩ := h
  subst hve
  clear hfine hlen hss hids hid1
  unfold ordOf
  generalize stsOf es = ss at *
  obtain ⟨L, hL⟩ : ∃ L, linksL name.data.toList key.data.toList ss = L := ⟨_, rfl⟩
  rw [hL] at HOF ⊢
  have hll : L.length ≤ 40040000 := by
    have h1 := HLN.out
    have h2 : ss.length * 40040 ≤ 1000 * 40040 := Nat.mul_le_mul_right _ hm
    rw [← hL]
    unfold linksL
    omega
  obtain ⟨ps, hps⟩ : ∃ ps, L.map prZ = ps := ⟨_, rfl⟩
  have hpl : ps.length ≤ 40040000 := by rw [← hps, List.length_map]; exact hll
  obtain ⟨f, hf⟩ : ∃ f, nextF ps = f := ⟨_, rfl⟩
  have HRH : Hid (∀ out id, readyB f out id = (!out.contains id && !ps.any (heldB out id))) := Lib.hid fun out id => by rw [← hf]; exact ready_held ps out id
  rw [hps, hf]
  have HPS := Lib.hid hps
  clear HLN hL hf hps
  go_enter Tryz.func40, Tryz.ntmps40
  obtain ⟨wa, hwa⟩ : ∃ wa, w.alloc (.cells #[.slice eo es.length ec, .int .i64 next] 26) = wa := ⟨_, rfl⟩
  have hba : Below w.heap.size w wa := by rw [← hwa]; exact below_grow1 w _
  have hEa : wa.heap[w.heap.size]? = some (.cells #[.slice eo es.length ec, .int .i64 next] 26 (0, 0)) := by rw [← hwa]; exact heap_alloc_new w _
  have HBA := Lib.hid hba
  have HWA := Lib.hid hwa
  have HEA := Lib.hid hEa
  have ST := Lib.hid (HSS.out wa hba)
  have hlb : w.heap.size < wa.heap.size := (Array.getElem?_eq_some_iff.1 hEa).1
  clear hba hwa HSS hEa
  go_wp2_with fail
  rw [HWA.out]
  refine ST.out.mono ?_
  rintro e w2 ⟨u, us, rfl, hS, hb2⟩
  have hzw := HBA.out.size
  have hzw2 := hb2.size
  have HB2 := Lib.hid (HBA.out.trans (hb2.mono hzw))
  have hS2 := hS.at_ (Nat.le_trans hzw hzw2)
  obtain ⟨LB, hLB⟩ : ∃ LB, w.heap.size = LB := ⟨_, rfl⟩
  have HE2 : Hid (w2.heap[LB]? = some (.cells #[.slice eo es.length ec, .int .i64 next] 26 (0, 0))) := Lib.hid (by rw [← hLB]; exact (hb2.block _ hlb).trans HEA.out)
  obtain ⟨so, sc, hsv, hcc⟩ := hS2
  have HCC := Lib.hid hcc
  subst hsv
  have OF := Lib.hid (HOF.out w2 HB2.out)
  have HLB := Lib.hid hLB
  have hcl0 : w2.cell? ⟨LB, 0, none⟩ = some (.slice eo es.length ec) := by simp [World.cell?, HE2.out]
  have hcl1 : w2.cell? ⟨LB, 1, none⟩ = some (.int .i64 next) := by simp [World.cell?, HE2.out]
  clear hS hb2 ST HBA HWA HEA hzw hzw2 hcc hlb HOF
  go_wp2_with fail
  refine OF.out.mono ?_
  rintro e w3 ⟨ul, rfl, hR, hb3⟩
  have HB3 := Lib.hid (HB2.out.trans (hb3.mono HB2.out.size))
  have HCS : Hid (∀ W, Below w3.heap.size w3 W → ∀ (k : Nat) (x : St), ss[k]? = some x → ∃ g, so = some ⟨g, 0, none⟩ ∧ W.cell? ⟨g, k * 2, none⟩ = some (.int .i64 x.1)) := Lib.hid fun W hW k x hx => by
    obtain ⟨g, u, hg, hgN, e1, -⟩ := HCC.out k x hx
    exact ⟨g, hg, (hW.cell (p := ⟨g, k * 2, none⟩) (by show g < _; have := hb3.size; omega)).trans ((hb3.cell (p := ⟨g, k * 2, none⟩) (by show g < _; omega)).trans e1)⟩
  have HLS : Hid (LsAt w3.heap.size w3 ul ps) := Lib.hid (HPS.out ▸ hR.lsAt)
  obtain ⟨lo, lc, hul, hlc⟩ := HLS.out
  subst hul
  have HLC := Lib.hid hlc
  clear hR hb3 OF HCC hcl0 hcl1 HE2 hlc HLS HB2
  go_wp2_with fail
  go_loopg [10, 11, 12, 13, 14, 15] ss.length (fun gg s10 _ _ _ _ _ wr => RoO f ss w3 gg s10 wr)
  case atStart => exact ⟨[], by simp, by simp, Lib.hid (World.ownsRow_nil _ _ _ _), Lib.hid rfl, Lib.hid (Below.refl _ _)⟩
  case round =>
    obtain ⟨out, hgg, hol, hO, hL, hW⟩ := hrel
    obtain ⟨oo, oc, hov⟩ := own_shape hO.out
    subst hov
    by_cases hlt : out.length < ss.length
    · have hltz : (out.length : Int) < (ss.length : Int) := by omega
      obtain ⟨wo, hwo⟩ : ∃ wo, wo = wr := ⟨_, rfl⟩
      subst hwo
      go_wp2_with fail
      go_loopw [11, 12, 13, 14, 15] (fun nx i _ _ _ W => RoN f ss wo out nx i W) (fun _ i _ _ _ _ => (intOf i + 1).toNat)
      case atStart => exact ⟨ss.length, (ss.length : Int) - 1, 0, by go_num, rfl, Nat.le_refl _, rfl, Lib.hid (by rw [List.drop_length]; rfl), Lib.hid (Below.refl _ _)⟩
      case round =>
        obtain ⟨k, i', n', rfl, hi', hk, rfl, hN, hV⟩ := hrel
        have hWV := hW.out.trans (hV.out.mono hW.out.size)
        by_cases hk0 : k = 0
        · subst hk0
          have hneg : ¬ (0 : Int) ≤ i' := by omega
          clear hi'
          have hz1' : n' = nextAt f out ss := by rw [hN.out]; rfl
          have HO2 := Lib.hid (hO.out.below hV.out)
          have HW2 := Lib.hid hWV
          rcases nextAt_find (f := f) (out := out) ss with ⟨hf1, hf2⟩ | ⟨x, hx, hf1, hf2⟩
          · rw [hf2] at hz1'
            subst hz1'
            have HR : Hid (ROrdPost w.heap.size (orderL f ss ss.length []) ss.length (.returned (.tuple #[.slice none 0 0, .int .i64 13])) wr) := Lib.hid (by
              unfold ROrdPost
              rw [← hL.out, orderL_none hf1, if_pos hlt])
            have HB4 := Lib.hid (HB3.out.trans (HW2.out.mono HB3.out.size))
            clear hN hV hWV hf1 hf2 hW hL hO
            go_wp2_with fail
            go_ret2
            have hh := HR.out
            have hbb := HB4.out
            rw [HLB.out] at hh hbb
            exact ⟨hh, hbb⟩
          · rw [hf2] at hz1'
            have hx1 := HID1.out x hx
            have hx2 := HIDS.out x hx
            have HL2 : Hid (orderL f ss (ss.length - (out.length + 1)) (out ++ [(x.1 : Int)]) = orderL f ss ss.length []) := Lib.hid (by
              rw [← hL.out, show ss.length - out.length = (ss.length - (out.length + 1)) + 1 by omega, orderL_some hf1])
            obtain ⟨d, hd⟩ : ∃ d : Int, (x.1 : Int) = d := ⟨_, rfl⟩
            rw [hd] at hz1' HL2
            subst hz1'
            have hd0 : (n' == 0) = false := by rw [beq_eq_false_iff_ne]; omega
            have hzr := HW2.out.size
            have HOA := Lib.hid (World.ownsRow.alloc HO2.out (.cells #[.int .i64 n'] 3))
            have HNA : Hid (∀ j y, [Value.int .i64 n'][j]? = some y → (wr.alloc (.cells #[.int .i64 n'] 3)).cell? ((⟨wr.heap.size, 0, none⟩ : Addr).add j) = some y) := Lib.hid (World.news_of_block (cs := #[.int .i64 n']) (heap_alloc_new wr _))
            have HBA := Lib.hid (HW2.out.alloc hzr (.cells #[.int .i64 n'] 3))
            have hlow : Hid (∀ q, (Value.slice oo out.length oc).ownBlock = some q → w3.heap.size ≤ q) := Lib.hid fun q hq => (World.ownsRow.lt hO.out q hq).1
            clear hN hV hWV hf1 hf2 hW hL hO hd hx1 hx2 hx
            go_wp2_with (at_builtin; refine wpList_append_lies _ rfl _ _ _ rfl w3.heap.size 3 i0 _ 1 8 Tryz.underlying68 hi0 hz0 hz1 hz2 rfl (by omega) (.slice oo out.length oc) out.length (zVals out) rfl HOA.out ⟨wr.heap.size, 0, none⟩ 1 1 [.int .i64 n'] rfl rfl HNA.out (by simp [Value.oneCell']) (by omega) (by unfold maxLen; omega) (by omega) (by simp; omega) _ rfl ?_; refine Hid.out ?_)
            refine Lib.hid ?_
            intro gg2 cap w8 hown8 hgrow hat hlt8
            have HN8 := Lib.hid (ZRow.snoc hown8)
            have HB8 := Lib.hid (HBA.out.grown hgrow (by simp; omega) hlow.out)
            clear hown8 hgrow hat
            go_wp2_with fail
            go_roundg (ss.length - (out.length + 1))
            case measure => omega
            case rel => exact ⟨out ++ [n'], by simp, by simp; omega, HN8, (by rw [List.length_append]; exact HL2), HB8⟩
        · obtain ⟨m, rfl⟩ : ∃ m, k = m + 1 := ⟨k - 1, by omega⟩
          obtain rfl : i' = (m : Int) := by omega
          clear hi'
          have hml : m < ss.length := by omega
          obtain ⟨x, hx⟩ : ∃ x, ss[m]? = some x := ⟨_, List.getElem?_eq_getElem hml⟩
          obtain ⟨g, rfl, e1⟩ := HCS.out wr hWV m x hx
          have HDR : Hid (nextAt f out (ss.drop m) = if readyB f out x.1 = true then (x.1 : Int) else nextAt f out (ss.drop (m + 1))) := Lib.hid (by
            rw [List.drop_eq_getElem_cons hml]
            rw [List.getElem?_eq_getElem hml] at hx
            injection hx with hx
            rw [hx]; rfl)
          have hmz : (m : Int) < (ss.length : Int) := by omega
          obtain ⟨id, hid⟩ : ∃ id : Int, (x.1 : Int) = id := ⟨_, rfl⟩
          rw [hid] at e1 HDR
          have hob := hO.out.below hV.out
          have HA := Lib.hid (has_any (.slice oo out.length oc) out id wr (ZRow.at_ hob) (by omega))
          obtain ⟨b0, hb0⟩ : ∃ b, out.contains id = b := ⟨_, rfl⟩
          rw [hb0] at HA
          have HB0 := Lib.hid hb0
          obtain ⟨wi, hwi⟩ : ∃ wi, wi = wr := ⟨_, rfl⟩
          subst hwi
          clear hx hid hWV hob hb0
          go_wp2_with fail
          refine HA.out.mono ?_
          rintro e w' ⟨rfl, rfl⟩
          go_wp2_with fail
          go_loopw [13, 14, 15] (fun ok j _ W => RoK ps wi out id ok j W) (fun _ j _ _ => ps.length - (intOf j).toNat)
          case atStart => exact ⟨0, !b0, rfl, Nat.zero_le _, rfl, Lib.hid (by rw [HB0.out]; simp), Lib.hid (Below.refl _ _)⟩
          case round =>
            obtain ⟨j, b, rfl, hj, rfl, hB, hX⟩ := hrel
            have hVX := hV.out.trans (hX.out.mono hV.out.size)
            have hWX := hW.out.trans (hVX.mono hW.out.size)
            by_cases hjl : j < ps.length
            · obtain ⟨p, hp⟩ : ∃ p, ps[j]? = some p := ⟨_, List.getElem?_eq_getElem hjl⟩
              obtain ⟨gl, sw, rfl, hgl, c1, c2, c3⟩ := HLC.out j p hp
              have c1 := (hWX.cell (p := ⟨gl, j * 3, none⟩) hgl).trans c1
              have c2 := (hWX.cell (p := ⟨gl, j * 3 + 1, none⟩) hgl).trans c2
              have c3 := (hWX.cell (p := ⟨gl, j * 3 + 2, none⟩) hgl).trans c3
              have HAT : Hid ((ps.take (j + 1)).any (heldB out id) = ((ps.take j).any (heldB out id) || heldB out id p)) := Lib.hid (any_take hp)
              obtain ⟨pf, pt⟩ := p
              simp only at c1 c2
              obtain ⟨W1, hW1⟩ : ∃ W1, wr.alloc (.cells #[.int .i64 pf, .int .i64 pt, .string sw] 34) = W1 := ⟨_, rfl⟩
              have hb4 : Below wr.heap.size wr W1 := by rw [← hW1]; exact below_grow1 wr _
              have hE : W1.heap[wr.heap.size]? = some (.cells #[.int .i64 pf, .int .i64 pt, .string sw] 34 (0, 0)) := by rw [← hW1]; exact heap_alloc_new wr _
              have q0 : W1.cell? ⟨wr.heap.size, 0, none⟩ = some (.int .i64 pf) := _root_.Go.Proofs.YtjbnjlkoipkpoaaGreatDoor.B.cell_of_row _ _ 0 _ _ hE
              have q1 : W1.cell? ⟨wr.heap.size, 1, none⟩ = some (.int .i64 pt) := _root_.Go.Proofs.YtjbnjlkoipkpoaaGreatDoor.B.cell_of_row _ _ 1 _ _ hE
              have e1' : W1.cell? ⟨g, m * 2, none⟩ = some (.int .i64 id) := (hb4.cell (p := ⟨g, m * 2, none⟩) (Nat.lt_of_lt_of_le (World.block_lt_of_cell? _ _ e1) hX.out.size)).trans ((hX.out.cell (p := ⟨g, m * 2, none⟩) (World.block_lt_of_cell? _ _ e1)).trans e1)
              have HX4 := Lib.hid (hX.out.trans (hb4.mono hX.out.size))
              have hob4 := (hO.out.below (hVX.trans (hb4.mono hVX.size)))
              have HA4 := Lib.hid (fun m => (has_any (.slice oo out.length oc) out pt (W1.drewN m) (ZRow.at_ (ZRow.below hob4 (below_dn (Below.refl _ _) m))) (by omega)).mono fun e w' (h : _ ∧ _) => (⟨h.1, h.2.symm⟩ : _ ∧ w' = W1.drewN m))
              have HHB : Hid (heldB out id (pf, pt) = (pf == id && pt != 0 && pt != pf && !out.contains pt)) := Lib.hid rfl
              have hjz : (j : Int) < (ps.length : Int) := by omega
              have HW1 := Lib.hid hW1
              clear hp hVX hWX hb4 hE hW1 hob4 e1
              by_cases c0 : pf = id
              · subst c0
                have hqf : (pf == pf) = true := by simp
                by_cases c1 : pt = 0
                · have hq0 : (pt != 0) = false := by rw [c1]; rfl
                  have HB2 : Hid (b = (!out.contains pf && !(ps.take (j + 1)).any (heldB out pf))) := Lib.hid (by rw [HAT.out, HHB.out, hq0]; simpa using hB.out)
                  clear HA4 c1
                  go_wp2_with fail
                  rw [HW1.out]
                  go_quiet (fail)
                  go_wp2
                  exact ⟨⟨j + 1, b, by go_num, by omega, rfl, HB2, Lib.hid (below_dn HX4.out nq)⟩, by simp [intOf]; omega⟩
                · have hq0 : (pt != 0) = true := by rw [bne_iff_ne]; exact c1
                  by_cases c2 : pt = pf
                  · have hq2 : (pt != pf) = false := by rw [c2]; simp
                    have HB2 : Hid (b = (!out.contains pf && !(ps.take (j + 1)).any (heldB out pf))) := Lib.hid (by rw [HAT.out, HHB.out, hq2]; simpa using hB.out)
                    clear HA4 c1 c2
                    go_wp2_with fail
                    rw [HW1.out]
                    go_quiet (fail)
                    go_wp2
                    exact ⟨⟨j + 1, b, by go_num, by omega, rfl, HB2, Lib.hid (below_dn HX4.out nq)⟩, by simp [intOf]; omega⟩
                  · have hq2 : (pt != pf) = true := by rw [bne_iff_ne]; exact c2
                    obtain ⟨b4, hb4⟩ : ∃ b, out.contains pt = b := ⟨_, rfl⟩
                    rw [hb4] at HA4 HHB
                    rw [hqf, hq0, hq2] at HHB
                    cases b4 with
                    | true =>
                      have HB2 : Hid (b = (!out.contains pf && !(ps.take (j + 1)).any (heldB out pf))) := Lib.hid (by rw [HAT.out, HHB.out]; simpa using hB.out)
                      clear c1 c2 hb4 HHB
                      go_wp2_with fail
                      rw [HW1.out]
                      go_quiet ((go_at_call 79; exact Calls.quiet_of_same (HA4.out _)))
                      go_wp2
                      exact ⟨⟨j + 1, b, by go_num, by omega, rfl, HB2, Lib.hid (below_dn HX4.out nq)⟩, by simp [intOf]; omega⟩
                    | false =>
                      have HB2 : Hid (false = (!out.contains pf && !(ps.take (j + 1)).any (heldB out pf))) := Lib.hid (by rw [HAT.out, HHB.out]; simp)
                      clear c1 c2 hb4 HHB
                      go_wp2_with fail
                      rw [HW1.out]
                      go_quiet ((go_at_call 79; exact Calls.quiet_of_same (HA4.out _)))
                      go_wp2
                      exact ⟨⟨j + 1, false, by go_num, by omega, rfl, HB2, Lib.hid (below_dn HX4.out nq)⟩, by simp [intOf]; omega⟩
              · have hq : (pf == id) = false := by rw [beq_eq_false_iff_ne]; exact c0
                have HB2 : Hid (b = (!out.contains id && !(ps.take (j + 1)).any (heldB out id))) := Lib.hid (by rw [HAT.out, HHB.out, hq]; simpa using hB.out)
                clear HA4 c0
                go_wp2_with fail
                rw [HW1.out]
                go_quiet (fail)
                go_wp2
                exact ⟨⟨j + 1, b, by go_num, by omega, rfl, HB2, Lib.hid (below_dn HX4.out nq)⟩, by simp [intOf]; omega⟩
            · have hjz : ¬ (j : Int) < (ps.length : Int) := by omega
              have hbR : b = readyB f out id := by
                rw [HRH.out, hB.out, List.take_of_length_le (by omega)]
              have HV2 := Lib.hid hVX
              cases b with
              | true =>
                have HN2 : Hid (id = nextAt f out (ss.drop m)) := Lib.hid (by rw [HDR.out, ← hbR, if_pos rfl])
                have e2 := (hX.out.cell (p := ⟨g, m * 2, none⟩) (World.block_lt_of_cell? _ _ e1)).trans e1
                clear hB hbR hWX hVX hX hV hN e1
                go_wp2_with fail
                exact ⟨⟨m, (m : Int) - 1, id, by go_num, rfl, by omega, rfl, HN2, HV2⟩, by simp [intOf]⟩
              | false =>
                have HN2 : Hid (n' = nextAt f out (ss.drop m)) := Lib.hid (by rw [HDR.out, ← hbR, if_neg (by simp)]; exact hN.out)
                clear hB hbR hWX hVX hX hV hN
                go_wp2_with fail
                exact ⟨⟨m, (m : Int) - 1, n', by go_num, rfl, by omega, rfl, HN2, HV2⟩, by simp [intOf]⟩
    · have HR : Hid (ROrdPost w.heap.size (orderL f ss ss.length []) ss.length (.returned (.tuple #[.slice oo out.length oc, .int .i64 0])) wr) := Lib.hid (by
        unfold ROrdPost
        rw [← hL.out, show ss.length - out.length = 0 by omega]
        show if out.length < ss.length then _ else _
        rw [if_neg hlt]
        exact ⟨_, rfl, ZRow.low hO.out HB3.out.size⟩)
      have HB4 := Lib.hid (HB3.out.trans (hW.out.mono HB3.out.size))
      have hltz : ¬ (out.length : Int) < (ss.length : Int) := by omega
      clear hL hO hW
      go_wp2_with fail
      go_ret2
      have hh := HR.out
      have hbb := HB4.out
      rw [HLB.out] at hh hbb
      exact ⟨hh, hbb⟩
end Go.Proofs.YtjbnjlkoipkpoaaGreatDoor.T

namespace Go.Proofs.YtjbnjlkoipkpoaaGreatDoor.T
open Go.RowKit Go.ChangeShapes Go.WideShapes Go.Deep Go.Shelf
open Go.Proofs.YtjbnjlkoipkpoaaGreatDoor.B

abbrev ZLk := Int × Int × ByteArray
def zlC (k : ZLk) : List Value := [.int .i64 k.1, .int .i64 k.2.1, .string k.2.2]
def prI (l : ZLk) : Int × Int := (l.1, l.2.1)
/-- Links lie in memory below block B, at whatever place of a block. -/
def LwAt (B : Nat) (w : World) (v : Value) (t : List ZLk) : Prop :=
  ∃ (ao : Option Addr) (cp : Nat), v = .slice ao t.length cp ∧ ∀ (k : Nat) (l : ZLk), t[k]? = some l → ∃ g off, ao = some ⟨g, off, none⟩ ∧ g < B ∧ w.cell? ⟨g, off + k * 3, none⟩ = some (.int .i64 l.1) ∧ w.cell? ⟨g, off + k * 3 + 1, none⟩ = some (.int .i64 l.2.1) ∧ w.cell? ⟨g, off + k * 3 + 2, none⟩ = some (.string l.2.2)
theorem LwAt.below {B C : Nat} {w w' : World} {v : Value} {t : List ZLk} (h : LwAt B w v t) (hb : Below C w w') (hB : B ≤ C) : LwAt B w' v t :=
  let ⟨ao, cp, h1, h2⟩ := h
  ⟨ao, cp, h1, fun k p hk => let ⟨g, s, h3, h4, h5, h6, h7⟩ := h2 k p hk; ⟨g, s, h3, h4, (hb.cell (p := ⟨g, _, none⟩) (by show g < C; omega)).trans h5, (hb.cell (p := ⟨g, _, none⟩) (by show g < C; omega)).trans h6, (hb.cell (p := ⟨g, _, none⟩) (by show g < C; omega)).trans h7⟩⟩
theorem LwAt.up {B C : Nat} {w : World} {v : Value} {t : List ZLk} (h : LwAt B w v t) (hB : B ≤ C) : LwAt C w v t :=
  let ⟨ao, cp, h1, h2⟩ := h
  ⟨ao, cp, h1, fun k p hk => let ⟨g, s, h3, h4, h5⟩ := h2 k p hk; ⟨g, s, h3, by omega, h5⟩⟩
theorem LwAt.lsOff {B : Nat} {w : World} {v : Value} {t : List ZLk} (h : LwAt B w v t) : LsOff B w v (t.map prI) := by
  obtain ⟨ao, cp, rfl, hc⟩ := h
  refine ⟨ao, cp, by rw [List.length_map], fun k p hp => ?_⟩
  rw [List.getElem?_map] at hp
  obtain ⟨l, hl, rfl⟩ := Option.map_eq_some_iff.1 hp
  obtain ⟨g, off, h1, h2, h3, h4, h5⟩ := hc k l hl
  exact ⟨g, off, h1, h2, h3, h4⟩
theorem zlC_get : ∀ (t : List ZLk) (k : Nat) (l : ZLk), t[k]? = some l → (t.flatMap zlC)[k * 3]? = some (.int .i64 l.1) ∧ (t.flatMap zlC)[k * 3 + 1]? = some (.int .i64 l.2.1) ∧ (t.flatMap zlC)[k * 3 + 2]? = some (.string l.2.2)
  | [], k, l, h => by simp at h
  | y :: r, 0, l, h => by simp at h; subst h; exact ⟨rfl, rfl, rfl⟩
  | y :: r, k + 1, l, h => by
    have ih := zlC_get r k l (by simpa using h)
    rw [List.flatMap_cons]
    have e : ∀ i, (zlC y ++ r.flatMap zlC)[(k + 1) * 3 + i]? = (r.flatMap zlC)[k * 3 + i]? := fun i => by
      rw [List.getElem?_append_right (by simp [zlC]; omega)]
      congr 1
      simp [zlC]; omega
    exact ⟨(e 0).trans ih.1, (e 1).trans ih.2.1, (e 2).trans ih.2.2⟩
/-- A row of the program's links of its own. -/
def ZlRow (B : Nat) (w : World) (v : Value) (t : List ZLk) : Prop := w.ownsRow B 66 3 v t.length (t.flatMap zlC)
theorem ZlRow.snoc {B gg cap : Nat} {w : World} {t : List ZLk} {c : ZLk} (h : w.ownsRow B 66 3 (.slice (some ⟨gg, 0, none⟩) (t.length + 1) cap) (t.length + 1) (t.flatMap zlC ++ [.int .i64 c.1, .int .i64 c.2.1, .string c.2.2])) : ZlRow B w (.slice (some ⟨gg, 0, none⟩) (t.length + 1) cap) (t ++ [c]) := by
  unfold ZlRow
  rw [List.length_append, flat_snoc]
  exact h
theorem ZlRow.below {B : Nat} {w w' : World} {v : Value} {t : List ZLk} (h : ZlRow B w v t) (hb : Below w.heap.size w w') : ZlRow B w' v t := ownsRow_of_block h fun g hg => hb.block g (World.ownsRow.lt h g hg).2
theorem ZlRow.lw {B : Nat} {w : World} {v : Value} {t : List ZLk} (h : ZlRow B w v t) : LwAt w.heap.size w v t := by
  rcases h.2 with ⟨h0, h1⟩ | ⟨g, cap, cur, hv, hB, hr⟩
  · exact ⟨none, 0, by rw [h0, h1], fun k p hp => by have := (List.getElem?_eq_some_iff.1 hp).1; omega⟩
  · refine ⟨_, cap, hv, fun k l hl => ?_⟩
    obtain ⟨g1, g2, g3⟩ := zlC_get t k l hl
    have hob : v.ownBlock = some g := by rw [hv]; rfl
    have e1 := World.ownsRow.cells h hob _ _ g1
    have e2 := World.ownsRow.cells h hob _ _ g2
    have e3 := World.ownsRow.cells h hob _ _ g3
    rw [addrO] at e1 e2 e3
    refine ⟨g, 0, rfl, (World.ownsRow.lt h g hob).2, ?_, ?_, ?_⟩
    · rw [Nat.zero_add]; exact e1
    · rw [Nat.zero_add]; exact e2
    · rw [Nat.zero_add]; exact e3
theorem LwAt.ls {B : Nat} {w : World} {v : Value} {t : List ZLk} (h : ZlRow B w v t) : LsAt w.heap.size w v (t.map prI) := by
  rcases h.2 with ⟨h0, h1⟩ | ⟨g, cap, cur, hv, hB, hr⟩
  · exact ⟨none, 0, by rw [h0, List.length_map, h1], fun k p hp => by have := (List.getElem?_eq_some_iff.1 hp).1; rw [List.length_map] at this; omega⟩
  · refine ⟨_, cap, by rw [hv, List.length_map], fun k p hp => ?_⟩
    rw [List.getElem?_map] at hp
    obtain ⟨l, hl, rfl⟩ := Option.map_eq_some_iff.1 hp
    obtain ⟨g1, g2, g3⟩ := zlC_get t k l hl
    have hob : v.ownBlock = some g := by rw [hv]; rfl
    have e1 := World.ownsRow.cells h hob _ _ g1
    have e2 := World.ownsRow.cells h hob _ _ g2
    have e3 := World.ownsRow.cells h hob _ _ g3
    rw [addrO] at e1 e2 e3
    exact ⟨g, _, rfl, (World.ownsRow.lt h g hob).2, e1, e2, e3⟩
set_option maxRecDepth 100000 in
set_option maxHeartbeats 3200000 in
theorem same_z (va vb : Value) (t : List ZLk) (A B : Nat) (w : World) (ha : LwAt A w va t) (hA : A ≤ w.heap.size) (hb : LwAt B w vb t) (hB : B ≤ w.heap.size) (hn : t.length ≤ 40040000) :
    Calls Tryz.prog 16 #[va, vb] w fun e w' => e = .returned (.bool true) ∧ Below w.heap.size w w' := by
  obtain ⟨ao, ac, rfl, hca⟩ := ha
  obtain ⟨bo, bc, rfl, hcb⟩ := hb
  have HA := Lib.hid hca
  have HB := Lib.hid hcb
  clear hca hcb
  go_enter Tryz.func16, Tryz.ntmps16
  go_wp2_with fail
  go_loopw [13] (fun i W => ∃ k : Nat, i = .int .i64 k ∧ k ≤ t.length ∧ Hid (Below w.heap.size w W)) (fun i _ => t.length - (intOf i).toNat)
  case atStart => exact ⟨0, rfl, Nat.zero_le _, Lib.hid (Below.refl _ _)⟩
  case round =>
    obtain ⟨k, rfl, hk, hW⟩ := hrel
    by_cases hlt : k < t.length
    · obtain ⟨l, hl⟩ : ∃ l, t[k]? = some l := ⟨_, List.getElem?_eq_getElem hlt⟩
      obtain ⟨ga, oa, rfl, hla, e1, e2, e3⟩ := HA.out k l hl
      obtain ⟨gb, ob, rfl, hlb, f1, f2, f3⟩ := HB.out k l hl
      obtain ⟨l1, l2, l3⟩ := l
      have e1 := (hW.out.cell (p := ⟨ga, oa + k * 3, none⟩) (Nat.lt_of_lt_of_le hla hA)).trans e1
      have e2 := (hW.out.cell (p := ⟨ga, oa + k * 3 + 1, none⟩) (Nat.lt_of_lt_of_le hla hA)).trans e2
      have e3 := (hW.out.cell (p := ⟨ga, oa + k * 3 + 2, none⟩) (Nat.lt_of_lt_of_le hla hA)).trans e3
      have f1 := (hW.out.cell (p := ⟨gb, ob + k * 3, none⟩) (Nat.lt_of_lt_of_le hlb hB)).trans f1
      have f2 := (hW.out.cell (p := ⟨gb, ob + k * 3 + 1, none⟩) (Nat.lt_of_lt_of_le hlb hB)).trans f2
      have f3 := (hW.out.cell (p := ⟨gb, ob + k * 3 + 2, none⟩) (Nat.lt_of_lt_of_le hlb hB)).trans f3
      have hkz : (k : Int) < (t.length : Int) := by omega
      simp only at e1 e2 e3 f1 f2 f3
      clear hl
      go_wp2
      go_quiet (fail)
      go_wp2
      exact ⟨⟨k + 1, by go_num, by omega, Lib.hid ⟨hW.out.os, hW.out.tape, hW.out.output, hW.out.size, hW.out.block⟩⟩, by simp [intOf]; omega⟩
    · go_wp2_with fail
      go_ret
      exact ⟨rfl, hW.out⟩
/-- The law's row of links. -/
structure LinkArg (w : World) (v : Value) (t : List ZLk) : Prop where
  at_ : LwAt w.heap.size w v t
  len : t.length ≤ 9223372036854775807
  wf : ∀ l ∈ t, WfP (prI l)
theorem spot_none {w : World} {a : Addr} {v : Value} (h : w.cell? a = some v) : a = ⟨a.block, a.off, none⟩ := by
  obtain ⟨b, o, s⟩ := a
  cases s with
  | none => rfl
  | some s =>
    unfold World.cell? at h
    split at h <;> simp at h
theorem add2_none {a : Addr} (ea : a = ⟨a.block, a.off, none⟩) (i j : Nat) : (a.add i).add j = ⟨a.block, a.off + i + j, none⟩ := by
  have add1 : ∀ b o i : Nat, (⟨b, o, none⟩ : Addr).add i = ⟨b, o + i, none⟩ := fun b o i => by unfold Addr.add; simp
  obtain ⟨b, o, s⟩ := a
  injection ea with _ _ h3
  subst h3
  rw [add1, add1]
theorem cellsRl : Tryz.prog.cellsOf 34 = 3 := by kernel_rfl
section
variable {H : Type} {enc : TypeId × Value → H} {w : World} {base : Nat} {spare : Nat → Bool} {held : Bool}
set_option maxRecDepth 20000 in
theorem rl_open {fuel : Nat} {cs : List Value} {x : DataW H × List MemPlace} (h : DataW.trod enc Tryz.prog w base spare held fuel 34 cs = some x) :
    ∃ l : ZLk, WfP (prI l) ∧ cs = zlC l := by
  obtain ⟨xs, n, -, -, hlen, hxl, hf⟩ := DataW.trod_struct Tryz.underlying34 h
  rw [cellsRl] at hlen
  match cs, hlen with
  | [c0, c1, c2], _ =>
    match xs, hxl with
    | [y0, y1, y2], _ =>
      have g0 := hf 0 _ rfl
      have g1 := hf 1 _ rfl
      have g2 := hf 2 _ rfl
      have e3 : Tryz.prog.cellsOf 3 = 1 := by kernel_rfl
      have e9 : Tryz.prog.cellsOf 9 = 1 := by kernel_rfl
      simp [e3, e9] at g0 g1 g2
      obtain ⟨n0, k0, -, w0⟩ := DataW.trod_int Tryz.underlying3 g0
      obtain ⟨n1, k1, -, w1⟩ := DataW.trod_int Tryz.underlying3 g1
      obtain ⟨s2, k2, -, w2⟩ := DataW.trod_string Tryz.underlying9 g2
      simp at k0 k1 k2
      subst k0 k1 k2
      exact ⟨(n0, n1, s2), ⟨w0, w1⟩, rfl⟩
set_option maxRecDepth 20000 in
theorem links_open {v : Value} {d : DataW H} {p : List MemPlace} {base0 : Nat} (hval : Value.okWide Tryz.prog w .any base0 31 v) (h : DataW.Trod enc Tryz.prog w 0 (fun _ => true) true 31 v d p) :
    ∃ t, LinkArg w v t := by
  obtain ⟨ao, len, cap, rfl⟩ := okWide_slice Tryz.underlying31 hval
  obtain ⟨fuel, hf⟩ := h
  have m0 := maxLen_eq
  rcases open_slice Tryz.underlying31 hf with ⟨hcs, hx⟩ | ⟨a, len', cap', m, n, D, Pl, hcs, -, hl, hm, hmm, -, hi⟩
  · simp [Value.cells] at hcs
    obtain ⟨rfl, rfl, rfl⟩ := hcs
    exact ⟨[], ⟨none, 0, rfl, fun k o hk => by simp at hk⟩, Nat.zero_le _, fun l hl => by cases hl⟩
  · simp [Value.cells] at hcs
    obtain ⟨rfl, rfl, rfl⟩ := hcs
    simp only [if_true] at hmm
    obtain ⟨l, h1, h2⟩ := list_of len (fun i (o : ZLk) => WfP (prI o) ∧ w.cell? ((a.add (i * 3)).add 0) = some (.int .i64 o.1) ∧ w.cell? ((a.add (i * 3)).add 1) = some (.int .i64 o.2.1) ∧ w.cell? ((a.add (i * 3)).add 2) = some (.string o.2.2)) fun i hi' => by
      obtain ⟨cs', hc, ht⟩ := hi i (by omega)
      rw [cellsRl] at hc
      obtain ⟨o, ho, rfl⟩ := rl_open ht
      obtain ⟨-, -, hat⟩ := World.cells?_some hc
      exact ⟨o, ho, hat 0 (by omega), hat 1 (by omega), hat 2 (by omega)⟩
    refine ⟨l, ⟨some a, cap, by rw [h1], fun k o hk => ?_⟩, by omega, fun o ho => ?_⟩
    · obtain ⟨_, h4, h5, h6⟩ := h2 k o hk
      have hpos : 0 < l.length := by have := (List.getElem?_eq_some_iff.1 hk).1; omega
      obtain ⟨_, q4, _⟩ := h2 0 _ (List.getElem?_eq_getElem hpos)
      have ea : a = ⟨a.block, a.off, none⟩ := spot_none (by simpa [Addr.add] using q4)
      have hbl := World.block_lt_of_cell? _ _ h4
      rw [add_block, add_block] at hbl
      have hadd := add2_none ea
      rw [hadd] at h4 h5 h6
      exact ⟨a.block, a.off, by rw [← ea], hbl, by simpa using h4, h5, h6⟩
    · obtain ⟨k, hk⟩ := List.getElem?_of_mem ho
      exact (h2 k o hk).1
end
end Go.Proofs.YtjbnjlkoipkpoaaGreatDoor.T
