/- Index.Between. -/
import Derived.Test.YtklbbcemacpimaaGreatDoorIAsk2
import Derived.Test.YtklbbcemacpimaaGreatDoorIRefLaw
namespace Go.Proofs.YtklbbcemacpimaaGreatDoor.I
open Go Go.Maps Go.Proofs Go.RowKit Go.Sort Go.Shelf

theorem geq_s (t : TypeId) (a b : ByteArray) : binOp .geq t (.string a) (.string b) = pure (.bool !(Op.bytesLess a.toList b.toList)) := by simp [binOp, Op.stringOp]
theorem leq_s (t : TypeId) (a b : ByteArray) : binOp .leq t (.string a) (.string b) = pure (.bool (Op.bytesLess a.toList b.toList || a.toList == b.toList)) := by simp [binOp, Op.stringOp]
attribute [local go_sem] geq_s leq_s
theorem ownShape {w : World} {base : Nat} {e : TypeId} {size n : Nat} {v : Value} {xs : List Value} (h : w.ownsRow base e size v n xs) : ∃ ao c, v = .slice ao n c := by
  rcases h.2 with ⟨h1, h2⟩ | ⟨g, c, cur, h1, _⟩
  · exact ⟨none, 0, by rw [h1, h2]⟩
  · exact ⟨_, _, h1⟩
def sel (lo hi : L8) (ps : List (L8 × Option Nat)) : List (L8 × Option Nat) := ps.filter fun p => inR lo hi p.1
/-- Where the loop stands. -/
structure BI (w : World) (lo hi : L8) (b n : Nat) (D0 : DataW Unit) (f : Vk) (fv : Value) (wr : World) (ps : List (L8 × Option Nat)) (left : Lit → Bool) (cnt : Nat) : Prop where
  rng : wr.ranges Tryz.prog 9 ptrEl.R b w.heap.size n D0 left cnt
  few : ps.length + cnt ≤ Maps.size D0
  col : Collected D0 left (ps.map (·.1))
  val : ∀ p ∈ ps, f p.1 = p.2 ∧ p.2 ≠ none
  row : wr.ownsRow w.heap.size 84 1 fv (sel lo hi ps).length ((sel lo hi ps).map fun p => .map p.2)
  below : Below w.heap.size w wr
theorem sel_snoc (lo hi : L8) (ps : List (L8 × Option Nat)) (x : L8) (c : Option Nat) : sel lo hi (ps ++ [(x, c)]) = sel lo hi ps ++ (if inR lo hi x = true then [(x, c)] else []) := by
  unfold sel
  rw [List.filter_append]
  congr 1
  by_cases h : inR lo hi x = true <;> simp [h]
theorem sel_len (lo hi : L8) (ps : List (L8 × Option Nat)) : (sel lo hi ps).length ≤ ps.length := List.length_filter_le _ _
/-- A row of a map's values is a row of counts. -/
theorem cntsOfRow {w w3 : World} {lo n b : Nat} {cbk : Vk} {cfk : Ck} {v : Value} {qs : List (L8 × Option Nat)} (hV : ValsOf w n (some b) cbk cfk) (hrow : w3.ownsRow lo 84 1 v qs.length (qs.map fun p => .map p.2)) (hq : ∀ p ∈ qs, cbk p.1 = p.2) (hb : Below w.heap.size w w3) : CntsAt w3 n v (qs.map fun p => (p.2, fun i => if cbk p.1 = none then none else cfk p.1 i)) := by
  rcases hrow.2 with ⟨h0, h1⟩ | ⟨g, cap, cur, hv, hrest⟩
  · refine ⟨none, 0, by rw [h0, List.length_map, h1], fun k p hk => ?_⟩
    have := (List.getElem?_eq_some_iff.1 hk).1
    rw [List.length_map] at this
    omega
  · refine ⟨_, cap, by rw [hv, List.length_map], fun k p hk => ⟨g, rfl, ?_⟩⟩
    rw [List.getElem?_map] at hk
    cases hpk : qs[k]? with
    | none => rw [hpk] at hk; cases hk
    | some q =>
      rw [hpk] at hk
      simp at hk
      subst hk
      have hc := hrow.cells (g := g) (by rw [hv]; rfl) k (.map q.2) (by simp [hpk])
      rw [addr_add, Nat.zero_add] at hc
      refine ⟨hc, ?_⟩
      have hq2 := hq q (List.mem_of_getElem? hpk)
      have hcn := hV.cnt q.1
      rw [hq2] at hcn
      show CntIs w3 n (q.2, fun i => if cbk q.1 = none then none else cfk q.1 i)
      rw [hq2]
      exact CntIs.keep hcn fun b _ hbl => hb.block b hbl
set_option maxRecDepth 100000 in
set_option maxHeartbeats 1600000 in
theorem between_any (xp : Option Addr) (key lo hi : ByteArray) (n b : Nat) (cbk : Vk) (cfk : Ck) (w : World) (hg : Gives xp key (some b) w) (hV : ValsOf w n (some b) cbk cfk) (hn : n ≤ 1000000) :
    Calls Tryz.prog 14 #[.pointer xp, .string key, .string lo, .string hi] w (IntAns w fun i => ∃ v, cbk v ≠ none ∧ inR lo.data.toList hi.data.toList v = true ∧ cfk v i ≠ none) := by
  obtain ⟨i0, hi0, hz0, hz1, hz2⟩ := info_parts infoC
  obtain ⟨D0, hown, -, hat0, hhas⟩ := MF.has hV.1
  have hsz := hown.size_le
  have HG := Lib.hid hg
  have HV := Lib.hid hV
  have HAT := Lib.hid hat0
  have HHAS := Lib.hid hhas
  clear hg hV hat0 hhas
  go_enter Tryz.func14, Tryz.ntmps14
  go_wp2_with fail
  refine Calls.mono HG.out ?_
  rintro e w' ⟨rfl, hw⟩
  subst hw
  go_wp2_with (first
    | (at_range; refine wpList_range_own _ rfl _ 82 rfl 9 84 (string_keyed tys.hs) tys.hV _ b n _ rfl hown ?_; intro w0 hrg0 hg0 hs0)
    | go_in)
  try go_frame
  go_loopw [9] (fun fv wr => ∃ (left : Lit → Bool) (cnt : Nat) (ps : List (L8 × Option Nat)), BI w' lo.data.toList hi.data.toList b n D0 cbk fv wr ps left cnt)
    (fun _ wr => wr.rangeLeft b w'.heap.size)
  case atStart =>
    exact ⟨_, _, [], ⟨hrg0, by simp, Collected.start D0, by simp, World.ownsRow_nil _ _ _ _, (Below.refl _ _).grown hg0 (Nat.le_refl _) (fun k e => by cases e)⟩⟩
  case round =>
    obtain ⟨left, cnt, ps, hB⟩ := hrel
    have hrg := hB.rng
    obtain ⟨vo, vc, hvs⟩ := ownShape hB.row
    subst hvs
    have HB := Lib.hid hB
    clear hB
    go_wp2_with (first
      | (at_next; refine wpList_next_ranges _ rfl _ rfl 9 (string_keyed tys.hs) ptrEl.R encStr Value.map (fun key kl hk => by obtain ⟨x, hx, _⟩ := Maps.keyOf_str tys.hs hk; exact ⟨x, hx⟩) (fun v y hv => by obtain ⟨c, e, _⟩ := ptrEl.inv v y hv; exact ⟨c, e⟩) b w'.heap.size n _ _ _ rfl hrg ?_ ?_)
      | go_in)
    · intro hc0 hl0
      have hsl := sel_len lo.data.toList hi.data.toList ps
      have hfew := HB.out.few
      have hC := cntsOfRow HV.out HB.out.row (fun p hp => (HB.out.val p (List.mem_filter.1 hp).1).1) HB.out.below
      have UN := Lib.hid (united_any _ n _ wr hC hn (by rw [List.length_map]; omega))
      have HP : Hid (∀ x, (∃ p ∈ (sel lo.data.toList hi.data.toList ps).map (fun p => (p.2, fun i => if cbk p.1 = none then none else cfk p.1 i)), p.2 x ≠ none) ↔ ∃ v, cbk v ≠ none ∧ inR lo.data.toList hi.data.toList v = true ∧ cfk v x ≠ none) := Lib.hid fun x => by
        constructor
        · rintro ⟨p, hp, hne⟩
          obtain ⟨q, hq, rfl⟩ := List.mem_map.1 hp
          have hq3 : inR lo.data.toList hi.data.toList q.1 = true := by have := (List.mem_filter.1 hq).2; simpa using this
          by_cases hn : cbk q.1 = none
          · simp [hn] at hne
          · simp [hn] at hne
            exact ⟨q.1, hn, hq3, hne⟩
        · rintro ⟨v, h1, h2, h3⟩
          have hin : v ∈ ps.map (·.1) := (HB.out.col.2 v).2 ⟨by
            have := HHAS.out v
            cases e : cbk v with
            | none => exact absurd e h1
            | some r => rw [e] at this; exact this, hl0 _⟩
          obtain ⟨q, hq, rfl⟩ := List.mem_map.1 hin
          exact ⟨_, List.mem_map.2 ⟨q, List.mem_filter.2 ⟨hq, by simpa using h2⟩, rfl⟩, by simp [h1, h3]⟩
      clear hC hrg hsl hfew
      go_wp2_with fail
      refine UN.out.mono ?_
      rintro e w4 ⟨u, ss, rfl, h1, h2, h3, h4⟩
      have FIN := Lib.hid (And.intro h1 (And.intro h2 (And.intro (rowLow (lo := w'.heap.size) h3 HB.out.below.size) (HB.out.below.trans (h4.mono HB.out.below.size)))))
      clear h1 h2 h3 h4 UN
      go_wp2_with fail
      go_ret
      exact ⟨u, ss, rfl, FIN.out.1, fun x => (FIN.out.2.1 x).trans (HP.out x), FIN.out.2.2.1, FIN.out.2.2.2⟩
    · intro x c kl yd yp w2 cnt2 hkey hlk hv hat hrg2 hlt hg2 hs2 hen
      obtain ⟨x', ex, rfl, _⟩ := Maps.keyOf_str tys.hs hkey
      obtain rfl : x = x' := encStr_inj ex
      obtain ⟨c', ec, ez⟩ := ptrEl.inv _ _ hv
      have hcc : c = c' := by injection ec
      subst hcc
      have hfx : cbk x = c ∧ c ≠ none := by
        have h1 := HAT.out x (.lit (.int .i64 (-1)))
        have h2 := hat (.lit (.int .i64 (-1)))
        rw [show yd = ptrEl.dat c from (Prod.mk.inj ez).1] at h2
        rw [show D0.atKey (mkS x) _ = _ from h2] at h1
        cases hfx : cbk x with
        | none =>
          rw [hfx] at h1
          cases c with
          | none => cases h1
          | some r =>
            simp only [Option.map_none] at h1
            injection h1 with h1
            injection h1 with _ h1
            omega
        | some r =>
          rw [hfx] at h1
          simp only [Option.map_some] at h1
          have := ptrEl.inj _ _ h1
          subst this
          exact ⟨rfl, by simp⟩
      have hrow2 := ownsRow_abides_a HB.out.row hg2 (fun r e => by cases e; exact hrg.iter_walk)
      have hb2 : Below w'.heap.size w' w2 := HB.out.below.grown hg2 HB.out.below.size (fun k e => by cases e; exact Nat.le_refl _)
      have hcol2 : Collected D0 (fun z => left z && !z.sameKey (.string x)) ((ps ++ [(x, c)]).map (·.1)) := by simpa using HB.out.col.step hlk (fun z => hat z)
      have hval2 : ∀ p ∈ ps ++ [(x, c)], cbk p.1 = p.2 ∧ p.2 ≠ none := fun p hp => (List.mem_append.1 hp).elim (HB.out.val p) (fun e => by simp at e; subst e; exact hfx)
      have hlen2 : (ps ++ [(x, c)]).length + cnt2 ≤ Maps.size D0 := by have := HB.out.few; simp; omega
      have hleft := hrg2.left_eq
      have hleft0 := hrg.left_eq
      obtain ⟨xs, hxs⟩ : ∃ xs : ByteArray, (⟨x.toArray⟩ : ByteArray) = xs := ⟨_, rfl⟩
      have hxd : xs.data.toList = x := by rw [← hxs]
      have hlenS := sel_len lo.data.toList hi.data.toList ps
      have hps := HB.out.few
      obtain ⟨k0, hk0⟩ : ∃ k0, (sel lo.data.toList hi.data.toList ps).length = k0 := ⟨_, rfl⟩
      have HEX : Hid (encStr x = .string xs) := Lib.hid (by rw [← hxs])
      have HIN : Hid (inR lo.data.toList hi.data.toList x = (!(Op.bytesLess xs.toList lo.toList) && (Op.bytesLess xs.toList hi.toList || xs.toList == hi.toList))) := Lib.hid (by
        unfold inR
        rw [Lib.toList_data, Lib.toList_data, Lib.toList_data, hxd])
      have HROW : Hid (w2.ownsRow w'.heap.size 84 1 (.slice vo k0 vc) k0 ((sel lo.data.toList hi.data.toList ps).map fun p => .map p.2)) := Lib.hid (by rw [← hk0]; exact hrow2)
      have HB2 := Lib.hid hb2
      have HCOL := Lib.hid hcol2
      have HVAL := Lib.hid hval2
      have HLEN := Lib.hid hlen2
      have HRG2 := Lib.hid hrg2
      have HL1 := Lib.hid hleft
      have HL0 := Lib.hid hleft0
      have HKL : k0 ≤ 1000000 := by omega
      have HK0 := Lib.hid hk0
      rw [hk0]
      rw [HEX.out] at hen
      rw [HEX.out]
      clear hrow2 hb2 hcol2 hval2 hlen2 hrg2 hleft hleft0 hfx hat hxs hxd hlenS hps hk0 hg2 hs2 hrg hv ec ez ex hkey hlk
      have SKIP : inR lo.data.toList hi.data.toList x = false → BI w' lo.data.toList hi.data.toList b n D0 cbk (.slice vo k0 vc) w2 (ps ++ [(x, c)]) (fun z => left z && !z.sameKey (.string x)) cnt2 := fun hin =>
        { rng := HRG2.out, few := HLEN.out, col := HCOL.out, val := HVAL.out, row := (by rw [sel_snoc, hin]; simp only [Bool.false_eq_true, if_false, List.append_nil]; rw [HK0.out]; exact HROW.out), below := HB2.out }
      have HSK := Lib.hid SKIP
      clear SKIP
      cases hb1 : Op.bytesLess xs.toList lo.toList with
      | true =>
        go_wp2_with fail
        go_roundw
        case rel => exact ⟨_, cnt2, _, HSK.out (by rw [HIN.out, hb1]; rfl)⟩
        case measure => rw [HL1.out, HL0.out]; exact hlt
      | false =>
        cases hb2 : (Op.bytesLess xs.toList hi.toList || xs.toList == hi.toList) with
        | false =>
          go_wp2_with fail
          go_roundw
          case rel => exact ⟨_, cnt2, _, HSK.out (by rw [HIN.out, hb1, hb2]; rfl)⟩
          case measure => rw [HL1.out, HL0.out]; exact hlt
        | true =>
          have HROWA := Lib.hid (HROW.out.alloc (.cells #[.map c] 84))
          go_wp2_with (at_builtin; refine wpList_append_lies _ rfl _ _ _ rfl w'.heap.size 84 i0 _ 1 8 Tryz.underlying87 hi0 hz0 hz1 hz2 rfl (by omega) (.slice vo k0 vc) k0 _ rfl HROWA.out ⟨w2.heap.size, 0, none⟩ 1 1 [.map c] rfl rfl (cell_one_new _ _ _) (by simp [Value.oneCell']) (by omega) (by unfold maxLen; omega) (by omega) (by have := HB2.out.size; simp; omega) _ rfl ?_; refine Hid.out ?_)
          refine Lib.hid ?_
          intro gg cap w5 hown5 hgrow5 hat5 hlt5
          have hin : inR lo.data.toList hi.data.toList x = true := by rw [HIN.out, hb1, hb2]; rfl
          have hB5 : Below w'.heap.size w' w5 := (HB2.out.alloc HB2.out.size (.cells #[.map c] 84)).grown hgrow5 (by have := HB2.out.size; simp; omega) (fun k e => (World.ownsRow.lt HROW.out k e).1)
          have hrA : (w2.alloc (.cells #[.map c] 84)).ranges Tryz.prog 9 ptrEl.R b w'.heap.size n D0 (fun z => left z && !z.sameKey (.string x)) cnt2 := HRG2.out.alloc _
          obtain ⟨o1, ho1, hw1⟩ := hrA.iter_walk
          obtain ⟨es, clock, hbm, -⟩ := hrA.owns
          have hr5 : w5.ranges Tryz.prog 9 ptrEl.R b w'.heap.size n D0 (fun z => left z && !z.sameKey (.string x)) cnt2 := hrA.kept hgrow5 (fun e => by
              rcases rowNot HROWA.out hbm (fun cur e => by cases e) with e2 | e2
              · rw [e2] at e; cases e
              · exact e2 e.symm) (fun e => by
              rcases rowNot HROWA.out ho1 (fun cur e => by rw [e] at hw1; cases hw1) with e2 | e2
              · rw [e2] at e; cases e
              · exact e2 e.symm)
          have hm5 : w5.rangeLeft b w'.heap.size = cnt2 := hr5.left_eq
          have FIN : Hid (BI w' lo.data.toList hi.data.toList b n D0 cbk (.slice (some ⟨gg, 0, none⟩) (k0 + 1) cap) w5 (ps ++ [(x, c)]) (fun z => left z && !z.sameKey (.string x)) cnt2) := Lib.hid
            { rng := hr5, few := HLEN.out, col := HCOL.out, val := HVAL.out, row := (by
                rw [sel_snoc, if_pos hin, List.length_append, HK0.out, List.map_append]
                exact hown5), below := hB5 }
          have HM5 := Lib.hid hm5
          clear hown5 hgrow5 hat5 hlt5 hB5 hrA ho1 hw1 hbm hr5 hm5
          go_wp2_with fail
          go_roundw
          case rel => exact ⟨_, cnt2, _, FIN.out⟩
          case measure => rw [HM5.out, HL0.out]; exact hlt
end Go.Proofs.YtklbbcemacpimaaGreatDoor.I
