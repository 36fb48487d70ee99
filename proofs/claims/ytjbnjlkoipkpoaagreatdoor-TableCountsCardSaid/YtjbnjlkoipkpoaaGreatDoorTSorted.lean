/- The stanzas by their cells: table.Sorted, walked. -/
import Derived.Test.YtjbnjlkoipkpoaaGreatDoorTSrtCmp
import Derived.Test.YtjbnjlkoipkpoaaGreatDoorTSrtStable
namespace Go.Proofs.YtjbnjlkoipkpoaaGreatDoor.T
open Go.RowKit Go.Shelf
open Go.Proofs.YtjbnjlkoipkpoaaGreatDoor.B

/-- The numbers, as far as they go. -/
def idsBy (ss : List St) (d : Nat → Nat) (k : Nat) : List Nat := (List.range k).map fun p => (ss[d p]?.map (·.1)).getD 0
theorem idsBy_succ (ss : List St) (d : Nat → Nat) (k : Nat) : idsBy ss d (k + 1) = idsBy ss d k ++ [(ss[d k]?.map (·.1)).getD 0] := by unfold idsBy; rw [List.range_succ, List.map_append]; rfl
theorem idsBy_len (ss : List St) (d : Nat → Nat) (k : Nat) : (idsBy ss d k).length = k := by simp [idsBy]
theorem byCells_of {key : L8} {ss : List St} {d : Nat → Nat} (hb : ∀ p, p < ss.length → d p < ss.length) (hs : Srt (ltc (cmpOf key ss)) d 0 ss.length) : ByCells key ss (idsBy ss d ss.length) := by
  refine ⟨d, hb, hs, idsBy_len _ _ _, fun p hp => ?_⟩
  unfold idsBy
  rw [List.getElem?_map, List.getElem?_range hp]
  show some ((ss[d p]?.map (·.1)).getD 0) = _
  rw [List.getElem?_eq_getElem (hb p hp)]
  rfl
theorem NumsAt.low {B B' : Nat} {w : World} {v : Value} {ws : List Nat} (h : NumsAt B w v ws) (hB : B' ≤ B) : NumsAt B' w v ws := by
  refine ⟨h.1, ?_⟩
  rcases h.2 with h0 | ⟨g, cap, cur, hv, hB2, hr⟩
  · exact .inl h0
  · exact .inr ⟨g, cap, cur, hv, by omega, hr⟩
theorem NumsAt.snoc {B gg cap : Nat} {w : World} {ws : List Nat} {n : Nat} (h : w.ownsRow B 3 1 (.slice (some ⟨gg, 0, none⟩) (ws.length + 1) cap) (ws.length + 1) (nums ws ++ [.int .i64 n])) : NumsAt B w (.slice (some ⟨gg, 0, none⟩) (ws.length + 1) cap) (ws ++ [n]) := by
  have e1 : nums (ws ++ [n]) = nums ws ++ [.int .i64 n] := by simp [nums]
  unfold NumsAt
  rw [e1, List.length_append]
  exact h
/-- Where the comparison stands. -/
theorem cmp_at {w0 : World} {ρ : Col} {g cap kb : Nat} {ss : List St} {us : List Value} {key : ByteArray} (h : StanzasAt w0 ρ (.slice (some ⟨g, 0, none⟩) ss.length cap) ss us) (hg : ρ g = some 2) (hk : w0.cell? ⟨kb, 0, none⟩ = some (.string key)) (hkg : kb ≠ g) (hfine : ∀ x ∈ ss, FsFine x.2) (hr : Ready w0) (hrg : 0 ≠ g) :
    CmpAt w0 g ss.length kb (elOf ss us) (cmpOf key.data.toList ss) := by
  intro W K x y hx hy
  have hkl := World.block_lt_of_cell? _ _ hk
  have cellW : ∀ b o, b < w0.heap.size → b ≠ g → W.cell? ⟨b, o, none⟩ = w0.cell? ⟨b, o, none⟩ := fun b o h1 h2 => by
    simp only [World.cell?, K.block b h1 h2]
  obtain ⟨m, hm⟩ := hr
  have hml := World.block_lt_of_cell? _ _ hm
  have hrW : Ready W := ⟨m, (cellW _ _ hml hrg).trans hm⟩
  have hkW := (cellW kb 0 hkl hkg).trans hk
  have row : ∀ z, z < ss.length → ∃ s o l c, ss[z]? = some s ∧ us[z]? = some (.slice o l c) ∧ FieldsAt W.heap.size W (.slice o l c) s.2 ∧ FsFine s.2 := fun z hz => by
    obtain ⟨s, hs⟩ : ∃ s, ss[z]? = some s := ⟨_, List.getElem?_eq_getElem hz⟩
    obtain ⟨u, hu⟩ : ∃ u, us[z]? = some u := ⟨_, List.getElem?_eq_getElem (by rw [h.len]; exact hz)⟩
    have hI := h.its z u s hu hs
    have hW : W.ownsRow 0 95 2 u s.2.length (s.2.flatMap Fd.cells) := ownsRow_of_block hI.1 fun q hq => by
      have hc := hI.2 q hq
      refine K.block q (World.ownsRow.lt hI.1 q hq).2 fun e => ?_
      rw [e, hg] at hc
      injection hc with hc
      omega
    obtain ⟨o, l, c, hsh⟩ : ∃ o l c, u = .slice o l c := by
      rcases hW.2 with ⟨h0, _⟩ | ⟨q, cp, cur, hv, _⟩
      · exact ⟨none, 0, 0, h0⟩
      · exact ⟨_, _, _, hv⟩
    subst hsh
    have hW' : FieldsAt W.heap.size W (.slice o l c) s.2 := FieldsAt.row hW
    exact ⟨s, o, l, c, hs, hu, hW', hfine s (List.mem_of_getElem? hs)⟩
  obtain ⟨s1, o1, l1, c1, hs1, hu1, hf1, hn1⟩ := row x hx
  obtain ⟨s2, o2, l2, c2, hs2, hu2, hf2, hn2⟩ := row y hy
  rw [elOf_get hs1 hu1, elOf_get hs2 hu2]
  unfold cmpOf
  rw [cellAt_get hs1, cellAt_get hs2]
  exact cmp_any key kb _ _ _ _ _ _ W hkW hf1 hf2 hn1 hn2 hrW
def SoRel (N : Nat) (w5 : World) (ss : List St) (d : Nat → Nat) (v i : Value) (wr : World) : Prop :=
  ∃ k : Nat, i = .int .i64 k ∧ k ≤ ss.length ∧ Hid (NumsAt N wr v (idsBy ss d k)) ∧ Hid (Below N w5 wr)
set_option maxRecDepth 100000 in
set_option maxHeartbeats 6400000 in
theorem sorted_any (q : Option Addr) (key : ByteArray) (ss : List St) (w : World) (hm : ss.length ≤ 1000000) (hfine : ∀ x ∈ ss, FsFine x.2) (hr : Ready w)
    (HS : ∀ w', Below w.heap.size w w' → Calls Tryz.prog 30 #[.pointer q] w' (StanzasPost ss w')) :
    Calls Tryz.prog 49 #[.pointer q, .string key] w fun e w' => ∃ u zs, e = .returned u ∧ NumsAt w.heap.size w' u zs ∧ ByCells key.data.toList ss zs ∧ Below w.heap.size w w' := by
  obtain ⟨i0, hi0, hz0, hz1, hz2⟩ := info_parts infoI
  have hrm : 0 < w.heap.size := by obtain ⟨m, hm⟩ := hr; exact World.block_lt_of_cell? _ _ hm
  have hb1 := below_grow1 w (.cells #[.string key] 9)
  have hE1 := heap_alloc_new w (.cells #[.string key] 9)
  have hs1 : (w.alloc (.cells #[.string key] 9)).heap.size = w.heap.size + 1 := by simp
  obtain ⟨w1, hw1⟩ : ∃ w1, w.alloc (.cells #[.string key] 9) = w1 := ⟨_, rfl⟩
  rw [hw1] at hb1 hE1 hs1
  have ST := Lib.hid (HS w1 hb1)
  have HW1 := Lib.hid hw1
  have HFI := Lib.hid hfine
  have HR1 := Lib.hid (hr.stays hb1)
  have HB1 := Lib.hid hb1
  have HE1 := Lib.hid hE1
  have HS1 := Lib.hid hs1
  clear HS hw1 hfine hr hb1 hE1 hs1
  unfold cmpV at *
  go_enter Tryz.func49, Tryz.ntmps49
  go_wp2_with fail
  rw [HW1.out]
  refine ST.out.mono ?_
  rintro e w2 ⟨v, ρ, us, rfl, hS, hρ, hb2⟩
  have hs1 := HS1.out
  have hB2 := HB1.out.trans (hb2.mono (by omega))
  have hk2 : w2.cell? ⟨w.heap.size, 0, none⟩ = some (.string key) := (hb2.cell (p := ⟨w.heap.size, 0, none⟩) (by show w.heap.size < w1.heap.size; omega)).trans (B.cell_of_row _ _ 0 _ _ HE1.out)
  have hr2 := HR1.out.stays hb2
  have hz2' := hb2.size
  rcases hS.row.1.2 with ⟨hv, hn0⟩ | ⟨g, cap, cur, hv, -, hg, -⟩
  · have hss : ss = [] := List.eq_nil_of_length_eq_zero hn0
    subst hss
    subst hv
    have HB2 := Lib.hid hB2
    have SN := Lib.hid (sortStable_nil w.heap.size w2)
    clear hn0 hS hρ hb2 hB2 hk2 hr2 ST
    unfold cmpV at SN
    go_wp2_with fail
    refine SN.out.mono ?_
    rintro e w' ⟨rfl, rfl⟩
    go_wp2
    go_loopw [6, 16] (fun v i wr => v = .slice none 0 0 ∧ i = .int .i64 0 ∧ Hid (Below w.heap.size w wr)) (fun _ _ _ => 0)
    case atStart => exact ⟨rfl, rfl, HB2⟩
    case round =>
      obtain ⟨rfl, rfl, hW⟩ := hrel
      go_wp2
      go_ret
      exact ⟨_, [], rfl, NumsAt.nil _ _, byCells_of (d := fun p => p) (fun _ h => h) (Srt.few _ (by simp)), hW.out⟩
  · subst hv
    have hgρ : ρ g = some 2 := hS.row.2 g rfl
    have hgl := (Array.getElem?_eq_some_iff.1 hg).1
    have hwg : w1.heap.size ≤ g := by
      rcases Nat.lt_or_ge g w1.heap.size with c | c
      · have := hρ g c; rw [hgρ] at this; cases this
      · exact c
    have CA := cmp_at (kb := w.heap.size) (key := key) hS hgρ hk2 (by omega) HFI.out hr2 (by omega)
    have hcel := World.ownsRow.cells hS.row.1 (g := g) rfl
    have hS0 : SrtW w2 g ss.length (elOf ss us) (fun p => p) w2 := by
      refine ⟨KeepBut.refl _ _, hgl, fun p hp => ?_, fun p hp => ?_, fun p hp => ?_, fun p hp => ?_⟩
      all_goals
        obtain ⟨x, hx⟩ : ∃ x, ss[p]? = some x := ⟨_, List.getElem?_eq_getElem hp⟩
        obtain ⟨u, hu⟩ : ∃ u, us[p]? = some u := ⟨_, List.getElem?_eq_getElem (by rw [hS.len]; exact hp)⟩
        obtain ⟨g1, g2⟩ := stCells_get ss us p x u hx hu
        have e1 := hcel _ _ g1
        have e2 := hcel _ _ g2
        rw [addrO] at e1 e2
      · rw [elOf_id hx]; exact e1
      · obtain ⟨o, l, c, hsh⟩ : ∃ o l c, u = .slice o l c := by
          rcases (hS.its p u x hu hx).1.2 with ⟨h0, _⟩ | ⟨q, cp, cur, hv, _⟩
          · exact ⟨none, 0, 0, h0⟩
          · exact ⟨_, _, _, hv⟩
        subst hsh
        rw [elOf_get hx hu]; exact e2
      · exact World.ownsRow.frozenAt hS.row.1 (p * 2)
      · exact World.ownsRow.frozenAt hS.row.1 (p * 2 + 1)
    have SS := Lib.hid (sortStable_any (cmpOf key.data.toList ss) (cmpOf_less _ _) w.heap.size ss.length cap g (elOf ss us) w2 w2 hS0 CA hm)
    unfold cmpV at SS
    have HB2 := Lib.hid hB2
    have hgw : w.heap.size ≤ g := by omega
    clear hS hρ hb2 hB2 hk2 hr2 ST hcel hS0 CA hg hgρ hwg
    go_wp2_with fail
    refine SS.out.mono ?_
    rintro e w5 ⟨rfl, d, hS5, hd, hdb⟩
    have hK := hS5.keep
    have HB5 : Hid (Below w.heap.size w w5) := Lib.hid (HB2.out.trans ⟨hK.os, hK.tape, hK.output, hK.size, fun k hk => hK.block k (by omega) (by omega)⟩)
    have HS5 := Lib.hid hS5
    have HD := Lib.hid hd
    have HDB := Lib.hid hdb
    have hz5 := HB5.out.size
    clear hK hS5 hd hdb SS
    obtain ⟨N, hN⟩ : ∃ N, w5.heap.size = N := ⟨_, rfl⟩
    have hgN : g < N := by have := HS5.out.keep.size; omega
    have HN := Lib.hid hN
    have hzN : w.heap.size ≤ N := by omega
    clear hN hz5
    go_wp2
    go_loopw [6, 16] (fun v i wr => SoRel N w5 ss d v i wr) (fun _ i _ => ss.length - (intOf i).toNat)
    case atStart => exact ⟨0, rfl, Nat.zero_le _, Lib.hid (NumsAt.nil _ _), Lib.hid (Below.refl _ _)⟩
    case round =>
      obtain ⟨k, rfl, hk, hO, hW⟩ := hrel
      by_cases hlt : k < ss.length
      · have hSr := HS5.out.below (HN.out ▸ hW.out)
        have a0 := hSr.c0 k hlt
        have a1 := hSr.c1 k hlt
        obtain ⟨y, hy⟩ : ∃ y, ss[d k]? = some y := ⟨_, List.getElem?_eq_getElem (HDB.out k hlt)⟩
        rw [elOf_id hy] at a0
        have HX : Hid (idsBy ss d (k + 1) = idsBy ss d k ++ [y.1]) := Lib.hid (by rw [idsBy_succ, hy]; rfl)
        obtain ⟨eo, heo⟩ : ∃ e, elOf ss us (d k) = e := ⟨_, rfl⟩
        rw [heo] at a1
        obtain ⟨i1, i2, i3, i4⟩ := eo
        simp only at a1
        obtain ⟨id, hid⟩ : ∃ id, y.1 = id := ⟨_, rfl⟩
        rw [hid] at a0 HX
        have hO3 : NumsAt N wr u6 (idsBy ss d k) := hO.out
        have hzl := idsBy_len ss d k
        obtain ⟨ws, hws⟩ : ∃ ws, idsBy ss d k = ws := ⟨_, rfl⟩
        rw [hws] at hO3 HX hzl
        obtain ⟨vo, vc, hvs⟩ := hO3.shape
        subst hvs
        have hzr : N ≤ wr.heap.size := by have := hW.out.size; have := HN.out; omega
        have HO3 := Lib.hid hO3
        have hwl : ws.length ≤ 1000000 := by omega
        have HZL := Lib.hid hzl
        have HO := Lib.hid (World.ownsRow.alloc (World.ownsRow.alloc HO3.out (.cells #[.int .i64 id, .slice i2 i3 i4] 61)) (.cells #[.int .i64 id] 3))
        clear hSr hy heo hid hO hO3 hws hzl
        go_wp2_with (at_builtin; refine wpList_append_lies _ rfl _ _ _ rfl N 3 i0 _ 1 8 Tryz.underlying68 hi0 hz0 hz1 hz2 rfl (by omega) (.slice vo ws.length vc) ws.length (nums ws) rfl HO.out ⟨wr.heap.size + 1, 0, none⟩ 1 1 [.int .i64 id] rfl rfl (World.news_of_block (cs := #[.int .i64 id]) (by have := heap_alloc_new (wr.alloc (.cells #[.int .i64 id, .slice i2 i3 i4] 61)) (.cells #[.int .i64 id] 3); simpa using this)) (by simp [Value.oneCell']) (by omega) (by unfold maxLen; omega) (by omega) (by simp; omega) _ rfl ?_; refine Hid.out ?_)
        refine Lib.hid ?_
        intro gg cap w8 hown8 hgrow hat hlt8
        have hb0 := ((hW.out.alloc hzr (.cells #[.int .i64 id, .slice i2 i3 i4] 61)).alloc (by simp; omega) (.cells #[.int .i64 id] 3))
        have HB8 := Lib.hid (hb0.grown hgrow (by simp; omega) (fun q hq => (World.ownsRow.lt HO3.out q hq).1))
        have HN8 := Lib.hid (NumsAt.snoc hown8)
        clear hown8 hgrow hat hb0
        go_wp2
        refine ⟨⟨k + 1, by go_num, by omega, ?_, HB8⟩, by simp [intOf]; omega⟩
        show Hid (NumsAt _ _ _ (idsBy ss d (k + 1)))
        rw [HX.out]
        exact HN8
      · have hk2 : k = ss.length := by omega
        have hO4 : NumsAt N wr _ (idsBy ss d k) := hO.out
        rw [hk2] at hO4
        have HO4 := Lib.hid hO4
        clear hO4 hO hk2
        go_wp2
        go_ret
        exact ⟨_, _, rfl, HO4.out.low hzN, byCells_of HDB.out HD.out, HB5.out.trans (hW.out.mono hzN)⟩
end Go.Proofs.YtjbnjlkoipkpoaaGreatDoor.T
