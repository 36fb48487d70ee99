/- table.Widths, walked. -/
import Derived.Test.YtboiaoaephimhaaDoorTRows
namespace Go.Proofs.YtboiaoaephimhaaDoor.T
open Go.RowKit Go.Shelf
open Go.Proofs.YtboiaoaephimhaaDoor.B

theorem infoI : (Tryd.prog.info? 3).map (fun i => (i.zero, i.size, i.bytes)) = some (some (.int .i64 0), 1, 8) := by kernel_rfl
def nums (ws : List Nat) : List Value := ws.map fun (n : Nat) => .int .i64 n
theorem nums_len (ws : List Nat) : (nums ws).length = ws.length := by simp [nums]
theorem nums_one (ws : List Nat) : ∀ u ∈ nums ws, u.oneCell' = true := by
  intro u hu
  obtain ⟨n, _, rfl⟩ := List.mem_map.1 hu
  rfl
/-- Numbers in a row of their own, at B or beyond. -/
def NumsAt (B : Nat) (w : World) (v : Value) (ws : List Nat) : Prop := w.ownsRow B 3 1 v ws.length (nums ws)
theorem NumsAt.shape {B : Nat} {w : World} {v : Value} {ws : List Nat} (h : NumsAt B w v ws) : ∃ vo vc, v = .slice vo ws.length vc := by
  rcases h.2 with ⟨h0, h1⟩ | ⟨g, cap, cur, hv, _⟩
  · exact ⟨none, 0, by rw [h0, h1]⟩
  · exact ⟨_, _, hv⟩
theorem NumsAt.at {B : Nat} {w : World} {vo : Option Addr} {vc j n : Nat} {ws : List Nat} (h : NumsAt B w (.slice vo ws.length vc) ws) (hj : ws[j]? = some n) : ∃ g, vo = some ⟨g, 0, none⟩ ∧ B ≤ g ∧ g < w.heap.size ∧ w.cell? ⟨g, j, none⟩ = some (.int .i64 n) ∧ w.frozen? ⟨g, j, none⟩ = false := by
  have hl := (List.getElem?_eq_some_iff.1 hj).1
  have hlt := h.lt
  rcases h.2 with ⟨h0, h1⟩ | ⟨g, cap, cur, hv, hb, hg, -⟩
  · omega
  · injection hv with h1 h2 h3
    subst h1
    refine ⟨g, rfl, hb, (Array.getElem?_eq_some_iff.1 hg).1, ?_, World.ownsRow.frozenAt h j⟩
    rw [World.ownsRow.cellAt h j (by omega)]
    simp [nums, hj]
theorem NumsAt.stored {B g : Nat} {w : World} {vc : Nat} {ws : List Nat} (h : NumsAt B w (.slice (some ⟨g, 0, none⟩) ws.length vc) ws) (j n : Nat) (hB : B ≤ g) : NumsAt B (w.setCell ⟨g, j, none⟩ (.int .i64 n)) (.slice (some ⟨g, 0, none⟩) ws.length vc) (ws.set j n) ∧ Below B w (w.setCell ⟨g, j, none⟩ (.int .i64 n)) := by
  obtain ⟨h1, h2⟩ := World.ownsRow.stored h j (.int .i64 n)
  refine ⟨?_, ⟨rfl, rfl, rfl, by simp, fun k hk => Below.heap_setCell _ _ _ _ (by show k ≠ g; omega)⟩⟩
  unfold NumsAt
  rw [List.length_set]
  have : nums (ws.set j n) = (nums ws).set j (.int .i64 n) := by simp [nums, List.map_set]
  rw [this]
  exact h1
theorem NumsAt.nil (B : Nat) (w : World) : NumsAt B w (.slice none 0 0) [] := World.ownsRow_nil _ _ _ _
theorem most_le {rs : List (List ByteArray)} {n : Nat} (h : ∀ r ∈ rs, r.length ≤ n) : most rs ≤ n := by
  induction rs with
  | nil => exact Nat.zero_le _
  | cons x t ih =>
    have h1 := h x (by simp)
    have h2 := ih fun r hr => h r (by simp [hr])
    show max x.length (most t) ≤ n
    omega
def WRel (w : World) (f : Nat → List Nat) (m : Nat) (v : Value) (i : Value) (wr : World) : Prop :=
  ∃ k : Nat, i = .int .i64 k ∧ k ≤ m ∧ Hid (NumsAt w.heap.size wr v (f k)) ∧ Hid (Below w.heap.size w wr)
set_option maxRecDepth 20000 in
set_option maxHeartbeats 3200000 in
theorem widths_any (v : Value) (rs : List (List ByteArray)) (w : World) (h : RowsAt w.heap.size w v rs) (hn : rs.length ≤ 1000000) (hm : ∀ r ∈ rs, r.length ≤ 1000000) :
    Calls Tryd.prog 9 #[v] w fun e w' => ∃ u, e = .returned u ∧ NumsAt w.heap.size w' u (widths rs) ∧ Below w.heap.size w w' := by
  obtain ⟨i0, hi0, hz0, hz1, hz2⟩ := info_parts infoI
  have h0 := h
  obtain ⟨ao, cp, rfl, hc⟩ := h
  have H0 := Lib.hid h0
  have HC := Lib.hid hc
  have HM := Lib.hid hm
  clear h0 hc hm
  go_enter Tryd.func9, Tryd.ntmps9
  go_wp2
  go_loopw [3, 10] (fun v i wr => WRel w (fun k => widths (rs.take k)) rs.length v i wr) (fun _ i _ => rs.length - (intOf i).toNat)
  case atStart => exact ⟨0, rfl, Nat.zero_le _, Lib.hid (NumsAt.nil _ _), Lib.hid (Below.refl _ _)⟩
  case round =>
    obtain ⟨k, rfl, hk, hN, hW⟩ := hrel
    by_cases hlt : k < rs.length
    · obtain ⟨r, hr⟩ : ∃ r, rs[k]? = some r := ⟨_, List.getElem?_eq_getElem hlt⟩
      obtain ⟨a, u, rfl, ha, hu, hs⟩ := HC.out k r hr
      have hu1 := (hW.out.cell (p := a.add k) (by rw [add_block]; exact ha)).trans hu
      obtain ⟨bo, bp, rfl, hb⟩ := hs
      have hrl := HM.out r (List.mem_of_getElem? hr)
      obtain ⟨vo, vc, hvs⟩ := hN.out.shape
      have HR := Lib.hid hr
      have HB := Lib.hid hb
      clear hr hb hu
      have hN0 := Lib.hid (show NumsAt w.heap.size wr (.slice vo (widths (rs.take k)).length vc) (widths (rs.take k ++ [r.take 0])) by rw [widths_take0, ← hvs]; exact hN.out)
      subst hvs
      go_wp2_with fail
      go_loopw [3, 16] (fun v i wr2 => WRel w (fun j => widths (rs.take k ++ [r.take j])) r.length v i wr2) (fun _ i _ => r.length - (intOf i).toNat)
      case atStart => exact ⟨0, rfl, Nat.zero_le _, hN0, hW⟩
      case round =>
        obtain ⟨j, rfl, hj, hN2, hW2⟩ := hrel
        by_cases hjl : j < r.length
        · obtain ⟨s, hs⟩ : ∃ s, r[j]? = some s := ⟨_, List.getElem?_eq_getElem hjl⟩
          obtain ⟨b, rfl, hb1, hb2⟩ := HB.out j s hs
          have hc1 := (hW2.out.cell (p := b.add j) (by rw [add_block]; exact hb1)).trans hb2
          have hWN := widths_new (rs := rs.take k) hs
          have hWO := widths_old (rs := rs.take k) hs
          have hN3 : NumsAt w.heap.size wr _ (widths (rs.take k ++ [r.take j])) := hN2.out
          have hwl : (widths (rs.take k ++ [r.take j])).length ≤ 1000000 := by
            rw [widths_len]
            exact most_le fun x hx => by
              rcases List.mem_append.1 hx with hx | hx
              · exact HM.out x (List.mem_of_mem_take hx)
              · rw [List.mem_singleton.1 hx, List.length_take]; omega
          obtain ⟨ws, hws⟩ : ∃ ws, widths (rs.take k ++ [r.take j]) = ws := ⟨_, rfl⟩
          rw [hws] at hN3 hWN hWO hwl
          obtain ⟨wo, wc, hvs2⟩ := hN3.shape
          subst hvs2
          obtain ⟨ws', hws'⟩ : ∃ ws', widths (rs.take k ++ [r.take (j + 1)]) = ws' := ⟨_, rfl⟩
          rw [hws'] at hWN hWO
          have HWS' := Lib.hid hws'
          have HN3 := Lib.hid hN3
          have hBs := hW2.out.size
          clear hs hb2 hws hws' hN3 hN2 hN0
          by_cases hlj : ws.length = j
          · have HNEW := Lib.hid (hWN hlj)
            clear hWN hWO
            subst hlj
            have HO := Lib.hid (World.ownsRow.alloc HN3.out (.cells #[.int .i64 0] 3))
            go_wp2_with (at_builtin; refine wpList_append_lies _ rfl _ _ _ rfl w.heap.size 3 i0 _ 1 8 Tryd.underlying27 hi0 hz0 hz1 hz2 rfl (by omega) (.slice wo ws.length wc) ws.length (nums ws) rfl HO.out ⟨wr.heap.size, 0, none⟩ 1 1 [.int .i64 0] rfl rfl (World.news_of_block (cs := #[.int .i64 0]) (heap_alloc_new wr _)) (by simp [Value.oneCell']) (by omega) (by unfold maxLen; omega) (by omega) (by simp; omega) _ rfl ?_; refine Hid.out ?_)
            refine Lib.hid ?_
            intro gg cap w8 hown8 hgrow hat hlt8
            have hgB : w.heap.size ≤ gg := (hown8.lt gg rfl).1
            have hN8 : NumsAt w.heap.size w8 (.slice (some ⟨gg, 0, none⟩) (ws ++ [0]).length cap) (ws ++ [0]) := by
              have e1 : nums (ws ++ [0]) = nums ws ++ [.int .i64 0] := by simp [nums]
              unfold NumsAt
              rw [e1, List.length_append]
              exact hown8
            obtain ⟨g', hg', -, -, c0, f0⟩ := hN8.at (j := ws.length) (n := 0) (by simp)
            cases hg'
            have hB8 : Below w.heap.size w w8 := (hW2.out.alloc hBs _).grown hgrow (by simp; omega) (fun q hq => (HN3.out.lt q hq).1)
            have HB8 := Lib.hid hB8
            have HN8 := Lib.hid hN8
            clear hown8 hgrow hat hN8 hB8
            go_wp2
            have hs1 := HN8.out.stored ws.length s.size hgB
            have e2 : (ws ++ [0]).set ws.length s.size = ws' := by rw [← HNEW.out]; simp
            have e3 : (ws ++ [0]).length = ws.length + 1 := by simp
            rw [e2, e3] at hs1
            refine ⟨⟨ws.length + 1, by go_num, by omega, ?_, Lib.hid (HB8.out.trans hs1.2)⟩, by simp [intOf]; omega⟩
            show Hid (NumsAt _ _ _ (widths (rs.take k ++ [r.take (ws.length + 1)])))
            rw [HWS'.out]
            exact Lib.hid hs1.1
          · obtain ⟨n, hn, hset⟩ := hWO hlj
            clear hWN hWO
            obtain ⟨g, hg', hgB, -, c0, f0⟩ := HN3.out.at hn
            cases hg'
            have hjw := (List.getElem?_eq_some_iff.1 hn).1
            have HSET := Lib.hid hset
            clear hn hset
            go_wp2
            have hs1 := HN3.out.stored j (max n s.size) hgB
            rw [HSET.out] at hs1
            have e3 : ws'.length = ws.length := by rw [← HSET.out, List.length_set]
            have e4 : max (n : Int) (s.size : Int) = ((max n s.size : Nat) : Int) := by omega
            rw [e4]
            refine ⟨⟨j + 1, by go_num, by omega, ?_, Lib.hid (hW2.out.trans hs1.2)⟩, by simp [intOf]; omega⟩
            show Hid (NumsAt _ _ _ (widths (rs.take k ++ [r.take (j + 1)])))
            rw [HWS'.out]
            exact Lib.hid hs1.1
        · have hN4 : NumsAt w.heap.size wr _ (widths (rs.take k ++ [r.take j])) := hN2.out
          rw [show r.take j = r from List.take_of_length_le (by omega)] at hN4
          have hN5 := Lib.hid (show NumsAt w.heap.size wr _ (widths (rs.take (k + 1))) by rw [List.take_add_one, HR.out]; exact hN4)
          clear hN4 hN2 hN0
          go_wp2
          exact ⟨⟨k + 1, by go_num, by omega, hN5, hW2⟩, by simp [intOf]; omega⟩
    · have hN4 : NumsAt w.heap.size wr _ (widths (rs.take k)) := hN.out
      rw [List.take_of_length_le (by omega)] at hN4
      have HN4 := Lib.hid hN4
      clear hN4 hN
      go_wp2
      go_ret
      exact ⟨_, rfl, HN4.out, hW.out⟩
end Go.Proofs.YtboiaoaephimhaaDoor.T
