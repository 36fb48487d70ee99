/- The law VfsSynced, walked. -/
import Derived.Test.YtalonkenchcfbaaDoorLong
namespace Go.Proofs.YtalonkenchcfbaaDoor
open Go.RowKit Go.Maps

theorem app_arr (all : List UInt8) (t : ByteArray) : (⟨all.toArray⟩ : ByteArray) ++ t = ⟨(all ++ t.data.toList).toArray⟩ := by
  apply ByteArray.ext
  simp
/-- Where the crash cuts. -/
theorem min_cut (keep : Int) (h0 : -9223372036854775808 ≤ keep) (h1 : keep ≤ 9223372036854775807) (s a : Nat) (hs : s ≤ a) :
    ∃ n : Nat, (s : Int) + max 0 (min keep ((a : Int) - s)) = n ∧ n ≤ a ∧ ∀ (sure all : List UInt8), sure.length = s → all.length = a → crashText sure all keep = all.take n := by
  refine ⟨s + (min keep ((a : Int) - s)).toNat, by omega, by omega, fun sure all h2 h3 => ?_⟩
  unfold crashText
  rcases Int.le_total keep ((a : Int) - s) with h | h
  · rw [Int.min_eq_left h, h2]
    congr 2
    omega
  · rw [Int.min_eq_right h, List.take_of_length_le (by omega), List.take_of_length_le (by omega)]
/-- How it stands behind k operations. -/
def SynRel (B b : Nat) (s : ByteArray) (l : List OpC) (w0 : World) (a n i : Value) (w : World) : Prop :=
  ∃ (k : Nat) (sure all : List UInt8) (u : Int) (na nw : Nat), i = .int .i64 k ∧ a = .string ⟨all.toArray⟩ ∧ n = .int .i64 sure.length ∧ k ≤ l.length ∧ all.length ≤ k * 200 ∧ sure.length ≤ all.length ∧
    u ≤ 2 + k * 201 ∧ na ≤ 2 + k ∧ nw ≤ k ∧ Hid (SoloSt B w b s 1099511627776 sure all u na nw) ∧ Hid (Below w0.heap.size w0 w)
set_option maxHeartbeats 3200000 in
set_option maxRecDepth 20000 in
theorem synced_walk (v : Value) (l : List OpC) (keep : Int) (hk0 : -9223372036854775808 ≤ keep) (hk1 : keep ≤ 9223372036854775807) (w : World) (h : ScriptAt w.heap.size w v l) :
    Calls Tryd.prog 3 #[v, .int .i64 keep] w fun e w' => e = .returned (.bool true) ∧ Below w.heap.size w w' := by
  have H := Lib.hid h
  obtain ⟨ao, cap, rfl, -, hcells⟩ := h
  have HC := Lib.hid hcells
  clear hcells
  go_enter Tryd.func3, Tryd.ntmps3
  go_wp2_with fail
  refine (alive_any w).mono ?_
  rintro e w1 ⟨rfl, b1⟩
  go_wp2_with fail
  refine (long_any _ l w1 ((H.out.below b1).up b1.size)).mono ?_
  rintro e w2 ⟨r, rfl, b2, hshort⟩
  have b12 := Lib.hid (below_cat b1 b2)
  clear b1 b2
  cases r
  case true =>
    go_wp2
    go_ret
    exact ⟨rfl, b12.out⟩
  obtain ⟨hl, hos⟩ := hshort rfl
  have hos := Lib.hid hos
  clear hshort
  go_wp2_with fail
  refine (new_st 1099511627776 (by decide) w2).mono ?_
  rintro e w3 ⟨b, rfl, D1, b3⟩
  have D1 := Lib.hid D1
  have b3 := Lib.hid b3
  go_wp2_with fail
  refine (create_st ⟨#[102]⟩ (by decide) (by decide) _ D1.out).mono ?_
  rintro e w4 ⟨rfl, D2, b4⟩
  clear D1
  have D2 := Lib.hid D2
  have b4 := Lib.hid (b3.out.trans b4)
  clear b3
  rw [show errV 0 = .nilIface from rfl]
  go_wp2_with fail
  refine (syncDir_solo ⟨#[102]⟩ (by decide) (by decide) _ (by decide) (by decide) D2.out).mono ?_
  rintro e w5 ⟨rfl, D3, b5⟩
  clear D2
  have D3 := Lib.hid D3
  have b5 := Lib.hid (below_cat b12.out (b4.out.trans b5))
  have hz := b12.out.size
  clear b4
  go_wp2
  go_loopw [7, 8, 35] (SynRel w2.heap.size b ⟨#[102]⟩ l w) (fun _ _ i _ => l.length - (intOf i).toNat)
  case atStart => exact ⟨0, [], [], 2, 2, 0, rfl, rfl, rfl, Nat.zero_le _, by simp, by simp, by decide, by decide, by decide, D3, b5⟩
  case round =>
    clear D3 b5
    obtain ⟨k, sure, all, u, na, nw, rfl, rfl, rfl, hk, hall, hsure, hu, hna, hnw, hD, hw⟩ := hrel
    by_cases hlt : k < l.length
    · obtain ⟨⟨okind, onum, oname, otext, okA, okL, okC⟩, ho⟩ : ∃ o, l[k]? = some o := ⟨_, List.getElem?_eq_getElem hlt⟩
      obtain ⟨a, rfl, ha, ⟨k0, k1, k2, k3, k4, k5, k6⟩, hc⟩ := HC.out k _ ho
      obtain ⟨c0, c1, c2, c3, c4⟩ := hc.below hw.out (by rw [add_block]; exact ha)
      obtain ⟨t1, t2, t3⟩ := hos.out _ (List.mem_of_getElem? ho)
      simp only at k0 k1 k2 k3 k4 k5 k6 c0 c1 c2 c3 c4 t1 t2 t3
      have ho := Lib.hid ho
      clear hc
      obtain ⟨wa, hwa⟩ : ∃ wa, wr.alloc (Obj.cells #[Value.int IntKind.i64 okind, Value.int IntKind.i64 onum, Value.string oname, Value.string otext, Value.slice okA okL okC] 34) = wa := ⟨_, rfl⟩
      have bra : Hid (Below wr.heap.size wr wa) := by rw [← hwa]; exact (Below.refl _ _).alloc (Nat.le_refl _) _
      have bw : Hid (Below w.heap.size w wa) := below_cat hw.out bra.out
      have gx : wa.heap[wr.heap.size]? = some (Obj.cells #[Value.int IntKind.i64 okind, Value.int IntKind.i64 onum, Value.string oname, Value.string otext, Value.slice okA okL okC] 34) := by rw [← hwa]; show (wr.heap.push _)[wr.heap.size]? = _; exact Array.getElem?_push_size
      have zx : wr.heap.size < wa.heap.size := by rw [← hwa]; simp
      have zr := hw.out.size
      have ga0 : wa.cell? ⟨wr.heap.size, 0, none⟩ = some (.int .i64 okind) := by simp [World.cell?, gx]
      have ga3 : wa.cell? ⟨wr.heap.size, 3, none⟩ = some (.string otext) := by simp [World.cell?, gx]
      by_cases hk2 : okind = 2
      · subst hk2
        go_wp2_with fail
        refine (write_solo_over hD.out bra.out otext (by omega) (by omega) (by omega) (by omega) (by omega)).mono ?_
        rintro e w7 ⟨⟨rfl, D7, b7⟩, hlate⟩
        have gx7 : w7.cell? ⟨wr.heap.size, 3, none⟩ = some (.string otext) := by
          have := hlate wr.heap.size (Nat.le_refl _) zx
          simp [World.cell?, this, gx]
        have D7 := Lib.hid D7
        have bw7 := Lib.hid (bw.out.trans (b7.mono hz))
        have hs1 : ¬ 9223372036854775807 < all.length + otext.size := by omega
        clear b7 hlate gx bra bw
        go_wp2
        refine ⟨⟨k + 1, sure, all ++ otext.data.toList, _, _, _, by go_num, ?_, rfl, by omega, ?_, ?_, ?_, ?_, ?_, D7, bw7⟩, by simp [intOf]; omega⟩
        · exact congrArg Value.string (app_arr all otext)
        · rw [List.length_append, ← Lib.size_eq]; omega
        · rw [List.length_append]; omega
        · omega
        · split <;> omega
        · omega
      · by_cases hk4 : okind = 4
        · subst hk4
          have hDa := Lib.hid (hD.out.below bra.out)
          go_wp2_with fail
          refine (sync_solo hDa.out (by omega) (by omega)).mono ?_
          rintro e w7 ⟨rfl, D7, b7⟩
          have D7 := Lib.hid D7
          have bw7 := Lib.hid (bw.out.trans (b7.mono hz))
          clear b7 gx bra bw
          go_wp2
          refine ⟨⟨k + 1, all, all, _, _, _, by go_num, rfl, ?_, by omega, by omega, Nat.le_refl _, by omega, by omega, by omega, D7, bw7⟩, by simp [intOf]; omega⟩
          simp
        · have hDa := Lib.hid (hD.out.below bra.out)
          go_wp2
          exact ⟨⟨k + 1, sure, all, _, _, _, by go_num, rfl, rfl, by omega, by omega, hsure, by omega, by omega, by omega, hDa, bw⟩, by simp [intOf]; omega⟩
    · have hcut := min_cut keep hk0 hk1 sure.length all.length hsure
      obtain ⟨n, hn, hn1, hn2⟩ := hcut
      go_wp2_with fail
      refine (crash_solo hD.out keep hk1).mono ?_
      rintro e w7 ⟨rfl, D7, b7⟩
      have e7 : crashText sure all keep = all.take n := hn2 sure all rfl rfl
      rw [e7] at D7
      have D7 := Lib.hid D7
      have bw7 := Lib.hid (hw.out.trans (b7.mono hz))
      clear b7 hw hD
      go_wp2_with fail
      refine (read_solo D7.out).mono ?_
      rintro e w8 ⟨rfl, b8⟩
      have D8 := Lib.hid (D7.out.below b8)
      have bw8 := Lib.hid (below_cat bw7.out b8)
      clear D7 bw7 b8
      have hq : ((⟨all.toArray⟩ : ByteArray).extract 0 n).toList = all.take n := by rw [Lib.toList_data, Lib.extract_data]; simp
      have hfree := free_solo D8.out
      rw [show max 0 ((1099511627776 : Int) - ((all.take n).length : Nat)) = 1099511627776 - n by rw [List.length_take, Nat.min_eq_left hn1]; omega] at hfree
      go_wp2_with fail
      · refine hfree.mono ?_
        rintro e w9 ⟨rfl, b9⟩
        go_wp2
        go_ret
        exact ⟨rfl, below_cat bw8.out b9⟩
end Go.Proofs.YtalonkenchcfbaaDoor
