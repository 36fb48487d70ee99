/- The law VfsArmed, walked. -/
import Derived.Test.YtalonkenchcfbaaDoorDo
import Derived.Test.YtalonkenchcfbaaDoorArmLaw
import Derived.Test.YtalonkenchcfbaaDoorLong
namespace Go.Proofs.YtalonkenchcfbaaDoor
open Go.RowKit Go.Maps

section
variable {B b : Nat} {w : World} {D : Dk} (h : DiskSt B w b D)
include h
theorem down_st : Calls Tryd.prog 18 #[.pointer (some ⟨b, 0, none⟩)] w fun e w' => e = .returned (.bool D.gone) ∧ w = w' := by
  obtain ⟨ρ, ⟨L, hd⟩, -, -⟩ := h
  exact down_any w ρ b D L hd
theorem units_st : Calls Tryd.prog 19 #[.pointer (some ⟨b, 0, none⟩)] w fun e w' => e = .returned (.int .i64 D.units) ∧ w = w' := by
  obtain ⟨ρ, ⟨L, hd⟩, -, -⟩ := h
  exact unitsD_any w ρ b D L hd
theorem arm_st (n : Int) (h0 : 0 ≤ n) : Calls Tryd.prog 17 #[.pointer (some ⟨b, 0, none⟩), .int .i64 n] w fun e w' => e = .returned .nilIface ∧ DiskSt B w' b (D.arm n) ∧ Below B w w' := by
  obtain ⟨ρ, ⟨L, hd⟩, hρ, hB⟩ := h
  refine (arm_ok n h0 w ρ b D L hd).mono fun e w' ⟨he, hd', hk⟩ => ⟨he, Turned.st ⟨ρ, ⟨L, hd'⟩, Ext.refl _ _, hk.wide⟩ hρ hB⟩
theorem crash0_st (ok : D.Ok) : Calls Tryd.prog 13 #[.pointer (some ⟨b, 0, none⟩), .int .i64 0, .slice none 0 0] w fun e w' => e = .returned (.tuple #[]) ∧ DiskSt B w' b (D.crash 0 []) ∧ Below B w w' := by
  obtain ⟨ρ, ⟨L, hd⟩, hρ, hB⟩ := h
  refine (crash_any 0 (.slice none 0 0) [] w ρ b D L hd ok ⟨none, 0, rfl, by decide, fun k d hk => by simp at hk⟩ (by decide) (by decide)).mono fun e w' ⟨he, ht⟩ => ⟨he, ht.st hρ hB⟩
theorem syncDir_st (ok : D.Ok) : Calls Tryd.prog 10 #[.pointer (some ⟨b, 0, none⟩)] w fun e w' => e = .returned (errV D.syncDir.1) ∧ DiskSt B w' b D.syncDir.2 ∧ Below B w w' := by
  obtain ⟨ρ, ⟨L, hd⟩, hρ, hB⟩ := h
  refine (syncDir_any w ρ b D L hd ok).mono fun e w' ⟨he, ht⟩ => ⟨he, ht.st hρ hB⟩
/-- do, of a disk of the call's own. -/
def DoSt (B b : Nat) (D' : Dk) (w : World) (e : Ending) (w' : World) : Prop := ∃ (v : Value) (c : Bool), e = .returned (.tuple #[v, .bool c]) ∧ DiskSt B w' b D' ∧ Below B w w'
theorem do_st (kd n : Int) (nm tx : ByteArray) (ko : Option Addr) (kn kc : Nat) (hnm : nm.size ≤ 1000) (htx : tx.size ≤ 1000) (h8 : kd ≠ 8) (h9 : kd ≠ 9) (ok : D.Ok) (hr0 : 0 ≤ D.room) (hr1 : D.room ≤ 9223372036854775807) :
    Calls Tryd.prog 20 #[.pointer (some ⟨b, 0, none⟩), zDisk, .agg #[.int .i64 kd, .int .i64 n, .string nm, .string tx, .slice ko kn kc]] w (DoSt B b (D.act kd n nm tx) w) := by
  obtain ⟨ρ, hd, hρ, hB⟩ := h
  refine (do_any kd n nm tx ko kn kc hnm htx h8 h9 w ρ b D hd ok hr0 hr1).mono fun e w' ⟨⟨v, c, he⟩, ht⟩ => ?_
  obtain ⟨h1, h2⟩ := ht.st hρ hB
  exact ⟨v, c, he, h1, h2⟩
end
/-- How it stands behind k operations. -/
def ArmRel (B b : Nat) (n : Int) (l : List OpC) (w0 : World) (i : Value) (w : World) : Prop :=
  ∃ (k : Nat) (D : Dk), i = .int .i64 k ∧ k ≤ l.length ∧ Hid (Keeps k D) ∧ Hid (Power n k D) ∧ Hid (DiskSt B w b D) ∧ Hid (Below w0.heap.size w0 w)
set_option maxHeartbeats 3200000 in
set_option maxRecDepth 20000 in
theorem armed_walk (n : Int) (hn0 : -9223372036854775808 ≤ n) (hn1 : n ≤ 9223372036854775807) (v : Value) (l : List OpC) (w : World) (h : ScriptAt w.heap.size w v l) :
    Calls Tryd.prog 5 #[.int .i64 n, v] w fun e w' => e = .returned (.bool true) ∧ Below w.heap.size w w' := by
  have H := Lib.hid h
  obtain ⟨ao, cap, rfl, -, hcells⟩ := h
  have HC := Lib.hid hcells
  clear hcells
  go_enter Tryd.func5, Tryd.ntmps5
  go_wp2_with fail
  refine (alive_any w).mono ?_
  rintro e w1 ⟨rfl, b1⟩
  go_wp2_with fail
  refine (long_any _ l w1 ((H.out.below b1).up b1.size)).mono ?_
  rintro e w2 ⟨r, rfl, b2, hshort⟩
  have b12 := Lib.hid (below_cat b1 b2)
  clear b1 b2
  cases r
  case true =>
    go_wp2
    go_ret
    exact ⟨rfl, b12.out⟩
  obtain ⟨hl, hos⟩ := hshort rfl
  have hos := Lib.hid hos
  clear hshort
  by_cases hneg : n < 0
  · go_wp2
    go_ret
    exact ⟨rfl, b12.out⟩
  go_wp2_with fail
  refine (new_st 1073741824 (by decide) w2).mono ?_
  rintro e w3 ⟨b, rfl, D1, b3⟩
  have D1 := Lib.hid D1
  have b3 := Lib.hid b3
  go_wp2_with fail
  refine (arm_st D1.out n (by omega)).mono ?_
  rintro e w4 ⟨rfl, D2, b4⟩
  clear D1
  have D2 := Lib.hid D2
  have b4 := Lib.hid (below_cat b12.out (b3.out.trans b4))
  have hz := b12.out.size
  clear b3
  have K0 : Hid (Keeps 0 ((Dk.fresh 1073741824).arm n)) := Lib.hid (by have := fresh_keeps n.toNat; rwa [Int.toNat_of_nonneg (by omega)] at this)
  have P0 : Hid (Power n 0 ((Dk.fresh 1073741824).arm n)) := Lib.hid ⟨rfl, by show (0 : Int) ≤ 0; decide, by show (0 : Int) ≤ 0; decide, by show 0 + n = n; omega, by show 0 ≤ n; omega, by intro hg; cases hg⟩
  go_wp2
  go_loopw [33] (ArmRel w2.heap.size b n l w) (fun i _ => l.length - (intOf i).toNat)
  case atStart => exact ⟨0, _, rfl, Nat.zero_le _, K0, P0, D2, b4⟩
  case round =>
    clear K0 P0 D2 b4
    obtain ⟨k, D, rfl, hk, hK, hP, hD, hw⟩ := hrel
    by_cases hlt : k < l.length
    · obtain ⟨⟨okind, onum, oname, otext, okA, okL, okC⟩, ho⟩ : ∃ o, l[k]? = some o := ⟨_, List.getElem?_eq_getElem hlt⟩
      obtain ⟨a, rfl, ha, ⟨k0, k1, k2, k3, k4, k5, k6⟩, hc⟩ := HC.out k _ ho
      obtain ⟨c0, c1, c2, c3, c4⟩ := hc.below hw.out (by rw [add_block]; exact ha)
      obtain ⟨t1, t2, t3⟩ := hos.out _ (List.mem_of_getElem? ho)
      simp only at k0 k1 k2 k3 k4 k5 k6 c0 c1 c2 c3 c4 t1 t2 t3
      have ho := Lib.hid ho
      clear hc
      obtain ⟨wa, hwa⟩ : ∃ wa, wr.alloc (Obj.cells #[Value.int IntKind.i64 okind, Value.int IntKind.i64 onum, Value.string oname, Value.string otext, Value.slice okA okL okC] 34) = wa := ⟨_, rfl⟩
      have bra : Hid (Below wr.heap.size wr wa) := by rw [← hwa]; exact (Below.refl _ _).alloc (Nat.le_refl _) _
      have bw : Hid (Below w.heap.size w wa) := below_cat hw.out bra.out
      have gx : wa.heap[wr.heap.size]? = some (Obj.cells #[Value.int IntKind.i64 okind, Value.int IntKind.i64 onum, Value.string oname, Value.string otext, Value.slice okA okL okC] 34) := by rw [← hwa]; show (wr.heap.push _)[wr.heap.size]? = _; exact Array.getElem?_push_size
      have ga0 : wa.cell? ⟨wr.heap.size, 0, none⟩ = some (.int .i64 okind) := by simp [World.cell?, gx]
      have ga1 : wa.cell? ⟨wr.heap.size, 1, none⟩ = some (.int .i64 onum) := by simp [World.cell?, gx]
      have ga2 : wa.cell? ⟨wr.heap.size, 2, none⟩ = some (.string oname) := by simp [World.cell?, gx]
      have ga3 : wa.cell? ⟨wr.heap.size, 3, none⟩ = some (.string otext) := by simp [World.cell?, gx]
      have ga4 : wa.cell? ⟨wr.heap.size, 4, none⟩ = some (.slice okA okL okC) := by simp [World.cell?, gx]
      have hDa := Lib.hid (hD.out.below bra.out)
      clear gx bra hD
      by_cases hsk : okind = 8 ∨ okind = 9
      · have hKK := Lib.hid (hK.out.up (Nat.le_succ k))
        have hPP := Lib.hid (hP.out.up (Nat.le_succ k))
        rcases hsk with h8 | h9
        · subst h8
          go_wp2
          exact ⟨⟨k + 1, D, by go_num, by omega, hKK, hPP, hDa, bw⟩, by simp [intOf]; omega⟩
        · subst h9
          go_wp2
          exact ⟨⟨k + 1, D, by go_num, by omega, hKK, hPP, hDa, bw⟩, by simp [intOf]; omega⟩
      have h8 : okind ≠ 8 := fun e => hsk (.inl e)
      have h9 : okind ≠ 9 := fun e => hsk (.inr e)
      have q8 : (okind == 8) = false := by simpa using h8
      have q9 : (okind == 9) = false := by simpa using h9
      clear hsk
      have S := Lib.hid (act_step hK.out hP.out (by omega) okind onum (nm := oname) (tx := otext) t2 t1)
      have OK := Lib.hid (hK.out.ok hP.out (by omega) hn1)
      have hroom := hK.out.room
      go_wp2_with fail
      refine (down_st hDa.out).mono ?_
      rintro e w5 ⟨rfl, rfl⟩
      go_wp2_with fail
      refine (units_st hDa.out).mono ?_
      rintro e w5 ⟨rfl, rfl⟩
      go_wp2_with fail
      refine (do_st hDa.out okind onum oname otext okA okL okC (by omega) (by omega) h8 h9 OK.out (by omega) (by omega)).mono ?_
      rintro e w6 ⟨dv, dc, rfl, D6, b6⟩
      have D6 := Lib.hid D6
      have bw6 := Lib.hid (bw.out.trans (b6.mono hz))
      clear b6 bw hDa
      obtain ⟨D', hD'⟩ : ∃ D', D.act okind onum oname otext = D' := ⟨_, rfl⟩
      rw [hD'] at D6 S
      have uu : D'.units ≤ n := by have := S.out.power.sum; have := S.out.power.left0; omega
      have KK := Lib.hid S.out.keeps
      have PP := Lib.hid S.out.power
      have ST := Lib.hid S.out.still
      have UN := Lib.hid (units_st D6.out)
      have DN := Lib.hid (down_st D6.out)
      clear hD' S
      cases hg : D.gone with
      | false =>
        cases hg' : D'.gone with
        | false =>
          rw [hg'] at DN
          go_wp2_with fail
          refine UN.out.mono ?_
          rintro e wx ⟨rfl, rfl⟩
          go_wp2_with fail
          refine DN.out.mono ?_
          rintro e wx ⟨rfl, rfl⟩
          go_wp2
          exact ⟨⟨k + 1, D', by go_num, by omega, KK, PP, D6, bw6⟩, by simp [intOf]; omega⟩
        | true =>
          have e1 : D'.units = n := by have h1 := PP.out.gone hg'; have h2 := PP.out.sum; omega
          rw [hg'] at DN
          go_wp2_with fail
          refine UN.out.mono ?_
          rintro e wx ⟨rfl, rfl⟩
          go_wp2_with fail
          refine DN.out.mono ?_
          rintro e wx ⟨rfl, rfl⟩
          go_wp2_with fail
          refine UN.out.mono ?_
          rintro e wx ⟨rfl, rfl⟩
          go_wp2
          exact ⟨⟨k + 1, D', by go_num, by omega, KK, PP, D6, bw6⟩, by simp [intOf]; omega⟩
      | true =>
        have e0 : D'.units = D.units := ST.out hg
        cases hg' : D'.gone with
        | false =>
          rw [hg'] at DN
          go_wp2_with fail
          refine UN.out.mono ?_
          rintro e wx ⟨rfl, rfl⟩
          go_wp2_with fail
          refine UN.out.mono ?_
          rintro e wx ⟨rfl, rfl⟩
          go_wp2_with fail
          refine DN.out.mono ?_
          rintro e wx ⟨rfl, rfl⟩
          go_wp2
          exact ⟨⟨k + 1, D', by go_num, by omega, KK, PP, D6, bw6⟩, by simp [intOf]; omega⟩
        | true =>
          have e1 : D.units = n := by have h1 := PP.out.gone hg'; have h2 := PP.out.sum; omega
          rw [hg'] at DN
          go_wp2_with fail
          refine UN.out.mono ?_
          rintro e wx ⟨rfl, rfl⟩
          go_wp2_with fail
          refine UN.out.mono ?_
          rintro e wx ⟨rfl, rfl⟩
          go_wp2_with fail
          refine DN.out.mono ?_
          rintro e wx ⟨rfl, rfl⟩
          go_wp2_with fail
          refine UN.out.mono ?_
          rintro e wx ⟨rfl, rfl⟩
          go_wp2
          exact ⟨⟨k + 1, D', by go_num, by omega, KK, PP, D6, bw6⟩, by simp [intOf]; omega⟩
    · have OK := Lib.hid (hK.out.ok hP.out (by omega) hn1)
      have C := Lib.hid (crash_dir hK.out hP.out (by omega) hn1)
      go_wp2_with fail
      refine (crash0_st hD.out OK.out).mono ?_
      rintro e w7 ⟨rfl, D7, b7⟩
      have D7 := Lib.hid D7
      have bw7 := Lib.hid (hw.out.trans (b7.mono hz))
      clear b7 hw hD
      go_wp2_with fail
      refine (down_st D7.out).mono ?_
      rintro e w8 ⟨rfl, rfl⟩
      rw [C.out.2.1]
      go_wp2_with fail
      refine (syncDir_st D7.out C.out.1).mono ?_
      rintro e w8 ⟨rfl, D8, b8⟩
      rw [C.out.2.2, show errV 0 = .nilIface from rfl]
      have bw8 := Lib.hid (bw7.out.trans (b8.mono hz))
      clear b8
      go_wp2
      go_ret
      exact ⟨rfl, bw8.out⟩
end Go.Proofs.YtalonkenchcfbaaDoor
