/- What is seen of a file, by the reference: behind, Seen. How many bytes are free, by the reference: Free. The reference's good names. The reference's question for a name's file: asked. -/
import Derived.Test.YthfcmgbkhjnfjaaGreatDoorVF
import Derived.Laws.IdiomStrings
import Derived.Deep.RegionHeld3
import Derived.Test.YthfcmgbkhjnfjaaGreatDoorVC
namespace Go.Proofs.YthfcmgbkhjnfjaaGreatDoor
open Go.RowKit Go.Maps

theorem bits_cells {w : World} {v : Value} {l : List Bit} (h : BitsAt w v l) : ∃ ao cp, v = .slice ao l.length cp ∧ ∀ k e, l[k]? = some e → ∃ g, ao = some ⟨g, 0, none⟩ ∧ g < w.heap.size ∧ ∀ wr : World, wr.heap[g]? = w.heap[g]? → wr.cell? ⟨g, k * 3, none⟩ = some (.int .u8 e.byte.toNat) ∧ wr.cell? ⟨g, k * 3 + 1, none⟩ = some (.int .i64 e.place) ∧ wr.cell? ⟨g, k * 3 + 2, none⟩ = some (.bool e.cut) := by
  obtain ⟨ao, cp, hv, hc⟩ := rec_cells (c := Bit.cells) (n := 3) (fun _ => rfl) h
  exact ⟨ao, cp, hv, fun k e he => let ⟨g, h1, h2, h3⟩ := hc k e he; ⟨g, h1, h2, fun wr hw => ⟨h3 wr hw 0 (by omega), h3 wr hw 1 (by omega), h3 wr hw 2 (by omega)⟩⟩⟩
theorem heap2 (w : World) (o1 o2 : Obj) : ((w.alloc o1).alloc o2).heap[w.heap.size + 1]? = some o2 := by
  have := heap_alloc_new (w.alloc o1) o2
  simpa using this
theorem below_two {B : Nat} {w wr : World} (h : Below B w wr) (hB : B ≤ wr.heap.size) (o1 o2 : Obj) : Below B w ((wr.alloc o1).alloc o2) := (h.alloc hB o1).alloc (by simp; omega) o2
/-- Where the loop stands. -/
def RB (w : World) (N : Nat) (s : ByteArray) (v : Value) (l : List Bit) (n : Int) (sv i : Value) (wr : World) : Prop :=
  ∃ k : Nat, i = .int .i64 k ∧ k ≤ l.length ∧ (k : Int) ≤ max 0 n ∧ sv = .string (bitsOn s (l.take k)) ∧ Hid (Below N w wr) ∧ Hid (wr.heap[N]? = some (.cells #[.string s, v] 86 (0, 0)))
set_option maxRecDepth 20000 in
set_option maxHeartbeats 1600000 in
theorem behind_ref (s : ByteArray) (v : Value) (l : List Bit) (n : Int) (w : World) (h : BitsAt w v l) (hl : l.length ≤ 20000000) (hs : s.size ≤ 20000000) (hp : ∀ b ∈ l, b.cut = true → 0 ≤ b.place) :
    Calls Tryz.prog 66 #[.agg #[.string s, v], .int .i64 n] w fun e w' => e = .returned (.string (bitsOn s (l.take n.toNat))) ∧ Below w.heap.size w w' := by
  obtain ⟨ao, cp, rfl, hc⟩ := bits_cells h
  have HC := Lib.hid hc
  have HP := Lib.hid hp
  obtain ⟨W0, hW0⟩ : ∃ W0, w.alloc (.cells #[.string s, .slice ao l.length cp] 86) = W0 := ⟨_, rfl⟩
  obtain ⟨N, hN⟩ : ∃ N, w.heap.size = N := ⟨_, rfl⟩
  have hb0 : Below N w W0 := by rw [← hW0, ← hN]; exact (Below.refl _ _).alloc (Nat.le_refl _) _
  have HB0 := Lib.hid hb0
  have g0 : W0.heap[N]? = some (.cells #[.string s, .slice ao l.length cp] 86 (0, 0)) := by rw [← hW0, ← hN]; exact heap_alloc_new w _
  have HG0 := Lib.hid g0
  have HN := Lib.hid hN
  have q0 : W0.cell? ⟨N, 0, none⟩ = some (.string s) := by simp [World.cell?, g0]
  have q1 : W0.cell? ⟨N, 1, none⟩ = some (.slice ao l.length cp) := by simp [World.cell?, g0]
  clear hc h hp g0 hb0
  go_enter Tryz.func66, Tryz.ntmps66
  go_wp2_with fail
  go_loopw [5, 6] (fun v i W => RB w N s (.slice ao l.length cp) l n v i W) (fun _ i _ => l.length - (intOf i).toNat)
  case atStart => exact ⟨0, rfl, Nat.zero_le _, by omega, rfl, HB0, HG0⟩
  case round =>
    obtain ⟨k, rfl, hk, hkn, rfl, hB, hG⟩ := hrel
    clear q0 q1 HB0 HG0
    have hg := hG.out
    have q0 : wr.cell? ⟨N, 0, none⟩ = some (.string s) := by simp [World.cell?, hg]
    have q1 : wr.cell? ⟨N, 1, none⟩ = some (.slice ao l.length cp) := by simp [World.cell?, hg]
    have hsz : N < wr.heap.size := (Array.getElem?_eq_some_iff.1 hg).1
    clear hg
    by_cases hlt : k < l.length
    · have hkz : (k : Int) < (l.length : Int) := by omega
      by_cases hn : (k : Int) < n
      · obtain ⟨⟨by_, pl, cu⟩, hm⟩ : ∃ m, l[k]? = some m := ⟨_, List.getElem?_eq_getElem hlt⟩
        obtain ⟨g, rfl, hgl, hcc⟩ := HC.out k _ hm
        obtain ⟨c0, c1, c2⟩ := hcc wr (hB.out.block g (by rw [← HN.out]; exact hgl))
        simp only at c0 c1 c2
        have HS : Hid (Bit.onto ⟨by_, pl, cu⟩ (bitsOn s (l.take k)) = bitsOn s (l.take (k + 1))) := Lib.hid (bitsOn_take hm).symm
        have hle := bitsOn_le (l.take k) s
        rw [List.length_take] at hle
        have hpl := HP.out _ (List.mem_of_getElem? hm)
        simp only at hpl
        obtain ⟨S, hS⟩ : ∃ S, bitsOn s (l.take k) = S := ⟨_, rfl⟩
        rw [hS] at HS hle
        rw [hS]
        clear hcc hm hS
        cases cu with
        | false =>
          have CV : Sem.run Tryz.prog (convert 144 9 (.slice (some ⟨wr.heap.size + 1, 0, none⟩) 1 1)) ((wr.alloc (.cells #[.int .u8 by_.toNat, .int .i64 pl, .bool false] 131)).alloc (.cells #[.int .u8 by_.toNat] 5)) = .ok (.string ⟨#[by_]⟩) ((wr.alloc (.cells #[.int .u8 by_.toNat, .int .i64 pl, .bool false] 131)).alloc (.cells #[.int .u8 by_.toNat] 5)) :=
            run_convert_bytes_back _ _ _ _ _ 1 [by_] Tryz.underlying144 Tryz.underlying5 Tryz.underlying9 (fun j hj => by
              obtain rfl : j = 0 := by simpa using hj
              have := heap2 wr (.cells #[.int .u8 by_.toNat, .int .i64 pl, .bool false] 131) (.cells #[.int .u8 by_.toNat] 5)
              rw [show (⟨wr.heap.size + 1, 0, none⟩ : Addr).add 0 = ⟨wr.heap.size + 1, 0, none⟩ from by simp [Addr.add], cell_of_row _ _ 0 _ _ _ this]
              rfl)
          have HS2 : Hid (S ++ ⟨#[by_]⟩ = bitsOn s (l.take (k + 1))) := Lib.hid (by rw [← HS.out]; rfl)
          have HB2 := Lib.hid (below_two hB.out (Nat.le_of_lt hsz) (.cells #[.int .u8 by_.toNat, .int .i64 pl, .bool false] 131) (.cells #[.int .u8 by_.toNat] 5))
          have HG2 : Hid (((wr.alloc (.cells #[.int .u8 by_.toNat, .int .i64 pl, .bool false] 131)).alloc (.cells #[.int .u8 by_.toNat] 5)).heap[N]? = some (.cells #[.string s, .slice (some ⟨g, 0, none⟩) l.length cp] 86 (0, 0))) := Lib.hid ((below_two (Below.refl (N + 1) wr) (by omega) _ _).block N (by omega) |>.trans hG.out)
          go_wp2_with fail
          rw [HS2.out]
          exact ⟨⟨k + 1, by go_num, by omega, by omega, rfl, HB2, HG2⟩, by simp [intOf]; omega⟩
        | true =>
          have h0 := hpl rfl
          have HB2 := Lib.hid (hB.out.alloc (Nat.le_of_lt hsz) (.cells #[.int .u8 by_.toNat, .int .i64 pl, .bool true] 131))
          have HG2 : Hid ((wr.alloc (.cells #[.int .u8 by_.toNat, .int .i64 pl, .bool true] 131)).heap[N]? = some (.cells #[.string s, .slice (some ⟨g, 0, none⟩) l.length cp] 86 (0, 0))) := Lib.hid (((Below.refl (N + 1) wr).alloc (by omega) _).block N (by omega) |>.trans hG.out)
          by_cases hlt2 : pl < (S.size : Int)
          · have HS2 : Hid (S.extract 0 pl.toNat = bitsOn s (l.take (k + 1))) := Lib.hid (by rw [← HS.out]; unfold Bit.onto; rw [if_pos rfl, if_pos hlt2])
            go_wp2_with fail
            rw [HS2.out]
            exact ⟨⟨k + 1, by go_num, by omega, by omega, rfl, HB2, HG2⟩, by simp [intOf]; omega⟩
          · have HS2 : Hid (S = bitsOn s (l.take (k + 1))) := Lib.hid (by rw [← HS.out]; unfold Bit.onto; rw [if_pos rfl, if_neg hlt2])
            go_wp2_with fail
            rw [HS2.out]
            exact ⟨⟨k + 1, by go_num, by omega, by omega, rfl, HB2, HG2⟩, by simp [intOf]; omega⟩
      · have HE : Hid (l.take k = l.take n.toNat) := Lib.hid (by congr 1; omega)
        go_wp2_with fail
        go_ret
        exact ⟨by rw [← HE.out]; rfl, hB.out⟩
    · have HE : Hid (l.take k = l.take n.toNat) := Lib.hid (by rw [List.take_of_length_le (by omega), List.take_of_length_le (by omega)])
      go_wp2_with fail
      go_ret
      exact ⟨by rw [← HE.out]; rfl, by rw [HN.out]; exact hB.out⟩
set_option maxRecDepth 20000 in
theorem seen_ref (s : ByteArray) (v : Value) (l : List Bit) (w : World) (h : BitsAt w v l) (hl : l.length ≤ 20000000) (hs : s.size ≤ 20000000) (hp : ∀ b ∈ l, b.cut = true → 0 ≤ b.place) :
    Calls Tryz.prog 62 #[.agg #[.string s, v]] w fun e w' => e = .returned (.string (bitsOn s l)) ∧ Below w.heap.size w w' := by
  obtain ⟨ao, cp, rfl, -⟩ := bits_cells h
  have BH := Lib.hid (fun W (hb : Below w.heap.size w W) => behind_ref s (.slice ao l.length cp) l (l.length : Int) W (own0_below h hb) hl hs hp)
  rw [show l.take ((l.length : Int)).toNat = l by simp] at BH
  obtain ⟨W0, hW0⟩ : ∃ W0, w.alloc (.cells #[.string s, .slice ao l.length cp] 86) = W0 := ⟨_, rfl⟩
  have hb0 : Below w.heap.size w W0 := by rw [← hW0]; exact (Below.refl _ _).alloc (Nat.le_refl _) _
  have g0 : W0.heap[w.heap.size]? = some (.cells #[.string s, .slice ao l.length cp] 86 (0, 0)) := by rw [← hW0]; exact heap_alloc_new w _
  have q0 : W0.cell? ⟨w.heap.size, 0, none⟩ = some (.string s) := by simp [World.cell?, g0]
  have q1 : W0.cell? ⟨w.heap.size, 1, none⟩ = some (.slice ao l.length cp) := by simp [World.cell?, g0]
  have HB0 := Lib.hid hb0
  clear h g0 hb0
  go_enter Tryz.func62, Tryz.ntmps62
  go_wp2_with fail
  refine (BH.out W0 HB0.out).mono ?_
  rintro e w1 ⟨rfl, hb1⟩
  have HB1 := Lib.hid (HB0.out.trans (hb1.mono HB0.out.size))
  clear hb1
  go_wp2_with fail
  go_ret
  exact ⟨rfl, HB1.out⟩
end Go.Proofs.YthfcmgbkhjnfjaaGreatDoor

namespace Go.Proofs.YthfcmgbkhjnfjaaGreatDoor
open Go.RowKit Go.Maps

def sumL (fs : List Fl) : List Ent → Int
  | [] => 0
  | e :: r => lenOf fs (.lit (.int .i64 e.2)) + sumL fs r
theorem sumL_rest (fs : List Fl) : ∀ l : List Ent, restSum (lenOf fs) (fun _ => true) (l.map encE) = sumL fs l
  | [] => rfl
  | e :: r => by
    unfold sumL
    rw [← sumL_rest fs r]
    rfl
theorem sumL_bound {fs : List Fl} (h : ∀ F ∈ fs, F.Ok) : ∀ l : List Ent, 0 ≤ sumL fs l ∧ sumL fs l ≤ 10000000 * l.length
  | [] => by simp [sumL]
  | e :: r => by
    have h1 := sumL_bound h r
    have h2 := lenOf_bound h (.lit (.int .i64 e.2))
    unfold sumL
    rw [List.length_cons]
    omega
theorem sumL_drop {fs : List Fl} (h : ∀ F ∈ fs, F.Ok) : ∀ (l : List Ent) (k : Nat), sumL fs (l.drop k) ≤ sumL fs l
  | [], k => by rw [List.drop_nil]; exact Int.le_refl _
  | e :: r, 0 => Int.le_refl _
  | e :: r, k + 1 => by
    have h1 := sumL_drop h r k
    have h2 := lenOf_bound h (.lit (.int .i64 e.2))
    show sumL fs (r.drop k) ≤ lenOf fs (.lit (.int .i64 e.2)) + sumL fs r
    omega
theorem files_cells {w : World} {v : Value} {l : List (ByteArray × Value)} (h : FilesAt w v l) : ∃ ao cp, v = .slice ao l.length cp ∧ ∀ k e, l[k]? = some e → ∃ g, ao = some ⟨g, 0, none⟩ ∧ g < w.heap.size ∧ ∀ wr : World, wr.heap[g]? = w.heap[g]? → wr.cell? ⟨g, k * 2, none⟩ = some (.string e.1) ∧ wr.cell? ⟨g, k * 2 + 1, none⟩ = some e.2 := by
  obtain ⟨ao, cp, hv, hc⟩ := rec_cells (c := filC) (n := 2) (fun _ => rfl) h
  exact ⟨ao, cp, hv, fun k e he => let ⟨g, h1, h2, h3⟩ := hc k e he; ⟨g, h1, h2, fun wr hw => ⟨h3 wr hw 0 (by omega), h3 wr hw 1 (by omega)⟩⟩⟩
theorem bits_cut {F : Fl} (h : ∀ x ∈ F.waits, x.cut = true → 0 ≤ x.place) : ∀ b ∈ F.bits, b.cut = true → 0 ≤ b.place := by
  intro b hb hc
  obtain ⟨x, hx, hbx⟩ := List.mem_flatMap.1 hb
  unfold Wt.bits at hbx
  by_cases hxc : x.cut = true
  · rw [if_pos hxc] at hbx
    rw [List.mem_singleton.1 hbx]
    exact h x hx hxc
  · rw [if_neg hxc] at hbx
    obtain ⟨c, -, rfl⟩ := List.mem_map.1 hbx
    cases hc
set_option maxRecDepth 20000 in
/-- What is seen of one of the disk's files. -/
theorem fseen_ref {w : World} {D : Dk} {R : RL} (h : RAt w D R) (ok : D.Ok) {i : Nat} {F : Fl} {p : ByteArray × Value} (hF : D.files[i]? = some F) (hp : R.fs[i]? = some p) (W : World) (hb : Below w.heap.size w W) :
    Calls Tryz.prog 62 #[.agg #[.string p.1, p.2]] W fun e w' => e = .returned (.string F.seen) ∧ Below W.heap.size W w' := by
  have hok := ok.files F (List.mem_of_getElem? hF)
  obtain ⟨h1, h2⟩ := h.fb i F p hF hp
  have hm := hok.mass
  have := seen_ref p.1 p.2 F.bits W (own0_below h2 hb) (Fl.bits_le hok) (by rw [h1]; unfold Fl.mass at hm; omega) (bits_cut hok.cuts)
  have e : bitsOn p.1 F.bits = F.seen := by rw [h1]; exact Fl.seen_bits hok.cuts
  rwa [e] at this
theorem keepc {W W' : World} {p : Addr} {v : Value} (hb : Below W.heap.size W W') (h : W.cell? p = some v) : W'.cell? p = some v := (hb.cell (World.block_lt_of_cell? _ _ h)).trans h
/-- Where the loop stands. -/
def RF (w : World) (N : Nat) (D : Dk) (l : List Ent) (v : Value) (o : Obj) (nv i : Value) (wr : World) : Prop :=
  ∃ k : Nat, i = .int .i64 k ∧ k ≤ l.length ∧ nv = .int .i64 (D.room - sumL D.files l + sumL D.files (l.drop k)) ∧ Hid (EntsAt wr v l) ∧ Hid (Below N w wr) ∧ Hid (wr.heap[N]? = some o)
set_option maxRecDepth 20000 in
set_option maxHeartbeats 3200000 in
theorem free_ref (D : Dk) (R : RL) (w : World) (h : RAt w D R) (ok : D.Ok) (hr0 : 0 ≤ D.room) (hr1 : D.room ≤ 9223372036854775807) (fo so wo ao : Option Addr) (fn fc sn sc wn wc an ac : Nat) (hs : RSh R fo so wo ao fn fc sn sc wn wc an ac) :
    Calls Tryz.prog 41 #[dval D fo so wo ao fn fc sn sc wn wc an ac] w fun e w' => e = .returned (.int .i64 D.free) ∧ Below w.heap.size w w' := by
  have DR := Lib.hid (fun W (hb : Below w.heap.size w W) => dir_ref D R W (h.below hb) ok)
  rw [hs.f, hs.s, hs.w, hs.a] at DR
  obtain ⟨l, hlq⟩ : ∃ l, playL R.ls D.waits = l := ⟨_, rfl⟩
  have hpl := playL_len D.waits R.ls
  have hls := h.ls_few ok
  have hwl := ok.many
  rw [hlq] at hpl DR
  have HPT : Hid (∀ e ∈ l, e.2 < D.files.length) := Lib.hid (by rw [← hlq]; exact playL_pts D.waits h.pts ok.waits)
  have HFR : Hid (D.free = max 0 (D.room - sumL D.files l)) := Lib.hid (by
    unfold Dk.free
    rw [h.seen, hlq]
    show max 0 (D.room - restSum (lenOf D.files) (fun _ => true) (l.map encE)) = _
    rw [sumL_rest])
  have hsum := sumL_bound ok.files l
  have hll : l.length ≤ 2000000 := by omega
  have HFO := Lib.hid ok.files
  have HSN := Lib.hid (fun i F p hF hp W hb => fseen_ref h ok (i := i) (F := F) (p := p) hF hp W hb)
  obtain ⟨fo', fc', hvf, hfc⟩ := files_cells h.ff
  rw [hs.f] at hvf
  injection hvf with q1 q2 q3
  subst q1 q3
  have hlen := h.len
  rw [hlen] at q2
  subst q2
  have HFC := Lib.hid hfc
  have HLEN := Lib.hid hlen
  obtain ⟨N, hN⟩ : ∃ N, w.heap.size = N := ⟨_, rfl⟩
  obtain ⟨W0, hW0⟩ : ∃ W0, w.alloc (.cells #[.int .i64 D.room, .slice fo D.files.length fc, .slice so sn sc, .slice wo wn wc, .int .i64 D.units, .int .i64 D.left, .bool D.armed, .bool D.gone, .slice ao an ac] 37) = W0 := ⟨_, rfl⟩
  have hb0 : Below N w W0 := by rw [← hW0, ← hN]; exact (Below.refl _ _).alloc (Nat.le_refl _) _
  have HB0 := Lib.hid hb0
  have g0 : W0.heap[N]? = some (.cells #[.int .i64 D.room, .slice fo D.files.length fc, .slice so sn sc, .slice wo wn wc, .int .i64 D.units, .int .i64 D.left, .bool D.armed, .bool D.gone, .slice ao an ac] 37 (0, 0)) := by rw [← hW0, ← hN]; exact heap_alloc_new w _
  have HG0 := Lib.hid g0
  have HN := Lib.hid hN
  obtain ⟨⟨q0, q1, q2, q3, q4, q5, q6, q7, q8⟩, -, hsz⟩ := disk_cells g0
  clear hfc h ok g0 hb0 hs hpl hlq hlen
  go_enter Tryz.func41, Tryz.ntmps41
  go_wp2_with fail
  refine (DR.out W0 (by rw [HN.out]; exact HB0.out)).mono ?_
  rintro e w1 ⟨u, rfl, hu, hb1⟩
  have HU := Lib.hid hu
  have HB1 := Lib.hid (HB0.out.trans (hb1.mono (by omega)))
  have g1 := (hb1.block N hsz).trans HG0.out
  have HG1 := Lib.hid g1
  obtain ⟨⟨q0, q1, q2, q3, q4, q5, q6, q7, q8⟩, -, hsz1⟩ := disk_cells g1
  obtain ⟨uo, uc, hus⟩ := own_shape0 hu
  subst hus
  clear hu hb1 g1 HG0 HB0
  go_wp2_with fail
  go_loopw [4, 5] (fun nv i W => RF w N D l (.slice uo l.length uc) (.cells #[.int .i64 D.room, .slice fo D.files.length fc, .slice so sn sc, .slice wo wn wc, .int .i64 D.units, .int .i64 D.left, .bool D.armed, .bool D.gone, .slice ao an ac] 37 (0, 0)) nv i W) (fun _ i _ => l.length - (intOf i).toNat)
  case atStart => exact ⟨0, rfl, Nat.zero_le _, by rw [List.drop_zero]; congr 1; omega, HU, HB1, HG1⟩
  case round =>
    obtain ⟨k, rfl, hk, rfl, hE, hB, hG⟩ := hrel
    clear q0 q1 q2 q3 q4 q5 q6 q7 q8 HU HB1 HG1
    obtain ⟨⟨q0, q1, q2, q3, q4, q5, q6, q7, q8⟩, -, hszr⟩ := disk_cells hG.out
    by_cases hlt : k < l.length
    · have hkz : (k : Int) < (l.length : Int) := by omega
      obtain ⟨⟨nm, fi⟩, he⟩ : ∃ e, l[k]? = some e := ⟨_, List.getElem?_eq_getElem hlt⟩
      obtain ⟨ao2, cp2, hv2, hc2⟩ := ents_cells hE.out
      injection hv2 with r1 r2 r3
      subst r1 r3
      obtain ⟨g, rfl, hgl, hcc⟩ := hc2 k _ he
      obtain ⟨c0, c1⟩ := hcc wr rfl
      simp only at c0 c1
      have hfi := HPT.out _ (List.mem_of_getElem? he)
      simp only at hfi
      have hfz : (fi : Int) < (D.files.length : Int) := by omega
      obtain ⟨F, hF⟩ : ∃ F, D.files[fi]? = some F := ⟨_, List.getElem?_eq_getElem hfi⟩
      obtain ⟨p, hp⟩ : ∃ p, R.fs[fi]? = some p := ⟨_, List.getElem?_eq_getElem (by rw [HLEN.out]; exact hfi)⟩
      obtain ⟨gf, rfl, hgfl, hcf⟩ := HFC.out fi p hp
      obtain ⟨d0, d1⟩ := hcf wr (hB.out.block gf (by rw [← HN.out]; exact hgfl))
      have SN := Lib.hid (fun W (hb : Below N wr W) => HSN.out fi F p hF hp W (by rw [HN.out]; exact hB.out.trans hb))
      have hlo : lenOf D.files (.lit (.int .i64 fi)) = F.seen.size := by
        unfold lenOf
        simp [hF]
      have hstep : sumL D.files (l.drop k) = F.seen.size + sumL D.files (l.drop (k + 1)) := by
        rw [drop_get he]
        show lenOf D.files (.lit (.int .i64 fi)) + _ = _
        rw [hlo]
      have hb1 := sumL_bound HFO.out (l.drop k)
      have hb2 := sumL_bound HFO.out (l.drop (k + 1))
      rw [List.length_drop] at hb1 hb2
      have hd1 := sumL_drop HFO.out l (k + 1)
      have HST := Lib.hid hstep
      clear hc2 hcc hcf he hF hp hlo hstep
      go_wp2_with fail
      have S1 : wr.drew.cell? ⟨N, 1, none⟩ = some (.slice (some ⟨gf, 0, none⟩) D.files.length fc) ∧ wr.drew.cell? ⟨g, k * 2 + 1, none⟩ = some (.int .i64 fi) ∧ wr.drew.cell? ⟨gf, fi * 2, none⟩ = some (.string p.1) ∧ wr.drew.cell? ⟨gf, fi * 2 + 1, none⟩ = some p.2 := ⟨q1, c1, d0, d1⟩
      have POST : Hid (∀ w2, Below wr.drew.heap.size wr.drew w2 → (w2.cell? ⟨N, 1, none⟩ = some (.slice (some ⟨gf, 0, none⟩) D.files.length fc) ∧ w2.cell? ⟨g, k * 2 + 1, none⟩ = some (.int .i64 fi) ∧ w2.cell? ⟨gf, fi * 2, none⟩ = some (.string p.1) ∧ w2.cell? ⟨gf, fi * 2 + 1, none⟩ = some p.2) ∧ Hid (Below N w w2) ∧ Hid (w2.heap[N]? = some (.cells #[.int .i64 D.room, .slice (some ⟨gf, 0, none⟩) D.files.length fc, .slice so sn sc, .slice wo wn wc, .int .i64 D.units, .int .i64 D.left, .bool D.armed, .bool D.gone, .slice ao an ac] 37 (0, 0))) ∧ Hid (EntsAt w2 (.slice (some ⟨g, 0, none⟩) l.length uc) l)) := Lib.hid (fun w2 hb3 => by
        have hb4 := below_drew hb3
        exact ⟨⟨keepc hb4 q1, keepc hb4 c1, keepc hb4 d0, keepc hb4 d1⟩, Lib.hid (hB.out.trans (hb4.mono (Nat.le_of_lt hszr))), Lib.hid ((hb4.block N hszr).trans hG.out), Lib.hid (own0_below hE.out hb4)⟩)
      go_region_held3 (fun W' => W'.cell? ⟨N, 1, none⟩ = some (.slice (some ⟨gf, 0, none⟩) D.files.length fc) ∧ W'.cell? ⟨g, k * 2 + 1, none⟩ = some (.int .i64 fi) ∧ W'.cell? ⟨gf, fi * 2, none⟩ = some (.string p.1) ∧ W'.cell? ⟨gf, fi * 2 + 1, none⟩ = some p.2) (first | exact S1 | exact S2)
        (first
          | (go_at_call 62; with_reducible refine Calls.mono (SN.out wr.drew ((Below.refl _ _).drew)) ?_; intro e w2 hh; obtain ⟨hr, hb3⟩ := hh; subst hr; obtain ⟨S2, HB2, HG2, HE2⟩ := POST.out w2 hb3; clear hb3)
          | fail)
      have hfin : D.room - sumL D.files l + sumL D.files (l.drop k) - (F.seen.size : Int) = D.room - sumL D.files l + sumL D.files (l.drop (k + 1)) := by have := HST.out; omega
      have hwr : IntKind.i64.wrap (D.room - sumL D.files l + sumL D.files (l.drop k) - (F.seen.size : Int)) = D.room - sumL D.files l + sumL D.files (l.drop k) - (F.seen.size : Int) := IntWalk.i64_in _ (by rw [hfin]; omega)
      go_wp2_with fail
      refine ⟨⟨k + 1, by go_num, by omega, ?_, HE2, HB2, HG2⟩, by simp [intOf]; omega⟩
      rw [hwr, hfin]
    · have hsn : sumL D.files (l.drop k) = 0 := by rw [List.drop_of_length_le (by omega)]; rfl
      by_cases hneg : D.room - sumL D.files l < 0
      · have hr : Hid (D.free = 0) := Lib.hid (by rw [HFR.out]; omega)
        rw [hsn, Int.add_zero]
        go_wp2_with fail
        go_ret
        exact ⟨by rw [hr.out]; rfl, by first | exact hB.out | (rw [HN.out]; exact hB.out)⟩
      · have hr : Hid (D.free = D.room - sumL D.files l) := Lib.hid (by rw [HFR.out]; omega)
        rw [hsn, Int.add_zero]
        go_wp2_with fail
        go_ret
        exact ⟨by rw [hr.out]; rfl, by first | exact hB.out | (rw [HN.out]; exact hB.out)⟩
end Go.Proofs.YthfcmgbkhjnfjaaGreatDoor

namespace Go.Proofs.YthfcmgbkhjnfjaaGreatDoor
open Go.RowKit Go.Maps

def okByte (c : UInt8) : Bool := letters.contains c
theorem okByte_nat : ∀ n : Nat, n < 256 → (okByte (UInt8.ofNat n) = true ↔ (97 ≤ n ∧ n ≤ 122) ∨ (48 ≤ n ∧ n ≤ 57) ∨ n = 46) := by decide +kernel
theorem okByte_iff (c : UInt8) : okByte c = true ↔ (97 ≤ c.toNat ∧ c.toNat ≤ 122) ∨ (48 ≤ c.toNat ∧ c.toNat ≤ 57) ∨ c.toNat = 46 := by
  have := okByte_nat c.toNat c.toNat_lt
  rwa [UInt8.ofNat_toNat] at this
set_option maxRecDepth 20000 in
set_option maxHeartbeats 1600000 in
theorem good_ref (s : ByteArray) (hs : s.size ≤ 1000000) (w : World) : Calls Tryz.prog 64 #[.string s] w fun e w' => e = .returned (.bool (goodName s.data.toList)) ∧ w = w' := by
  by_cases h1 : s.size < 1
  · have hg : Hid (goodName s.data.toList = false) := Lib.hid (by
      unfold goodName
      have : s.data.toList = [] := List.length_eq_zero_iff.1 (by show s.size = 0; omega)
      rw [this]; rfl)
    have h1' : (s.size : Int) < 1 := by omega
    go_enter Tryz.func64, Tryz.ntmps64
    go_wp2
    go_ret
    exact ⟨by rw [hg.out]; rfl, rfl⟩
  · by_cases h2 : 20 < s.size
    · have hg : Hid (goodName s.data.toList = false) := Lib.hid (by
        unfold goodName
        rw [show decide (s.data.toList.length ≤ 20) = false from decide_eq_false (by show ¬ s.size ≤ 20; omega)]
        simp)
      have h1' : ¬ (s.size : Int) < 1 := by omega
      have h2' : (20 : Int) < s.size := by omega
      go_enter Tryz.func64, Tryz.ntmps64
      go_wp2
      go_ret
      exact ⟨by rw [hg.out]; rfl, rfl⟩
    · have h1' : ¬ (s.size : Int) < 1 := by omega
      have h2' : ¬ (20 : Int) < s.size := by omega
      have hg : Hid (goodName s.data.toList = s.data.toList.all okByte) := Lib.hid (by
        unfold goodName
        rw [show decide (s.data.toList.length ≤ 20) = true from decide_eq_true (by show s.size ≤ 20; omega)]
        rw [show s.data.toList.isEmpty = false from by rw [Bool.eq_false_iff]; intro h; rw [List.isEmpty_iff, ← List.length_eq_zero_iff] at h; exact h1 (by show s.data.toList.length < 1; omega)]
        rfl)
      go_enter Tryz.func64, Tryz.ntmps64
      go_wp2
      go_loop [3] (fun i => ∃ k : Nat, i = .int .i64 k ∧ k ≤ s.size ∧ Hid ((s.data.toList.drop k).all okByte = s.data.toList.all okByte)) (fun i => s.size - (intOf i).toNat)
      case atStart => exact ⟨0, rfl, Nat.zero_le _, Lib.hid rfl⟩
      case round =>
        obtain ⟨k, rfl, hk, hR⟩ := hrel
        by_cases hlt : k < s.size
        · have hget : s.data.toList.drop k = s[k] :: s.data.toList.drop (k + 1) := by
            rw [List.drop_eq_getElem_cons (by show k < s.size; exact hlt)]
            rfl
          have hiff := okByte_iff s[k]
          cases hb : okByte s[k] with
          | true =>
            have HT : Hid ((s.data.toList.drop (k + 1)).all okByte = s.data.toList.all okByte) := Lib.hid (by rw [← hR.out, hget, List.all_cons, hb]; rfl)
            have hP := Lib.hid (hiff.1 hb)
            clear hget hiff hb
            go_wp2
            all_goals first
              | exact ⟨⟨k + 1, by go_num, by omega, HT⟩, by simp [intOf]; omega⟩
              | (exfalso; have := hP.out; simp at *; omega)
          | false =>
            have HF : Hid (goodName s.data.toList = false) := Lib.hid (by rw [hg.out, ← hR.out, hget, List.all_cons, hb]; rfl)
            have hP : Hid (¬ ((97 ≤ s[k].toNat ∧ s[k].toNat ≤ 122) ∨ (48 ≤ s[k].toNat ∧ s[k].toNat ≤ 57) ∨ s[k].toNat = 46)) := Lib.hid (fun h => by rw [hiff.2 h] at hb; cases hb)
            clear hget hiff hb
            go_wp2
            all_goals first
              | (go_ret; exact ⟨by rw [HF.out]; rfl, rfl⟩)
              | (exfalso; have := hP.out; simp at *; omega)
        · go_wp2
          go_ret
          exact ⟨by rw [hg.out, ← hR.out, List.drop_of_length_le (by show s.size ≤ k; omega)]; rfl, rfl⟩
end Go.Proofs.YthfcmgbkhjnfjaaGreatDoor

namespace Go.Proofs.YthfcmgbkhjnfjaaGreatDoor
open Go.RowKit Go.Maps

/-- What the question ends in. -/
def AskP (D : Dk) (s : ByteArray) (w : World) (e : Ending) (w' : World) : Prop := ∃ i : Int, e = .returned (.tuple #[.int .i64 i, .int .i64 (D.fileN s : Nat)]) ∧ (D.fileN s = 0 → i = D.idx s) ∧ Below w.heap.size w w'
theorem fileN_bad {D : Dk} {s : ByteArray} (h : goodName s.data.toList = false) : D.fileN s = 1 := by
  have : D.askedN [s] = 1 := by unfold Dk.askedN; rw [if_pos (by simp [h])]
  unfold Dk.fileN
  rw [this]; rfl
theorem fileN_gone {D : Dk} {s : ByteArray} (h : goodName s.data.toList = true) (hg : D.gone = true) : D.fileN s = 3 := by
  have : D.askedN [s] = 3 := by unfold Dk.askedN; rw [if_neg (by simp [h]), if_pos hg]
  unfold Dk.fileN
  rw [this]; rfl
theorem fileN_has {D : Dk} {s : ByteArray} (h : goodName s.data.toList = true) (hg : D.gone = false) : D.fileN s = if Maps.has D.dirOf (nameK s) then 0 else 7 := by
  have : D.askedN [s] = 0 := by unfold Dk.askedN; rw [if_neg (by simp [h]), if_neg (by simp [hg])]
  unfold Dk.fileN
  rw [if_pos this]
set_option maxRecDepth 20000 in
set_option maxHeartbeats 1600000 in
theorem asked_ref (s : ByteArray) (hs : s.size ≤ 1000000) (D : Dk) (R : RL) (w : World) (h : RAt w D R) (ok : D.Ok) :
    Calls Tryz.prog 57 #[.agg #[.int .i64 D.room, R.vf, R.vs, R.vw, .int .i64 D.units, .int .i64 D.left, .bool D.armed, .bool D.gone, R.va], .string s] w (AskP D s w) := by
  have G := Lib.hid (fun W => good_ref s hs W)
  have DR := Lib.hid (fun W (hb : Below w.heap.size w W) => dir_ref D R W (h.below hb) ok)
  have hpl := playL_len D.waits R.ls
  have hls := h.ls_few ok
  have hwl := ok.many
  have HSEEN := Lib.hid h.seen
  obtain ⟨W0, hW0⟩ : ∃ W0, w.alloc (.cells #[.int .i64 D.room, R.vf, R.vs, R.vw, .int .i64 D.units, .int .i64 D.left, .bool D.armed, .bool D.gone, R.va] 37) = W0 := ⟨_, rfl⟩
  have hb0 : Below w.heap.size w W0 := by rw [← hW0]; exact (Below.refl _ _).alloc (Nat.le_refl _) _
  have HB0 := Lib.hid hb0
  have g0 : W0.heap[w.heap.size]? = some (dBox R D) := by rw [← hW0]; exact heap_alloc_new w _
  obtain ⟨q0, q1, q2, q3, q4, q5, q6, q7, q8⟩ := d_cells g0
  clear hb0 g0 h ok
  go_enter Tryz.func57, Tryz.ntmps57
  go_wp2_with fail
  refine (G.out W0).mono ?_
  rintro e w1 ⟨rfl, rfl⟩
  cases hg : goodName s.data.toList with
  | false =>
    have hk := Lib.hid (fileN_bad (D := D) hg)
    go_wp2_with fail
    go_ret2
    exact ⟨_, by rw [hk.out]; rfl, (fun h => by rw [hk.out] at h; cases h), HB0.out⟩
  | true =>
    cases hgo : D.gone with
    | true =>
      have hk := Lib.hid (fileN_gone hg hgo)
      rw [hgo] at q7
      go_wp2_with fail
      go_ret2
      exact ⟨_, by rw [hk.out]; rfl, (fun h => by rw [hk.out] at h; cases h), HB0.out⟩
    | false =>
      have hk := Lib.hid (fileN_has (D := D) hg hgo)
      rw [hgo] at q7 DR
      go_wp2_with fail
      refine (DR.out W0 HB0.out).mono ?_
      rintro e w2 ⟨u, rfl, hu, hb2⟩
      have FI := Lib.hid (find_ref s u _ w2 hu (by omega))
      have HB2 := Lib.hid (HB0.out.trans (hb2.mono HB0.out.size))
      clear hu hb2
      go_wp2_with fail
      refine FI.out.mono ?_
      rintro e w3 ⟨rfl, rfl⟩
      cases hf : findL (playL R.ls D.waits) s with
      | none =>
        have hz : Hid (D.fileN s = 7) := Lib.hid (by rw [hk.out, HSEEN.out, findL_has, hf]; rfl)
        have hv : findI (playL R.ls D.waits) s = -1 := by unfold findI; rw [hf]
        rw [hv]
        clear hv hf
        go_wp2_with fail
        go_ret2
        exact ⟨_, by rw [hz.out]; rfl, (fun h => by rw [hz.out] at h; cases h), HB2.out⟩
      | some i =>
        have hz : Hid (D.fileN s = 0) := Lib.hid (by rw [hk.out, HSEEN.out, findL_has, hf]; rfl)
        have hi : Hid (D.idx s = i) := Lib.hid (by unfold Dk.idx; rw [HSEEN.out, findL_at hf]; simp)
        have hv : findI (playL R.ls D.waits) s = (i : Int) := by unfold findI; rw [hf]
        rw [hv]
        clear hv hf
        go_wp2_with fail
        go_ret2
        exact ⟨_, by rw [hz.out]; rfl, fun _ => by rw [hi.out], HB2.out⟩
end Go.Proofs.YthfcmgbkhjnfjaaGreatDoor
