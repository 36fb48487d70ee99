/- A fault; whether a field is good; the field that lines say: stanza.fault, fold.Check, fold.Unfold. -/
import Derived.Test.YtklbbcemacpimaaGreatDoorBLaw
namespace Go.Proofs.YtklbbcemacpimaaGreatDoor.B
open Go.RowKit Go.Shelf

theorem fault_any (n : Int) (k : Nat) (w : World) :
    Calls Tryz.prog 65 #[.int .i64 n, errnoV k] w fun e w' => e = .returned (faultV w.heap.size) ∧ w' = w.alloc (.cells #[.int .i64 n, errnoV k] 152) := by
  unfold errnoV faultV
  go_enter Tryz.func65, Tryz.ntmps65
  go_wp2
  go_ret
  exact ⟨rfl, rfl⟩
theorem fault_at (n : Int) (k : Nat) (w : World) : FaultAt (w.alloc (.cells #[.int .i64 n, errnoV k] 152)) w.heap.size n k := heap_alloc_new w _
/-- An error by its number; 0: none. -/
def errV (k : Nat) : Value := if k = 0 then .nilIface else errnoV k
theorem check_any (k v : ByteArray) (hk : goodKey k.data.toList = true) (w : World) :
    Calls Tryz.prog 102 #[.agg #[.string k, .string v]] w fun e w' => e = .returned (errV (if 1000 < v.size then 6 else 0)) ∧ Below w.heap.size w w' := by
  have K := Lib.hid (key_any k)
  rw [hk] at K
  have b0 := Lib.hid ((Below.refl w.heap.size w).alloc (Nat.le_refl _) (.cells #[.string k, .string v] 57))
  by_cases hv : 1000 < v.size
  · rw [if_pos hv]
    have hv' : (1000 : Int) < v.size := by omega
    go_enter Tryz.func102, Tryz.ntmps102
    go_wp2_with fail
    refine (K.out _).mono ?_
    rintro e w' ⟨rfl, rfl⟩
    go_wp2
    go_ret
    exact ⟨rfl, b0.out⟩
  · rw [if_neg hv]
    have hv' : ¬ (1000 : Int) < v.size := by omega
    go_enter Tryz.func102, Tryz.ntmps102
    go_wp2_with fail
    refine (K.out _).mono ?_
    rintro e w' ⟨rfl, rfl⟩
    go_wp2
    go_ret
    exact ⟨rfl, b0.out⟩
/-! ### Unfold -/
/-- A row of texts. -/
def TextsAt (w : World) (v : Value) (ls : List (List UInt8)) : Prop :=
  ∃ (ao : Option Addr) (cp : Nat), v = .slice ao ls.length cp ∧ ls.length ≤ cp ∧ ∀ (k : Nat) s, ls[k]? = some s → ∃ g, ao = some ⟨g, 0, none⟩ ∧ g < w.heap.size ∧ w.cell? ⟨g, k, none⟩ = some (.string ⟨s.toArray⟩)
theorem flat_one (ls : List (List UInt8)) (k : Nat) : (ls.flatMap strC)[k]? = (ls[k]?).map fun s => .string ⟨s.toArray⟩ := by
  induction ls generalizing k with
  | nil => simp
  | cons l r ih =>
    cases k with
    | zero => simp [strC]
    | succ k => simpa [strC] using ih k
theorem flat_len (ls : List (List UInt8)) : (ls.flatMap strC).length = ls.length := by
  induction ls with
  | nil => rfl
  | cons l r ih => rw [List.flatMap_cons, List.length_append, ih]; simp [strC]; omega
theorem TextsAt.of {w : World} {base n : Nat} {v : Value} {ls : List (List UInt8)} (h : w.ownsRow base 9 1 v n (ls.flatMap strC)) (hn : n = ls.length) (hne : 0 < ls.length) : TextsAt w v ls := by
  subst hn
  rcases h.2 with ⟨rfl, h0⟩ | ⟨g, cp, cur, hv, hb, hg, hcp, _⟩
  · omega
  · refine ⟨some ⟨g, 0, none⟩, cp, hv, hcp, fun k s hk => ⟨g, rfl, (h.lt g (by rw [hv]; rfl)).2, ?_⟩⟩
    have := h.cells (g := g) (by rw [hv]; rfl) k (.string ⟨s.toArray⟩) (by rw [flat_one, hk]; rfl)
    have ea : (⟨g, 0, none⟩ : Addr).add k = ⟨g, k, none⟩ := by cases k <;> simp [Addr.add]
    rwa [ea] at this
theorem TextsAt.below {w w' : World} {v : Value} {ls : List (List UInt8)} (h : TextsAt w v ls) (hb : Below w.heap.size w w') : TextsAt w' v ls := by
  obtain ⟨ao, cp, h1, h2, h3⟩ := h
  refine ⟨ao, cp, h1, h2, fun k s hk => ?_⟩
  obtain ⟨g, h4, h5, h6⟩ := h3 k s hk
  exact ⟨g, h4, Nat.lt_of_lt_of_le h5 hb.size, (hb.cell (p := ⟨g, k, none⟩) h5).trans h6⟩
def fdV (f : Fd) : Value := .agg #[.string ⟨f.key.toArray⟩, .string ⟨f.val.toArray⟩]
theorem below_grow1 (w : World) (o : Obj) : Below w.heap.size w (w.alloc o) := (Below.refl _ _).alloc (Nat.le_refl _) _
theorem below_grown {w w' : World} {row : Option Nat} {B : Nat} (h : w.grownBy w' row) (hB : B ≤ w.heap.size) (hr : ∀ k, row = some k → B ≤ k) : Below B w w' :=
  ⟨h.os, h.tape, h.output, h.size, fun k hk => h.block k (by omega) (fun e => by have := hr k e.symm; omega)⟩
theorem infoS : (Tryz.prog.info? 9).map (fun i => (i.zero, i.size, i.bytes)) = some (some (.string ⟨#[]⟩), 1, 16) := by kernel_rfl
theorem infoFd : (Tryz.prog.info? 57).map (fun i => (i.zero, i.size, i.bytes)) = some (some (.agg #[.string ⟨#[]⟩, .string ⟨#[]⟩]), 2, 32) := by kernel_rfl
theorem infoIt : (Tryz.prog.info? 65).map (fun i => (i.zero, i.size, i.bytes)) = some (some (.agg #[.int .i64 0, .string ⟨#[]⟩, .slice none 0 0]), 3, 48) := by kernel_rfl
/-- The value's parts. -/
def partsOf (l0 : List UInt8) (r : List (List UInt8)) : List (List UInt8) := Lib.trimPrefix (behind 58 l0) [32] :: r.map fun s => Lib.trimPrefix (s.drop 1) [46]
theorem fieldOf_val (l0 : List UInt8) (r : List (List UInt8)) : (fieldOf l0 r).val = Lib.join (partsOf l0 r) [10] := rfl
theorem partsOf_snoc (l0 : List UInt8) (r : List (List UInt8)) (x : List UInt8) : partsOf l0 (r ++ [x]) = partsOf l0 r ++ [Lib.trimPrefix (x.drop 1) [46]] := by simp [partsOf]
/-- How it stands behind k lines. -/
def UnRel (w : World) (l0 : List UInt8) (r : List (List UInt8)) (v i : Value) (wr : World) : Prop :=
  ∃ k : Nat, i = .int .i64 k ∧ k ≤ r.length ∧ (∀ s ∈ r.take k, kindOf s = 3) ∧ Hid (wr.ownsRow (w.heap.size + 1) 9 1 v (k + 1) ((partsOf l0 (r.take k)).flatMap strC)) ∧
    Hid (wr.heap[w.heap.size]? = some (.cells #[.string ⟨#[]⟩, .string ⟨#[]⟩] 57 (0, 0))) ∧ Hid (Below w.heap.size w wr)
set_option maxRecDepth 20000 in
set_option maxHeartbeats 1600000 in
theorem unfold_not (l0 : List UInt8) (r : List (List UInt8)) (h4 : kindOf l0 ≠ 4) (v : Value) (w : World) (h : TextsAt w v (l0 :: r))
    (hr : r.length ≤ 1000000) (hsz : ∀ s ∈ l0 :: r, s.length ≤ 1000000) (_hj : (fieldOf l0 r).val.length ≤ 1000000) :
    Calls Tryz.prog 85 #[v] w fun e w' => e = .returned (.tuple #[fdV (if unfoldN (l0 :: r) = 0 then fieldOf l0 r else ⟨[], []⟩), errV (unfoldN (l0 :: r))]) ∧ Below w.heap.size w w' := by
  obtain ⟨i0, hi0, hz0, hz1, hz2⟩ := info_parts infoS
  obtain ⟨ao, cp, rfl, hcp, hc⟩ := h
  obtain ⟨g, rfl, hg, hc0⟩ := hc 0 l0 rfl
  have HC := Lib.hid hc
  have hlen : (l0 :: r).length = r.length + 1 := rfl
  rw [hlen] at hcp ⊢
  obtain ⟨s0, hs0⟩ : ∃ s0 : ByteArray, (⟨l0.toArray⟩ : ByteArray) = s0 := ⟨_, rfl⟩
  have hd0 : s0.data.toList = l0 := by rw [← hs0]
  have hz : s0.size ≤ 1000000 := by have := hsz l0 (by simp); rw [← size_len, hd0]; exact this
  rw [hs0] at hc0
  have HZ := Lib.hid hsz
  clear hc hlen hsz
  have K := cut_any s0 (by omega)
  rw [hd0] at K
  rw [show lineCut l0 = ([], [], false) from by unfold lineCut; rw [if_neg h4]] at K
  have K' := Lib.hid K
  have hN : unfoldN (l0 :: r) = 2 := by rw [unfoldN_cons, if_pos h4]
  rw [hN]
  have hR : Hid ((w.alloc (.cells #[.string ⟨#[]⟩, .string ⟨#[]⟩] 57)).heap[w.heap.size]? = some (.cells #[.string ⟨#[]⟩, .string ⟨#[]⟩] 57 (0, 0))) := Lib.hid (heap_alloc_new w _)
  clear K
  unfold errV errnoV
  go_enter Tryz.func85, Tryz.ntmps85
  go_wp2_with fail
  refine (K'.out _).mono ?_
  rintro e w7 ⟨rfl, b7⟩
  have hR7 := (b7.block _ (Array.getElem?_eq_some_iff.1 hR.out).1).trans hR.out
  have hW7 := Lib.hid ((below_grow1 w _).trans (b7.mono (by simp)))
  have q0 : w7.cell? ⟨w.heap.size, 0, none⟩ = some (.string ⟨#[]⟩) := by simp [World.cell?, hR7]
  have q1 : w7.cell? ⟨w.heap.size, 1, none⟩ = some (.string ⟨#[]⟩) := by simp [World.cell?, hR7]
  have p0 : w7.frozen? ⟨w.heap.size, 0, none⟩ = false := by simp [World.frozen?, hR7]
  have p1 : w7.frozen? ⟨w.heap.size, 1, none⟩ = false := by simp [World.frozen?, hR7]
  clear b7 hR7 hR
  go_wp2
  refine bodyPost_ret (v := .tuple #[fdV ⟨[], []⟩, errV 2]) (by simp [results, Tryz.results85, go_sem, fdV, errV, errnoV, q0, q1]) rfl ⟨rfl, ?_⟩
  exact (hW7.out.setCell (p := ⟨w.heap.size, 0, none⟩) (Nat.le_refl _) _).setCell (p := ⟨w.heap.size, 1, none⟩) (Nat.le_refl _) _
set_option maxRecDepth 20000 in
set_option maxHeartbeats 1600000 in
theorem unfold_more (l0 : List UInt8) (r : List (List UInt8)) (h4 : kindOf l0 = 4) (hne : r ≠ []) (v : Value) (w : World) (h : TextsAt w v (l0 :: r))
    (hr : r.length ≤ 1000000) (hsz : ∀ s ∈ l0 :: r, s.length ≤ 1000000) (hj : (fieldOf l0 r).val.length ≤ 1000000) :
    Calls Tryz.prog 85 #[v] w fun e w' => e = .returned (.tuple #[fdV (if unfoldN (l0 :: r) = 0 then fieldOf l0 r else ⟨[], []⟩), errV (unfoldN (l0 :: r))]) ∧ Below w.heap.size w w' := by
  obtain ⟨i0, hi0, hz0, hz1, hz2⟩ := info_parts infoS
  obtain ⟨ao, cp, rfl, hcp, hc⟩ := h
  obtain ⟨g, rfl, hg, hc0⟩ := hc 0 l0 rfl
  have HC := Lib.hid hc
  have hlen : (l0 :: r).length = r.length + 1 := rfl
  rw [hlen] at hcp ⊢
  obtain ⟨s0, hs0⟩ : ∃ s0 : ByteArray, (⟨l0.toArray⟩ : ByteArray) = s0 := ⟨_, rfl⟩
  have hd0 : s0.data.toList = l0 := by rw [← hs0]
  have hz : s0.size ≤ 1000000 := by have := hsz l0 (by simp); rw [← size_len, hd0]; exact this
  rw [hs0] at hc0
  have HZ := Lib.hid hsz
  clear hc hlen hsz
  have K := cut_any s0 (by omega)
  rw [hd0] at K
  have hcp1 : ¬ cp = 1 := by have := List.length_pos_iff.2 hne; omega
  rw [show lineCut l0 = (ahead 58 l0, behind 58 l0, true) from by unfold lineCut; rw [if_pos h4]] at K
  have K' := Lib.hid K
  have T' : Hid (∀ w, Calls Tryz.prog 116 #[.string ⟨(behind 58 l0).toArray⟩, .string ⟨#[32]⟩] w fun e w' => e = .returned (.string ⟨(Lib.trimPrefix (behind 58 l0) [32]).toArray⟩) ∧ w' = w) := Lib.hid (fun w => Tryz.strings_TrimPrefix ⟨(behind 58 l0).toArray⟩ ⟨#[32]⟩ w)
  clear K
  go_enter Tryz.func85, Tryz.ntmps85
  go_wp2_with fail
  refine (K'.out _).mono ?_
  rintro e w1 ⟨rfl, b1⟩
  go_wp2_with fail
  refine (T'.out _).mono ?_
  rintro e w2 ⟨rfl, rfl⟩
  go_wp2_with fail
  have R0 : Hid (w2.heap[w.heap.size]? = some (.cells #[.string ⟨#[]⟩, .string ⟨#[]⟩] 57 (0, 0))) := Lib.hid ((b1.block _ (by simp)).trans (heap_alloc_new w _))
  have B0 : Hid (Below w.heap.size w (w2.alloc (.cells #[.string ⟨(Lib.trimPrefix (behind 58 l0) [32]).toArray⟩] 9))) := Lib.hid ((((Below.refl w.heap.size w).alloc (Nat.le_refl _) _).trans (b1.mono (by simp))).alloc (by have := b1.size; simp at this; omega) _)
  have O0 := World.ownsRow_lit (e := 9) (size := 1) (base := w.heap.size + 1) w2 #[.string ⟨(Lib.trimPrefix (behind 58 l0) [32]).toArray⟩] 1 (by have := b1.size; simp at this; omega) (by decide) rfl
  have O0' := Lib.hid O0
  have hw2 := b1.size
  have R1 := Lib.hid (((below_grow1 w2 (.cells #[.string ⟨(Lib.trimPrefix (behind 58 l0) [32]).toArray⟩] 9)).block _ (by simp at hw2; omega)).trans R0.out)
  clear b1 O0 R0
  go_loopw [7, 35] (UnRel w l0 r) (fun _ i _ => r.length - (intOf i).toNat)
  case atStart => exact ⟨0, rfl, Nat.zero_le _, by intro s hs; simp at hs, O0', R1, B0⟩
  case round =>
    clear R1 B0 O0'
    obtain ⟨k, rfl, hk, hks, hO, hR, hW⟩ := hrel
    by_cases hlt : k < r.length
    · have hdummy := hlt
      obtain ⟨s, hs⟩ : ∃ s, r[k]? = some s := ⟨_, List.getElem?_eq_getElem hlt⟩
      obtain ⟨g', eg, -, hcs⟩ := HC.out (k + 1) s hs
      cases eg
      obtain ⟨sB, hsB⟩ : ∃ sB : ByteArray, (⟨s.toArray⟩ : ByteArray) = sB := ⟨_, rfl⟩
      have hdB : sB.data.toList = s := by rw [← hsB]
      have hzB : sB.size ≤ 1000000 := by have := HZ.out s (List.mem_cons_of_mem _ (List.mem_of_getElem? hs)); rw [← size_len, hdB]; exact this
      rw [hsB] at hcs
      have hcr : wr.cell? ⟨g, 1 + k, none⟩ = some (.string sB) := by rw [Nat.add_comm]; exact (hW.out.cell (p := ⟨g, k + 1, none⟩) hg).trans hcs
      have KN := kind_any sB (by omega)
      rw [hdB] at KN
      have KN' := Lib.hid KN
      have HS := Lib.hid hs
      have HDB := Lib.hid hdB
      clear KN hcs hs hsB hdB
      by_cases h3 : kindOf s = 3
      · rw [h3] at KN'
        have hne : 1 ≤ sB.size := by
          rw [← size_len, HDB.out]
          cases s with
          | nil => cases h3
          | cons c t => simp
        obtain ⟨tr, htr⟩ : ∃ tr, Lib.trimPrefix (s.drop 1) [46] = tr := ⟨_, rfl⟩
        have T2 : Hid (∀ w, Calls Tryz.prog 116 #[.string (sB.extract 1 sB.size), .string ⟨#[46]⟩] w fun e w' => e = .returned (.string ⟨tr.toArray⟩) ∧ w' = w) := Lib.hid (fun w => by
          rw [← htr]
          have := Tryz.strings_TrimPrefix (sB.extract 1 sB.size) ⟨#[46]⟩ w
          rwa [show (sB.extract 1 sB.size).data.toList = s.drop 1 by rw [extract_drop, HDB.out]] at this)
        have H3 := Lib.hid h3
        have HTR := Lib.hid htr
        clear h3 htr
        go_wp2_with fail
        refine (KN'.out _).mono ?_
        rintro e w3 ⟨rfl, b3⟩
        go_wp2_with fail
        refine (T2.out _).mono ?_
        rintro e w4 ⟨rfl, rfl⟩
        have hO4 := ownsRow_of_block hO.out (fun y hy => b3.block y (hO.out.lt y hy).2)
        have hz4 : w.heap.size + 1 ≤ w4.heap.size := Nat.le_trans (Array.getElem?_eq_some_iff.1 hR.out).1 b3.size
        have hR4 := Lib.hid ((b3.block _ (Array.getElem?_eq_some_iff.1 hR.out).1).trans hR.out)
        have hW4 := Lib.hid (hW.out.trans (b3.mono hW.out.size))
        clear b3 hO hR hW hcr
        go_wp2_with (at_builtin; (refine wpList_append_lies _ rfl _ _ _ rfl (w.heap.size + 1) 9 i0 _ 1 16 Tryz.underlying30 hi0 hz0 hz1 hz2 rfl (by omega) _ (k + 1) _ rfl (hO4.alloc _) ⟨w4.heap.size, 0, none⟩ 1 1 (strC tr) rfl rfl (World.news_of_block (cs := (strC tr).toArray) (t := 9) (fr := (0, 0)) (heap_alloc_new w4 _)) (by simp [strC, Value.oneCell']) (by omega) (by unfold maxLen; omega) (by omega) (by simp; omega) (w4.heap.size + 1) (by simp) ?_; intro gg cap w5 hown1 hgrow hat hlt5; refine Hid.out ?_))
        refine Lib.hid ?_
        have hrow := fun y hy => (hO4.lt y hy).1
        have hb5 : Below (w.heap.size + 1) w4 w5 := (((Below.refl _ _).alloc hz4 _).trans (below_grown hgrow (by simp; omega) hrow))
        have hO5 := Lib.hid hown1
        have hR5 := Lib.hid ((hb5.block _ (by omega)).trans hR4.out)
        have hW5 := Lib.hid (hW4.out.trans (hb5.mono (by omega)))
        clear hown1 hgrow hat hb5 hrow hO4
        go_wp2
        have hsn : r.take (k + 1) = r.take k ++ [s] := by rw [List.take_add_one, HS.out]; rfl
        refine ⟨⟨k + 1, by go_num, by omega, ?_, ?_, hR5, hW5⟩, by simp [intOf]; omega⟩
        · rw [hsn]
          intro x hx
          rcases List.mem_append.1 hx with hx | hx
          · exact hks x hx
          · obtain rfl := List.mem_singleton.1 hx; exact H3.out
        · rw [hsn, partsOf_snoc, HTR.out, List.flatMap_append]
          exact Lib.hid (by simpa using hO5.out)
      · go_wp2_with fail
        refine (KN'.out _).mono ?_
        rintro e w7 ⟨rfl, b7⟩
        have hN : unfoldN (l0 :: r) = 2 := by
          rw [unfoldN_cons, if_neg (by simpa using h4), if_pos]
          exact List.any_eq_true.2 ⟨s, List.mem_of_getElem? HS.out, by simpa using h3⟩
        have hR7 := (b7.block _ (Array.getElem?_eq_some_iff.1 hR.out).1).trans hR.out
        have hW7 := Lib.hid (hW.out.trans (b7.mono hW.out.size))
        have q0 : w7.cell? ⟨w.heap.size, 0, none⟩ = some (.string ⟨#[]⟩) := by simp [World.cell?, hR7]
        have q1 : w7.cell? ⟨w.heap.size, 1, none⟩ = some (.string ⟨#[]⟩) := by simp [World.cell?, hR7]
        have p0 : w7.frozen? ⟨w.heap.size, 0, none⟩ = false := by simp [World.frozen?, hR7]
        have p1 : w7.frozen? ⟨w.heap.size, 1, none⟩ = false := by simp [World.frozen?, hR7]
        have h3' : ¬ (kindOf s : Int) = 3 := by omega
        clear b7 hR7 hR hW hO
        go_wp2
        refine bodyPost_ret (v := .tuple #[fdV ⟨[], []⟩, errV 2]) (by simp [results, Tryz.results85, go_sem, fdV, errV, errnoV, q0, q1]) rfl ⟨by first | rfl | (rw [hN]; rfl), ?_⟩
        exact (hW7.out.setCell (p := ⟨w.heap.size, 0, none⟩) (Nat.le_refl _) _).setCell (p := ⟨w.heap.size, 1, none⟩) (Nat.le_refl _) _
    · obtain rfl : k = r.length := by omega
      rw [List.take_length] at hO hks
      have hall : r.any (fun s => kindOf s != 3) = false := by rw [List.any_eq_false]; intro s hs; simp [hks s hs]
      clear hks
      have hlen2 : (partsOf l0 r).length = r.length + 1 := by simp [partsOf]
      obtain ⟨ao2, cp2, rfl, hcp2, hc2⟩ := TextsAt.of hO.out hlen2.symm (by rw [hlen2]; omega)
      rw [hlen2] at hcp2
      obtain ⟨g2, rfl, hg2, -⟩ := hc2 0 _ rfl
      have J := Lib.hid (Tryz.strings_Join g2 0 cp2 ((partsOf l0 r).map fun s => (⟨s.toArray⟩ : ByteArray)) ⟨#[10]⟩ wr (fun j x hx => by
        rw [List.getElem?_map] at hx
        cases hp : (partsOf l0 r)[j]? with
        | none => rw [hp] at hx; cases hx
        | some s =>
          rw [hp] at hx
          cases hx
          obtain ⟨g3, e3, -, h3⟩ := hc2 j s hp
          cases e3
          rw [Nat.zero_add]
          exact h3) hg2 (by rw [List.length_map, hlen2]; omega) (by rw [List.length_map, hlen2]; exact hcp2) (by
          rw [show ((partsOf l0 r).map fun s => (⟨s.toArray⟩ : ByteArray)).map (·.data.toList) = partsOf l0 r by rw [List.map_map]; exact List.map_id' _]
          exact Nat.le_trans hj (by decide)))
      have J' : Hid (Calls Tryz.prog 68 #[.slice (some ⟨g2, 0, none⟩) (r.length + 1) cp2, .string ⟨#[10]⟩] wr fun e w' => e = .returned (.string ⟨(fieldOf l0 r).val.toArray⟩) ∧ Below wr.heap.size wr w') := Lib.hid (by
        have := J.out
        rw [show ((partsOf l0 r).map fun s => (⟨s.toArray⟩ : ByteArray)).map (·.data.toList) = partsOf l0 r by rw [List.map_map]; exact List.map_id' _, List.length_map, hlen2] at this
        exact this)
      have C := Lib.hid (check_any ⟨(ahead 58 l0).toArray⟩ ⟨(fieldOf l0 r).val.toArray⟩ (kind4 h4).2.2)
      have hval : (⟨(fieldOf l0 r).val.toArray⟩ : ByteArray).size = (fieldOf l0 r).val.length := by rw [← size_len]
      rw [hval] at C
      clear J hc2 hO hval
      go_wp2_with fail
      refine J'.out.mono ?_
      rintro e w5 ⟨rfl, b5⟩
      have hz5 := b5.size
      have hzr := hW.out.size
      have hRl := (Array.getElem?_eq_some_iff.1 hR.out).1
      have hR5 := (b5.block _ hRl).trans hR.out
      have hW5 := Lib.hid (hW.out.trans (b5.mono hzr))
      obtain ⟨w6, hw6⟩ : ∃ w6, w5.alloc (.cells #[.string ⟨(ahead 58 l0).toArray⟩, .string ⟨(fieldOf l0 r).val.toArray⟩] 57) = w6 := ⟨_, rfl⟩
      have b6 : Below w5.heap.size w5 w6 := by rw [← hw6]; exact below_grow1 _ _
      have hF6 : w6.heap[w5.heap.size]? = some (.cells #[.string ⟨(ahead 58 l0).toArray⟩, .string ⟨(fieldOf l0 r).val.toArray⟩] 57 (0, 0)) := by rw [← hw6]; exact heap_alloc_new _ _
      have hR6 := (b6.block _ (Nat.lt_of_lt_of_le hRl hz5)).trans hR5
      have hW6 := Lib.hid (hW5.out.trans (b6.mono (by omega)))
      have k0 : w6.cell? ⟨w5.heap.size, 0, none⟩ = some (.string ⟨(ahead 58 l0).toArray⟩) := by simp [World.cell?, hF6]
      have k1 : w6.cell? ⟨w5.heap.size, 1, none⟩ = some (.string ⟨(fieldOf l0 r).val.toArray⟩) := by simp [World.cell?, hF6]
      have HF6 := Lib.hid hF6
      have HR6 := Lib.hid hR6
      have hz6 : w5.heap.size < w6.heap.size := (Array.getElem?_eq_some_iff.1 hF6).1
      clear b5 b6 hR5 hR6 hF6 hW5 hR hW J'
      by_cases hlong : 1000 < (fieldOf l0 r).val.length
      · have hN : unfoldN (l0 :: r) = 6 := by rw [unfoldN_cons, if_neg (by simpa using h4), if_neg (by simpa using hall), if_pos hlong]
        rw [if_pos hlong] at C
        go_wp2_with fail
        refine (C.out _).mono ?_
        rintro e w7 ⟨rfl, b7⟩
        have hR7 := (b7.block _ (by omega)).trans HR6.out
        have hF7 := (b7.block _ hz6).trans HF6.out
        have hW7 := Lib.hid (hW6.out.trans (b7.mono (by omega)))
        have m0 : w7.cell? ⟨w5.heap.size, 0, none⟩ = some (.string ⟨(ahead 58 l0).toArray⟩) := by simp [World.cell?, hF7]
        have m1 : w7.cell? ⟨w5.heap.size, 1, none⟩ = some (.string ⟨(fieldOf l0 r).val.toArray⟩) := by simp [World.cell?, hF7]
        have q0 : w7.cell? ⟨w.heap.size, 0, none⟩ = some (.string ⟨#[]⟩) := by simp [World.cell?, hR7]
        have q1 : w7.cell? ⟨w.heap.size, 1, none⟩ = some (.string ⟨#[]⟩) := by simp [World.cell?, hR7]
        have p0 : w7.frozen? ⟨w.heap.size, 0, none⟩ = false := by simp [World.frozen?, hR7]
        have p1 : w7.frozen? ⟨w.heap.size, 1, none⟩ = false := by simp [World.frozen?, hR7]
        have hneb : w5.heap.size ≠ w.heap.size := by omega
        clear b7 hR7 hF7 k0 k1 HF6 HR6
        unfold errV errnoV
        go_wp2
        refine bodyPost_ret (v := .tuple #[fdV ⟨[], []⟩, errV 6]) (by simp [results, Tryz.results85, go_sem, fdV, errV, errnoV, q0, q1]) rfl ⟨by first | rfl | (rw [hN]; rfl), ?_⟩
        exact (hW7.out.setCell (p := ⟨w.heap.size, 0, none⟩) (Nat.le_refl _) _).setCell (p := ⟨w.heap.size, 1, none⟩) (Nat.le_refl _) _
      · have hN : unfoldN (l0 :: r) = 0 := by rw [unfoldN_cons, if_neg (by simpa using h4), if_neg (by simpa using hall), if_neg hlong]
        rw [if_neg hlong] at C
        go_wp2_with fail
        refine (C.out _).mono ?_
        rintro e w7 ⟨rfl, b7⟩
        have hR7 := (b7.block _ (by omega)).trans HR6.out
        have hF7 := (b7.block _ hz6).trans HF6.out
        have hW7 := Lib.hid (hW6.out.trans (b7.mono (by omega)))
        have m0 : w7.cell? ⟨w5.heap.size, 0, none⟩ = some (.string ⟨(ahead 58 l0).toArray⟩) := by simp [World.cell?, hF7]
        have m1 : w7.cell? ⟨w5.heap.size, 1, none⟩ = some (.string ⟨(fieldOf l0 r).val.toArray⟩) := by simp [World.cell?, hF7]
        have q0 : w7.cell? ⟨w.heap.size, 0, none⟩ = some (.string ⟨#[]⟩) := by simp [World.cell?, hR7]
        have q1 : w7.cell? ⟨w.heap.size, 1, none⟩ = some (.string ⟨#[]⟩) := by simp [World.cell?, hR7]
        have p0 : w7.frozen? ⟨w.heap.size, 0, none⟩ = false := by simp [World.frozen?, hR7]
        have p1 : w7.frozen? ⟨w.heap.size, 1, none⟩ = false := by simp [World.frozen?, hR7]
        have hneb : w5.heap.size ≠ w.heap.size := by omega
        clear b7 hR7 hF7 k0 k1 HF6 HR6
        unfold errV
        go_wp2
        refine bodyPost_ret (v := .tuple #[fdV (fieldOf l0 r), errV 0]) (by simp [results, Tryz.results85, go_sem, fdV, errV, fieldOf, q0, q1]) rfl ⟨by first | rfl | (rw [hN]; rfl), ?_⟩
        exact (hW7.out.setCell (p := ⟨w.heap.size, 0, none⟩) (Nat.le_refl _) _).setCell (p := ⟨w.heap.size, 1, none⟩) (Nat.le_refl _) _
set_option maxRecDepth 20000 in
set_option maxHeartbeats 1600000 in
theorem unfold_one (l0 : List UInt8) (r : List (List UInt8)) (h4 : kindOf l0 = 4) (hne : r = []) (v : Value) (w : World) (h : TextsAt w v (l0 :: r))
    (hr : r.length ≤ 1000000) (hsz : ∀ s ∈ l0 :: r, s.length ≤ 1000000) (hj : (fieldOf l0 r).val.length ≤ 1000000) :
    Calls Tryz.prog 85 #[v] w fun e w' => e = .returned (.tuple #[fdV (if unfoldN (l0 :: r) = 0 then fieldOf l0 r else ⟨[], []⟩), errV (unfoldN (l0 :: r))]) ∧ Below w.heap.size w w' := by
  obtain ⟨i0, hi0, hz0, hz1, hz2⟩ := info_parts infoS
  obtain ⟨ao, cp, rfl, hcp, hc⟩ := h
  obtain ⟨g, rfl, hg, hc0⟩ := hc 0 l0 rfl
  have HC := Lib.hid hc
  have hlen : (l0 :: r).length = r.length + 1 := rfl
  rw [hlen] at hcp ⊢
  obtain ⟨s0, hs0⟩ : ∃ s0 : ByteArray, (⟨l0.toArray⟩ : ByteArray) = s0 := ⟨_, rfl⟩
  have hd0 : s0.data.toList = l0 := by rw [← hs0]
  have hz : s0.size ≤ 1000000 := by have := hsz l0 (by simp); rw [← size_len, hd0]; exact this
  rw [hs0] at hc0
  have HZ := Lib.hid hsz
  clear hc hlen hsz
  have K := cut_any s0 (by omega)
  rw [hd0] at K
  rw [show lineCut l0 = (ahead 58 l0, behind 58 l0, true) from by unfold lineCut; rw [if_pos h4]] at K
  have K' := Lib.hid K
  have T' : Hid (∀ w, Calls Tryz.prog 116 #[.string ⟨(behind 58 l0).toArray⟩, .string ⟨#[32]⟩] w fun e w' => e = .returned (.string ⟨(Lib.trimPrefix (behind 58 l0) [32]).toArray⟩) ∧ w' = w) := Lib.hid (fun w => Tryz.strings_TrimPrefix ⟨(behind 58 l0).toArray⟩ ⟨#[32]⟩ w)
  clear K
  go_enter Tryz.func85, Tryz.ntmps85
  go_wp2_with fail
  refine (K'.out _).mono ?_
  rintro e w1 ⟨rfl, b1⟩
  go_wp2_with fail
  refine (T'.out _).mono ?_
  rintro e w2 ⟨rfl, rfl⟩
  subst hne
  go_wp2_with fail
  all_goals
    have R0 : Hid (w2.heap[w.heap.size]? = some (.cells #[.string ⟨#[]⟩, .string ⟨#[]⟩] 57 (0, 0))) := Lib.hid ((b1.block _ (by simp)).trans (heap_alloc_new w _))
    have B0 : Hid (Below w.heap.size w (w2.alloc (.cells #[.string ⟨(Lib.trimPrefix (behind 58 l0) [32]).toArray⟩] 9))) := Lib.hid ((((Below.refl w.heap.size w).alloc (Nat.le_refl _) _).trans (b1.mono (by simp))).alloc (by have := b1.size; simp at this; omega) _)
    have O0 := World.ownsRow_lit (e := 9) (size := 1) (base := w.heap.size + 1) w2 #[.string ⟨(Lib.trimPrefix (behind 58 l0) [32]).toArray⟩] 1 (by have := b1.size; simp at this; omega) (by decide) rfl
    have O0' := Lib.hid O0
    have hw2 := b1.size
    have R1 := Lib.hid (((below_grow1 w2 (.cells #[.string ⟨(Lib.trimPrefix (behind 58 l0) [32]).toArray⟩] 9)).block _ (by simp at hw2; omega)).trans R0.out)
    clear b1 O0 R0
    refine wp_loop_rounds 1 ?_
    rw [rounds_succ]
    obtain ⟨wr, hwr⟩ : ∃ wr, w2.alloc (.cells #[.string ⟨(Lib.trimPrefix (behind 58 l0) [32]).toArray⟩] 9) = wr := ⟨_, rfl⟩
    rw [hwr] at B0 R1 O0' ⊢
    have hO := O0'
    have hR := R1
    have hW := B0
    clear O0' R1 B0 hwr
    go_wp2_with fail
    have hlen2 : (partsOf l0 []).length = ([] : List (List UInt8)).length + 1 := by simp [partsOf]
    obtain ⟨ao2, cp2, hv2, hcp2, hc2⟩ := TextsAt.of hO.out hlen2.symm (by rw [hlen2]; omega)
    rw [hlen2] at hcp2
    injection hv2 with e1 e2 e3
    subst e1
    subst e3
    obtain ⟨g2, eg2, hg2, -⟩ := hc2 0 _ rfl
    cases eg2
    have J := Lib.hid (Tryz.strings_Join w2.heap.size 0 1 ((partsOf l0 []).map fun s => (⟨s.toArray⟩ : ByteArray)) ⟨#[10]⟩ wr (fun j x hx => by
      rw [List.getElem?_map] at hx
      cases hp : (partsOf l0 [])[j]? with
      | none => rw [hp] at hx; cases hx
      | some s =>
        rw [hp] at hx
        cases hx
        obtain ⟨g3, e3, -, h3⟩ := hc2 j s hp
        cases e3
        rw [Nat.zero_add]
        exact h3) hg2 (by rw [List.length_map, hlen2]; omega) (by rw [List.length_map, hlen2]; exact hcp2) (by
        rw [show ((partsOf l0 []).map fun s => (⟨s.toArray⟩ : ByteArray)).map (·.data.toList) = partsOf l0 [] by rw [List.map_map]; exact List.map_id' _]
        exact Nat.le_trans hj (by decide)))
    have J' : Hid (Calls Tryz.prog 68 #[.slice (some ⟨w2.heap.size, 0, none⟩) 1 1, .string ⟨#[10]⟩] wr fun e w' => e = .returned (.string ⟨(fieldOf l0 []).val.toArray⟩) ∧ Below wr.heap.size wr w') := Lib.hid (by
      have := J.out
      rw [show ((partsOf l0 []).map fun s => (⟨s.toArray⟩ : ByteArray)).map (·.data.toList) = partsOf l0 [] by rw [List.map_map]; exact List.map_id' _, List.length_map, hlen2] at this
      exact this)
    have C := Lib.hid (check_any ⟨(ahead 58 l0).toArray⟩ ⟨(fieldOf l0 []).val.toArray⟩ (kind4 h4).2.2)
    have hval : (⟨(fieldOf l0 []).val.toArray⟩ : ByteArray).size = (fieldOf l0 []).val.length := by rw [← size_len]
    rw [hval] at C
    clear J hc2 hO hval hlen2 e2 hcp2
    refine J'.out.mono ?_
    rintro e w5 ⟨rfl, b5⟩
    have hz5 := b5.size
    have hzr := hW.out.size
    have hRl := (Array.getElem?_eq_some_iff.1 hR.out).1
    have hR5 := (b5.block _ hRl).trans hR.out
    have hW5 := Lib.hid (hW.out.trans (b5.mono hzr))
    obtain ⟨w6, hw6⟩ : ∃ w6, w5.alloc (.cells #[.string ⟨(ahead 58 l0).toArray⟩, .string ⟨(fieldOf l0 []).val.toArray⟩] 57) = w6 := ⟨_, rfl⟩
    have b6 : Below w5.heap.size w5 w6 := by rw [← hw6]; exact below_grow1 _ _
    have hF6 : w6.heap[w5.heap.size]? = some (.cells #[.string ⟨(ahead 58 l0).toArray⟩, .string ⟨(fieldOf l0 []).val.toArray⟩] 57 (0, 0)) := by rw [← hw6]; exact heap_alloc_new _ _
    have hR6 := (b6.block _ (Nat.lt_of_lt_of_le hRl hz5)).trans hR5
    have hW6 := Lib.hid (hW5.out.trans (b6.mono (by omega)))
    have k0 : w6.cell? ⟨w5.heap.size, 0, none⟩ = some (.string ⟨(ahead 58 l0).toArray⟩) := by simp [World.cell?, hF6]
    have k1 : w6.cell? ⟨w5.heap.size, 1, none⟩ = some (.string ⟨(fieldOf l0 []).val.toArray⟩) := by simp [World.cell?, hF6]
    have HF6 := Lib.hid hF6
    have HR6 := Lib.hid hR6
    have hz6 : w5.heap.size < w6.heap.size := (Array.getElem?_eq_some_iff.1 hF6).1
    clear b5 b6 hR5 hR6 hF6 hW5 hR hW J'
    by_cases hlong : 1000 < (fieldOf l0 []).val.length
    · have hN : unfoldN (l0 :: []) = 6 := by rw [unfoldN_cons, if_neg (by simpa using h4), if_neg (by simp), if_pos hlong]
      rw [if_pos hlong] at C
      go_wp2_with fail
      refine (C.out _).mono ?_
      rintro e w7 ⟨rfl, b7⟩
      have hR7 := (b7.block _ (by omega)).trans HR6.out
      have hF7 := (b7.block _ hz6).trans HF6.out
      have hW7 := Lib.hid (hW6.out.trans (b7.mono (by omega)))
      have m0 : w7.cell? ⟨w5.heap.size, 0, none⟩ = some (.string ⟨(ahead 58 l0).toArray⟩) := by simp [World.cell?, hF7]
      have m1 : w7.cell? ⟨w5.heap.size, 1, none⟩ = some (.string ⟨(fieldOf l0 []).val.toArray⟩) := by simp [World.cell?, hF7]
      have q0 : w7.cell? ⟨w.heap.size, 0, none⟩ = some (.string ⟨#[]⟩) := by simp [World.cell?, hR7]
      have q1 : w7.cell? ⟨w.heap.size, 1, none⟩ = some (.string ⟨#[]⟩) := by simp [World.cell?, hR7]
      have p0 : w7.frozen? ⟨w.heap.size, 0, none⟩ = false := by simp [World.frozen?, hR7]
      have p1 : w7.frozen? ⟨w.heap.size, 1, none⟩ = false := by simp [World.frozen?, hR7]
      have hneb : w5.heap.size ≠ w.heap.size := by omega
      clear b7 hR7 hF7 k0 k1 HF6 HR6
      unfold errV errnoV
      go_wp2
      refine bodyPost_ret (v := .tuple #[fdV ⟨[], []⟩, errV 6]) (by simp [results, Tryz.results85, go_sem, fdV, errV, errnoV, q0, q1]) rfl ⟨by first | rfl | (rw [hN]; rfl), ?_⟩
      exact (hW7.out.setCell (p := ⟨w.heap.size, 0, none⟩) (Nat.le_refl _) _).setCell (p := ⟨w.heap.size, 1, none⟩) (Nat.le_refl _) _
    · have hN : unfoldN (l0 :: []) = 0 := by rw [unfoldN_cons, if_neg (by simpa using h4), if_neg (by simp), if_neg hlong]
      rw [if_neg hlong] at C
      go_wp2_with fail
      refine (C.out _).mono ?_
      rintro e w7 ⟨rfl, b7⟩
      have hR7 := (b7.block _ (by omega)).trans HR6.out
      have hF7 := (b7.block _ hz6).trans HF6.out
      have hW7 := Lib.hid (hW6.out.trans (b7.mono (by omega)))
      have m0 : w7.cell? ⟨w5.heap.size, 0, none⟩ = some (.string ⟨(ahead 58 l0).toArray⟩) := by simp [World.cell?, hF7]
      have m1 : w7.cell? ⟨w5.heap.size, 1, none⟩ = some (.string ⟨(fieldOf l0 []).val.toArray⟩) := by simp [World.cell?, hF7]
      have q0 : w7.cell? ⟨w.heap.size, 0, none⟩ = some (.string ⟨#[]⟩) := by simp [World.cell?, hR7]
      have q1 : w7.cell? ⟨w.heap.size, 1, none⟩ = some (.string ⟨#[]⟩) := by simp [World.cell?, hR7]
      have p0 : w7.frozen? ⟨w.heap.size, 0, none⟩ = false := by simp [World.frozen?, hR7]
      have p1 : w7.frozen? ⟨w.heap.size, 1, none⟩ = false := by simp [World.frozen?, hR7]
      have hneb : w5.heap.size ≠ w.heap.size := by omega
      clear b7 hR7 hF7 k0 k1 HF6 HR6
      unfold errV
      go_wp2
      refine bodyPost_ret (v := .tuple #[fdV (fieldOf l0 []), errV 0]) (by simp [results, Tryz.results85, go_sem, fdV, errV, fieldOf, q0, q1]) rfl ⟨by first | rfl | (rw [hN]; rfl), ?_⟩
      exact (hW7.out.setCell (p := ⟨w.heap.size, 0, none⟩) (Nat.le_refl _) _).setCell (p := ⟨w.heap.size, 1, none⟩) (Nat.le_refl _) _
theorem unfold_any (l0 : List UInt8) (r : List (List UInt8)) (v : Value) (w : World) (h : TextsAt w v (l0 :: r))
    (hr : r.length ≤ 1000000) (hsz : ∀ s ∈ l0 :: r, s.length ≤ 1000000) (hj : (fieldOf l0 r).val.length ≤ 1000000) :
    Calls Tryz.prog 85 #[v] w fun e w' => e = .returned (.tuple #[fdV (if unfoldN (l0 :: r) = 0 then fieldOf l0 r else ⟨[], []⟩), errV (unfoldN (l0 :: r))]) ∧ Below w.heap.size w w' := by
  by_cases h4 : kindOf l0 = 4
  · by_cases hne : r = []
    · exact unfold_one l0 r h4 hne v w h hr hsz hj
    · exact unfold_more l0 r h4 hne v w h hr hsz hj
  · exact unfold_not l0 r h4 v w h hr hsz hj
end Go.Proofs.YtklbbcemacpimaaGreatDoor.B
