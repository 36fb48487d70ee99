/- The law VfsSwaps, walked. -/
import Derived.Test.YtalonkenchcfbaaDoorDuo
import Derived.Test.YtalonkenchcfbaaDoorAlive
namespace Go.Proofs.YtalonkenchcfbaaDoor
open Go.RowKit Go.Maps

theorem assert_errno (v : Value) (w : World) : (Instr.typeAssert (.iface 57 v) 27 57 true).run Tryd.prog w = .ok (.tuple #[v, .bool true]) w := by kernel_rfl
/-- The number of an error that is ErrNone. -/
theorem num_none (w : World) :
    Calls Tryd.prog 44 #[.iface 57 (.int .i64 7)] w fun e w' => e = .returned (.int .i64 7) ∧ w = w' := by
  have E := assert_errno (.int .i64 7)
  go_enter Tryd.func44, Tryd.ntmps44
  go_wp2_with fail
  refine wp_loop_rounds 1 ?_
  rw [rounds_succ]
  go_wp2_with fail
  go_ret
  exact ⟨rfl, rfl⟩
theorem is_none (w : World) :
    Calls Tryd.prog 32 #[.iface 57 (.int .i64 7), .int .i64 7] w fun e w' => e = .returned (.bool true) ∧ w = w' := by
  have N := Lib.hid (num_none w)
  go_enter Tryd.func32, Tryd.ntmps32
  go_wp2_with fail
  refine N.out.mono ?_
  rintro e w' ⟨rfl, rfl⟩
  go_wp2_with fail
  go_ret
  exact ⟨rfl, rfl⟩
/-! ### The two files' names -/
def nA : ByteArray := ⟨#[97]⟩
def nB : ByteArray := ⟨#[98]⟩
def dir0 : DataW Unit := .map []
def dirA : DataW Unit := .map [(nameK nA, .lit (.int .i64 0))]
def dirAB : DataW Unit := .map [(nameK nA, .lit (.int .i64 0)), (nameK nB, .lit (.int .i64 1))]
def dirB : DataW Unit := .map [(nameK nA, .lit (.int .i64 1))]
theorem playA : play dir0 [En.made nA 0] = dirA := by kernel_rfl
theorem playAB : play dirA [En.made nB 1] = dirAB := by kernel_rfl
theorem playB : play dirA [En.made nB 1, ⟨nA, nB, 1⟩] = dirB := by kernel_rfl
theorem playAB1 : play dirA (List.take 1 [En.made nB 1, ⟨nA, nB, 1⟩]) = dirAB := by kernel_rfl
theorem playB2 : play dirA (List.take 2 [En.made nB 1, ⟨nA, nB, 1⟩]) = dirB := by kernel_rfl
theorem points0 (n : Nat) : Points dir0 n := fun k hk => by cases hk
theorem pointsA (n : Nat) (hn : 0 < n) : Points dirA n := fun k hk => by
  have hk' : k = nameK nA := by
    have : ([(nameK nA, DataW.lit (H := Unit) (Lit.int .i64 0))].any fun p => p.1.sameKey k) = true := hk
    simp at this
    exact (WideAt.sameKey_eq this).symm
  exact ⟨0, hn, fun z => by rw [hk']; rfl⟩
theorem pointsB : Points dirB 2 := fun k hk => by
  have hk' : k = nameK nA := by
    have : ([(nameK nA, DataW.lit (H := Unit) (Lit.int .i64 1))].any fun p => p.1.sameKey k) = true := hk
    simp at this
    exact (WideAt.sameKey_eq this).symm
  exact ⟨1, by decide, fun z => by rw [hk']; rfl⟩
theorem pointsAB : Points dirAB 2 := fun k hk => by
  have hk' : k = nameK nA ∨ k = nameK nB := by
    have : ([(nameK nA, DataW.lit (H := Unit) (Lit.int .i64 0)), (nameK nB, DataW.lit (H := Unit) (Lit.int .i64 1))].any fun p => p.1.sameKey k) = true := hk
    simp at this
    rcases this with h | h
    · exact .inl (WideAt.sameKey_eq h).symm
    · exact .inr (WideAt.sameKey_eq h).symm
  rcases hk' with rfl | rfl
  · exact ⟨0, by decide, fun z => rfl⟩
  · exact ⟨1, by decide, fun z => rfl⟩
theorem one_ok {P : Fl → Prop} {F : Fl} (h : P F) : ∀ G ∈ [F], P G := fun G hG => by obtain rfl := List.mem_singleton.1 hG; exact h
theorem two_ok {P : Fl → Prop} {F F' : Fl} (h : P F) (h' : P F') : ∀ G ∈ [F, F'], P G := fun G hG => by
  rcases List.mem_cons.1 hG with rfl | hG
  · exact h
  · obtain rfl := List.mem_singleton.1 hG; exact h'
/-- A file all of which is sure. -/
def Fl.whole (t : ByteArray) : Fl := ⟨t, []⟩
theorem whole_plain (t : ByteArray) : Plain (Fl.whole t) t.data.toList t.data.toList := ⟨(by intro x hx; cases hx), rfl, (by simp [texts, Fl.whole])⟩
theorem whole_ok (t : ByteArray) (h : t.size ≤ 1000) : (Fl.whole t).Ok := (whole_plain t).ok (by rw [← Lib.size_eq]; omega) (Nat.zero_le _)
theorem ok1 {F : Fl} (h : F.Ok) : StOk [F] dir0 [En.made nA 0] where
  points := points0 _
  fits := by intro e he; obtain rfl := List.mem_singleton.1 he; exact ⟨by decide, by decide, by decide⟩
  names := by decide
  many := by decide
  lots := by show 1 ≤ 1000; decide
  sound := by intro e he; obtain rfl := List.mem_singleton.1 he; intro _; show 0 < 1; decide
  each := one_ok h
theorem ok2 {F : Fl} (h : F.Ok) : StOk [F] dirA [] where
  points := pointsA _ (by show 0 < 1; decide)
  fits := by intro e he; cases he
  names := by decide
  many := by decide
  lots := by show 1 ≤ 1000; decide
  sound := by intro e he; cases he
  each := one_ok h
theorem ok3 {F F' : Fl} (h : F.Ok) (h' : F'.Ok) : StOk [F, F'] dirA [En.made nB 1] where
  points := pointsA _ (by show 0 < 2; decide)
  fits := by intro e he; obtain rfl := List.mem_singleton.1 he; exact ⟨by decide, by decide, by decide⟩
  names := by decide
  many := by decide
  lots := by show 2 ≤ 1000; decide
  sound := by intro e he; obtain rfl := List.mem_singleton.1 he; intro _; show 1 < 2; decide
  each := two_ok h h'
theorem ok4 {F F' : Fl} (h : F.Ok) (h' : F'.Ok) : StOk [F, F'] dirA [En.made nB 1, ⟨nA, nB, 1⟩] where
  points := pointsA _ (by show 0 < 2; decide)
  fits := by
    intro e he
    rcases List.mem_cons.1 he with rfl | he
    · exact ⟨by decide, by decide, by decide⟩
    · obtain rfl := List.mem_singleton.1 he; exact ⟨by decide, by decide, by decide⟩
  names := by decide
  many := by show 2 ≤ 1000; decide
  lots := by show 2 ≤ 1000; decide
  sound := by
    intro e he
    rcases List.mem_cons.1 he with rfl | he
    · intro _; show 1 < 2; decide
    · obtain rfl := List.mem_singleton.1 he; intro _; show 1 < 2; decide
  each := two_ok h h'
theorem ok5 {F F' : Fl} {M : DataW Unit} (h : F.Ok) (h' : F'.Ok) (hp : Points M 2) (hz : Maps.size M ≤ 1000) : StOk [F, F'] M [] where
  points := hp
  fits := by intro e he; cases he
  names := hz
  many := by decide
  lots := by show 2 ≤ 1000; decide
  sound := by intro e he; cases he
  each := two_ok h h'
theorem crash_two (s t : ByteArray) (ks : List Int) : crashFiles [Fl.whole s, Fl.whole t] ks ([Fl.whole s, Fl.whole t] : List Fl).length = [Fl.whole s, Fl.whole t] := by
  unfold crashFiles
  rfl
theorem cut_two (n : Int) : (n ≤ 0 ∧ (max 0 (min n (([En.made nB 1, ⟨nA, nB, 1⟩] : List En).length : Int))).toNat = 0) ∨ (n = 1 ∧ (max 0 (min n (([En.made nB 1, ⟨nA, nB, 1⟩] : List En).length : Int))).toNat = 1) ∨ (2 ≤ n ∧ (max 0 (min n (([En.made nB 1, ⟨nA, nB, 1⟩] : List En).length : Int))).toNat = 2) := by
  have e : (([En.made nB 1, ⟨nA, nB, 1⟩] : List En).length : Int) = 2 := rfl
  rw [e]
  omega
theorem crash_duo {B b : Nat} {w : World} {u na : Nat} {old fresh : ByteArray} (h : StAt B w b 10000 [Fl.whole old, Fl.whole fresh] dirA [En.made nB 1, ⟨nA, nB, 1⟩] u na) (n : Int) (v : Value) (ks : List Int) (hv : HandedInts B w v ks) (hn0 : -9223372036854775808 ≤ n) (hn1 : n ≤ 9223372036854775807) (ho : old.size ≤ 1000) (hf : fresh.size ≤ 1000)
    {c : Nat} {M : DataW Unit} (hc : (max 0 (min n (([En.made nB 1, ⟨nA, nB, 1⟩] : List En).length : Int))).toNat = c) (hM : play dirA (List.take c [En.made nB 1, ⟨nA, nB, 1⟩]) = M) (hp : Points M 2) (hz : Maps.size M ≤ 1000) :
    Calls Tryd.prog 13 #[.pointer (some ⟨b, 0, none⟩), .int .i64 n, v] w (AtPost B b 10000 [Fl.whole old, Fl.whole fresh] M [] u na w (.tuple #[])) := by
  have hk : StOk (crashFiles [Fl.whole old, Fl.whole fresh] ks ([Fl.whole old, Fl.whole fresh] : List Fl).length) (play dirA (List.take (max 0 (min n (([En.made nB 1, ⟨nA, nB, 1⟩] : List En).length : Int))).toNat [En.made nB 1, ⟨nA, nB, 1⟩])) [] := by
    rw [hc, hM, crash_two]; exact ok5 (whole_ok old ho) (whole_ok fresh hf) hp hz
  have CR := crash_at h n v ks hv hn0 hn1 hk
  rw [hc, hM, crash_two] at CR
  exact CR
theorem used1 : usedOf [Fl.fresh] (play dir0 [En.made nA 0]) = 0 := by rw [playA]; rfl
theorem used2 (t : ByteArray) : usedOf [Fl.whole t, Fl.fresh] (play dirA [En.made nB 1]) = t.size := by
  rw [playAB]
  show restSum _ _ _ = _
  simp [restSum, lenOf, Fl.whole, Fl.seen, Fl.behind, Fl.fresh]
  rfl
theorem whole_of {F : Fl} {l : ByteArray} (h : Plain F [] ([] ++ l.data.toList)) : F.seen = l := by
  have := h.seen
  exact ByteArray.ext (Array.toList_inj.mp (by rw [this]; rfl))
theorem plain_ok {F : Fl} {l : ByteArray} (h : Plain F [] ([] ++ l.data.toList)) (hl : l.size ≤ 1000) (hw : F.waits.length ≤ Fl.fresh.waits.length + 1) : F.Ok :=
  h.ok (by rw [List.nil_append, ← Lib.size_eq]; omega) (by have : Fl.fresh.waits.length = 0 := rfl; omega)
set_option maxHeartbeats 3200000 in
set_option maxRecDepth 20000 in
theorem swaps_main (old fresh : ByteArray) (dir : Int) (v : Value) (ks : List Int) (hd0 : -9223372036854775808 ≤ dir) (hd1 : dir ≤ 9223372036854775807) (ho : old.size ≤ 300) (hf : fresh.size ≤ 300) (hk : ks.length ≤ 20) (w : World) (hv : HandedInts w.heap.size w v ks) :
    Calls Tryd.prog 16 #[.string old, .string fresh, .int .i64 dir, v] w fun e w' => e = .returned (.bool true) ∧ Below w.heap.size w w' := by
  have HV := Lib.hid hv
  obtain ⟨ao, cp, rfl, -, -⟩ := hv
  have ho' : (old.size : Int) ≤ 300 := by omega
  have hf' : (fresh.size : Int) ≤ 300 := by omega
  have hk' : (ks.length : Int) ≤ 20 := by omega
  go_enter Tryd.func16, Tryd.ntmps16
  go_wp2_with fail
  refine (alive_any w).mono ?_
  rintro e w1 ⟨rfl, b1⟩
  have B1 := Lib.hid b1
  clear b1
  go_wp2_with fail
  refine (new_st 10000 (by decide) w1).mono ?_
  rintro e w2 ⟨b, rfl, D2, b2⟩
  have S2 : Hid (StAt w1.heap.size w2 b 10000 [] dir0 [] 0 0) := Lib.hid ⟨_, D2, fresh_st _, ⟨points0 _, (by intro e he; cases he), by decide, by decide, by decide, (by intro e he; cases he), (by intro e he; cases he)⟩, by decide, by decide⟩
  have B2 := Lib.hid b2
  clear D2 b2
  go_wp2_with fail
  refine (create_at S2.out (s := nA) (by decide) (by decide) rfl (ok1 fl_fresh_ok) (by decide) (by decide)).mono ?_
  rintro e w3 ⟨rfl, Sx, b3⟩
  have S3 : Hid (StAt w1.heap.size w3 b 10000 [Fl.fresh] dir0 [En.made nA 0] 1 1) := Lib.hid Sx
  have B3 := Lib.hid (B2.out.trans b3)
  clear Sx S2 b3 B2
  go_wp2_with fail
  refine (write_at S3.out (s := nA) (i := 0) (F := Fl.fresh) (by decide) (by decide) (by rw [playA]; rfl) (by rw [playA]; rfl) rfl old (by omega) (by decide) (by decide) (by rw [used1]; omega) Plain.fresh (fun F' p1 p2 => ok1 (plain_ok p1 (by omega) p2)) (by omega) (by decide)).mono ?_
  rintro e w4 ⟨FA, pA, hA, rfl, Sx, b4⟩
  have S4 : Hid (StAt w1.heap.size w4 b 10000 [FA] dir0 [En.made nA 0] (1 + old.size) 2) := Lib.hid Sx
  have B4 := Lib.hid (B3.out.trans b4)
  have eA := whole_of pA
  clear Sx S3 b4 B3 hA pA
  go_wp2_with fail
  refine (sync_at S4.out (s := nA) (i := 0) (F := FA) (by decide) (by decide) (by rw [playA]; rfl) (by rw [playA]; rfl) rfl (ok1 (by rw [eA]; exact whole_ok old (by omega))) (by omega) (by decide)).mono ?_
  rw [eA]
  rintro e w5 ⟨rfl, Sx, b5⟩
  have S5 : Hid (StAt w1.heap.size w5 b 10000 [Fl.whole old] dir0 [En.made nA 0] (1 + old.size + 1) 3) := Lib.hid Sx
  have B5 := Lib.hid (B4.out.trans b5)
  clear Sx S4 b5 B4 eA
  go_wp2_with fail
  have SD := syncDir_at S5.out (by rw [playA]; exact ok2 (whole_ok old (by omega))) (by omega) (by decide)
  rw [playA] at SD
  refine SD.mono ?_
  rintro e w6 ⟨rfl, Sx, b6⟩
  have S6 := Lib.hid Sx
  have B6 := Lib.hid (B5.out.trans b6)
  clear Sx S5 b6 B5 SD
  go_wp2_with fail
  refine (create_at S6.out (s := nB) (by decide) (by decide) rfl (ok3 (whole_ok old (by omega)) fl_fresh_ok) (by omega) (by decide)).mono ?_
  rintro e w7 ⟨rfl, Sx, b7⟩
  have S7 : Hid (StAt w1.heap.size w7 b 10000 [Fl.whole old, Fl.fresh] dirA [En.made nB 1] (1 + old.size + 1 + 1 + 1) 5) := Lib.hid Sx
  have B7 := Lib.hid (B6.out.trans b7)
  clear Sx S6 b7 B6
  go_wp2_with fail
  refine (write_at S7.out (s := nB) (i := 1) (F := Fl.fresh) (by decide) (by decide) (by rw [playAB]; rfl) (by rw [playAB]; rfl) rfl fresh (by omega) (by decide) (by decide) (by rw [used2]; omega) Plain.fresh (fun F' p1 p2 => ok3 (whole_ok old (by omega)) (plain_ok p1 (by omega) p2)) (by omega) (by decide)).mono ?_
  rintro e w8 ⟨FB, pB, hB, rfl, Sx, b8⟩
  have S8 : Hid (StAt w1.heap.size w8 b 10000 [Fl.whole old, FB] dirA [En.made nB 1] (1 + old.size + 1 + 1 + 1 + fresh.size) 6) := Lib.hid Sx
  have B8 := Lib.hid (B7.out.trans b8)
  have eB := whole_of pB
  clear Sx S7 b8 B7 hB pB
  go_wp2_with fail
  refine (sync_at S8.out (s := nB) (i := 1) (F := FB) (by decide) (by decide) (by rw [playAB]; rfl) (by rw [playAB]; rfl) rfl (ok3 (whole_ok old (by omega)) (by rw [eB]; exact whole_ok fresh (by omega))) (by omega) (by decide)).mono ?_
  rw [eB]
  rintro e w9 ⟨rfl, Sx, b9⟩
  have S9 : Hid (StAt w1.heap.size w9 b 10000 [Fl.whole old, Fl.whole fresh] dirA [En.made nB 1] (1 + old.size + 1 + 1 + 1 + fresh.size + 1) 7) := Lib.hid Sx
  have B9 := Lib.hid (B8.out.trans b9)
  clear Sx S8 b9 B8 eB
  go_wp2_with fail
  refine (rename_at S9.out (s := nB) (t := nA) (i := 1) (by decide) (by decide) (by decide) (by rw [playAB]; rfl) (by rw [playAB]; rfl) (by decide) (ok4 (whole_ok old (by omega)) (whole_ok fresh (by omega))) (by omega) (by decide)).mono ?_
  rintro e wa ⟨rfl, Sx, ba⟩
  have Sa : Hid (StAt w1.heap.size wa b 10000 [Fl.whole old, Fl.whole fresh] dirA [En.made nB 1, ⟨nA, nB, 1⟩] (1 + old.size + 1 + 1 + 1 + fresh.size + 1 + 1) 8) := Lib.hid Sx
  have Ba := Lib.hid (B9.out.trans ba)
  clear Sx S9 ba B9
  go_wp2_with fail
  refine (read_at Sa.out (s := nA) (i := 1) (F := Fl.whole fresh) (by decide) (by decide) (by rw [playB]; rfl) (by rw [playB]; rfl) rfl).mono ?_
  rw [show (Fl.whole fresh).seen = fresh from rfl]
  rintro e wb ⟨rfl, bb⟩
  have Sb := Lib.hid (Sa.out.below bb)
  have Bb := Lib.hid (Ba.out.trans (bb.mono (Nat.le_trans (by have := Ba.out.size; omega) (Nat.le_refl _))))
  clear Sa bb Ba
  have ho3 := Lib.hid (whole_ok old (by omega))
  have hf3 := Lib.hid (whole_ok fresh (by omega))
  have hvb0 := HV.out.below (B1.out.trans (Bb.out.mono B1.out.size))
  have hvb : Hid (HandedInts w1.heap.size wb (.slice ao ks.length cp) ks) := Lib.hid (by obtain ⟨ao', c', h1, h2, h3⟩ := hvb0; exact ⟨ao', c', h1, h2, fun k d hd => let ⟨g, o, k1, k2, k3⟩ := h3 k d hd; ⟨g, o, k1, Nat.lt_of_lt_of_le k2 B1.out.size, k3⟩⟩)
  clear hvb0
  rcases cut_two dir with ⟨hdir, hc⟩ | ⟨hdir, hc⟩ | ⟨hdir, hc⟩
  · have CR := Lib.hid (crash_duo Sb.out dir _ ks hvb.out hd0 hd1 (by omega) (by omega) hc rfl (pointsA _ (by decide)) (by decide))
    go_wp2_with fail
    refine CR.out.mono ?_
    rintro e wc ⟨rfl, Sx, bc⟩
    have Sc : Hid (StAt w1.heap.size wc b 10000 [Fl.whole old, Fl.whole fresh] dirA [] (1 + old.size + 1 + 1 + 1 + fresh.size + 1 + 1) 8) := Lib.hid Sx
    have Bc := Lib.hid (Bb.out.trans bc)
    clear Sx bc CR Sb Bb hc
    go_wp2_with fail
    refine (read_at Sc.out (s := nA) (i := 0) (F := Fl.whole old) (by decide) (by decide) rfl rfl rfl).mono ?_
    rw [show (Fl.whole old).seen = old from rfl]
    rintro e wd ⟨rfl, bd⟩
    have Sd := Lib.hid (Sc.out.below bd)
    have Bd := Lib.hid (Bc.out.trans (bd.mono Bc.out.size))
    clear bd Sc Bc
    go_wp2_with fail
    refine (read_no Sd.out (s := nB) (by decide) (by decide) rfl).mono ?_
    rintro e we ⟨rfl, be⟩
    have Be := Lib.hid (Bd.out.trans (be.mono Bd.out.size))
    clear be Sd Bd
    have hdir1 : ¬ dir = 1 := by omega
    go_wp2_with fail
    go_ret
    exact ⟨by simp [hdir1], B1.out.trans (Be.out.mono B1.out.size)⟩
  · subst hdir
    have CR := Lib.hid (crash_duo Sb.out 1 _ ks hvb.out (by decide) (by decide) (by omega) (by omega) hc playAB1 pointsAB (by decide))
    go_wp2_with fail
    refine CR.out.mono ?_
    rintro e wc ⟨rfl, Sx, bc⟩
    have Sc : Hid (StAt w1.heap.size wc b 10000 [Fl.whole old, Fl.whole fresh] dirAB [] (1 + old.size + 1 + 1 + 1 + fresh.size + 1 + 1) 8) := Lib.hid Sx
    have Bc := Lib.hid (Bb.out.trans bc)
    clear Sx bc CR Sb Bb hc
    go_wp2_with fail
    refine (read_at Sc.out (s := nA) (i := 0) (F := Fl.whole old) (by decide) (by decide) rfl rfl rfl).mono ?_
    rw [show (Fl.whole old).seen = old from rfl]
    rintro e wd ⟨rfl, bd⟩
    have Sd := Lib.hid (Sc.out.below bd)
    have Bd := Lib.hid (Bc.out.trans (bd.mono Bc.out.size))
    clear bd Sc Bc
    go_wp2_with fail
    refine (read_at Sd.out (s := nB) (i := 1) (F := Fl.whole fresh) (by decide) (by decide) rfl rfl rfl).mono ?_
    rw [show (Fl.whole fresh).seen = fresh from rfl]
    rintro e we ⟨rfl, be⟩
    have Be := Lib.hid (Bd.out.trans (be.mono Bd.out.size))
    clear be Sd Bd
    go_wp2_with fail
    go_ret
    exact ⟨rfl, B1.out.trans (Be.out.mono B1.out.size)⟩
  · have CR := Lib.hid (crash_duo Sb.out dir _ ks hvb.out hd0 hd1 (by omega) (by omega) hc playB2 pointsB (by decide))
    go_wp2_with fail
    refine CR.out.mono ?_
    rintro e wc ⟨rfl, Sx, bc⟩
    have Sc : Hid (StAt w1.heap.size wc b 10000 [Fl.whole old, Fl.whole fresh] dirB [] (1 + old.size + 1 + 1 + 1 + fresh.size + 1 + 1) 8) := Lib.hid Sx
    have Bc := Lib.hid (Bb.out.trans bc)
    clear Sx bc CR Sb Bb hc
    go_wp2_with fail
    refine (read_at Sc.out (s := nA) (i := 1) (F := Fl.whole fresh) (by decide) (by decide) rfl rfl rfl).mono ?_
    rw [show (Fl.whole fresh).seen = fresh from rfl]
    rintro e wd ⟨rfl, bd⟩
    have Sd := Lib.hid (Sc.out.below bd)
    have Bd := Lib.hid (Bc.out.trans (bd.mono Bc.out.size))
    clear bd Sc Bc
    go_wp2_with fail
    refine (read_no Sd.out (s := nB) (by decide) (by decide) rfl).mono ?_
    rintro e we ⟨rfl, be⟩
    have Be := Lib.hid (Bd.out.trans (be.mono Bd.out.size))
    clear be Sd Bd
    go_wp2_with fail
    refine (is_none _).mono ?_
    rintro e wf ⟨rfl, rfl⟩
    go_wp2_with fail
    go_ret
    exact ⟨rfl, B1.out.trans (Be.out.mono B1.out.size)⟩
/-- Where what is handed in is longer than is played. -/
theorem swaps_long (old fresh : ByteArray) (dir : Int) (v : Value) (ks : List Int) (h : 300 < old.size ∨ 300 < fresh.size ∨ 20 < ks.length) (ho : old.size ≤ 9223372036854775807) (hf : fresh.size ≤ 9223372036854775807) (w : World) (hv : HandedInts w.heap.size w v ks) :
    Calls Tryd.prog 16 #[.string old, .string fresh, .int .i64 dir, v] w fun e w' => e = .returned (.bool true) ∧ Below w.heap.size w w' := by
  obtain ⟨ao, cp, rfl, hkl, -⟩ := hv
  go_enter Tryd.func16, Tryd.ntmps16
  go_wp2_with fail
  refine (alive_any w).mono ?_
  rintro e w1 ⟨rfl, b1⟩
  rcases h with h | h | h
  · have h' : (300 : Int) < (old.size : Int) := by omega
    go_wp2_with fail
    go_ret
    exact ⟨rfl, b1⟩
  · have h' : (300 : Int) < (fresh.size : Int) := by omega
    go_wp2_with fail
    all_goals
      go_ret
      exact ⟨rfl, b1⟩
  · have h' : (20 : Int) < (ks.length : Int) := by omega
    go_wp2_with fail
    all_goals
      go_ret
      exact ⟨rfl, b1⟩
theorem swaps_any (old fresh : ByteArray) (dir : Int) (v : Value) (ks : List Int) (hd0 : -9223372036854775808 ≤ dir) (hd1 : dir ≤ 9223372036854775807) (ho : old.size ≤ 9223372036854775807) (hf : fresh.size ≤ 9223372036854775807) (w : World) (hv : HandedInts w.heap.size w v ks) :
    Calls Tryd.prog 16 #[.string old, .string fresh, .int .i64 dir, v] w fun e w' => e = .returned (.bool true) ∧ Below w.heap.size w w' := by
  by_cases h : 300 < old.size ∨ 300 < fresh.size ∨ 20 < ks.length
  · exact swaps_long old fresh dir v ks h ho hf w hv
  · exact swaps_main old fresh dir v ks hd0 hd1 (by omega) (by omega) (by omega) w hv
theorem vfsSwaps_walk (old fresh : ByteArray) (dir : Int) (v : Value) (ks : List Int) (hd0 : -9223372036854775808 ≤ dir) (hd1 : dir ≤ 9223372036854775807) (ho : old.size ≤ 9223372036854775807) (hf : fresh.size ≤ 9223372036854775807) (w : World) (hv : HandedInts w.heap.size w v ks) :
    Calls Tryd.prog 4 #[.agg #[.string old, .string fresh, .int .i64 dir, v]] w fun e w' => e = .returned (.bool true) ∧ Below w.heap.size w w' := by
  have hb : Below w.heap.size w (w.alloc (.cells #[.string old, .string fresh, .int .i64 dir, v] 42)) := (Below.refl _ _).alloc (Nat.le_refl _) _
  have S := Lib.hid (swaps_any old fresh dir v ks hd0 hd1 ho hf (w.alloc (.cells #[.string old, .string fresh, .int .i64 dir, v] 42)) (by
    obtain ⟨ao', c', h1, h2, h3⟩ := hv.below hb
    exact ⟨ao', c', h1, h2, fun k d hd => let ⟨g, o, k1, k2, k3⟩ := h3 k d hd; ⟨g, o, k1, Nat.lt_of_lt_of_le k2 hb.size, k3⟩⟩))
  have HB := Lib.hid hb
  clear hb
  go_enter Tryd.func4, Tryd.ntmps4
  go_wp2_with fail
  refine S.out.mono ?_
  rintro e w1 ⟨rfl, b1⟩
  go_wp2_with fail
  go_ret
  exact ⟨rfl, HB.out.trans (b1.mono HB.out.size)⟩
end Go.Proofs.YtalonkenchcfbaaDoor
