/- stanzakeeplaw08.alive: the chapter's example. -/
import Derived.Test.YtklbbcemacpimaaGreatDoorIIs
namespace Go.Proofs.YtklbbcemacpimaaGreatDoor.I
open Go Go.Maps Go.Proofs Go.RowKit Go.Sort Go.Shelf

theorem below_upd {own : Nat → Prop} {N : Nat} {w0 w w' : World} (h : Upd own w w') (ho : ∀ b, own b → N ≤ b) (hN : N ≤ w0.heap.size) (hb : Below N w0 w) : Below N w0 w' :=
  ⟨h.os.trans hb.os, h.tape.trans hb.tape, h.output.trans hb.output, Nat.le_trans hb.size h.size, fun k hk => (h.block k (by have := hb.size; omega) fun h2 => by have := ho k h2; omega).trans (hb.block k hk)⟩
/-- Where an index stands that was made behind w0. -/
structure XOn (w0 : World) (own : Nat → Prop) (w : World) (xb n : Nat) (m : Ms) : Prop where
  at_ : XAt own w xb n m
  high : ∀ b, own b → w0.heap.size ≤ b
  below : Below w0.heap.size w0 w
theorem XOn.step {w0 w w' : World} {own : Nat → Prop} {xb n n' : Nat} {m m' : Ms} (h : XOn w0 own w xb n m) (hp : XPost own xb n' m' w w') : ∃ own', XOn w0 own' w' xb n' m' ∧ (∀ b, own' b → own b ∨ w.heap.size ≤ b) ∧ Kept w w' := by
  obtain ⟨own', h1, h2, h3, h4⟩ := hp
  refine ⟨own', ⟨h1, fun b hb => ?_, below_upd h2 h.high (Nat.le_refl _) h.below⟩, h3, h4⟩
  rcases h3 b hb with h5 | h5
  · exact h.high b h5
  · have := h.below.size; omega
theorem XOn.on {w0 w w' : World} {own : Nat → Prop} {xb n : Nat} {m : Ms} (h : XOn w0 own w xb n m) (hb : Below w.heap.size w w') : XOn w0 own w' xb n m :=
  ⟨h.at_.below hb, h.high, h.below.trans (hb.mono h.below.size)⟩
def fx : Fld := ⟨[65], [120]⟩
def fy : Fld := ⟨[65], [121]⟩
theorem lit1 {w : World} {B : Nat} (h : w.heap[B]? = some (.cells #[.string ⟨#[65]⟩, .string ⟨#[120]⟩, .string ⟨#[65]⟩, .string ⟨#[121]⟩] 57 (0, 0))) : FldsAt w (.slice (some ⟨B, 0, none⟩) 2 2) [fx, fy] := by
  refine ⟨some ⟨B, 0, none⟩, 2, rfl, by decide, fun k f hk => ?_⟩
  match k, hk with
  | 0, hk => simp at hk; subst hk; exact ⟨B, 0, rfl, by simp [World.cell?, h, fx], by simp [World.cell?, h, fx]⟩
  | 1, hk => simp at hk; subst hk; exact ⟨B, 0, rfl, by simp [World.cell?, h, fy], by simp [World.cell?, h, fy]⟩
  | k + 2, hk => simp at hk
theorem lit2 {w : World} {B : Nat} (h : w.heap[B]? = some (.cells #[.string ⟨#[65]⟩, .string ⟨#[120]⟩] 57 (0, 0))) : FldsAt w (.slice (some ⟨B, 0, none⟩) 1 1) [fx] := by
  refine ⟨some ⟨B, 0, none⟩, 1, rfl, by decide, fun k f hk => ?_⟩
  match k, hk with
  | 0, hk => simp at hk; subst hk; exact ⟨B, 0, rfl, by simp [World.cell?, h, fx], by simp [World.cell?, h, fx]⟩
  | k + 1, hk => simp at hk
theorem lit3 {w : World} {B : Nat} (h : w.heap[B]? = some (.cells #[.int .i64 1, .int .i64 2] 3 (0, 0))) : IntsAt w (.slice (some ⟨B, 0, none⟩) 2 2) [1, 2] := by
  refine ⟨some ⟨B, 0, none⟩, 2, rfl, by decide, fun k f hk => ?_⟩
  match k, hk with
  | 0, hk => simp at hk; subst hk; exact ⟨_, rfl, by rw [addr_add]; simp [World.cell?, h]⟩
  | 1, hk => simp at hk; subst hk; exact ⟨_, rfl, by rw [addr_add]; simp [World.cell?, h]⟩
  | k + 2, hk => simp at hk
theorem lit4 {w : World} {B : Nat} (h : w.heap[B]? = some (.cells #[.string ⟨#[120]⟩, .string ⟨#[121]⟩] 9 (0, 0))) : StrsAt w (.slice (some ⟨B, 0, none⟩) 2 2) [[120], [121]] := by
  refine ⟨some ⟨B, 0, none⟩, 2, rfl, by decide, fun k f hk => ?_⟩
  match k, hk with
  | 0, hk => simp at hk; subst hk; exact ⟨_, rfl, by rw [addr_add]; simp [World.cell?, h]⟩
  | 1, hk => simp at hk; subst hk; exact ⟨_, rfl, by rw [addr_add]; simp [World.cell?, h]⟩
  | k + 2, hk => simp at hk
theorem m2_is : rPut (rPut [] 1 [fx, fy]) 2 [fx] = [(1, [fx, fy]), (2, [fx])] := by decide
theorem l_eq : rWho (pick [65] [120] [120] false) [(1, [fx, fy]), (2, [fx])] = [1, 2] := by decide +kernel
theorem l_val : addAllS (valsM [65] [(1, [fx, fy]), (2, [fx])]) = [[120], [121]] := by decide +kernel
theorem l_cnt : rCount [65] [120] [(1, [fx, fy]), (2, [fx])] = 2 := by decide +kernel
theorem fine1 : Fine (1, [fx, fy]) := ⟨by decide, by decide, fun f hf => by have := maxLen_is; simp at hf; rcases hf with rfl | rfl <;> simp [fx, fy] <;> omega⟩
theorem fine2 : Fine (2, [fx]) := ⟨by decide, by decide, fun f hf => by have := maxLen_is; simp at hf; subst hf; simp [fx]; omega⟩
set_option maxRecDepth 100000 in
set_option maxHeartbeats 6400000 in
theorem alive_any (w : World) :
    Calls Tryz.prog 5 #[] w fun e w' => e = .returned (.bool true) ∧ Below w.heap.size w w' := by
  have hmx := maxLen_is
  go_enter Tryz.func5, Tryz.ntmps5
  go_wp2_with fail
  refine (new_any w).mono ?_
  rintro e w1 ⟨xb, own1, rfl, hx1, hb1, ho1⟩
  have X1 : Hid (XOn w own1 w1 xb 0 []) := Lib.hid ⟨hx1, ho1, hb1⟩
  clear hx1 hb1 ho1
  go_wp2_with fail
  obtain ⟨w2, hw2⟩ : ∃ w2, w1.alloc (.cells #[.string ⟨#[65]⟩, .string ⟨#[120]⟩, .string ⟨#[65]⟩, .string ⟨#[121]⟩] 57) = w2 := ⟨_, rfl⟩
  have g2 : w2.heap[w1.heap.size]? = some (.cells #[.string ⟨#[65]⟩, .string ⟨#[120]⟩, .string ⟨#[65]⟩, .string ⟨#[121]⟩] 57 (0, 0)) := by rw [← hw2]; exact heap_alloc_new w1 _
  have X2 : Hid (XOn w own1 w2 xb 0 []) := Lib.hid (X1.out.on (by rw [← hw2]; exact below_grow1 w1 _))
  rw [hw2]
  have P1 := Lib.hid (put_any own1 xb 0 [] 1 _ [fx, fy] w2 X2.out.at_ (lit1 g2) fine1 (by decide) (by omega))
  clear hw2 g2 X1
  refine P1.out.mono ?_
  rintro e w3 ⟨rfl, hp⟩
  obtain ⟨own3, x3, -, -⟩ := X2.out.step hp
  have X3 := Lib.hid x3
  clear hp x3 P1 X2
  go_wp2_with fail
  obtain ⟨w4, hw4⟩ : ∃ w4, w3.alloc (.cells #[.string ⟨#[65]⟩, .string ⟨#[120]⟩] 57) = w4 := ⟨_, rfl⟩
  have g4 : w4.heap[w3.heap.size]? = some (.cells #[.string ⟨#[65]⟩, .string ⟨#[120]⟩] 57 (0, 0)) := by rw [← hw4]; exact heap_alloc_new w3 _
  have X4 := Lib.hid (X3.out.on (w' := w4) (by rw [← hw4]; exact below_grow1 w3 _))
  rw [hw4]
  have P2 := Lib.hid (put_any own3 xb _ _ 2 _ [fx] w4 X4.out.at_ (lit2 g4) fine2 (by decide) (by omega))
  clear hw4 g4 X3
  refine P2.out.mono ?_
  rintro e w5 ⟨rfl, hp⟩
  obtain ⟨own5, x5, -, -⟩ := X4.out.step hp
  rw [m2_is] at x5
  have X5 := Lib.hid x5
  clear hp x5 P2 X4
  go_wp2_with fail
  have EQ := Lib.hid ((equal_at X5.out.at_ (by omega) ⟨#[65]⟩ ⟨#[120]⟩ (by rw [hmx]; decide) (by rw [hmx]; decide)).mono fun e w' ha => ha.is fun ss h1 h2 => (who_eq X5.out.at_.rise [65] [120] h1 h2).trans l_eq)
  refine EQ.out.mono ?_
  rintro e w6 ⟨u6, rfl, hu6, hb6⟩
  have X6 := Lib.hid (X5.out.on hb6)
  have U6 := Lib.hid hu6
  clear hu6 hb6 EQ X5
  go_wp2_with fail
  obtain ⟨w7, hw7⟩ : ∃ w7, w6.alloc (.cells #[.int .i64 1, .int .i64 2] 3) = w7 := ⟨_, rfl⟩
  have g7 : w7.heap[w6.heap.size]? = some (.cells #[.int .i64 1, .int .i64 2] 3 (0, 0)) := by rw [← hw7]; exact heap_alloc_new w6 _
  have hb7 : Below w6.heap.size w6 w7 := by rw [← hw7]; exact below_grow1 w6 _
  have X7 := Lib.hid (X6.out.on hb7)
  rw [hw7]
  have S7 := Lib.hid (ints_same _ _ _ w7 (U6.out.below hb7) (lit3 g7))
  clear hw7 g7 hb7 X6 U6
  refine S7.out.mono ?_
  rintro e w8 ⟨rfl, k8, rfl⟩
  have X8 := Lib.hid (X7.out.on (below_dn (Below.refl _ _) k8))
  clear X7 S7
  go_wp2_with fail
  have VA := Lib.hid ((values_at X8.out.at_ (by omega) ⟨#[65]⟩ (by rw [hmx]; decide)).mono fun e w' ha => ha.is fun ss h1 h2 => (vals_eq X8.out.at_.rise [65] h1 h2).trans l_val)
  refine VA.out.mono ?_
  rintro e w9 ⟨u9, rfl, hu9, hb9⟩
  have X9 := Lib.hid (X8.out.on hb9)
  have U9 := Lib.hid hu9
  clear hu9 hb9 VA X8
  go_wp2_with fail
  obtain ⟨wa, hwa⟩ : ∃ wa, w9.alloc (.cells #[.string ⟨#[120]⟩, .string ⟨#[121]⟩] 9) = wa := ⟨_, rfl⟩
  have ga : wa.heap[w9.heap.size]? = some (.cells #[.string ⟨#[120]⟩, .string ⟨#[121]⟩] 9 (0, 0)) := by rw [← hwa]; exact heap_alloc_new w9 _
  have hba : Below w9.heap.size w9 wa := by rw [← hwa]; exact below_grow1 w9 _
  have XA := Lib.hid (X9.out.on hba)
  rw [hwa]
  have SA := Lib.hid (texts_same _ _ _ wa (U9.out.below hba) (lit4 ga))
  clear hwa ga hba X9 U9
  refine SA.out.mono ?_
  rintro e wb ⟨rfl, kb, rfl⟩
  have XB := Lib.hid (XA.out.on (below_dn (Below.refl _ _) kb))
  clear XA SA
  go_wp2_with fail
  have CO := Lib.hid (count_at XB.out.at_ (by omega) ⟨#[65]⟩ ⟨#[120]⟩ (by rw [hmx]; decide) (by rw [hmx]; decide))
  refine CO.out.mono ?_
  rintro e wc ⟨rfl, hbc⟩
  have FB := Lib.hid (XB.out.on hbc).below
  have hc2 : rCount (⟨#[65]⟩ : ByteArray).data.toList (⟨#[120]⟩ : ByteArray).data.toList [(1, [fx, fy]), (2, [fx])] = 2 := l_cnt
  rw [hc2]
  clear CO hbc XB hc2
  go_wp2_with fail
  go_ret
  exact ⟨rfl, FB.out⟩
end Go.Proofs.YtklbbcemacpimaaGreatDoor.I
