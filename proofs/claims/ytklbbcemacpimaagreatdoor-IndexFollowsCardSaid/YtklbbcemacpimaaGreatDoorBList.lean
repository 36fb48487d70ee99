/- A text's items: stanza.Parse. stanza.Parse, walked. A text's list: list.Of. -/
import Derived.Test.YtklbbcemacpimaaGreatDoorBTaken
namespace Go.Proofs.YtklbbcemacpimaaGreatDoor.B
open Go.RowKit Go.Shelf

/-! ### How much a parser holds -/
def lineSum (xs : List LineD) : Nat := (xs.map fun x => x.text.length + 1).sum
theorem lineSum_cons (x : LineD) (r : List LineD) : lineSum (x :: r) = x.text.length + 1 + lineSum r := by simp [lineSum]
theorem lineSum_prefix {pre xs : List LineD} (h : pre <+: xs) : lineSum pre ≤ lineSum xs := by
  obtain ⟨t, rfl⟩ := h
  simp [lineSum]
theorem ahead_behind (l : List UInt8) : (ahead 10 l).length + (behind 10 l).length + (if has 10 l then 1 else 0) = l.length := by
  rcases h : has 10 l with _ | _
  · rw [ahead_none _ _ h, behind_none _ _ h]; simp
  · have := ahead_append 10 l h
    have e := congrArg List.length this
    simp at e
    simp
    omega
theorem split_sum (size : Nat) : ∀ (f no : Nat) (l : List UInt8), l.length ≤ f → lineSum (splitFrom size f no l) ≤ l.length + 1
  | 0, no, l, h => by
    have : l = [] := List.length_eq_zero_iff.1 (by omega)
    subst this; simp [splitFrom, lineSum]
  | f + 1, no, l, h => by
    by_cases hl : l = []
    · subst hl; rw [splitFrom_nil]; simp [lineSum]
    · obtain ⟨f', e1, e2, e3⟩ := splitFrom_cons size (f + 1) no l hl h
      have e4 : f' = f := by omega
      subst e4
      rw [e3, lineSum_cons]
      have h1 := ahead_behind l
      have h2 := split_sum size f' (no + 1) (behind 10 l) e2
      by_cases hb : behind 10 l = []
      · rw [hb, splitFrom_nil]
        show (ahead 10 l).length + 1 + 0 ≤ _
        split at h1 <;> omega
      · rcases hh : has 10 l with _ | _
        · exact absurd (behind_none _ _ hh) hb
        · rw [hh] at h1
          simp at h1
          show (ahead 10 l).length + 1 + _ ≤ _
          omega
theorem splitL_sum (l : List UInt8) : lineSum (splitL l) ≤ l.length + 1 := split_sum _ _ _ _ (Nat.le_refl _)
theorem lineSum_mem {xs : List LineD} {x : LineD} (h : x ∈ xs) : x.text.length + 1 ≤ lineSum xs := by
  induction xs with
  | nil => cases h
  | cons y r ih =>
    rw [lineSum_cons]
    rcases List.mem_cons.1 h with rfl | h
    · omega
    · have := ih h; omega
theorem PsOk.up {p : Ps} {N M : Nat} (h : PsOk p N) (hM : N ≤ M) : PsOk p M := ⟨Nat.le_trans h.lines hM, Nat.le_trans h.block hM, Nat.le_trans h.items hM, Nat.le_trans h.fields hM, Nat.le_trans h.records hM⟩
theorem take_ok {p : Ps} {N : Nat} (h : PsOk p N) (x : LineD) : PsOk (p.take x).st (N + 6 * (x.text.length + 1)) := by
  have ha := aheadOf_ok h x (kindOf x.text) (N + x.text.length + 3) (Nat.le_refl _)
  unfold Ps.take
  split
  · exact ha.up (by omega)
  · generalize (p.aheadOf x (kindOf x.text)).st = q at ha ⊢
    obtain ⟨h1, h2, h3, h4, h5⟩ := ha
    unfold Ps.taken
    split
    · exact ⟨by show massOf q.lines ≤ _; omega, by show massOf q.block ≤ _; omega, by show q.items.length ≤ _; omega, by show q.fields.length ≤ _; omega, by show q.records ≤ _; omega⟩
    split
    · exact ⟨by show massOf q.lines ≤ _; omega, by show massOf q.block ≤ _; omega, by show (q.items ++ [_]).length ≤ _; rw [List.length_append]; simp; omega, by show q.fields.length ≤ _; omega, by show q.records ≤ _; omega⟩
    split
    · exact ⟨by show massOf [x.text] ≤ _; simp [massOf]; omega, by show massOf (q.block ++ [x.text]) ≤ _; rw [massOf_snoc]; omega, by show q.items.length ≤ _; omega, by show q.fields.length ≤ _; omega, by show q.records ≤ _; omega⟩
    · exact ⟨by show massOf q.lines ≤ _; omega, by show massOf (q.block ++ [x.text]) ≤ _; rw [massOf_snoc]; omega, by show q.items.length ≤ _; omega, by show q.fields.length ≤ _; omega, by show q.records ≤ _; omega⟩
theorem parseFrom_ok : ∀ (xs : List LineD) {p : Ps} {N : Nat}, PsOk p N → PsOk (parseFrom p xs).st (N + 6 * lineSum xs)
  | [], p, N, h => h.up (by omega)
  | x :: r, p, N, h => by
    have h1 := take_ok h x
    unfold parseFrom
    rw [lineSum_cons]
    split
    · exact h1.up (by omega)
    · exact (parseFrom_ok r h1).up (by omega)
theorem zero_ok : PsOk Ps.zero 0 := ⟨by decide, by decide, by decide, by decide, by decide⟩
theorem prefix_ok {s : List UInt8} {pre : List LineD} (hs : s.length ≤ 60000) (h : pre <+: splitL s) : PsOk (parseFrom Ps.zero pre).st 800000 := by
  have h1 := parseFrom_ok pre zero_ok
  have h2 := lineSum_prefix h
  have h3 := splitL_sum s
  exact h1.up (by omega)
/-! ### Where the loop stands -/
/-- Items lie in a row. -/
structure ItemsAt (w : World) (ρ : Col) (v : Value) (xs : List It) (vs : List Value) : Prop where
  row : Row w ρ 2 65 3 v xs.length (itemCells xs vs)
  len : vs.length = xs.length
  its : ∀ (i : Nat) u x, vs[i]? = some u → xs[i]? = some x → Row w ρ (5 + i) 57 2 u x.fields.length (x.fields.flatMap Fd.cells)
  fits : Fits w ρ
/-- The range's invariant: the parser lies in block N + 2. -/
structure PI (N : Nat) (w W0 : World) (p : Ps) (W : World) : Prop where
  os : W.os = w.os
  tape : W.tape = w.tape
  output : W.output = w.output
  size : N + 5 ≤ W.heap.size
  kept : ∀ k, k < N + 5 → k ≠ N + 2 → W.heap[k]? = W0.heap[k]?
  par : ∃ ρ, IsParser W ρ (N + 2) p ∧ ∀ k, k < N + 8 → k ≠ N + 2 → ρ k = none
theorem PI.touch {N : Nat} {w W0 W W' : World} {p : Ps} (h : PI N w W0 p W) (ht : Touch (N + 5) W W') : PI N w W0 p W' where
  os := ht.os.trans h.os
  tape := ht.tape.trans h.tape
  output := ht.output.trans h.output
  size := Nat.le_trans h.size ht.size
  kept := fun k hk hn => (ht.block k (.inl hk)).trans (h.kept k hk hn)
  par := by
    obtain ⟨ρ, ⟨L, hp⟩, hρ⟩ := h.par
    refine ⟨ρ, ⟨L, hp.keep (Ext.refl _ _) (σ := fun k => if N + 5 ≤ k ∧ k < N + 8 then some 0 else none) ⟨ht.os, ht.tape, ht.output, ht.size, fun k _ hn => ht.block k ?_⟩ ?_ (hp.fits.more ht.size)⟩, hρ⟩
    · by_cases e : N + 5 ≤ k ∧ k < N + 8
      · rw [if_pos e] at hn; cases hn
      · omega
    · intro k hk
      by_cases e : N + 5 ≤ k ∧ k < N + 8
      · exact absurd (hρ k e.2 (by omega)) hk
      · exact if_neg e
theorem PI.alloc {N : Nat} {w W0 W : World} {p : Ps} (h : PI N w W0 p W) (o : Obj) : PI N w W0 p (W.alloc o) where
  os := h.os
  tape := h.tape
  output := h.output
  size := by have := h.size; simp; omega
  kept := fun k hk hn => ((below_grow1 W o).block k (by have := h.size; omega)).trans (h.kept k hk hn)
  par := by
    obtain ⟨ρ, hp, hρ⟩ := h.par
    exact ⟨ρ, hp.below (below_grow1 W o), hρ⟩
theorem parser_new {W : World} {b : Nat} (hW : W.heap[b]? = some (.cells #[.slice none 0 0, .int .i64 0, .bool false, .slice none 0 0, .slice none 0 0, .slice none 0 0, .int .i64 0] 106 (0, 0))) :
    IsParser W (paint (fun _ => none) b 0) b Ps.zero := by
  refine ⟨⟨.slice none 0 0, .slice none 0 0, .slice none 0 0, .slice none 0 0, []⟩, ⟨⟨hW, paint_here _ _ _⟩, Row.nil _ _ _ _ _, Row.nil _ _ _ _ _, Row.nil _ _ _ _ _, Row.nil _ _ _ _ _, rfl, fun i v x h => by simp at h, fun _ => rfl, fun k hk => ?_⟩⟩
  by_cases e : k = b
  · rw [e]; exact (Array.getElem?_eq_some_iff.1 hW).1
  · rw [paint_else _ e] at hk; exact absurd rfl hk
/-- How the loop is left early. -/
structure PX (N : Nat) (w : World) (r : Res) (W : World) : Prop where
  below : Below N w W
  items : W.heap[N]? = some (.cells #[.slice none 0 0] 58 (0, 0))
  bad : r.err ≠ 0
  err : ∃ g, W.heap[N + 1]? = some (.cells #[faultV g] 25 (0, 0)) ∧ N + 8 ≤ g ∧ FaultAt W g r.at_ r.err
end Go.Proofs.YtklbbcemacpimaaGreatDoor.B

namespace Go.Proofs.YtklbbcemacpimaaGreatDoor.B
open Go.RowKit Go.Shelf
attribute [local go_sem] Oper.semAt_some

theorem alloc5 (w : World) (a b c d e : Obj) : (((((w.alloc a).alloc b).alloc c).alloc d).alloc e).heap[w.heap.size]? = some a ∧ (((((w.alloc a).alloc b).alloc c).alloc d).alloc e).heap[w.heap.size + 1]? = some b ∧ (((((w.alloc a).alloc b).alloc c).alloc d).alloc e).heap[w.heap.size + 2]? = some c ∧
    (((((w.alloc a).alloc b).alloc c).alloc d).alloc e).heap[w.heap.size + 3]? = some d ∧ (((((w.alloc a).alloc b).alloc c).alloc d).alloc e).heap[w.heap.size + 4]? = some e ∧ ∀ k, k < w.heap.size → (((((w.alloc a).alloc b).alloc c).alloc d).alloc e).heap[k]? = w.heap[k]? := by
  have h : (((((w.alloc a).alloc b).alloc c).alloc d).alloc e).heap = ((((w.heap.push a).push b).push c).push d).push e := rfl
  rw [h]
  refine ⟨?_, ?_, ?_, ?_, ?_, fun k hk => ?_⟩ <;> simp only [Array.getElem?_push, Array.size_push]
  · rw [if_neg (by omega), if_neg (by omega), if_neg (by omega), if_neg (by omega), if_pos trivial]
  · rw [if_neg (by omega), if_neg (by omega), if_neg (by omega), if_pos trivial]
  · rw [if_neg (by omega), if_neg (by omega), if_pos trivial]
  · rw [if_neg (by omega), if_pos trivial]
  · rw [if_pos trivial]
  · rw [if_neg (by omega), if_neg (by omega), if_neg (by omega), if_neg (by omega), if_neg (by omega)]
/-- What Parse answers of a text that is not too long. -/
def ParsePost (s : List UInt8) (w : World) (e : Ending) (w' : World) : Prop :=
  if (parse s).err = 0 then ∃ v ρ vs, e = .returned (.tuple #[v, .nilIface]) ∧ ItemsAt w' ρ v (parse s).st.items vs ∧ (∀ k, k < w.heap.size → ρ k = none) ∧ Below w.heap.size w w'
  else ∃ g, e = .returned (.tuple #[.slice none 0 0, faultV g]) ∧ w.heap.size ≤ g ∧ FaultAt w' g (parse s).at_ (parse s).err ∧ Below w.heap.size w w'
set_option maxRecDepth 20000 in
set_option maxHeartbeats 3200000 in
theorem parse_any (s : ByteArray) (hs : s.size ≤ 60000) (w : World) : Calls Tryz.prog 26 #[.string s] w (ParsePost s.data.toList w) := by
  have hs' : ¬ (60000 : Int) < s.size := by omega
  refine calls_marks Tryz.func26 rfl ?_
  simp only [Tryz.ntmps26, List.size_toArray, List.length_cons, List.length_nil, Nat.reduceAdd, Nat.reduceSub, Array.replicate_succ, Array.replicate_zero, List.push_toArray, List.append_toArray, List.nil_append, List.cons_append]
  go_wp2_with fail
  refine (Split_any _ _).mono ?_
  rintro e w3 ⟨rfl, rfl⟩
  go_wp2_with fail
  obtain ⟨N, hN⟩ : ∃ N, w.heap.size = N := ⟨_, rfl⟩
  simp only [hN]
  obtain ⟨W0, hW0⟩ : ∃ W0, ((((w.alloc (.cells #[.slice none 0 0] 58)).alloc (.cells #[.nilIface] 25)).alloc (.cells #[.slice none 0 0, .int .i64 0, .bool false, .slice none 0 0, .slice none 0 0, .slice none 0 0, .int .i64 0] 106)).alloc (.cells #[.pointer (some ⟨N + 1 + 1, 0, none⟩)] 102)).alloc (.cells #[.string s] 9) = W0 := ⟨_, rfl⟩
  have s0 : W0.heap.size = N + 5 := by rw [← hW0]; simp [hN]
  have G := Lib.hid (alloc5 w (.cells #[.slice none 0 0] 58) (.cells #[.nilIface] 25) (.cells #[.slice none 0 0, .int .i64 0, .bool false, .slice none 0 0, .slice none 0 0, .slice none 0 0, .int .i64 0] 106) (.cells #[.pointer (some ⟨N + 1 + 1, 0, none⟩)] 102) (.cells #[.string s] 9))
  rw [hW0, hN] at G
  have D0 : PI N w W0 Ps.zero W0 := ⟨by rw [← hW0]; rfl, by rw [← hW0]; rfl, by rw [← hW0]; rfl, by omega, fun _ _ _ => rfl, _, parser_new G.out.2.2.1, fun k _ hk => paint_else _ hk⟩
  have hB0 : Hid (∀ W p, PI N w W0 p W → Below N w W) := Lib.hid fun W p h => ⟨h.os, h.tape, h.output, by have := h.size; omega, fun k hk => (h.kept k (by omega) (by omega)).trans (G.out.2.2.2.2.2 k (by omega))⟩
  try rw [hW0]
  clear hW0
  have hsl : s.data.toList.length ≤ 60000 := by rw [size_len]; exact hs
  refine wp_range_split_box 5 (N + 4) s (by omega) rfl (by simp [World.cell?, G.out.2.2.2.2.1]) (by omega)
    (fun pre W => PI N w W0 (parseFrom Ps.zero pre).st W ∧ (parseFrom Ps.zero pre).err = 0)
    (fun c pre W => c = .ret ∧ PX N w (parseFrom Ps.zero pre) W) ?hI ?hIx ?h0 ?assign ?hIa ?body ?done ?stop
  case hI =>
    rintro pre W W' ⟨h1, h2⟩ ht
    rw [s0] at ht
    exact ⟨h1.touch ht, h2⟩
  case hIx =>
    rintro c pre W W' ⟨rfl, h1, h2, h3, g, h4, h5, h6⟩ ht
    rw [s0] at ht
    refine ⟨rfl, ⟨ht.os.trans h1.os, ht.tape.trans h1.tape, ht.output.trans h1.output, Nat.le_trans h1.size ht.size, fun k hk => (ht.block k (.inl (by omega))).trans (h1.block k hk)⟩, (ht.block _ (.inl (by omega))).trans h2, h3, g, (ht.block _ (.inl (by omega))).trans h4, h5, (ht.block _ (.inr (by omega))).trans h6⟩
  case h0 => exact ⟨D0, rfl⟩
  case hIa =>
    rintro pre W o ⟨h1, h2⟩ _
    exact ⟨h1.alloc o, h2⟩
  case assign =>
    intro l x W K hK
    have hv : x.val = .agg #[.int .i64 x.no, .int .i64 x.at_, .string ⟨x.text.toArray⟩, .bool x.ended] := rfl
    have hc : lineCells x = [.int .i64 x.no, .int .i64 x.at_, .string ⟨x.text.toArray⟩, .bool x.ended] := rfl
    rw [hv, hc] at hK
    rw [hv]
    have HK := Lib.hid hK
    clear hK hv hc
    gi_wp2
    have h := HK.out
    simp at h
    exact h
  case body =>
    rintro l pre x Bx W ⟨hPI, hE⟩ hBx hxB hpf
    rw [s0] at hBx ⊢
    have hmem : x ∈ splitL s.data.toList := by obtain ⟨t, ht⟩ := hpf; rw [← ht]; simp
    have hxl : x.text.length ≤ 60000 := by
      have h1 := lineSum_mem hmem
      have h2 := splitL_sum s.data.toList
      omega
    have hok := prefix_ok hsl ((List.prefix_append pre [x]).trans hpf)
    have hsn := parseFrom_snoc Ps.zero pre x hE
    obtain ⟨ρ, ⟨L, hp⟩, hρ⟩ := hPI.par
    have T := Lib.hid (take_any W ρ (N + 2) _ L hp hok x hxl)
    rw [show LineD.val x = .agg #[.int .i64 x.no, .int .i64 x.at_, .string ⟨x.text.toArray⟩, .bool x.ended] from rfl]
    have c3 : W.cell? ⟨N + 1 + 1 + 1, 0, none⟩ = some (.pointer (some ⟨N + 1 + 1, 0, none⟩)) := by
      have := (hPI.kept (N + 3) (by omega) (by omega)).trans G.out.2.2.2.1
      simp [World.cell?, this]
    have m0 : W.cell? ⟨Bx, 0, none⟩ = some (.int .i64 x.no) := by simp [World.cell?, hxB, lineCells]
    have m1 : W.cell? ⟨Bx, 1, none⟩ = some (.int .i64 x.at_) := by simp [World.cell?, hxB, lineCells]
    have m2 : W.cell? ⟨Bx, 2, none⟩ = some (.string ⟨x.text.toArray⟩) := by simp [World.cell?, hxB, lineCells]
    have m3 : W.cell? ⟨Bx, 3, none⟩ = some (.bool x.ended) := by simp [World.cell?, hxB, lineCells]
    have hWs : N + 8 < W.heap.size := Nat.lt_of_le_of_lt hBx (Array.getElem?_eq_some_iff.1 hxB).1
    have HPI := Lib.hid hPI
    have HSN := Lib.hid hsn
    have HRho := Lib.hid hρ
    clear hPI hp hok hsn hρ hpf hmem hxB
    obtain ⟨q, hq⟩ : ∃ q, (parseFrom Ps.zero pre).st = q := ⟨_, rfl⟩
    rw [hq] at T HPI HSN
    by_cases he : (q.take x).err = 0
    · have T' := Lib.hid (T.out.mono fun e w' h => h.pos he)
      have HE := Lib.hid (show parseFrom Ps.zero (pre ++ [x]) = ⟨0, 0, (q.take x).st⟩ by rw [HSN.out, if_neg (by rw [he]; simp)])
      clear T hE hq he HSN
      gi_wp2_with (refine ⟨trivial, ?_⟩; gi_at_call 43; refine (CallsIn.inRound l (callsIn_wide.2 T'.out)).mono ?_; rintro e w' ⟨rfl, hB⟩)
      obtain ⟨ρ', hp', he', hk'⟩ := hB
      refine ⟨⟨hk'.size, fun k a b => hk'.block k (by omega) (HRho.out k (by omega) (by omega)), hk'.block _ (by omega) (HRho.out _ (by omega) (by omega))⟩, ?_⟩
      show PI N w W0 (parseFrom Ps.zero (pre ++ [x])).st w' ∧ (parseFrom Ps.zero (pre ++ [x])).err = 0
      rw [HE.out]
      exact ⟨⟨hk'.os.trans HPI.out.os, hk'.tape.trans HPI.out.tape, hk'.output.trans HPI.out.output, Nat.le_trans HPI.out.size hk'.size, fun k a b => (hk'.block k (by omega) (HRho.out k (by omega) b)).trans (HPI.out.kept k a b), ρ', hp', fun k a b => (he' k (by omega)).trans (HRho.out k a b)⟩, rfl⟩
    · have T' := Lib.hid (T.out.mono fun e w' h => h.neg he)
      have HE := Lib.hid (show parseFrom Ps.zero (pre ++ [x]) = q.take x by rw [HSN.out, if_pos he])
      have HNE := Lib.hid he
      clear T hE hq he HSN
      unfold faultV at T'
      gi_wp2_with (refine ⟨trivial, ?_⟩; gi_at_call 43; refine (CallsIn.inRound l (callsIn_wide.2 T'.out)).mono ?_; rintro e w' ⟨g, rfl, hg1, hg2, hk⟩; have y0 : w'.heap[N]? = some (.cells #[.slice none 0 0] 58 (0, 0)) := (hk.block N (by omega) (HRho.out N (by omega) (by omega))).trans ((HPI.out.kept N (by omega) (by omega)).trans G.out.1); have y1 : w'.heap[N + 1]? = some (.cells #[.nilIface] 25 (0, 0)) := (hk.block _ (by omega) (HRho.out _ (by omega) (by omega))).trans ((HPI.out.kept _ (by omega) (by omega)).trans G.out.2.1); have z0 : w'.cell? ⟨N, 0, none⟩ = some (.slice none 0 0) := (by simp [World.cell?, y0]); have z1 : w'.cell? ⟨N + 1, 0, none⟩ = some .nilIface := (by simp [World.cell?, y1]); have v0 : w'.frozen? ⟨N, 0, none⟩ = false := (by simp [World.frozen?, y0]); have v1 : w'.frozen? ⟨N + 1, 0, none⟩ = false := (by simp [World.frozen?, y1]); have Y0 := Lib.hid y0; have Y1 := Lib.hid y1; have HG2 := Lib.hid hg2; have HKK := Lib.hid hk; clear y0 y1 hg2 hk)
      have hkk := HKK.out
      have hsz : ((w'.setCell ⟨N, 0, none⟩ (.slice none 0 0)).setCell ⟨N + 1, 0, none⟩ (faultV g)).heap.size = w'.heap.size := by simp [World.setCell]
      have hoth : ∀ k, k ≠ N → k ≠ N + 1 → ((w'.setCell ⟨N, 0, none⟩ (.slice none 0 0)).setCell ⟨N + 1, 0, none⟩ (faultV g)).heap[k]? = w'.heap[k]? := fun k a b => (Below.heap_setCell _ _ _ _ b).trans (Below.heap_setCell _ _ _ _ a)
      have hz := hkk.size
      refine ⟨⟨by show _ ≤ ((w'.setCell ⟨N, 0, none⟩ (.slice none 0 0)).setCell ⟨N + 1, 0, none⟩ (faultV g)).heap.size; rw [hsz]; exact hz, fun k a b => (hoth k (by omega) (by omega)).trans (hkk.block k (by omega) (HRho.out k (by omega) (by omega))), (hoth _ (by omega) (by omega)).trans (hkk.block _ (by omega) (HRho.out _ (by omega) (by omega)))⟩, rfl, ?_⟩
      rw [HE.out]
      have hbw := hB0.out W _ HPI.out
      refine ⟨⟨hkk.os.trans hbw.os, hkk.tape.trans hbw.tape, hkk.output.trans hbw.output, ?_, fun k a => ?_⟩, ?_, HNE.out, g, ?_, by omega, ?_⟩
      · have := hbw.size
        show _ ≤ ((w'.setCell ⟨N, 0, none⟩ (.slice none 0 0)).setCell ⟨N + 1, 0, none⟩ (faultV g)).heap.size
        rw [hsz]; omega
      · exact (hoth k (by omega) (by omega)).trans ((hkk.block k (by omega) (HRho.out k (by omega) (by omega))).trans (hbw.block k a))
      · exact (Below.heap_setCell _ _ _ _ (by simp)).trans (setCell_block _ Y0.out)
      · exact setCell_block _ ((Below.heap_setCell _ _ _ _ (by simp)).trans Y1.out)
      · exact (hoth g (by omega) (by omega)).trans HG2.out
  case done =>
    rintro W ⟨hPI, hE⟩ hz hK
    rw [s0] at hz hK
    obtain ⟨ρ, ⟨L, hp⟩, hρ⟩ := hPI.par
    have hok := prefix_ok hsl (List.prefix_rfl : splitL s.data.toList <+: splitL s.data.toList)
    obtain ⟨q, hq⟩ : ∃ q, (parseFrom Ps.zero (splitL s.data.toList)).st = q := ⟨_, rfl⟩
    have hpar : Hid (parse s.data.toList = q.fin) := Lib.hid (by unfold parse; rw [if_neg (by rw [hE]; simp), hq])
    rw [hq] at hp hok hPI
    have T := Lib.hid (end_any W ρ (N + 2) q L hp (hok.up (by omega)))
    have c3 : W.cell? ⟨N + 1 + 1 + 1, 0, none⟩ = some (.pointer (some ⟨N + 1 + 1, 0, none⟩)) := by
      have := (hPI.kept (N + 3) (by omega) (by omega)).trans G.out.2.2.2.1
      simp [World.cell?, this]
    have HPI := Lib.hid hPI
    have HK := Lib.hid hK
    have HRho := Lib.hid hρ
    have hzW := hPI.size
    clear hPI hp hok hρ hK hE hq
    by_cases he : q.fin.err = 0
    · have T' := Lib.hid (T.out.mono fun e w' h => h.pos he)
      have HEE := Lib.hid he
      clear T he
      go_wp2_with fail
      refine T'.out.mono ?_
      rintro e w' ⟨rfl, ρ', ⟨L', hp'⟩, he', hk'⟩
      have y0 : w'.heap[N]? = some (.cells #[.slice none 0 0] 58 (0, 0)) := (hk'.block N (by omega) (HRho.out N (by omega) (by omega))).trans ((HPI.out.kept N (by omega) (by omega)).trans G.out.1)
      have y1 : w'.heap[N + 1]? = some (.cells #[.nilIface] 25 (0, 0)) := (hk'.block _ (by omega) (HRho.out _ (by omega) (by omega))).trans ((HPI.out.kept _ (by omega) (by omega)).trans G.out.2.1)
      have y3 : w'.heap[N + 3]? = some (.cells #[.pointer (some ⟨N + 1 + 1, 0, none⟩)] 102 (0, 0)) := (hk'.block _ (by omega) (HRho.out _ (by omega) (by omega))).trans ((HPI.out.kept _ (by omega) (by omega)).trans G.out.2.2.2.1)
      have y5 : w'.heap[N + 5]? = some (.deferred (some [])) := (hk'.block _ (by omega) (HRho.out _ (by omega) (by omega))).trans HK.out
      have z0 : w'.cell? ⟨N, 0, none⟩ = some (.slice none 0 0) := by simp [World.cell?, y0]
      have z1 : w'.cell? ⟨N + 1, 0, none⟩ = some .nilIface := by simp [World.cell?, y1]
      have z3 : w'.cell? ⟨N + 1 + 1 + 1, 0, none⟩ = some (.pointer (some ⟨N + 1 + 1, 0, none⟩)) := by simp [World.cell?, y3]
      have zi : w'.cell? ⟨N + 1 + 1, 3, none⟩ = some L'.vi := hp'.cells.c3
      have v0 : w'.frozen? ⟨N, 0, none⟩ = false := by simp [World.frozen?, y0]
      have v1 : w'.frozen? ⟨N + 1, 0, none⟩ = false := by simp [World.frozen?, y1]
      have hvi : ∃ ao cp, L'.vi = .slice ao q.fin.st.items.length cp := hp'.rowI.shape
      obtain ⟨ao, cp, hvi⟩ := hvi
      rw [hvi] at zi
      have HVI := Lib.hid hvi
      have Y0 := Lib.hid y0
      have Y1 := Lib.hid y1
      have Y5 := Lib.hid y5
      have HP' := Lib.hid hp'
      have HKK := Lib.hid hk'
      have HEX := Lib.hid he'
      clear y0 y1 y3 y5 hp' hk' he' hvi
      go_wp2
      have hkk := HKK.out
      have hsz : ((w'.setCell ⟨N, 0, none⟩ (.slice ao q.fin.st.items.length cp)).setCell ⟨N + 1, 0, none⟩ .nilIface).heap.size = w'.heap.size := by simp [World.setCell]
      have hoth : ∀ k, k ≠ N → k ≠ N + 1 → ((w'.setCell ⟨N, 0, none⟩ (.slice ao q.fin.st.items.length cp)).setCell ⟨N + 1, 0, none⟩ .nilIface).heap[k]? = w'.heap[k]? := fun k a b => (Below.heap_setCell _ _ _ _ b).trans (Below.heap_setCell _ _ _ _ a)
      have e0 : ((w'.setCell ⟨N, 0, none⟩ (.slice ao q.fin.st.items.length cp)).setCell ⟨N + 1, 0, none⟩ .nilIface).heap[N]? = some (.cells #[.slice ao q.fin.st.items.length cp] 58 (0, 0)) := (Below.heap_setCell _ _ _ _ (by simp)).trans (setCell_block _ Y0.out)
      have e1 : ((w'.setCell ⟨N, 0, none⟩ (.slice ao q.fin.st.items.length cp)).setCell ⟨N + 1, 0, none⟩ .nilIface).heap[N + 1]? = some (.cells #[.nilIface] 25 (0, 0)) := setCell_block _ ((Below.heap_setCell _ _ _ _ (by simp)).trans Y1.out)
      have e5 := (hoth (N + 5) (by omega) (by omega)).trans Y5.out
      have hos : ((w'.setCell ⟨N, 0, none⟩ (.slice ao q.fin.st.items.length cp)).setCell ⟨N + 1, 0, none⟩ .nilIface).os = w.os := hkk.os.trans HPI.out.os
      have hta : ((w'.setCell ⟨N, 0, none⟩ (.slice ao q.fin.st.items.length cp)).setCell ⟨N + 1, 0, none⟩ .nilIface).tape = w.tape := hkk.tape.trans HPI.out.tape
      have hou : ((w'.setCell ⟨N, 0, none⟩ (.slice ao q.fin.st.items.length cp)).setCell ⟨N + 1, 0, none⟩ .nilIface).output = w.output := hkk.output.trans HPI.out.output
      generalize (w'.setCell ⟨N, 0, none⟩ (.slice ao q.fin.st.items.length cp)).setCell ⟨N + 1, 0, none⟩ .nilIface = V at *
      have p0 : (V.putObj (N + 5) (.deferred none)).cell? ⟨N, 0, none⟩ = some (.slice ao q.fin.st.items.length cp) := by
        have := (World.putObj_heap_other (w := V) (o := .deferred none) (by omega : N ≠ N + 5)).trans e0
        simp [World.cell?, this]
      have p1 : (V.putObj (N + 5) (.deferred none)).cell? ⟨N + 1, 0, none⟩ = some .nilIface := by
        have := (World.putObj_heap_other (w := V) (o := .deferred none) (by omega : N + 1 ≠ N + 5)).trans e1
        simp [World.cell?, this]
      have hbw := hB0.out W _ HPI.out
      have hz' := hkk.size
      have hpo : ∀ k, k ≠ N → k ≠ N + 1 → k ≠ N + 5 → (V.putObj (N + 5) (.deferred none)).heap[k]? = w'.heap[k]? := fun k a b c => (World.putObj_heap_other c).trans (hoth k a b)
      refine marks1 (v := .tuple #[.slice ao q.fin.st.items.length cp, .nilIface]) e5 (by simp [results, Tryz.results26, go_sem, p0, p1]) ?_
      unfold ParsePost
      rw [hpar.out, if_pos HEE.out, hN]
      have hex := HEX.out
      have hcol : ∀ k, k = N ∨ k = N + 1 ∨ k = N + 5 → ρ' k = none := fun k hk => (hex k (by omega)).trans (HRho.out k (by omega) (by omega))
      have hsV : (V.putObj (N + 5) (.deferred none)).heap.size = w'.heap.size := by rw [← hsz]; simp
      have KV : Kept (fun k => if k = N ∨ k = N + 1 ∨ k = N + 5 then some 0 else none) w' (V.putObj (N + 5) (.deferred none)) := ⟨hos.trans (HPI.out.os.symm.trans hkk.os.symm), hta.trans (HPI.out.tape.symm.trans hkk.tape.symm), hou.trans (HPI.out.output.symm.trans hkk.output.symm), by omega, fun k _ hn => by
        by_cases e : k = N ∨ k = N + 1 ∨ k = N + 5
        · rw [if_pos e] at hn; cases hn
        · exact hpo k (fun h => e (.inl h)) (fun h => e (.inr (.inl h))) (fun h => e (.inr (.inr h)))⟩
      have hσ : ∀ g, ρ' g ≠ none → (if g = N ∨ g = N + 1 ∨ g = N + 5 then some 0 else none : Option Nat) = none := fun g hg => if_neg fun e => hg (hcol g e)
      have HPP := HP'.out.keep (Ext.refl _ _) KV hσ (HP'.out.fits.more (by omega))
      refine ⟨_, ρ', L'.vis, rfl, ⟨HVI.out ▸ HPP.rowI, HPP.len, HPP.its, HPP.fits⟩, fun k hk => (hex k (by omega)).trans (HRho.out k (by omega) (by omega)), ⟨hos, hta, hou, by have := hbw.size; omega, fun k hk => ?_⟩⟩
      exact (hpo k (by omega) (by omega) (by omega)).trans ((hkk.block k (by omega) (HRho.out k (by omega) (by omega))).trans (hbw.block k hk))
    · have T' := Lib.hid (T.out.mono fun e w' h => h.neg he)
      have HEE := Lib.hid he
      clear T he
      unfold faultV at T'
      go_wp2_with fail
      refine T'.out.mono ?_
      rintro e w' ⟨g, rfl, hg1, hg2, hk'⟩
      have y0 : w'.heap[N]? = some (.cells #[.slice none 0 0] 58 (0, 0)) := (hk'.block N (by omega) (HRho.out N (by omega) (by omega))).trans ((HPI.out.kept N (by omega) (by omega)).trans G.out.1)
      have y1 : w'.heap[N + 1]? = some (.cells #[.nilIface] 25 (0, 0)) := (hk'.block _ (by omega) (HRho.out _ (by omega) (by omega))).trans ((HPI.out.kept _ (by omega) (by omega)).trans G.out.2.1)
      have y5 : w'.heap[N + 5]? = some (.deferred (some [])) := (hk'.block _ (by omega) (HRho.out _ (by omega) (by omega))).trans HK.out
      have z0 : w'.cell? ⟨N, 0, none⟩ = some (.slice none 0 0) := by simp [World.cell?, y0]
      have z1 : w'.cell? ⟨N + 1, 0, none⟩ = some .nilIface := by simp [World.cell?, y1]
      have v0 : w'.frozen? ⟨N, 0, none⟩ = false := by simp [World.frozen?, y0]
      have v1 : w'.frozen? ⟨N + 1, 0, none⟩ = false := by simp [World.frozen?, y1]
      have Y0 := Lib.hid y0
      have Y1 := Lib.hid y1
      have Y5 := Lib.hid y5
      have HKK := Lib.hid hk'
      have HG2 := Lib.hid hg2
      clear y0 y1 y5 hk' hg2
      go_wp2
      have hkk := HKK.out
      have hsz : ((w'.setCell ⟨N, 0, none⟩ (.slice none 0 0)).setCell ⟨N + 1, 0, none⟩ (faultV g)).heap.size = w'.heap.size := by simp [World.setCell]
      have hoth : ∀ k, k ≠ N → k ≠ N + 1 → ((w'.setCell ⟨N, 0, none⟩ (.slice none 0 0)).setCell ⟨N + 1, 0, none⟩ (faultV g)).heap[k]? = w'.heap[k]? := fun k a b => (Below.heap_setCell _ _ _ _ b).trans (Below.heap_setCell _ _ _ _ a)
      have e0 : ((w'.setCell ⟨N, 0, none⟩ (.slice none 0 0)).setCell ⟨N + 1, 0, none⟩ (faultV g)).heap[N]? = some (.cells #[.slice none 0 0] 58 (0, 0)) := (Below.heap_setCell _ _ _ _ (by simp)).trans (setCell_block _ Y0.out)
      have e1 : ((w'.setCell ⟨N, 0, none⟩ (.slice none 0 0)).setCell ⟨N + 1, 0, none⟩ (faultV g)).heap[N + 1]? = some (.cells #[faultV g] 25 (0, 0)) := setCell_block _ ((Below.heap_setCell _ _ _ _ (by simp)).trans Y1.out)
      have e5 := (hoth (N + 5) (by omega) (by omega)).trans Y5.out
      have eg := (hoth g (by omega) (by omega)).trans HG2.out
      have hos : ((w'.setCell ⟨N, 0, none⟩ (.slice none 0 0)).setCell ⟨N + 1, 0, none⟩ (faultV g)).os = w.os := hkk.os.trans HPI.out.os
      have hta : ((w'.setCell ⟨N, 0, none⟩ (.slice none 0 0)).setCell ⟨N + 1, 0, none⟩ (faultV g)).tape = w.tape := hkk.tape.trans HPI.out.tape
      have hou : ((w'.setCell ⟨N, 0, none⟩ (.slice none 0 0)).setCell ⟨N + 1, 0, none⟩ (faultV g)).output = w.output := hkk.output.trans HPI.out.output
      change bodyPostM _ _ _ _ _ _ _ ((w'.setCell ⟨N, 0, none⟩ (.slice none 0 0)).setCell ⟨N + 1, 0, none⟩ (faultV g))
      generalize (w'.setCell ⟨N, 0, none⟩ (.slice none 0 0)).setCell ⟨N + 1, 0, none⟩ (faultV g) = V at *
      have p0 : (V.putObj (N + 5) (.deferred none)).cell? ⟨N, 0, none⟩ = some (.slice none 0 0) := by
        have := (World.putObj_heap_other (w := V) (o := .deferred none) (by omega : N ≠ N + 5)).trans e0
        simp [World.cell?, this]
      have p1 : (V.putObj (N + 5) (.deferred none)).cell? ⟨N + 1, 0, none⟩ = some (faultV g) := by
        have := (World.putObj_heap_other (w := V) (o := .deferred none) (by omega : N + 1 ≠ N + 5)).trans e1
        simp [World.cell?, this]
      have hbw := hB0.out W _ HPI.out
      have hz' := hkk.size
      refine marks1 (v := .tuple #[.slice none 0 0, faultV g]) e5 (by simp [results, Tryz.results26, go_sem, p0, p1]) ?_
      unfold ParsePost
      rw [hpar.out, if_neg HEE.out, hN]
      have hsV : (V.putObj (N + 5) (.deferred none)).heap.size = w'.heap.size := by rw [← hsz]; simp
      refine ⟨g, rfl, by omega, (World.putObj_heap_other (by omega)).trans eg, ⟨hos, hta, hou, by have := hbw.size; omega, fun k hk => ?_⟩⟩
      exact (World.putObj_heap_other (by omega)).trans ((hoth k (by omega) (by omega)).trans ((hkk.block k (by omega) (HRho.out k (by omega) (by omega))).trans (hbw.block k hk)))
  case stop =>
    rintro c pre W hpf ⟨rfl, h1, h2, h3, g, h4, h5, h6⟩ hK
    rw [s0] at hK
    obtain ⟨suf, hsuf⟩ := hpf
    have hpf : parseFrom Ps.zero (splitL s.data.toList) = parseFrom Ps.zero pre := by rw [← hsuf]; exact parseFrom_stop _ _ _ h3
    have hpar : Hid (parse s.data.toList = parseFrom Ps.zero pre) := Lib.hid (by unfold parse; rw [hpf, if_pos h3])
    have H := Lib.hid (show Below N w W ∧ W.heap[N]? = some (.cells #[.slice none 0 0] 58 (0, 0)) ∧ (parseFrom Ps.zero pre).err ≠ 0 ∧ W.heap[N + 1]? = some (.cells #[faultV g] 25 (0, 0)) ∧ N + 8 ≤ g ∧ FaultAt W g (parseFrom Ps.zero pre).at_ (parseFrom Ps.zero pre).err ∧ W.heap[N + 5]? = some (.deferred (some [])) from ⟨h1, h2, h3, h4, h5, h6, hK⟩)
    clear h1 h2 h3 h4 h5 h6 hK hpf hsuf suf
    go_wp2
    rw [s0]
    have p0 : (W.putObj (N + 5) (.deferred none)).cell? ⟨N, 0, none⟩ = some (.slice none 0 0) := by
      have := (World.putObj_heap_other (w := W) (o := .deferred none) (by omega : N ≠ N + 5)).trans H.out.2.1
      simp [World.cell?, this]
    have p1 : (W.putObj (N + 5) (.deferred none)).cell? ⟨N + 1, 0, none⟩ = some (faultV g) := by
      have := (World.putObj_heap_other (w := W) (o := .deferred none) (by omega : N + 1 ≠ N + 5)).trans H.out.2.2.2.1
      simp [World.cell?, this]
    refine marks1 (v := .tuple #[.slice none 0 0, faultV g]) H.out.2.2.2.2.2.2 (by simp [results, Tryz.results26, go_sem, p0, p1]) ?_
    unfold ParsePost
    rw [hpar.out, if_neg H.out.2.2.1, hN]
    exact ⟨g, rfl, by have := H.out.2.2.2.2.1; omega, (World.putObj_heap_other (by have := H.out.2.2.2.2.1; omega)).trans H.out.2.2.2.2.2.1, H.out.1.trans ⟨rfl, rfl, rfl, by simp, fun x hx => World.putObj_heap_other (by omega)⟩⟩
end Go.Proofs.YtklbbcemacpimaaGreatDoor.B

namespace Go.Proofs.YtklbbcemacpimaaGreatDoor.B
open Go.RowKit Go.Shelf

/-- The stanzas get numbers; 0: no stanza. -/
def numberFrom : Nat → List It → List (It × Nat)
  | _, [] => []
  | n, x :: r => if x.kind = 3 then (x, n) :: numberFrom (n + 1) r else (x, 0) :: numberFrom n r
def recsOf (xs : List It) : Nat := (xs.filter fun x => x.kind = 3).length
theorem number_len : ∀ (n : Nat) (xs : List It), (numberFrom n xs).length = xs.length
  | _, [] => rfl
  | n, x :: r => by
    unfold numberFrom
    split <;> simp [number_len]
theorem number_get : ∀ (n k : Nat) (xs : List It) (x : It), xs[k]? = some x → (numberFrom n xs)[k]? = some (x, if x.kind = 3 then n + recsOf (xs.take k) else 0)
  | n, k, [], x, h => by simp at h
  | n, 0, y :: r, x, h => by
    simp at h; subst h
    unfold numberFrom
    split <;> simp [recsOf]
  | n, k + 1, y :: r, x, h => by
    have h' : r[k]? = some x := by simpa using h
    unfold numberFrom
    split
    · rename_i hy
      have := number_get (n + 1) k r x h'
      simp only [List.getElem?_cons_succ, this, List.take_succ_cons]
      have e : recsOf (y :: r.take k) = recsOf (r.take k) + 1 := by unfold recsOf; simp [hy]
      rw [e]
      split <;> simp <;> omega
    · rename_i hy
      have := number_get n k r x h'
      simp only [List.getElem?_cons_succ, this, List.take_succ_cons]
      have e : recsOf (y :: r.take k) = recsOf (r.take k) := by unfold recsOf; simp [hy]
      rw [e]
theorem recs_snoc (xs : List It) (x : It) : recsOf (xs ++ [x]) = recsOf xs + (if x.kind = 3 then 1 else 0) := by
  unfold recsOf
  rw [List.filter_append, List.length_append]
  congr 1
  by_cases h : x.kind = 3 <;> simp [h]
theorem recs_le (xs : List It) : recsOf xs ≤ xs.length := List.length_filter_le _ _
def entC (e : It × Nat) (u : Value) : List Value := [.int .i64 e.1.kind, .string ⟨e.1.raw.toArray⟩, u, .int .i64 e.2]
def entCells (es : List (It × Nat)) (vs : List Value) : List Value := (es.zip vs).flatMap fun p => entC p.1 p.2
theorem entCells_snoc {es : List (It × Nat)} {vs : List Value} (h : vs.length = es.length) (e : It × Nat) (u : Value) : entCells (es ++ [e]) (vs ++ [u]) = entCells es vs ++ entC e u := by
  unfold entCells
  rw [List.zip_append h.symm, List.flatMap_append]
  simp
/-- A list lies in block b. -/
structure ListAt (w : World) (ρ : Col) (b : Nat) (es : List (It × Nat)) (next many : Nat) (ve : Value) (vs : List Value) : Prop where
  blk : Blk w ρ 0 b (.cells #[ve, .int .i64 next, .int .i64 many] 63 (0, 0))
  row : Row w ρ 1 67 4 ve es.length (entCells es vs)
  len : vs.length = es.length
  its : ∀ (i : Nat) u e, vs[i]? = some u → es[i]? = some e → Row w ρ (5 + i) 57 2 u e.1.fields.length (e.1.fields.flatMap Fd.cells)
  fits : Fits w ρ
theorem ListAt.keep {w w' : World} {ρ ρ' σ : Col} {b next many : Nat} {es : List (It × Nat)} {ve : Value} {vs : List Value} (h : ListAt w ρ b es next many ve vs) (he : Ext w ρ ρ') (k : Kept σ w w') (hσ : ∀ g, ρ g ≠ none → σ g = none) (hf : Fits w' ρ') : ListAt w' ρ' b es next many ve vs where
  blk := h.blk.keep he k (hσ _ (by rw [h.blk.2]; simp))
  row := h.row.keep he k fun g hg => hσ g (by rw [hg]; simp)
  len := h.len
  its := fun i u x h1 h2 => (h.its i u x h1 h2).keep he k fun g hg => hσ g (by rw [hg]; simp)
  fits := hf
theorem ListAt.below {w w' : World} {ρ : Col} {b next many : Nat} {es : List (It × Nat)} {ve : Value} {vs : List Value} (h : ListAt w ρ b es next many ve vs) (hb : Below w.heap.size w w') : ListAt w' ρ b es next many ve vs :=
  h.keep (Ext.refl _ _) (σ := fun _ => none) (Kept.below hb) (fun _ _ => rfl) (h.fits.more hb.size)
/-- A list that is being made, of the items xs. -/
structure Making (w : World) (ρ : Col) (b : Nat) (es : List (It × Nat)) (next many : Nat) (ve : Value) (us : List Value) (v : Value) (xs : List It) (vs : List Value) : Prop where
  blk : Blk w ρ 0 b (.cells #[ve, .int .i64 next, .int .i64 many] 63 (0, 0))
  row : Row w ρ 1 67 4 ve es.length (entCells es us)
  items : ItemsAt w ρ v xs vs
theorem ItemsAt.keep {w w' : World} {ρ ρ' σ : Col} {v : Value} {xs : List It} {vs : List Value} (h : ItemsAt w ρ v xs vs) (he : Ext w ρ ρ') (k : Kept σ w w') (hσ : ∀ g c, ρ g = some c → 2 ≤ c → σ g = none) (hf : Fits w' ρ') : ItemsAt w' ρ' v xs vs where
  row := h.row.keep he k fun g hg => hσ g 2 hg (by omega)
  len := h.len
  its := fun i u x a c => (h.its i u x a c).keep he k fun g hg => hσ g (5 + i) hg (by omega)
  fits := hf
theorem Making.below {w w' : World} {ρ : Col} {b next many : Nat} {es : List (It × Nat)} {ve v : Value} {us vs : List Value} {xs : List It} (h : Making w ρ b es next many ve us v xs vs) (hb : Below w.heap.size w w') : Making w' ρ b es next many ve us v xs vs where
  blk := h.blk.keep (Ext.refl _ _) (σ := fun _ => none) (Kept.below hb) rfl
  row := h.row.keep (Ext.refl _ _) (σ := fun _ => none) (Kept.below hb) fun _ _ => rfl
  items := h.items.keep (Ext.refl _ _) (σ := fun _ => none) (Kept.below hb) (fun _ _ _ _ => rfl) (h.items.fits.more hb.size)
/-- The numbers change. -/
theorem Making.nums {w : World} {ρ : Col} {b next many next' many' : Nat} {es : List (It × Nat)} {ve v : Value} {us vs : List Value} {xs : List It} (h : Making w ρ b es next many ve us v xs vs) {W : World} (hk : Kept (Only 0 ρ) w W) (hs : W.heap[b]? = some (.cells #[ve, .int .i64 next', .int .i64 many'] 63 (0, 0))) : Making W ρ b es next' many' ve us v xs vs where
  blk := ⟨hs, h.blk.2⟩
  row := h.row.keep (Ext.refl _ _) hk fun g hg => only_none (by rw [hg]; simp)
  items := h.items.keep (Ext.refl _ _) hk (fun g c hg hc => only_none (by rw [hg]; simp; omega)) (h.items.fits.more hk.size)
/-- An entry more. -/
theorem Making.add {w w0 w1 : World} {ρ : Col} {b next many gg cap : Nat} {es : List (It × Nat)} {ve v : Value} {us vs : List Value} {xs : List It} (h : Making w ρ b es next many ve us v xs vs) (hl : us.length = es.length) (hb0 : Below w.heap.size w w0) (e : It × Nat) (u : Value)
    (hown : w1.ownsRow 0 67 4 (.slice (some ⟨gg, 0, none⟩) (es.length + 1) cap) (es.length + 1) (entCells es us ++ entC e u)) (hgrow : w0.grownBy w1 ve.ownBlock) (hat : ve.ownBlock = some gg ∨ w0.heap.size ≤ gg) (hlt : gg < w1.heap.size) :
    Making (w1.setCell ⟨b, 0, none⟩ (.slice (some ⟨gg, 0, none⟩) (es.length + 1) cap)) (paint ρ gg 1) b (es ++ [e]) next many (.slice (some ⟨gg, 0, none⟩) (es.length + 1) cap) (us ++ [u]) v xs vs ∧ Ext w ρ (paint ρ gg 1) ∧ Kept ρ w (w1.setCell ⟨b, 0, none⟩ (.slice (some ⟨gg, 0, none⟩) (es.length + 1) cap)) := by
  have h0 := h.below hb0
  obtain ⟨hr1, he1, hk1⟩ := h0.row.append hown hgrow hat
  have hblk := h0.blk.keep he1 hk1 (only_none (by rw [h0.blk.2]; simp))
  obtain ⟨hs, hk2⟩ := Blk.store hblk (i := 0) (v := .slice (some ⟨gg, 0, none⟩) (es.length + 1) cap)
  have p1 := hk1.only (p := fun c => c == 0 || c == 1) rfl
  have p2 := p1.thoseTrans he1 (hk2.only (p := fun c => c == 0 || c == 1) rfl)
  have hr2 := hr1.keep (Ext.refl _ _) hk2 fun g hg => only_none (by rw [hg]; simp)
  refine ⟨⟨hs, ?_, ?_⟩, fun k hk => he1 k (Nat.lt_of_lt_of_le hk hb0.size), (Kept.below hb0).then p2.those⟩
  · rw [List.length_append, entCells_snoc hl]
    exact hr2
  · refine h0.items.keep he1 p2 (fun g c hg hc => those_at hg (by simp; omega)) ?_
    exact ((h0.items.fits.more hk1.size).paint hlt).more hk2.size
theorem infoEn : (Tryz.prog.info? 67).map (fun i => (i.zero, i.size, i.bytes)) = some (some (.agg #[.int .i64 0, .string ⟨#[]⟩, .slice none 0 0, .int .i64 0]), 4, 56) := by kernel_rfl
end Go.Proofs.YtklbbcemacpimaaGreatDoor.B
