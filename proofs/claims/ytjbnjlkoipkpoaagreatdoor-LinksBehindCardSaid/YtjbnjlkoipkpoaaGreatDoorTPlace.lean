/- Where a stanza stands, and its fields: list.Place, .Get, walked. -/
import Derived.Test.YtjbnjlkoipkpoaaGreatDoorTTable
import Derived.Test.YtjbnjlkoipkpoaaGreatDoorBLists
import Derived.BigQuiet
namespace Go.Proofs.YtjbnjlkoipkpoaaGreatDoor.T
open Go.RowKit Go.Shelf
open Go.Proofs.YtjbnjlkoipkpoaaGreatDoor.B
attribute [local go_sem] Oper.semAt_some

/-! ### Numbers -/
theorem number_ids : ∀ (n : Nat) (xs : List It), 0 < n → ((numberFrom n xs).filter fun e => decide (0 < e.2)).map (·.2) = List.range' n (recsOf xs)
  | _, [], _ => rfl
  | n, x :: r, hn => by
    unfold numberFrom
    by_cases hx : x.kind = 3
    · rw [if_pos hx]
      have ih := number_ids (n + 1) r (by omega)
      have e : recsOf (x :: r) = recsOf r + 1 := by unfold recsOf; simp [hx]
      rw [e, List.range'_succ]
      simp only [List.filter_cons, hn, decide_true, if_true, List.map_cons, ih]
    · rw [if_neg hx]
      have ih := number_ids n r hn
      have e : recsOf (x :: r) = recsOf r := by unfold recsOf; simp [hx]
      rw [e]
      simp [ih]
theorem filter_at {α : Type} (P : α → Bool) : ∀ (es : List α) (p : Nat) (e : α), (es.filter P)[p]? = some e → ∃ i : Nat, es[i]? = some e ∧ ∀ (q : Nat) (y : α), q < i → es[q]? = some y → P y = true → ∃ q' : Nat, q' < p ∧ (es.filter P)[q']? = some y
  | [], p, e, h => by simp at h
  | x :: r, p, e, h => by
    rw [List.filter_cons] at h ⊢
    by_cases hx : P x = true
    · rw [if_pos hx] at h ⊢
      cases p with
      | zero => exact ⟨0, by simpa using h, fun q y hq => by omega⟩
      | succ p =>
        obtain ⟨i, h1, h2⟩ := filter_at P r p e (by simpa using h)
        refine ⟨i + 1, by simpa using h1, fun q y hq hy hp => ?_⟩
        cases q with
        | zero =>
          refine ⟨0, by omega, ?_⟩
          simpa using hy
        | succ q =>
          obtain ⟨q', k1, k2⟩ := h2 q y (by omega) (by simpa using hy) hp
          exact ⟨q' + 1, by omega, by simpa using k2⟩
    · rw [if_neg hx] at h ⊢
      obtain ⟨i, h1, h2⟩ := filter_at P r p e h
      refine ⟨i + 1, by simpa using h1, fun q y hq hy hp => ?_⟩
      cases q with
      | zero =>
        have e1 : x = y := by simpa using hy
        subst e1
        exact absurd hp hx
      | succ q =>
        obtain ⟨q', k1, k2⟩ := h2 q y (by omega) (by simpa using hy) hp
        exact ⟨q', k1, k2⟩
theorem stan_id {t : List UInt8} {p : Nat} {x : St} (h : (stanzasOf t)[p]? = some x) : x.1 = p + 1 := by
  have h1 : ((stanzasOf t).map (·.1))[p]? = some x.1 := by rw [List.getElem?_map, h]; rfl
  have h2 : (stanzasOf t).map (·.1) = List.range' 1 (recsOf (parse t).st.items) := by
    rw [← number_ids 1 _ (by omega)]
    unfold stanzasOf
    rw [List.map_map]; rfl
  rw [h2] at h1
  obtain ⟨hl, h3⟩ := List.getElem?_eq_some_iff.1 h1
  rw [List.getElem_range'] at h3
  omega
/-- A stanza's entry. -/
theorem stan_entry {t : List UInt8} {p : Nat} {x : St} (h : (stanzasOf t)[p]? = some x) : ∃ (i : Nat) (it : It), (numberFrom 1 (parse t).st.items)[i]? = some (it, p + 1) ∧ it.fields = x.2 ∧ ∀ (q : Nat) (e : It × Nat), q < i → (numberFrom 1 (parse t).st.items)[q]? = some e → e.2 ≠ p + 1 := by
  have hid := stan_id h
  unfold stanzasOf at h
  rw [List.getElem?_map] at h
  cases hf : ((numberFrom 1 (parse t).st.items).filter fun e => decide (0 < e.2))[p]? with
  | none => rw [hf] at h; cases h
  | some e =>
    rw [hf] at h
    simp only [Option.map_some, Option.some.injEq] at h
    obtain ⟨i, h1, h2⟩ := filter_at _ _ _ _ hf
    have e2 : e.2 = p + 1 := by rw [← hid, ← h]
    refine ⟨i, e.1, by rw [← e2]; exact h1, by rw [← h], fun q y hq hy eq => ?_⟩
    obtain ⟨q', k1, k2⟩ := h2 q y hq hy (by simp [eq])
    have h3 : (stanzasOf t)[q']? = some (y.2, y.1.fields) := by unfold stanzasOf; rw [List.getElem?_map, k2]; rfl
    have := stan_id h3
    simp only at this
    omega
/-! ### Place -/
theorem alloc4 (w : World) (a b c d : Obj) : ((((w.alloc a).alloc b).alloc c).alloc d).heap[w.heap.size]? = some a ∧ ((((w.alloc a).alloc b).alloc c).alloc d).heap[w.heap.size + 1]? = some b ∧ ((((w.alloc a).alloc b).alloc c).alloc d).heap[w.heap.size + 2]? = some c ∧
    ((((w.alloc a).alloc b).alloc c).alloc d).heap[w.heap.size + 3]? = some d ∧ ∀ k, k < w.heap.size → ((((w.alloc a).alloc b).alloc c).alloc d).heap[k]? = w.heap[k]? := by
  have e : ((((w.alloc a).alloc b).alloc c).alloc d).heap = (((w.heap.push a).push b).push c).push d := rfl
  rw [e]
  refine ⟨?_, ?_, ?_, ?_, fun k hk => ?_⟩ <;> simp only [Array.getElem?_push, Array.size_push]
  · rw [if_neg (by omega), if_neg (by omega), if_neg (by omega), if_pos trivial]
  · rw [if_neg (by omega), if_neg (by omega), if_pos trivial]
  · rw [if_neg (by omega), if_pos trivial]
  · rw [if_pos trivial]
  · rw [if_neg (by omega), if_neg (by omega), if_neg (by omega), if_neg (by omega)]
/-- Where the search stands. -/
structure PI (w : World) (n k : Nat) (W : World) : Prop where
  below : Below w.heap.size w W
  size : w.heap.size + 4 ≤ W.heap.size
  c0 : W.heap[w.heap.size]? = some (.cells #[.int .i64 n] 3 (0, 0))
  c1 : W.heap[w.heap.size + 1]? = some (.cells #[.int .i64 0] 3 (0, 0))
  c2 : W.heap[w.heap.size + 2]? = some (.cells #[.int .i64 k] 3 (0, 0))
structure PJ (w : World) (p : Nat) (W : World) : Prop where
  below : Below w.heap.size w W
  size : w.heap.size + 4 ≤ W.heap.size
  c1 : W.heap[w.heap.size + 1]? = some (.cells #[.int .i64 p] 3 (0, 0))
theorem place_keep {w W : World} {b next many N : Nat} {ρ0 : Col} {es : List (It × Nat)} {ve : Value} {vs : List Value} (hl : ∀ k, ρ0 k ≠ none → k < w.heap.size) (i : Nat) (hi : i = 1 ∨ i = 2) (v : Value) :
    KeepC (w.heap.size + 4) (AllCtx N (w.heap.size + 3) ρ0 b es next many ve vs) W (W.setCell ⟨w.heap.size + i, 0, none⟩ v) := by
  refine ⟨by simp [World.setCell], Below.heap_setCell _ _ _ _ (by show _ ≠ w.heap.size + i; omega), Below.heap_setCell _ _ _ _ (by show _ ≠ w.heap.size + i; omega), fun hc => ?_⟩
  refine hc.keep2 (σ := fun k => if k = w.heap.size + i then some 0 else none) (Kept.setCell (by show (if _ then _ else _) ≠ none; rw [if_pos rfl]; simp)) (if_neg (by omega)) fun g hg => if_neg ?_
  have := hl g hg
  omega
theorem PI.found {w W : World} {n k : Nat} (h : PI w n k W) (p : Nat) : PJ w p (W.setCell ⟨w.heap.size + 1, 0, none⟩ (.int .i64 p)) := by
  refine ⟨h.below.setCell (p := ⟨w.heap.size + 1, 0, none⟩) (by show _ ≤ w.heap.size + 1; omega) _, by have := h.size; simpa [World.setCell] using this, ?_⟩
  rw [setCell_block _ h.c1]; rfl
theorem PI.next {w W : World} {n k : Nat} (h : PI w n k W) : PI w n (k + 1) (W.setCell ⟨w.heap.size + 2, 0, none⟩ (.int .i64 (k + 1 : Nat))) := by
  refine ⟨h.below.setCell (p := ⟨w.heap.size + 2, 0, none⟩) (by show _ ≤ w.heap.size + 2; omega) _, by have := h.size; simpa [World.setCell] using this, ?_, ?_, ?_⟩
  · exact (Below.heap_setCell _ _ _ _ (by show _ ≠ w.heap.size + 2; omega)).trans h.c0
  · exact (Below.heap_setCell _ _ _ _ (by show _ ≠ w.heap.size + 2; omega)).trans h.c1
  · rw [setCell_block _ h.c2]; rfl
set_option maxRecDepth 20000 in
set_option maxHeartbeats 3200000 in
theorem place_any (w : World) (ρ0 : Col) (b next many : Nat) (es : List (It × Nat)) (ve : Value) (vs : List Value) (h : ListAt w ρ0 b es next many ve vs) (hlen : es.length ≤ 1000000) (n p : Nat)
    (hp : ∃ x, (stanzaPairs es vs)[p]? = some x ∧ x.1.2 = n) (hne : ∀ q x, q < p → (stanzaPairs es vs)[q]? = some x → x.1.2 ≠ n) :
    Calls Tryz.prog 46 #[.pointer (some ⟨b, 0, none⟩), .int .i64 n] w fun e w' => e = .returned (.int .i64 p) ∧ Below w.heap.size w w' := by
  refine calls_marks Tryz.func46 rfl ?_
  simp only [Tryz.ntmps46, List.size_toArray, List.length_cons, List.length_nil, Nat.reduceAdd, Nat.reduceSub, Array.replicate_succ, Array.replicate_zero, List.push_toArray, List.append_toArray, List.nil_append, List.cons_append]
  have HA := Lib.hid (fun w => all_any (some ⟨b, 0, none⟩) w)
  have HP := Lib.hid hp
  have HNE := Lib.hid hne
  clear hp hne
  go_wp2_with fail
  refine (HA.out _).mono ?_
  rintro e w3 ⟨rfl, rfl⟩
  go_wp2_with fail
  obtain ⟨O, hO⟩ : ∃ O, w.heap.size = O := ⟨_, rfl⟩
  obtain ⟨W0, hW0⟩ : ∃ W0, (((w.alloc (.cells #[.int .i64 n] 3)).alloc (.cells #[.int .i64 0] 3)).alloc (.cells #[.int .i64 0] 3)).alloc (.cells #[.pointer (some ⟨b, 0, none⟩)] 23) = W0 := ⟨_, rfl⟩
  have s0 : W0.heap.size = O + 4 := by rw [← hW0]; simp [hO]
  obtain ⟨g0, g1, g2, g3, -⟩ := alloc4 w (.cells #[.int .i64 n] 3) (.cells #[.int .i64 0] 3) (.cells #[.int .i64 0] 3) (.cells #[.pointer (some ⟨b, 0, none⟩)] 23)
  rw [hW0] at g0 g1 g2 g3
  have b0 : Below w.heap.size w W0 := by rw [← hW0]; exact (((below_grow1 w _).alloc (by simp) _).alloc (by simp; omega) _).alloc (by simp; omega) _
  have C0 : AllCtx W0.heap.size (O + 3) ρ0 b es next many ve vs W0 := ⟨hO ▸ g3, by omega, fun k hk => by have := h.fits k hk; omega, h.below b0⟩
  have I0 : PI w n 0 W0 := ⟨b0, by omega, g0, g1, g2⟩
  have HL0 := Lib.hid (show ∀ k, ρ0 k ≠ none → k < w.heap.size from fun k hk => h.fits k hk)
  have C0' := Lib.hid C0
  have I0' := Lib.hid I0
  clear h b0 C0 I0 g0 g1 g2 g3
  try rw [hW0]
  try rw [hO]
  clear hW0
  refine wp_range_iter_box 6 (fun x => entC x.1 x.2) 113 115 #[.pointer (some ⟨O + 3, 0, none⟩)] pairVal (stanzaPairs es vs) (AllCtx W0.heap.size (O + 3) ρ0 b es next many ve vs) (all_iter _ _ _ _ _ _ _ _ _ _ hlen) ?hen ?hg ?hcx C0'.out
    (fun pre W => PI w n pre.length W ∧ pre.length ≤ p) (fun c _ W => c = .ret ∧ PJ w p W) ?hI ?hIx ⟨I0'.out, Nat.zero_le _⟩ ?assign ?body ?done ?stop
  case hen => intro args w; rfl
  case hg => rfl
  case hcx => intro W W' hc ht; exact hc.touch ht
  case hI =>
    intro pre W W' ⟨hi, hl⟩ ht
    rw [s0] at ht
    have hz := hi.size
    have hb : ∀ k, k < O + 4 → W'.heap[k]? = W.heap[k]? := fun k hk => ht.block k (by omega) (by omega) (by omega)
    exact ⟨⟨⟨ht.os.trans hi.below.os, ht.tape.trans hi.below.tape, ht.output.trans hi.below.output, Nat.le_trans hi.below.size ht.size, fun k hk => (hb k (by omega)).trans (hi.below.block k hk)⟩, Nat.le_trans hz ht.size, (hb _ (by omega)).trans hi.c0, (hb _ (by omega)).trans hi.c1, (hb _ (by omega)).trans hi.c2⟩, hl⟩
  case hIx =>
    intro c pre W W' ⟨hc, hi⟩ ht
    rw [s0] at ht
    have hz := hi.size
    have hb : ∀ k, k < O + 4 → W'.heap[k]? = W.heap[k]? := fun k hk => ht.block k (by omega) (by omega) (by omega)
    exact ⟨hc, ⟨ht.os.trans hi.below.os, ht.tape.trans hi.below.tape, ht.output.trans hi.below.output, Nat.le_trans hi.below.size ht.size, fun k hk => (hb k (by omega)).trans (hi.below.block k hk)⟩, Nat.le_trans hz ht.size, (hb _ (by omega)).trans hi.c1⟩
  case assign =>
    intro l x W K hx hK
    obtain ⟨uo, uc, hus⟩ := (pair_shape C0'.out hx)
    obtain ⟨x1, x2⟩ := x
    simp only at hus
    subst hus
    have hv : pairVal (x1, .slice uo x1.1.fields.length uc) = .agg #[.int .i64 x1.1.kind, .string ⟨x1.1.raw.toArray⟩, .slice uo x1.1.fields.length uc, .int .i64 x1.2] := rfl
    have hc : entC x1 (.slice uo x1.1.fields.length uc) = [.int .i64 x1.1.kind, .string ⟨x1.1.raw.toArray⟩, .slice uo x1.1.fields.length uc, .int .i64 x1.2] := rfl
    rw [hv]
    simp only [hv, hc] at hK
    have HK := Lib.hid hK
    clear hK hv hc
    gi_wp2
    have h := HK.out
    simp at h
    exact h
  case body =>
    intro l pre x Bx W ⟨hi, hl⟩ hc hBx hxB hpf
    rw [s0] at hBx ⊢
    have hx : (stanzaPairs es vs)[pre.length]? = some x := by obtain ⟨t, ht⟩ := hpf; rw [← ht]; simp
    obtain ⟨uo, uc, hus⟩ := pair_shape hc (List.mem_of_getElem? hx)
    obtain ⟨x1, x2⟩ := x
    simp only at hus
    subst hus
    have hzW := hi.size
    have hBl : Bx < W.heap.size := (Array.getElem?_eq_some_iff.1 hxB).1
    have hv : pairVal (x1, .slice uo x1.1.fields.length uc) = .agg #[.int .i64 x1.1.kind, .string ⟨x1.1.raw.toArray⟩, .slice uo x1.1.fields.length uc, .int .i64 x1.2] := rfl
    rw [hv]
    have m3 : W.cell? ⟨Bx, 3, none⟩ = some (.int .i64 x1.2) := by simp [World.cell?, hxB, entC]
    have k0 : W.cell? ⟨O, 0, none⟩ = some (.int .i64 n) := by have := hi.c0; rw [hO] at this; simp [World.cell?, this]
    have k2 : W.cell? ⟨O + 1 + 1, 0, none⟩ = some (.int .i64 pre.length) := by have := hi.c2; rw [hO] at this; simp [World.cell?, this]
    have f1 : W.frozen? ⟨O + 1, 0, none⟩ = false := by have := hi.c1; rw [hO] at this; simp [World.frozen?, this]
    have f2 : W.frozen? ⟨O + 1 + 1, 0, none⟩ = false := by have := hi.c2; rw [hO] at this; simp [World.frozen?, this]
    have k1 : W.cell? ⟨O + 1, 0, none⟩ = some (.int .i64 0) := by have := hi.c1; rw [hO] at this; simp [World.cell?, this]
    have hlp : pre.length ≤ 1000000 := by
      have h1 := (List.getElem?_eq_some_iff.1 hx).1
      have h2 : (stanzaPairs es vs).length ≤ es.length := Nat.le_trans (List.length_filter_le _ _) (by rw [List.length_zip]; omega)
      omega
    have HI := Lib.hid hi
    have HX := Lib.hid hx
    have HC := Lib.hid hc
    obtain ⟨id, hid⟩ : ∃ id, x1.2 = id := ⟨_, rfl⟩
    rw [hid] at m3 ⊢
    clear hi hc hx hpf hxB hv
    by_cases he : id = n
    · have hpl : pre.length = p := by
        rcases Nat.lt_or_ge pre.length p with c | c
        · exact absurd (hid.trans he) (HNE.out _ _ c HX.out)
        · omega
      subst he
      have t1 : ((id : Int) == (id : Int)) = true := by simp
      have HPL := Lib.hid hpl
      clear hpl hid
      gi_wp2
      have h1 := place_keep (W := W) (N := O + 4) (b := b) (next := next) (many := many) (es := es) (ve := ve) (vs := vs) HL0.out 1 (.inl rfl) (.int .i64 (pre.length : Nat))
      have h2 := HI.out.found pre.length
      rw [hO] at h1 h2
      exact ⟨h1, rfl, HPL.out ▸ h2⟩
    · have hpl : pre.length < p := by
        rcases Nat.lt_or_ge pre.length p with c | c
        · exact c
        · obtain ⟨y, h1, h2⟩ := HP.out
          have : pre.length = p := by omega
          rw [this, h1] at HX
          have e := HX.out
          injection e with e
          rw [e] at h2
          exact absurd (hid.symm.trans h2) he
      have t1 : ((id : Int) == (n : Int)) = false := by rw [beq_eq_false_iff_ne]; omega
      have t2 : (id == n) = false := by rw [beq_eq_false_iff_ne]; exact he
      clear hid he
      gi_wp2
      have h1 := place_keep (W := W) (N := O + 4) (b := b) (next := next) (many := many) (es := es) (ve := ve) (vs := vs) HL0.out 2 (.inr rfl) (.int .i64 ((pre.length + 1 : Nat) : Int))
      have h2 := HI.out.next
      rw [hO] at h1 h2
      have e1 : Value.int .i64 ((pre.length : Int) + 1) = .int .i64 ((pre.length + 1 : Nat) : Int) := by go_num
      rw [e1]
      refine ⟨h1, ?_, ?_⟩
      · rw [List.length_append]; exact h2
      · rw [List.length_append]; exact hpl
  case done =>
    intro W ⟨hi, hl⟩ hz hK
    obtain ⟨y, h1, h2⟩ := HP.out
    have := (List.getElem?_eq_some_iff.1 h1).1
    omega
  case stop =>
    intro c pre W hpf ⟨hc, hi⟩ hK
    subst hc
    rw [s0] at hK
    have HI := Lib.hid hi
    have HK := Lib.hid hK
    clear hi hK hpf
    go_wp2
    have h1 := HI.out.c1
    rw [hO] at h1
    have p1 : (W.putObj (O + 4) (.deferred none)).cell? ⟨O + 1, 0, none⟩ = some (.int .i64 p) := by
      have : (W.putObj (O + 4) (.deferred none)).heap[O + 1]? = some (.cells #[.int .i64 p] 3 (0, 0)) := (World.putObj_heap_other (by omega)).trans h1
      simp [World.cell?, this]
    rw [s0]
    refine marks1 (v := .int .i64 p) HK.out (by simp [results, Tryz.results46, go_sem, p1]) ⟨rfl, HI.out.below.trans ⟨rfl, rfl, rfl, by simp, fun x hx => World.putObj_heap_other (by omega)⟩⟩
theorem place_in {w : World} {b p : Nat} {t : List UInt8} {x : St} (h : ListIn w b t) (hx : (stanzasOf t)[p]? = some x) (hlen : (parse t).st.items.length ≤ 1000000) :
    Calls Tryz.prog 46 #[.pointer (some ⟨b, 0, none⟩), .int .i64 (x.1 : Nat)] w fun e w' => e = .returned (.int .i64 p) ∧ Below w.heap.size w w' := by
  obtain ⟨ρ, ve, vs, h1⟩ := h
  have e1 := pairs_st (numberFrom 1 (parse t).st.items) vs h1.len
  have e2 : ∀ q, (stanzasOf t)[q]? = ((stanzaPairs (numberFrom 1 (parse t).st.items) vs)[q]?).map stOf := fun q => by
    rw [← List.getElem?_map, e1]; rfl
  refine place_any w ρ b _ _ _ ve vs h1 (by rw [number_len]; exact hlen) x.1 p ?_ fun q y hq hy eq => ?_
  · rw [e2] at hx
    cases hy : (stanzaPairs (numberFrom 1 (parse t).st.items) vs)[p]? with
    | none => rw [hy] at hx; cases hx
    | some y =>
      rw [hy] at hx
      simp only [Option.map_some, Option.some.injEq] at hx
      exact ⟨y, rfl, by rw [← hx]; rfl⟩
  · have k1 := stan_id hx
    have k2 : (stanzasOf t)[q]? = some (stOf y) := by rw [e2, hy]; rfl
    have k3 := stan_id k2
    have k4 : (stOf y).1 = y.1.2 := rfl
    omega
/-! ### Get -/
set_option maxHeartbeats 1600000 in
theorem at1_any (k : Int) (s : ByteArray) (uo : Option Addr) (ul uc : Nat) (id n kb : Nat) (W : World) (hk : W.cell? ⟨kb, 0, none⟩ = some (.int .i64 n)) :
    Calls Tryz.prog 134 #[.agg #[.int .i64 k, .string s, .slice uo ul uc, .int .i64 id], .pointer (some ⟨kb, 0, none⟩)] W fun e w' => e = .returned (.bool ((id : Int) == (n : Int))) ∧ Below W.heap.size W w' := by
  have hkl := World.block_lt_of_cell? _ _ hk
  have hkl' : kb < W.heap.size := hkl
  have k2 : (W.alloc (.cells #[.int .i64 k, .string s, .slice uo ul uc, .int .i64 id] 113)).cell? ⟨kb, 0, none⟩ = some (.int .i64 n) := ((below_grow1 W _).cell (p := ⟨kb, 0, none⟩) hkl).trans hk
  go_enter Tryz.func134, Tryz.ntmps134
  go_wp2
  go_ret
  exact ⟨rfl, below_grow1 _ _⟩
set_option maxRecDepth 20000 in
set_option maxHeartbeats 3200000 in
theorem entIdx_any (w : World) (ρ : Col) (b next many : Nat) (es : List (It × Nat)) (vs : List Value) (ao : Option Addr) (cp : Nat) (h : ListAt w ρ b es next many (.slice ao es.length cp) vs) (hlen : es.length ≤ 1000000) (n i kb : Nat) (hk : w.cell? ⟨kb, 0, none⟩ = some (.int .i64 n))
    (hi : ∃ e, es[i]? = some e ∧ e.2 = n) (hne : ∀ q e, q < i → es[q]? = some e → e.2 ≠ n) :
    Calls Tryz.prog 133 #[.slice ao es.length cp, .func (.func 134) #[] #[.pointer (some ⟨kb, 0, none⟩)]] w fun e w' => e = .returned (.int .i64 i) ∧ Below w.heap.size w w' := by
  have HL := Lib.hid h
  have HK := Lib.hid hk
  have HI := Lib.hid hi
  have HN := Lib.hid hne
  have hil : i < es.length := by obtain ⟨e, h1, _⟩ := hi; exact (List.getElem?_eq_some_iff.1 h1).1
  clear h hk hi hne
  go_enter Tryz.func133, Tryz.ntmps133
  go_wp2
  go_loopw [8] (fun s W => ∃ k : Nat, s = .int .i64 k ∧ k ≤ i ∧ Hid (Below w.heap.size w W)) (fun s _ => es.length - (intOf s).toNat)
  case atStart => exact ⟨0, rfl, Nat.zero_le _, Lib.hid (Below.refl _ _)⟩
  case round =>
    obtain ⟨k, rfl, hki, hW⟩ := hrel
    have hkl : k < es.length := by omega
    obtain ⟨e, he⟩ : ∃ e, es[k]? = some e := ⟨_, List.getElem?_eq_getElem hkl⟩
    have hl := HL.out.below hW.out
    obtain ⟨u, hu⟩ : ∃ u, vs[k]? = some u := ⟨_, List.getElem?_eq_getElem (by rw [hl.len]; exact hkl)⟩
    obtain ⟨g1, g2, g3, g4⟩ := entCells_get es vs k e u he hu
    obtain ⟨uo, uc, hus⟩ := (hl.its k u e hu he).shape
    subst hus
    obtain ⟨g, hg, hao⟩ : ∃ g, (Value.slice ao es.length cp).ownBlock = some g ∧ ao = some ⟨g, 0, none⟩ := by
      rcases hl.row.1.2 with ⟨-, h0⟩ | ⟨g, cp', cur, hz, -⟩
      · omega
      · injection hz with z1 z2 z3
        exact ⟨g, by rw [z1]; rfl, z1⟩
    have e1 := hl.row.1.cells hg _ _ g1
    have e2 := hl.row.1.cells hg _ _ g2
    have e3 := hl.row.1.cells hg _ _ g3
    have e4 := hl.row.1.cells hg _ _ g4
    rw [addr0] at e1 e2 e3 e4
    subst hao
    have hkw := (hW.out.cell (p := ⟨kb, 0, none⟩) (World.block_lt_of_cell? _ _ HK.out)).trans HK.out
    have C := Lib.hid (at1_any e.1.kind ⟨e.1.raw.toArray⟩ uo e.1.fields.length uc e.2 n kb wr hkw)
    obtain ⟨id, hid⟩ : ∃ id, e.2 = id := ⟨_, rfl⟩
    rw [hid] at e4 C
    have HE := Lib.hid he
    have hzr := hW.out.size
    clear hl g1 g2 g3 g4 hg he hu hkw
    by_cases hn : id = n
    · have hki2 : k = i := by
        rcases Nat.lt_or_ge k i with c | c
        · exact absurd (hid.trans hn) (HN.out _ _ c HE.out)
        · omega
      subst hn
      rw [show ((id : Int) == (id : Int)) = true by simp] at C
      subst hki2
      clear hid
      go_wp2_with fail
      refine C.out.mono ?_
      rintro e' w' ⟨rfl, hb⟩
      have HB := Lib.hid (hW.out.trans (hb.mono hzr))
      clear hb hW C
      go_wp2
      go_ret
      exact ⟨rfl, HB.out⟩
    · have hki2 : k < i := by
        rcases Nat.lt_or_ge k i with c | c
        · exact c
        · obtain ⟨y, h1, h2⟩ := HI.out
          have : k = i := by omega
          have e5 := HE.out
          rw [this, h1] at e5
          injection e5 with e5
          rw [e5] at h2
          exact absurd (hid.symm.trans h2) hn
      rw [show ((id : Int) == (n : Int)) = false by rw [beq_eq_false_iff_ne]; omega] at C
      clear hid hn
      go_wp2_with fail
      refine C.out.mono ?_
      rintro e' w' ⟨rfl, hb⟩
      have HB := Lib.hid (hW.out.trans (hb.mono hzr))
      clear hb hW C
      go_wp2
      exact ⟨⟨k + 1, by go_num, by omega, HB⟩, by simp [intOf]; omega⟩
set_option maxRecDepth 20000 in
set_option maxHeartbeats 3200000 in
theorem at_any (w : World) (ρ : Col) (b next many : Nat) (es : List (It × Nat)) (ve : Value) (vs : List Value) (h : ListAt w ρ b es next many ve vs) (hlen : es.length ≤ 1000000) (n i : Nat) (hn : 0 < n)
    (hi : ∃ e, es[i]? = some e ∧ e.2 = n) (hne : ∀ q e, q < i → es[q]? = some e → e.2 ≠ n) :
    Calls Tryz.prog 88 #[.pointer (some ⟨b, 0, none⟩), .int .i64 n] w fun e w' => e = .returned (.int .i64 i) ∧ Below w.heap.size w w' := by
  obtain ⟨ao, cp, hve⟩ := h.row.shape
  subst hve
  obtain ⟨w1, hw1⟩ : ∃ w1, w.alloc (.cells #[.int .i64 n] 3) = w1 := ⟨_, rfl⟩
  have hb1 : Below w.heap.size w w1 := hw1 ▸ below_grow1 w _
  have hE1 : w1.heap[w.heap.size]? = some (.cells #[.int .i64 n] 3 (0, 0)) := hw1 ▸ heap_alloc_new w _
  have hl1 := h.below hb1
  have c0 : w1.cell? ⟨b, 0, none⟩ = some (.slice ao es.length cp) := B.cell_of_row _ b 0 _ _ hl1.blk.1
  have k0 : w1.cell? ⟨w.heap.size, 0, none⟩ = some (.int .i64 n) := B.cell_of_row _ _ 0 _ _ hE1
  have C := Lib.hid (entIdx_any w1 ρ b next many es vs ao cp hl1 hlen n i w.heap.size k0 hi hne)
  have HW1 := Lib.hid hw1
  have HB1 := Lib.hid hb1
  have hn1 : decide ((n : Int) < 1) = false := decide_eq_false (by omega)
  have hn2 : ¬ (n : Int) < 1 := by omega
  have hz := hb1.size
  clear h hi hne hw1 hb1 hE1 hl1
  go_enter Tryz.func88, Tryz.ntmps88
  go_upto_region 1 with fail
  rw [HW1.out]
  go_wp2_with fail
  refine C.out.mono ?_
  rintro e' w' ⟨rfl, hb⟩
  have HB := Lib.hid (HB1.out.trans (hb.mono hz))
  clear hb C
  go_wp2
  go_ret
  exact ⟨rfl, HB.out⟩
set_option maxRecDepth 20000 in
set_option maxHeartbeats 3200000 in
theorem get_in {w : World} {b p : Nat} {t : List UInt8} {x : St} (h : ListIn w b t) (hx : (stanzasOf t)[p]? = some x) (hlen : (parse t).st.items.length ≤ 1000000) :
    Calls Tryz.prog 51 #[.pointer (some ⟨b, 0, none⟩), .int .i64 (x.1 : Nat)] w fun e w' => ∃ u, e = .returned (.tuple #[u, .bool true]) ∧ FieldsAt w'.heap.size w' u x.2 ∧ Below w.heap.size w w' := by
  obtain ⟨ρ, ve, vs, h1⟩ := h
  obtain ⟨ao, cp, hve⟩ := h1.row.shape
  subst hve
  have hfine := stanzasOf_fine (List.mem_of_getElem? hx)
  have hid := stan_id hx
  obtain ⟨i, it, he, hf, hne⟩ := stan_entry hx
  rw [← hid] at he hne
  have C := Lib.hid (at_any w ρ b _ _ _ _ vs h1 (by rw [number_len]; exact hlen) x.1 i hfine.2.2 ⟨_, he, rfl⟩ hne)
  have H1 := Lib.hid h1
  have hil := (List.getElem?_eq_some_iff.1 he).1
  have hnl := number_len 1 (parse t).st.items
  generalize numberFrom 1 (parse t).st.items = es at *
  have HE := Lib.hid he
  have HF := Lib.hid hf
  have hfl := hfine.1.1
  have hfp := List.length_pos_iff.2 hfine.2.1
  clear h1 hx hfine hid he hne hf
  go_enter Tryz.func51, Tryz.ntmps51
  go_wp2_with fail
  refine C.out.mono ?_
  rintro e' w1 ⟨rfl, hb⟩
  have hl := H1.out.below hb
  obtain ⟨u, hu⟩ : ∃ u, vs[i]? = some u := ⟨_, List.getElem?_eq_getElem (by rw [hl.len]; exact hil)⟩
  obtain ⟨g1, g2, g3, g4⟩ := entCells_get es vs i _ u HE.out hu
  have hI := hl.its i u _ hu HE.out
  obtain ⟨uo, uc, hus⟩ := hI.shape
  subst hus
  obtain ⟨g, hg, hao⟩ : ∃ g, (Value.slice ao es.length cp).ownBlock = some g ∧ ao = some ⟨g, 0, none⟩ := by
    rcases hl.row.1.2 with ⟨-, h0⟩ | ⟨g, cp', cur, hz, -⟩
    · omega
    · injection hz with z1 z2 z3
      exact ⟨g, by rw [z1]; rfl, z1⟩
  have e3 := hl.row.1.cells hg _ _ g3
  rw [addr0] at e3
  subst hao
  have c0 : w1.cell? ⟨b, 0, none⟩ = some (.slice (some ⟨g, 0, none⟩) es.length cp) := B.cell_of_row _ b 0 _ _ hl.blk.1
  have hI1 := hI.1
  simp only [HF.out] at hI1 e3
  have CL := Lib.hid (cloneF_any (.slice uo x.2.length uc) (x.2.flatMap Fd.cells) x.2.length w1 hI1 hfp (by omega) (fdCells_one _))
  have HB := Lib.hid hb
  have hz := hb.size
  have hi0 : decide ((i : Int) < 0) = false := decide_eq_false (by omega)
  have hil2 : (i : Int) < (es.length : Int) := by omega
  clear hl g1 g2 g3 g4 hI hI1 hg hu hb C
  go_wp2_with fail
  refine CL.out.mono ?_
  rintro e' w2 ⟨g', cp', rfl, hg', hgl', ho2, hb2⟩
  have HO := Lib.hid ho2
  have HB2 := Lib.hid (HB.out.trans (hb2.mono hz))
  clear ho2 hb2 CL
  go_wp2
  go_ret2
  exact ⟨_, rfl, FieldsAt.row HO.out, HB2.out⟩
end Go.Proofs.YtjbnjlkoipkpoaaGreatDoor.T
