/- What a list's stanzas are behind an edit: plain. A list and an index in memory; each edit of the one, and what tells the other of it. What an index answers, in whatever world behind the one in which it stands. -/
import Derived.Test.YtklbbcemacpimaaGreatDoorFB
import Derived.Test.YtklbbcemacpimaaGreatDoorIWithinLaw
import Derived.Test.YtklbbcemacpimaaGreatDoorFC
import Derived.Test.YtklbbcemacpimaaGreatDoorIHeavy
import Derived.Test.YtklbbcemacpimaaGreatDoorIHas
namespace Go.Proofs.YtklbbcemacpimaaGreatDoor.I
open Go Go.Maps Go.Proofs Go.RowKit

/-- A list's stanzas: numbers and fields. -/
def stz (es : Es) : List B.St := (es.filter fun e => decide (0 < e.2)).map fun e => (e.2, e.1.fields)
theorem stz_app (a c : Es) : stz (a ++ c) = stz a ++ stz c := by simp [stz]
theorem stz_one {x : B.It × Nat} (h : 0 < x.2) : stz [x] = [(x.2, x.1.fields)] := by simp [stz, h]
theorem stz_mem {es : Es} {s : B.St} : s ∈ stz es ↔ ∃ e ∈ es, 0 < e.2 ∧ s = (e.2, e.1.fields) := by
  unfold stz
  rw [List.mem_map]
  constructor
  · rintro ⟨e, he, rfl⟩
    obtain ⟨h1, h2⟩ := List.mem_filter.1 he
    exact ⟨e, h1, by simpa using h2, rfl⟩
  · rintro ⟨e, h1, h2, rfl⟩
    exact ⟨e, List.mem_filter.2 ⟨h1, by simpa using h2⟩, rfl⟩
theorem ms_eq {m m' : Ms} (h : Rising m) (h' : Rising m') (he : ∀ s, s ∈ m ↔ s ∈ m') : m = m' :=
  rise_eq (r := fun a b : Int × List Fld => a.1 < b.1) (fun a h => by omega) (fun a b h1 h2 => by omega) h h' he
theorem fold_rise : ∀ (ss : List B.St) (m : Ms), Rising m → (∀ s ∈ m, ∀ x ∈ ss, s.1 ≠ (x.1 : Int)) → (ss.map fun x => x.1).Pairwise (· ≠ ·) → Rising (ss.foldl (fun m x => rIns x.1 (toFs x.2) m) m)
  | [], m, h, _, _ => h
  | x :: r, m, h, hn, hp => by
    rw [List.map_cons, List.pairwise_cons] at hp
    rw [List.foldl_cons]
    refine fold_rise r _ (rising_ins h fun s hs => hn s hs x (by simp)) (fun s hs y hy => ?_) hp.2
    rcases mem_ins.1 hs with rfl | hs
    · have := hp.1 y.1 (List.mem_map_of_mem hy)
      show ¬ ((x.1 : Int) = (y.1 : Int))
      omega
    · exact hn s hs y (by simp [hy])
theorem mOf_rise {ss : List B.St} (h : (ss.map fun x => x.1).Pairwise (· ≠ ·)) : Rising (mOf ss) := fold_rise ss [] List.Pairwise.nil (fun s hs => by simp at hs) h
/-- The numbers of the others. -/
theorem mid_ne {a c : List B.St} {p : B.St} (h : ((a ++ p :: c).map fun x => x.1).Pairwise (· ≠ ·)) : ((a ++ c).map fun x => x.1).Pairwise (· ≠ ·) ∧ ∀ x ∈ a ++ c, x.1 ≠ p.1 := by
  simp only [List.map_append, List.map_cons] at h ⊢
  obtain ⟨h1, h2, h3⟩ := List.pairwise_append.1 h
  rw [List.pairwise_cons] at h2
  refine ⟨List.pairwise_append.2 ⟨h1, h2.2, fun x hx y hy => h3 x hx y (List.mem_cons_of_mem _ hy)⟩, fun x hx => ?_⟩
  rcases List.mem_append.1 hx with hx | hx
  · exact h3 x.1 (List.mem_map_of_mem hx) p.1 (by simp)
  · exact fun e => h2.1 x.1 (List.mem_map_of_mem hx) e.symm
theorem mid_ap {a c : List B.St} {p : B.St} (h : ((a ++ c).map fun x => x.1).Pairwise (· ≠ ·)) (hp : ∀ x ∈ a ++ c, x.1 ≠ p.1) : ((a ++ p :: c).map fun x => x.1).Pairwise (· ≠ ·) := by
  simp only [List.map_append, List.map_cons] at h ⊢
  obtain ⟨h1, h2, h3⟩ := List.pairwise_append.1 h
  refine List.pairwise_append.2 ⟨h1, List.pairwise_cons.2 ⟨fun y hy => ?_, h2⟩, fun x hx y hy => ?_⟩
  · obtain ⟨z, hz, rfl⟩ := List.mem_map.1 hy
    exact fun e => hp z (List.mem_append.2 (.inr hz)) e.symm
  · rcases List.mem_cons.1 hy with rfl | hy
    · obtain ⟨z, hz, rfl⟩ := List.mem_map.1 hx
      exact hp z (List.mem_append.2 (.inl hz))
    · exact h3 x hx y hy
theorem drop_same {a c : List B.St} {p : B.St} (h : ((a ++ p :: c).map fun x => x.1).Pairwise (· ≠ ·)) : rDrop (mOf (a ++ p :: c)) p.1 = mOf (a ++ c) := by
  obtain ⟨h1, h2⟩ := mid_ne h
  refine ms_eq (rising_drop (mOf_rise h) _) (mOf_rise h1) fun s => ?_
  rw [mem_drop, mOf_mem, mOf_mem]
  constructor
  · rintro ⟨⟨x, hx, rfl⟩, hn⟩
    rcases List.mem_append.1 hx with hx | hx
    · exact ⟨x, List.mem_append.2 (.inl hx), rfl⟩
    · rcases List.mem_cons.1 hx with rfl | hx
      · exact absurd rfl hn
      · exact ⟨x, List.mem_append.2 (.inr hx), rfl⟩
  · rintro ⟨x, hx, rfl⟩
    refine ⟨⟨x, ?_, rfl⟩, fun e => h2 x hx (Int.ofNat.inj e)⟩
    rcases List.mem_append.1 hx with hx | hx
    · exact List.mem_append.2 (.inl hx)
    · exact List.mem_append.2 (.inr (List.mem_cons_of_mem _ hx))
theorem ins_same {a c : List B.St} {p : B.St} (h : ((a ++ c).map fun x => x.1).Pairwise (· ≠ ·)) (hp : ∀ x ∈ a ++ c, x.1 ≠ p.1) {fs : List Fld} (hf : toFs p.2 = fs) {m : Ms} (hm : rDrop m p.1 = mOf (a ++ c)) : rPut m p.1 fs = mOf (a ++ p :: c) := by
  subst hf
  have hr := mOf_rise h
  have hno : ∀ s ∈ mOf (a ++ c), s.1 ≠ (p.1 : Int) := fun s hs => by
    obtain ⟨x, hx, rfl⟩ := (mOf_mem _ _).1 hs
    exact fun e => hp x hx (Int.ofNat.inj e)
  unfold rPut
  rw [hm]
  refine ms_eq (rising_ins hr hno) (mOf_rise (mid_ap h hp)) fun s => ?_
  rw [mem_ins, mOf_mem, mOf_mem]
  constructor
  · rintro (rfl | ⟨x, hx, rfl⟩)
    · exact ⟨p, by simp, rfl⟩
    · refine ⟨x, ?_, rfl⟩
      rcases List.mem_append.1 hx with hx | hx
      · exact List.mem_append.2 (.inl hx)
      · exact List.mem_append.2 (.inr (List.mem_cons_of_mem _ hx))
  · rintro ⟨x, hx, rfl⟩
    rcases List.mem_append.1 hx with hx | hx
    · exact .inr ⟨x, List.mem_append.2 (.inl hx), rfl⟩
    · rcases List.mem_cons.1 hx with rfl | hx
      · exact .inl rfl
      · exact .inr ⟨x, List.mem_append.2 (.inr hx), rfl⟩
theorem drop_none {m : Ms} {id : Int} (h : ∀ s ∈ m, s.1 ≠ id) : rDrop m id = m ∧ (m.any fun s => s.1 == id) = false := by
  constructor
  · unfold rDrop
    exact List.filter_eq_self.2 fun s hs => by simpa using h s hs
  · rw [List.any_eq_false]
    intro s hs
    simpa using h s hs
/-- A list that has been edited K times. -/
structure LK (K : Nat) (es : Es) (next many : Nat) : Prop where
  apart : ((stz es).map fun x => x.1).Pairwise (· ≠ ·)
  low : ∀ e ∈ es, e.2 < next
  pos : 1 ≤ next
  cnt : (stz es).length = many
  few : many ≤ 400 + K
  len : es.length ≤ 900000 + K
  nx : next ≤ 1000 + K
  fine : ∀ e ∈ es, 0 < e.2 → e.1.fields ≠ [] ∧ e.1.fields.length ≤ 100 ∧ ∀ f ∈ e.1.fields, f.key.length ≤ 1000000 ∧ f.val.length ≤ 1000000
theorem LK.tell {K : Nat} {es : Es} {next many : Nat} (h : LK K es next many) (hK : K ≤ 1000) : Tellable (stz es) := by
  refine ⟨h.apart, by have := h.cnt; have := h.few; omega, fun x hx => ?_⟩
  obtain ⟨e, he, h0, rfl⟩ := stz_mem.1 hx
  obtain ⟨h1, h2, h3⟩ := h.fine e he h0
  have := h.low e he
  have := h.nx
  exact ⟨h2, by simp only; omega, h3⟩
theorem LK.more {K K' : Nat} {es : Es} {next many : Nat} (h : LK K es next many) (hK : K ≤ K') : LK K' es next many := ⟨h.apart, h.low, h.pos, h.cnt, by have := h.few; omega, by have := h.len; omega, by have := h.nx; omega, h.fine⟩
theorem es_cut {es : Es} {i : Nat} {x : B.It × Nat} (hx : es[i]? = some x) : es = es.take i ++ x :: es.drop (i + 1) := by
  obtain ⟨hi, e⟩ := List.getElem?_eq_some_iff.1 hx
  subst e
  rw [List.getElem_cons_drop, List.take_append_drop]
theorem stz_cut {es : Es} {i : Nat} {x : B.It × Nat} (hx : es[i]? = some x) (h0 : 0 < x.2) : stz es = stz (es.take i) ++ (x.2, x.1.fields) :: stz (es.drop (i + 1)) := by
  conv => lhs; rw [es_cut hx]
  rw [show es.take i ++ x :: es.drop (i + 1) = es.take i ++ ([x] ++ es.drop (i + 1)) from rfl, stz_app, stz_app, stz_one h0]
  rfl
def GoodFs (fs : List Fld) : Prop := fs ≠ [] ∧ fs.length ≤ 100 ∧ ∀ f ∈ fs, f.key.length ≤ 1000000 ∧ f.val.length ≤ 1000000
theorem GoodFs.of {fs : List Fld} (h : GoodFs fs) : ofFs fs ≠ [] ∧ (ofFs fs).length ≤ 100 ∧ ∀ f ∈ ofFs fs, f.key.length ≤ 1000000 ∧ f.val.length ≤ 1000000 := by
  refine ⟨fun e => h.1 (by unfold ofFs at e; exact List.map_eq_nil_iff.1 e), by rw [ofFs_len]; exact h.2.1, fun f hf => ?_⟩
  unfold ofFs at hf
  obtain ⟨g, hg, rfl⟩ := List.mem_map.1 hf
  exact h.2.2 g hg
theorem repl_lk {K : Nat} {es : Es} {next many i : Nat} {x : B.It × Nat} {raw : List UInt8} {fs : List Fld} (h : LK K es next many) (hx : es[i]? = some x) (h0 : 0 < x.2) (hf : GoodFs fs) :
    LK (K + 1) (spl es i (i + 1) [(⟨3, raw, ofFs fs⟩, x.2)]) next many ∧ rPut (mOf (stz es)) x.2 fs = mOf (stz (spl es i (i + 1) [(⟨3, raw, ofFs fs⟩, x.2)])) := by
  have hi := (List.getElem?_eq_some_iff.1 hx).1
  have hs := stz_cut hx h0
  have hs' : stz (spl es i (i + 1) [((⟨3, raw, ofFs fs⟩ : B.It), x.2)]) = stz (es.take i) ++ (x.2, ofFs fs) :: stz (es.drop (i + 1)) := by
    unfold spl
    rw [stz_app, stz_app, stz_one (x := ((⟨3, raw, ofFs fs⟩ : B.It), x.2)) h0]
    rfl
  have hap := h.apart
  rw [hs] at hap
  obtain ⟨h1, h2⟩ := mid_ne hap
  refine ⟨⟨?_, fun e he => ?_, h.pos, ?_, by have := h.few; omega, ?_, by have := h.nx; omega, fun e he h0' => ?_⟩, ?_⟩
  · rw [hs']; exact mid_ap h1 h2
  · rcases spl_mem he with he | he
    · exact h.low e he
    · rw [List.mem_singleton.1 he]
      exact h.low x (List.mem_of_getElem? hx)
  · rw [hs', ← h.cnt, hs]; simp
  · rw [spl_len _ _ _ _ (by omega) (by omega)]
    have := h.len
    simp only [List.length_cons, List.length_nil]
    omega
  · rcases spl_mem he with he | he
    · exact h.fine e he h0'
    · rw [List.mem_singleton.1 he]
      exact hf.of
  · rw [hs']
    refine ins_same (p := (x.2, ofFs fs)) h1 h2 (toFs_ofFs fs) ?_
    rw [hs]
    exact drop_same hap
theorem dele_lk {K : Nat} {es : Es} {next many i : Nat} {x : B.It × Nat} (h : LK K es next many) (hx : es[i]? = some x) (h0 : 0 < x.2) :
    LK (K + 1) (spl es i (i + 1) []) next (many - 1) ∧ rDrop (mOf (stz es)) x.2 = mOf (stz (spl es i (i + 1) [])) ∧ ((mOf (stz es)).any fun s => s.1 == (x.2 : Int)) = true := by
  have hi := (List.getElem?_eq_some_iff.1 hx).1
  have hs := stz_cut hx h0
  have hs' : stz (spl es i (i + 1) []) = stz (es.take i) ++ stz (es.drop (i + 1)) := by
    unfold spl
    rw [stz_app, List.nil_append]
  have hap := h.apart
  rw [hs] at hap
  obtain ⟨h1, h2⟩ := mid_ne hap
  refine ⟨⟨?_, fun e he => ?_, h.pos, ?_, by have := h.few; omega, ?_, by have := h.nx; omega, fun e he h0' => ?_⟩, ?_, ?_⟩
  · rw [hs']; exact h1
  · rcases spl_mem he with he | he
    · exact h.low e he
    · simp at he
  · rw [hs', ← h.cnt, hs]; simp only [List.length_append, List.length_cons]; omega
  · rw [spl_len _ _ _ _ (by omega) (by omega)]
    have := h.len
    simp only [List.length_nil]
    omega
  · rcases spl_mem he with he | he
    · exact h.fine e he h0'
    · simp at he
  · rw [hs', hs]
    exact drop_same hap
  · rw [List.any_eq_true]
    exact ⟨((x.2 : Int), toFs x.1.fields), (mOf_mem _ _).2 ⟨(x.2, x.1.fields), by rw [hs]; simp, rfl⟩, by simp⟩
theorem inse_lk {K : Nat} {es : Es} {next many j : Nat} {raw : List UInt8} {fs : List Fld} (h : LK K es next many) (hj : j ≤ es.length) (hf : GoodFs fs) :
    LK (K + 1) (spl es j j [(⟨3, raw, ofFs fs⟩, next)]) (next + 1) (many + 1) ∧ rPut (mOf (stz es)) next fs = mOf (stz (spl es j j [(⟨3, raw, ofFs fs⟩, next)])) := by
  have hs : stz es = stz (es.take j) ++ stz (es.drop j) := by rw [← stz_app, List.take_append_drop]
  have hs' : stz (spl es j j [((⟨3, raw, ofFs fs⟩ : B.It), next)]) = stz (es.take j) ++ (next, ofFs fs) :: stz (es.drop j) := by
    unfold spl
    rw [stz_app, stz_app, stz_one (x := ((⟨3, raw, ofFs fs⟩ : B.It), next)) h.pos]
    rfl
  have hap := h.apart
  have hlo : ∀ x ∈ stz es, x.1 < next := fun x hx => by
    obtain ⟨e, he, _, rfl⟩ := stz_mem.1 hx
    exact h.low e he
  have hne : ∀ x ∈ stz es, x.1 ≠ next := fun x hx => by have := hlo x hx; omega
  rw [hs] at hap
  rw [hs] at hne
  refine ⟨⟨?_, fun e he => ?_, by omega, ?_, by have := h.few; omega, ?_, by have := h.nx; omega, fun e he h0' => ?_⟩, ?_⟩
  · rw [hs']; exact mid_ap (p := (next, ofFs fs)) hap hne
  · rcases spl_mem he with he | he
    · have := h.low e he; omega
    · rw [List.mem_singleton.1 he]
      exact Nat.lt_succ_self _
  · rw [hs', ← h.cnt, hs]; simp only [List.length_append, List.length_cons]; omega
  · rw [spl_len _ _ _ _ (by omega) (by omega)]
    have := h.len
    simp only [List.length_cons, List.length_nil]
    omega
  · rcases spl_mem he with he | he
    · exact h.fine e he h0'
    · rw [List.mem_singleton.1 he]
      exact hf.of
  · rw [hs']
    refine ins_same (p := (next, ofFs fs)) hap hne (toFs_ofFs fs) ?_
    rw [← hs]
    exact (drop_none fun s hs' => by
      obtain ⟨x, hx, rfl⟩ := (mOf_mem _ _).1 hs'
      have := hlo x hx
      show ¬ ((x.1 : Int) = (next : Int))
      omega).1
theorem items_900 {s : List UInt8} (hs : s.length ≤ 60000) : (B.parse s).st.items.length ≤ 900000 := by
  have h1 := B.prefix_ok hs (List.prefix_rfl : B.splitL s <+: B.splitL s)
  unfold B.parse
  split
  · exact Nat.le_trans h1.items (by omega)
  · have h2 := B.flush_ok h1
    unfold B.Ps.fin
    split
    · exact Nat.le_trans h2.items (by omega)
    · have h3 := h2.items
      show (B.Ps.ended _).items.length ≤ _
      unfold B.Ps.ended
      split
      · show (B.Ps.flush _).st.items.length ≤ _; omega
      · show ((B.Ps.flush _).st.items ++ [_]).length ≤ _
        rw [List.length_append]; simp; omega
theorem number_low : ∀ (n : Nat) (xs : List B.It) (e : B.It × Nat), 1 ≤ n → e ∈ B.numberFrom n xs → e.2 < n + B.recsOf xs
  | _, [], e, _, h => by simp [B.numberFrom] at h
  | n, x :: r, e, hn, h => by
    unfold B.numberFrom at h
    split at h
    · rename_i hx
      have hr : B.recsOf (x :: r) = B.recsOf r + 1 := by unfold B.recsOf; simp [hx]
      rcases List.mem_cons.1 h with rfl | h
      · simp only; omega
      · have := number_low (n + 1) r e (by omega) h; omega
    · rename_i hx
      have hr : B.recsOf (x :: r) = B.recsOf r := by unfold B.recsOf; simp [hx]
      rcases List.mem_cons.1 h with rfl | h
      · simp only; omega
      · have := number_low n r e hn h; omega
/-- The list of a text. -/
theorem LK.of {t : List UInt8} (ht : t.length ≤ 60000) : LK 0 (B.numberFrom 1 (B.parse t).st.items) (1 + B.recsOf (B.parse t).st.items) (B.recsOf (B.parse t).st.items) := by
  have hT := tellable t
  refine ⟨hT.apart, fun e he => number_low 1 _ e (Nat.le_refl 1) he, by omega, B.stanzasOf_len t, ?_, ?_, ?_, fun e he h0 => ?_⟩
  · have := B.stanzasOf_few t; rw [B.stanzasOf_len] at this; omega
  · rw [B.number_len]; have := items_900 ht; omega
  · have := B.stanzasOf_few t; rw [B.stanzasOf_len] at this; omega
  · have hm : (e.2, e.1.fields) ∈ B.stanzasOf t := by
      show _ ∈ stz _
      exact stz_mem.2 ⟨e, he, h0, rfl⟩
    obtain ⟨h1, h2, h3⟩ := hT.fine _ hm
    exact ⟨(B.stanzasOf_fine hm).2.1, h1, h3⟩
end Go.Proofs.YtklbbcemacpimaaGreatDoor.I

namespace Go.Proofs.YtklbbcemacpimaaGreatDoor.I
open Go Go.Maps Go.Proofs Go.RowKit

/-- A list in block lb, an index in block xb, apart; both made behind w2; block gb is no part of either. -/
def LX (w2 W : World) (gb : Nat) (ob : Obj) (lb xb K N : Nat) (es : Es) (m : Ms) : Prop :=
  ∃ (oL oX : Nat → Prop) (next many : Nat) (ve : Value) (vs : List Value) (n : Nat), LIn oL W lb next many es ve vs ∧ XAt oX W xb n m ∧ n ≤ N ∧ LK K es next many ∧ (∀ b, oL b → ¬ oX b) ∧ (∀ b, oL b → w2.heap.size ≤ b) ∧ (∀ b, oX b → w2.heap.size ≤ b) ∧ Below w2.heap.size w2 W ∧ W.heap[gb]? = some ob ∧ ¬ oL gb ∧ ¬ oX gb
theorem LX.on {w2 W W' : World} {gb : Nat} {ob : Obj} {lb xb K N : Nat} {es : Es} {m : Ms} (h : LX w2 W gb ob lb xb K N es m) (hb : Below W.heap.size W W') : LX w2 W' gb ob lb xb K N es m := by
  obtain ⟨oL, oX, next, many, ve, vs, n, h1, h2, h3, h4, h5, h6, h7, h8, h9, h10⟩ := h
  exact ⟨oL, oX, next, many, ve, vs, n, h1.below hb, h2.below hb, h3, h4, h5, h6, h7, h8.trans (hb.mono h8.size), (hb.block gb (Array.getElem?_eq_some_iff.1 h9).1).trans h9, h10⟩
theorem LX.base {w2 W : World} {gb : Nat} {ob : Obj} {lb xb K N : Nat} {es : Es} {m : Ms} (h : LX w2 W gb ob lb xb K N es m) : Below w2.heap.size w2 W := let ⟨_, _, _, _, _, _, _, _, _, _, _, _, _, _, h8, _⟩ := h; h8
theorem LX.more {w2 W : World} {gb : Nat} {ob : Obj} {lb xb K K' N N' : Nat} {es : Es} {m : Ms} (h : LX w2 W gb ob lb xb K N es m) (hK : K ≤ K') (hN : N ≤ N') : LX w2 W gb ob lb xb K' N' es m := by
  obtain ⟨oL, oX, next, many, ve, vs, n, h1, h2, h3, h4, h5⟩ := h
  exact ⟨oL, oX, next, many, ve, vs, n, h1, h2, by omega, h4.more hK, h5⟩
/-- Behind an edit of the list. -/
theorem LX.guest {w2 W : World} {gb : Nat} {ob : Obj} {lb xb K N : Nat} {es : Es} {m : Ms} (h : LX w2 W gb ob lb xb K N es m) : W.heap[gb]? = some ob := let ⟨_, _, _, _, _, _, _, _, _, _, _, _, _, _, _, h9, _⟩ := h; h9
/-- Another one beside them: what stood there before, or what is new. -/
theorem LX.old {w2 W : World} {gb : Nat} {ob : Obj} {lb xb K N : Nat} {es : Es} {m : Ms} (h : LX w2 W gb ob lb xb K N es m) {g : Nat} {o : Obj} (hg : w2.heap[g]? = some o) : LX w2 W g o lb xb K N es m := by
  obtain ⟨oL, oX, next, many, ve, vs, n, h1, h2, h3, h4, h5, h6, h7, h8, -⟩ := h
  have hlt := (Array.getElem?_eq_some_iff.1 hg).1
  exact ⟨oL, oX, next, many, ve, vs, n, h1, h2, h3, h4, h5, h6, h7, h8, (h8.block g hlt).trans hg, fun h => by have := h6 g h; omega, fun h => by have := h7 g h; omega⟩
theorem LX.new {w2 W : World} {gb : Nat} {ob : Obj} {lb xb K N : Nat} {es : Es} {m : Ms} (h : LX w2 W gb ob lb xb K N es m) (o : Obj) (ho : (W.alloc o).heap[W.heap.size]? = some o) : LX w2 (W.alloc o) W.heap.size o lb xb K N es m := by
  obtain ⟨oL, oX, next, many, ve, vs, n, h1, h2, h3, h4, h5, h6, h7, h8, -⟩ := h
  have hb := below_grow1 W o
  exact ⟨oL, oX, next, many, ve, vs, n, h1.below hb, h2.below hb, h3, h4, h5, h6, h7, h8.trans (hb.mono h8.size), ho, fun h => by have := h1.low _ h; omega, fun h => by have := h2.low _ h; omega⟩
theorem lx_list {w2 W W' : World} {gb : Nat} {ob : Obj} {lb xb K N n next' many' : Nat} {es' : Es} {m : Ms} {oL oL' oX : Nat → Prop} {ve' : Value} {vs' : List Value} (hX : XAt oX W xb n m) (hn : n ≤ N) (hd : ∀ b, oL b → ¬ oX b) (hl : ∀ b, oL b → w2.heap.size ≤ b) (hx : ∀ b, oX b → w2.heap.size ≤ b) (hB : Below w2.heap.size w2 W) (hG : W.heap[gb]? = some ob ∧ ¬ oL gb ∧ ¬ oX gb)
    (hU : Upd oL W W') (hL' : LIn oL' W' lb next' many' es' ve' vs') (hsub : ∀ k, oL' k → oL k ∨ W.heap.size ≤ k) (hk : LK K es' next' many') : LX w2 W' gb ob lb xb K N es' m := by
  have hgl := (Array.getElem?_eq_some_iff.1 hG.1).1
  refine ⟨oL', oX, next', many', ve', vs', n, hL', hX.keep (fun b hb => hU.block b (hX.low b hb) fun ho => hd b ho hb) hU.size, hn, hk, fun b h1 h2 => ?_, fun b hb => ?_, hx, below_upd hU hl (Nat.le_refl _) hB, (hU.block gb hgl hG.2.1).trans hG.1, fun h => ?_, hG.2.2⟩
  · rcases hsub b h1 with h3 | h3
    · exact hd b h3 h2
    · have := hX.low b h2; omega
  · rcases hsub b hb with h3 | h3
    · exact hl b h3
    · have := hB.size; omega
  · rcases hsub gb h with h3 | h3
    · exact hG.2.1 h3
    · omega
/-- Behind what turns the index. -/
theorem lx_index {w2 W W' : World} {gb : Nat} {ob : Obj} {lb xb K N n' next many : Nat} {es : Es} {m' : Ms} {oL oX : Nat → Prop} {ve : Value} {vs : List Value} (hL : LIn oL W lb next many es ve vs) (hn : n' ≤ N) (hk : LK K es next many) (hd : ∀ b, oL b → ¬ oX b) (hl : ∀ b, oL b → w2.heap.size ≤ b) (hx : ∀ b, oX b → w2.heap.size ≤ b) (hB : Below w2.heap.size w2 W) (hG : W.heap[gb]? = some ob ∧ ¬ oL gb ∧ ¬ oX gb)
    (hp : XPost oX xb n' m' W W') : LX w2 W' gb ob lb xb K N es m' := by
  obtain ⟨oX', h1, h2, h3, -⟩ := hp
  have hgl := (Array.getElem?_eq_some_iff.1 hG.1).1
  refine ⟨oL, oX', next, many, ve, vs, n', hL.keep (fun k hk' => h2.block k (hL.low k hk') fun h => hd k hk' h) h2.size, h1, hn, hk, fun b h4 h5 => ?_, hl, fun b hb => ?_, below_upd h2 hx (Nat.le_refl _) hB, (h2.block gb hgl hG.2.2).trans hG.1, hG.2.1, fun h => ?_⟩
  · rcases h3 b h5 with h6 | h6
    · exact hd b h4 h6
    · have := hL.low b h4; omega
  · rcases h3 b hb with h6 | h6
    · exact hx b h6
    · have := hB.size; omega
  · rcases h3 gb h with h6 | h6
    · exact hG.2.2 h6
    · omega
theorem Slight.good {fs : List Fld} (h : Slight fs) (h0 : fs ≠ []) : GoodFs fs := ⟨h0, by have := h.1; omega, fun f hf => by have := h.2 f hf; omega⟩
theorem Slight.fine {fs : List Fld} (h : Slight fs) {id : Int} (hid : (Lit.int .i64 id).wf = true) : Fine (id, fs) :=
  ⟨hid, by have := h.1; simp only; omega, fun f hf => by have := h.2 f hf; have := maxLen_is; omega⟩
theorem put_lx (w2 W : World) (gb : Nat) (ob : Obj) (lb xb K N : Nat) (es : Es) (m : Ms) (id : Int) (vf : Value) (fs : List Fld) (h : LX w2 W gb ob lb xb K N es m) (hF : FldsAt W vf fs) (hf : Fine (id, fs)) (h1 : 1 ≤ id) (hN : N ≤ 900000) :
    Calls Tryz.prog 17 #[.pointer (some ⟨xb, 0, none⟩), .int .i64 id, vf] W fun e w' => e = .returned .nilIface ∧ LX w2 w' gb ob lb xb K (N + 7000) es (rPut m id fs) := by
  obtain ⟨oL, oX, next, many, ve, vs, n, k1, k2, k3, k4, k5, k6, k7, k8, k9⟩ := h
  have := maxLen_is
  refine (put_any oX xb n m id vf fs W k2 hF hf h1 (by omega)).mono ?_
  rintro e w' ⟨rfl, hp⟩
  exact ⟨rfl, lx_index k1 (by omega) k4 k5 k6 k7 k8 k9 hp⟩
theorem drop_lx (w2 W : World) (gb : Nat) (ob : Obj) (lb xb K N : Nat) (es : Es) (m : Ms) (id : Int) (h : LX w2 W gb ob lb xb K N es m) (hid : (Lit.int .i64 id).wf = true) (hN : N ≤ 900000) :
    Calls Tryz.prog 19 #[.pointer (some ⟨xb, 0, none⟩), .int .i64 id] W fun e w' => e = .returned (.bool (m.any fun s => s.1 == id)) ∧ LX w2 w' gb ob lb xb K (N + 7000) es (rDrop m id) := by
  obtain ⟨oL, oX, next, many, ve, vs, n, k1, k2, k3, k4, k5, k6, k7, k8, k9⟩ := h
  have := maxLen_is
  refine (drop_any oX xb n m id W k2 hid (by omega)).mono ?_
  rintro e w' ⟨rfl, hp⟩
  exact ⟨rfl, lx_index k1 (by omega) k4 k5 k6 k7 k8 k9 hp⟩
/-- Behind list.Replace. -/
def ReplX (w2 : World) (gb : Nat) (ob : Obj) (lb xb K N : Nat) (es : Es) (id : Int) (fs : List Fld) (e : Ending) (w' : World) : Prop :=
  (∃ u, e = .returned u ∧ IsErr u ∧ LX w2 w' gb ob lb xb K N es (mOf (stz es))) ∨
  (e = .returned .nilIface ∧ 1 ≤ id ∧ ∃ es', LX w2 w' gb ob lb xb (K + 1) N es' (mOf (stz es)) ∧ rPut (mOf (stz es)) id fs = mOf (stz es'))
theorem repl_lx (w2 W : World) (gb : Nat) (ob : Obj) (lb xb K N : Nat) (es : Es) (id : Int) (v : Value) (fs : List Fld) (h : LX w2 W gb ob lb xb K N es (mOf (stz es))) (hK : K ≤ 1000) (hF : FldsAt W v fs) (hs : Slight fs) (hr : Rdy W) :
    Calls Tryz.prog 16 #[.pointer (some ⟨lb, 0, none⟩), .int .i64 id, v] W (ReplX w2 gb ob lb xb K N es id fs) := by
  have h0 := h
  obtain ⟨oL, oX, next, many, ve, vs, n, k1, k2, k3, k4, k5, k6, k7, k8, k9⟩ := h
  have hlen := k4.len
  refine (repl_any oL W lb next many es ve vs k1 (by omega) id v fs hF (by have := hs.1; omega) hr).mono ?_
  rintro e w' (⟨⟨u, rfl, hu⟩, hb⟩ | ⟨rfl, hne, hU, i, x, raw, ve', vs', hx, hxi, hx0, hL⟩)
  · exact .inl ⟨u, rfl, hu, h0.on hb⟩
  · obtain ⟨q1, q2⟩ := repl_lk (raw := raw) k4 hx hx0 (hs.good hne)
    refine .inr ⟨rfl, by omega, _, lx_list k2 k3 k5 k6 k7 k8 k9 hU hL (fun k hk => hk.elim .inl fun h => .inr h.1) q1, ?_⟩
    rw [← hxi]
    exact q2
theorem dele_no (w2 W : World) (gb : Nat) (ob : Obj) (lb xb K N : Nat) (es : Es) (id : Int) (h : LX w2 W gb ob lb xb K N es (mOf (stz es))) (hK : K ≤ 1000) (hno : ¬ ∃ x ∈ es, (x.2 : Int) = id ∧ 0 < x.2) :
    Calls Tryz.prog 18 #[.pointer (some ⟨lb, 0, none⟩), .int .i64 id] W fun e w' => e = .returned (.iface 94 (.int .i64 7)) ∧ LX w2 w' gb ob lb xb K N es (mOf (stz es)) ∧ rDrop (mOf (stz es)) id = mOf (stz es) ∧ ((mOf (stz es)).any fun s => s.1 == id) = false := by
  have h0 := h
  obtain ⟨oL, oX, next, many, ve, vs, n, k1, k2, k3, k4, k5, k6, k7, k8, k9⟩ := h
  have hlen := k4.len
  have hfew := k4.few
  refine (dele_any oL W lb next many es ve vs k1 (by omega) (fun x hx hx0 => ?_) (by omega) id).mono ?_
  · rw [← k4.cnt]
    exact List.length_pos_of_mem (stz_mem.2 ⟨x, hx, hx0, rfl⟩)
  rintro e w' (⟨rfl, -, hb⟩ | ⟨rfl, hU, i, x, ve', vs', hx, hxi, hx0, hL⟩)
  · have hn : ∀ s ∈ mOf (stz es), s.1 ≠ id := fun s hs => by
      obtain ⟨y, hy, rfl⟩ := (mOf_mem _ _).1 hs
      obtain ⟨e, he, he0, rfl⟩ := stz_mem.1 hy
      exact fun e' => hno ⟨e, he, e', he0⟩
    obtain ⟨q1, q2⟩ := drop_none hn
    exact ⟨rfl, h0.on hb, q1, q2⟩
  · exact absurd ⟨x, List.mem_of_getElem? hx, hxi, hx0⟩ hno
theorem dele_yes (w2 W : World) (gb : Nat) (ob : Obj) (lb xb K N : Nat) (es : Es) (id : Int) (h : LX w2 W gb ob lb xb K N es (mOf (stz es))) (hK : K ≤ 1000) (hyes : ∃ x ∈ es, (x.2 : Int) = id ∧ 0 < x.2) :
    Calls Tryz.prog 18 #[.pointer (some ⟨lb, 0, none⟩), .int .i64 id] W fun e w' => e = .returned .nilIface ∧ ∃ es', LX w2 w' gb ob lb xb (K + 1) N es' (mOf (stz es)) ∧ rDrop (mOf (stz es)) id = mOf (stz es') ∧ ((mOf (stz es)).any fun s => s.1 == id) = true := by
  obtain ⟨oL, oX, next, many, ve, vs, n, k1, k2, k3, k4, k5, k6, k7, k8, k9⟩ := h
  have hlen := k4.len
  have hfew := k4.few
  refine (dele_any oL W lb next many es ve vs k1 (by omega) (fun x hx hx0 => ?_) (by omega) id).mono ?_
  · rw [← k4.cnt]
    exact List.length_pos_of_mem (stz_mem.2 ⟨x, hx, hx0, rfl⟩)
  rintro e w' (⟨rfl, hno, hb⟩ | ⟨rfl, hU, i, x, ve', vs', hx, hxi, hx0, hL⟩)
  · obtain ⟨x, hx, hxi, hx0⟩ := hyes
    rcases hno with h1 | h1
    · omega
    · exact absurd hxi (h1 x hx)
  · obtain ⟨q1, q2, q3⟩ := dele_lk k4 hx hx0
    refine ⟨rfl, _, lx_list k2 k3 k5 k6 k7 k8 k9 hU hL (fun k hk => .inl hk) q1, ?_, ?_⟩
    · rw [← hxi]; exact q2
    · rw [← hxi]; exact q3
/-- Behind list.Insert. -/
def InseX (w2 : World) (gb : Nat) (ob : Obj) (lb xb K N : Nat) (es : Es) (fs : List Fld) (e : Ending) (w' : World) : Prop :=
  (∃ u, e = .returned (.tuple #[.int .i64 0, u]) ∧ IsErr u ∧ LX w2 w' gb ob lb xb K N es (mOf (stz es))) ∨
  (∃ nx : Nat, e = .returned (.tuple #[.int .i64 nx, .nilIface]) ∧ 1 ≤ nx ∧ nx ≤ 3000 ∧ ∃ es', LX w2 w' gb ob lb xb (K + 1) N es' (mOf (stz es)) ∧ rPut (mOf (stz es)) nx fs = mOf (stz es'))
theorem inse_lx (w2 W : World) (gb : Nat) (ob : Obj) (lb xb K N : Nat) (es : Es) (behind : Int) (v : Value) (fs : List Fld) (h : LX w2 W gb ob lb xb K N es (mOf (stz es))) (hK : K ≤ 1000) (hF : FldsAt W v fs) (hs : Slight fs) (hr : Rdy W) :
    Calls Tryz.prog 20 #[.pointer (some ⟨lb, 0, none⟩), .int .i64 behind, v] W (InseX w2 gb ob lb xb K N es fs) := by
  have h0 := h
  obtain ⟨oL, oX, next, many, ve, vs, n, k1, k2, k3, k4, k5, k6, k7, k8, k9⟩ := h
  have hlen := k4.len
  have hfew := k4.few
  have hnx := k4.nx
  refine (inse_any oL W lb next many es ve vs k1 (by omega) (by omega) (by omega) behind v fs hF (by have := hs.1; omega) hr).mono ?_
  rintro e w' (⟨⟨u, rfl, hu⟩, hb⟩ | ⟨rfl, hne, hU, j, raw, ve', vs', hj, hL⟩)
  · exact .inl ⟨u, rfl, hu, h0.on hb⟩
  · obtain ⟨q1, q2⟩ := inse_lk (raw := raw) k4 hj (hs.good hne)
    exact .inr ⟨next, rfl, k4.pos, by omega, _, lx_list k2 k3 k5 k6 k7 k8 k9 hU hL (fun k hk => hk.elim .inl fun h => .inr h.1) q1, q2⟩
/-- The index of the list as it stands. -/
theorem of_lx (w2 W : World) (gb : Nat) (ob : Obj) (lb xb K N : Nat) (es : Es) (m : Ms) (h : LX w2 W gb ob lb xb K N es m) (hK : K ≤ 1000) :
    Calls Tryz.prog 7 #[.pointer (some ⟨lb, 0, none⟩)] W (OfPostN (stz es) W) := by
  obtain ⟨oL, oX, next, many, ve, vs, n, k1, k2, k3, k4, k5, k6, k7, k8, k9⟩ := h
  have hlen := k4.len
  refine of_few lb (stz es) W (k4.tell hK) fun w' hb => ?_
  obtain ⟨ρ, hρ, -⟩ := (k1.below hb).listAt
  have h2 := B.stanzas_any w' ρ lb next many es ve vs hρ (by omega) fun e he h0 => by
    obtain ⟨q1, q2, -⟩ := k4.fine e he h0
    exact ⟨List.length_pos_iff.2 q1, by omega⟩
  rw [B.pairs_st _ _ hρ.len] at h2
  exact h2
theorem len_lx (w2 W : World) (gb : Nat) (ob : Obj) (lb xb K N : Nat) (es : Es) (m : Ms) (h : LX w2 W gb ob lb xb K N es m) :
    Calls Tryz.prog 22 #[.pointer (some ⟨lb, 0, none⟩)] W fun e w' => e = .returned (.int .i64 (mOf (stz es)).length) ∧ W = w' := by
  obtain ⟨oL, oX, next, many, ve, vs, n, k1, k2, k3, k4, k5, k6, k7, k8, k9⟩ := h
  have hc : W.cell? ⟨lb, 2, none⟩ = some (.int .i64 (many : Nat)) := (cells3' k1.blk).2.2
  rw [mOf_len, k4.cnt]
  clear k1 k2 k4 k5 k6 k7 k8 k9
  go_enter Tryz.func22, Tryz.ntmps22
  go_wp2
  go_ret
  exact ⟨rfl, rfl⟩
/-- A list that Of has made. -/
def LO (w2 W : World) (lb : Nat) (es : Es) : Prop :=
  ∃ (oL : Nat → Prop) (next many : Nat) (ve : Value) (vs : List Value), LIn oL W lb next many es ve vs ∧ LK 0 es next many ∧ (∀ b, oL b → w2.heap.size ≤ b) ∧ Below w2.heap.size w2 W
theorem list_lo (s : ByteArray) (hs : s.size ≤ 60000) (w : World) (he : (B.parse s.data.toList).err = 0) :
    Calls Tryz.prog 6 #[.string s] w fun e w' => ∃ lb es, e = .returned (.tuple #[.pointer (some ⟨lb, 0, none⟩), .nilIface]) ∧ LO w w' lb es :=
  (B.listOf_any s hs w).mono fun e w' h => by
    unfold B.ListPost at h
    rw [if_pos he] at h
    obtain ⟨b, ρ, ve, vs, h1, h2, h3, h4⟩ := h
    refine ⟨b, _, h1, _, _, _, ve, vs, LIn.of h2, LK.of hs, fun k hk => ?_, h4⟩
    rcases Nat.lt_or_ge k w.heap.size with hlt | hge
    · exact absurd (h3 k hlt) hk
    · exact hge
theorem of_lo (w2 W : World) (lb : Nat) (es : Es) (h : LO w2 W lb es) {g : Nat} {o : Obj} (hg : w2.heap[g]? = some o) :
    Calls Tryz.prog 7 #[.pointer (some ⟨lb, 0, none⟩)] W fun e w' => ∃ xb, e = .returned (.pointer (some ⟨xb, 0, none⟩)) ∧ LX w2 w' g o lb xb 0 160000 es (mOf (stz es)) := by
  obtain ⟨oL, next, many, ve, vs, k1, k4, k6, k8⟩ := h
  have hlen := k4.len
  refine (of_few lb (stz es) W (k4.tell (by omega)) fun w' hb => ?_).mono fun e w' ⟨xb, n, own, h1, h2, h3⟩ => ?_
  · obtain ⟨ρ, hρ, -⟩ := (k1.below hb).listAt
    have h2 := B.stanzas_any w' ρ lb next many es ve vs hρ (by omega) fun e he h0 => by
      obtain ⟨q1, q2, -⟩ := k4.fine e he h0
      exact ⟨List.length_pos_iff.2 q1, by omega⟩
    rw [B.pairs_st _ _ hρ.len] at h2
    exact h2
  · have hlt := (Array.getElem?_eq_some_iff.1 hg).1
    have hz := k8.size
    have hc := k4.cnt
    have hf := k4.few
    refine ⟨xb, h1, oL, own, next, many, ve, vs, n, k1.below h2.below, h2.at_, by omega, k4, fun b h4 h5 => ?_, k6, fun b hb => ?_, k8.trans (h2.below.mono k8.size), ?_, fun h => by have := k6 g h; omega, fun h => by have := h2.high g h; omega⟩
    · have := k1.low b h4
      have := h2.high b h5
      omega
    · have := h2.high b hb; omega
    · exact (h2.below.block g (by omega)).trans ((k8.block g hlt).trans hg)
theorem LX.x {w2 W : World} {gb : Nat} {ob : Obj} {lb xb K N : Nat} {es : Es} {m : Ms} (h : LX w2 W gb ob lb xb K N es m) : ∃ oX n, XAt oX W xb n m ∧ n ≤ N := let ⟨_, oX, _, _, _, _, n, _, k2, k3, _⟩ := h; ⟨oX, n, k2, k3⟩
end Go.Proofs.YtklbbcemacpimaaGreatDoor.I

namespace Go.Proofs.YtklbbcemacpimaaGreatDoor.I
open Go Go.Maps Go.Proofs Go.RowKit Go.Sort Go.Shelf

/-- Texts in a row of the call's own. -/
def OStrs (L : List L8) (w : World) (e : Ending) (w' : World) : Prop := ∃ u, e = .returned u ∧ w'.ownsRow w.heap.size 9 1 u L.length (L.map encStr) ∧ Below w.heap.size w w'
theorem StrAns.own {w : World} {p : L8 → Prop} {e : Ending} {w' : World} {L : List L8} (h : StrAns w p e w') (hL : ∀ ss : List L8, ss.Pairwise (· < ·) → (∀ i, i ∈ ss ↔ p i) → ss = L) : OStrs L w e w' := by
  obtain ⟨v, ss, h1, h2, h3, h4, h5⟩ := h
  have := hL ss h2 h3
  subst this
  exact ⟨v, h1, h4, h5⟩
def kL (M : Ms) : List L8 := addAllS (keysM M)
def vL (M : Ms) (k : L8) : List L8 := addAllS (valsM k M)
structure Answers (wf : World) (xb : Nat) (M : Ms) : Prop where
  len : ∀ W, Below wf.heap.size wf W → Calls Tryz.prog 21 #[.pointer (some ⟨xb, 0, none⟩)] W fun e w' => e = .returned (.int .i64 M.length) ∧ W = w'
  keys : ∀ W, Below wf.heap.size wf W → Calls Tryz.prog 24 #[.pointer (some ⟨xb, 0, none⟩)] W (OStrs (kL M) W)
  values : ∀ k : ByteArray, k.size ≤ maxLen → ∀ W, Below wf.heap.size wf W → Calls Tryz.prog 8 #[.pointer (some ⟨xb, 0, none⟩), .string k] W (OStrs (vL M k.data.toList) W)
  with_ : ∀ k : ByteArray, k.size ≤ maxLen → ∀ W, Below wf.heap.size wf W → Calls Tryz.prog 9 #[.pointer (some ⟨xb, 0, none⟩), .string k] W (AInts (rWho (pick k.data.toList [] [] true) M) W)
  equal : ∀ k t : ByteArray, k.size ≤ maxLen → t.size ≤ maxLen → ∀ W, Below wf.heap.size wf W → Calls Tryz.prog 11 #[.pointer (some ⟨xb, 0, none⟩), .string k, .string t] W (AInts (rWho (pick k.data.toList t.data.toList t.data.toList false) M) W)
  count : ∀ k t : ByteArray, k.size ≤ maxLen → t.size ≤ maxLen → ∀ W, Below wf.heap.size wf W → Calls Tryz.prog 12 #[.pointer (some ⟨xb, 0, none⟩), .string k, .string t] W fun e w' => e = .returned (.int .i64 (rCount k.data.toList t.data.toList M)) ∧ Below W.heap.size W w'
  between : ∀ k t hi : ByteArray, k.size ≤ maxLen → ∀ W, Below wf.heap.size wf W → Calls Tryz.prog 14 #[.pointer (some ⟨xb, 0, none⟩), .string k, .string t, .string hi] W (AInts (rWho (pick k.data.toList t.data.toList hi.data.toList false) M) W)
theorem answers {own : Nat → Prop} {wf : World} {xb n : Nat} {M : Ms} (h : XAt own wf xb n M) (hn : n ≤ 1000000) : Answers wf xb M := by
  have hR := h.rise
  have hX : ∀ w', Below wf.heap.size wf w' → XAt own w' xb n M := fun w' hb => h.below hb
  exact {
    len := fun W hb => (len_any (hX W hb)).mono fun e w' h => ⟨h.1, h.2.symm⟩
    keys := fun W hb => (keys_at (hX W hb) hn).mono fun e w2 ha => ha.own fun ss h1 h2 => keys_eq hR h1 h2
    values := fun k hk W hb => (values_at (hX W hb) hn k hk).mono fun e w2 ha => ha.own fun ss h1 h2 => vals_eq hR k.data.toList h1 h2
    with_ := fun k hk W hb => (with_at (hX W hb) hn k hk).mono fun e w2 ha => ha.is fun ss h1 h2 => who_all hR k.data.toList h1 h2
    equal := fun k t hk ht W hb => (equal_at (hX W hb) hn k t hk ht).mono fun e w2 ha => ha.is fun ss h1 h2 => who_eq hR k.data.toList t.data.toList h1 h2
    count := fun k t hk ht W hb => count_at (hX W hb) hn k t hk ht
    between := fun k t hi hk W hb => (between_at (hX W hb) hn k t hi hk).mono fun e w2 ha => ha.is fun ss h1 h2 => who_between hR k.data.toList t.data.toList hi.data.toList h1 h2 }
/-- Its keys and values are texts that fit. -/
theorem kL_fit {own : Nat → Prop} {wf : World} {xb n : Nat} {M : Ms} (h : XAt own wf xb n M) : ∀ k ∈ kL M, k.length ≤ maxLen := by
  intro k hk
  obtain ⟨v, i, hv⟩ := (keysM_mem h.rise k).1 hk
  obtain ⟨s, hs, -, f, hf, rfl, -⟩ := (cM_mem h.rise).1 hv
  exact ((h.fine s hs).small f hf).1
theorem vL_fit {own : Nat → Prop} {wf : World} {xb n : Nat} {M : Ms} (h : XAt own wf xb n M) (k : L8) : ∀ v ∈ vL M k, v.length ≤ maxLen := by
  intro v hv
  obtain ⟨i, hv⟩ := (valsM_mem h.rise k v).1 hv
  obtain ⟨s, hs, -, f, hf, -, rfl⟩ := (cM_mem h.rise).1 hv
  exact ((h.fine s hs).small f hf).2
theorem sum_le {M : Ms} {c : Nat} : (∀ s ∈ M, s.2.length ≤ c) → (keysM M).length ≤ M.length * c := by
  induction M with
  | nil => intro _; simp [keysM]
  | cons a r ih =>
    intro h
    have h1 := h a (by simp)
    have h2 := ih fun s hs => h s (by simp [hs])
    have h3 : (keysM (a :: r)).length = a.2.length + (keysM r).length := by simp [keysM, keysF]
    rw [h3, List.length_cons, Nat.succ_mul]
    omega
theorem kL_few {M : Ms} (hm : M.length ≤ 2000) (hf : ∀ s ∈ M, s.2.length ≤ 1000) : (kL M).length ≤ 2000000 := by
  have h1 := addAllS_len (keysM M)
  have h2 := sum_le hf
  have h3 : M.length * 1000 ≤ 2000 * 1000 := Nat.mul_le_mul_right _ hm
  unfold kL
  omega
theorem vL_few {M : Ms} (k : L8) (hm : M.length ≤ 2000) (hf : ∀ s ∈ M, s.2.length ≤ 1000) : (vL M k).length ≤ 2000000 := by
  have h1 := addAllS_len (valsM k M)
  have h2 := withM_len (key := k) hf
  have h3 : M.length * 1000 ≤ 2000 * 1000 := Nat.mul_le_mul_right _ hm
  unfold vL
  omega
theorem LX.tell {w2 W : World} {gb : Nat} {ob : Obj} {lb xb K N : Nat} {es : Es} {m : Ms} (h : LX w2 W gb ob lb xb K N es m) (hK : K ≤ 1000) : (stz es).length ≤ 2000 := let ⟨_, _, _, _, _, _, _, _, _, _, k4, _⟩ := h; (k4.tell hK).few
/-- A text more in a row. -/
theorem strs_snoc {w : World} {lo g cap : Nat} {L : List L8} {s : ByteArray} (h : w.ownsRow lo 9 1 (.slice (some ⟨g, 0, none⟩) (L.length + 1) cap) (L.length + 1) (L.map encStr ++ [.string s])) : StrsAt w (.slice (some ⟨g, 0, none⟩) (L.length + 1) cap) (L ++ [s.data.toList]) := by
  refine StrsAt.of (lo := lo) (T := 9) ?_
  rw [List.length_append, List.map_append]
  have : [Value.string s] = [s.data.toList].map encStr := by
    show _ = [encStr s.data.toList]
    unfold encStr
    rw [Lib.mk_data s]
  rw [← this]
  exact h
theorem infoStr : (Tryz.prog.info? 9).map (fun i => (i.zero, i.size, i.bytes)) = some (some (.string ⟨#[]⟩), 1, 16) := by kernel_rfl
end Go.Proofs.YtklbbcemacpimaaGreatDoor.I
