/- stanzakeeplaw30.lists, walked. -/
import Derived.Test.YtjbnjlkoipkpoaaGreatDoorLAlive
import Derived.Test.YtjbnjlkoipkpoaaGreatDoorTRefRows
namespace Go.Proofs.YtjbnjlkoipkpoaaGreatDoor.T
open Go.RowKit Go.Shelf
open Go.Proofs.YtjbnjlkoipkpoaaGreatDoor.B

/-- Of a size that is looked at. -/
def Small30 (s name key : ByteArray) : Prop := s.size ≤ 1500 ∧ name.size ≤ 100 ∧ key.size ≤ 100
/-- A text, a name and a key that are looked at. -/
def Good30 (s name key : ByteArray) : Prop := Small30 s name key ∧ (parse s.data.toList).err = 0 ∧ (stanzasOf s.data.toList).length < 40
def ListsNo (w : World) (e : Ending) (w' : World) : Prop := ∃ (p : Option Addr) (eo : Option Addr) (el ec : Nat) (nx : Int), e = .returned (.tuple #[.pointer p, .agg #[.slice eo el ec, .int .i64 nx], .bool false]) ∧ Below w.heap.size w w'
def ListsOk (t : List UInt8) (w : World) (e : Ending) (w' : World) : Prop := ∃ (b : Nat) (ve : Value) (nx : Int), e = .returned (.tuple #[.pointer (some ⟨b, 0, none⟩), .agg #[ve, .int .i64 nx], .bool true]) ∧ ListIn w' b t ∧ EntsAt w'.heap.size w' ve (numberFrom 1 (parse t).st.items) ∧ Below w.heap.size w w'
set_option maxRecDepth 100000 in
set_option maxHeartbeats 3200000 in
theorem lists_large (s name key : ByteArray) (w : World) (h : ¬ Small30 s name key) (hs : s.size ≤ 9223372036854775807) (hn : name.size ≤ 9223372036854775807) (hk : key.size ≤ 9223372036854775807) :
    Calls Tryz.prog 12 #[.string s, .string name, .string key] w (ListsNo w) := by
  have hb1 := Lib.hid (below_grow1 w (.cells #[.slice none 0 0, .int .i64 0] 26))
  unfold Small30 at h
  by_cases h1 : 1500 < s.size
  · have h1z : (1500 : Int) < (s.size : Int) := by omega
    clear h
    go_enter Tryz.func12, Tryz.ntmps12
    go_wp2
    refine bodyPost_ret (v := .tuple #[.pointer none, .agg #[.slice none 0 0, .int .i64 0], .bool false]) (by simp [results, Tryz.results12, go_sem]) rfl ?_
    exact ⟨_, _, _, _, _, rfl, hb1.out⟩
  · have h1z : ¬ (1500 : Int) < (s.size : Int) := by omega
    by_cases h2 : 100 < name.size
    · have h2z : (100 : Int) < (name.size : Int) := by omega
      clear h
      go_enter Tryz.func12, Tryz.ntmps12
      go_wp2
      refine bodyPost_ret (v := .tuple #[.pointer none, .agg #[.slice none 0 0, .int .i64 0], .bool false]) (by simp [results, Tryz.results12, go_sem]) rfl ?_
      exact ⟨_, _, _, _, _, rfl, hb1.out⟩
    · have h2z : ¬ (100 : Int) < (name.size : Int) := by omega
      have h3z : (100 : Int) < (key.size : Int) := by omega
      clear h
      go_enter Tryz.func12, Tryz.ntmps12
      go_wp2
      refine bodyPost_ret (v := .tuple #[.pointer none, .agg #[.slice none 0 0, .int .i64 0], .bool false]) (by simp [results, Tryz.results12, go_sem]) rfl ?_
      exact ⟨_, _, _, _, _, rfl, hb1.out⟩
theorem RList.but {C r : Nat} {w w' : World} {v : Value} {es : List (It × Nat)} {next : Nat} (h : RList C w v es next) (hk : KeepBut w r w') (hr : r < C) : RList C w' v es next := by
  obtain ⟨ve, vs, hv, hrow, hl, hits⟩ := h
  exact ⟨ve, vs, hv, ownsRow_of_block hrow fun g hg => hk.block g (World.ownsRow.lt hrow g hg).2 (by have := (World.ownsRow.lt hrow g hg).1; omega), hl, fun i u e h1 h2 => ownsRow_of_block (hits i u e h1 h2) fun g hg => hk.block g (World.ownsRow.lt (hits i u e h1 h2) g hg).2 (by have := (World.ownsRow.lt (hits i u e h1 h2) g hg).1; omega)⟩
theorem ListAt.but {w w' : World} {ρ : Col} {b next many r : Nat} {es : List (It × Nat)} {ve : Value} {vs : List Value} (h : ListAt w ρ b es next many ve vs) (hk : KeepBut w r w') (hr : ρ r = none) : ListAt w' ρ b es next many ve vs :=
  h.keep (Ext.refl _ _) (σ := fun k => if k = r then some 0 else none) ⟨hk.os, hk.tape, hk.output, hk.size, fun k h1 h2 => hk.block k h1 fun e => by rw [if_pos e] at h2; cases h2⟩ (fun g hg => if_neg fun e => hg (by rw [e]; exact hr)) (h.fits.more hk.size)
set_option maxRecDepth 100000 in
set_option maxHeartbeats 6400000 in
theorem lists_bad (s name key : ByteArray) (w : World) (h : Small30 s name key) (he : (parse s.data.toList).err ≠ 0) :
    Calls Tryz.prog 12 #[.string s, .string name, .string key] w (ListsNo w) := by
  obtain ⟨h1, h2, h3⟩ := h
  have h1z : ¬ (1500 : Int) < (s.size : Int) := by omega
  have h2z : ¬ (100 : Int) < (name.size : Int) := by omega
  have h3z : ¬ (100 : Int) < (key.size : Int) := by omega
  have LO := Lib.hid (fun w' => list_no s (by omega) w' he)
  unfold faultV at LO
  have RO := Lib.hid (fun w' => refOf_no s (by omega) w' he)
  obtain ⟨w1, hw1⟩ : ∃ w1, w.alloc (.cells #[.slice none 0 0, .int .i64 0] 26) = w1 := ⟨_, rfl⟩
  have hb1 : Below w.heap.size w w1 := by rw [← hw1]; exact below_grow1 w _
  have hE : w1.heap[w.heap.size]? = some (.cells #[.slice none 0 0, .int .i64 0] 26 (0, 0)) := by rw [← hw1]; exact heap_alloc_new w _
  have hlt : w.heap.size < w1.heap.size := (Array.getElem?_eq_some_iff.1 hE).1
  have HB1 := Lib.hid hb1
  have HE := Lib.hid hE
  have HW1 := Lib.hid hw1
  clear hb1 hE hw1 he
  go_enter Tryz.func12, Tryz.ntmps12
  go_wp2_with fail
  rw [HW1.out]
  refine (LO.out w1).mono ?_
  rintro e w2 ⟨g, rfl, hb2⟩
  have HB2 := Lib.hid (HB1.out.trans (hb2.mono HB1.out.size))
  have HE2 := Lib.hid ((hb2.block _ hlt).trans HE.out)
  have hz2 := hb2.size
  clear hb2 LO HB1 HE
  go_wp2_with fail
  refine (RO.out w2).mono ?_
  rintro e w3 ⟨i, n, rfl, hn, hn2, hb3⟩
  have HB3 := Lib.hid (HB2.out.trans (hb3.mono HB2.out.size))
  have HE3 := Lib.hid ((hb3.block _ (Nat.lt_of_lt_of_le hlt hz2)).trans HE2.out)
  have hne : ((n : Int) == 0) = false := by rw [beq_eq_false_iff_ne]; omega
  clear hb3 HB2 HE2 RO HW1
  go_wp2_with fail
  obtain ⟨w4, hw4⟩ : ∃ w4, w3.alloc (.cells #[.slice none 0 0, .int .i64 0] 26) = w4 := ⟨_, rfl⟩
  have hb4 : Below w3.heap.size w3 w4 := by rw [← hw4]; exact below_grow1 w3 _
  have hE4 : w4.heap[w3.heap.size]? = some (.cells #[.slice none 0 0, .int .i64 0] 26 (0, 0)) := by rw [← hw4]; exact heap_alloc_new w3 _
  obtain ⟨R, hR⟩ : ∃ R, w.heap.size = R := ⟨_, rfl⟩
  have hER : w4.heap[R]? = some (.cells #[.slice none 0 0, .int .i64 0] 26 (0, 0)) := by rw [← hR]; exact (hb4.block _ (Array.getElem?_eq_some_iff.1 HE3.out).1).trans HE3.out
  have c0 : w4.cell? ⟨R, 0, none⟩ = some (.slice none 0 0) := by simp [World.cell?, hER]
  have c1 : w4.cell? ⟨R, 1, none⟩ = some (.int .i64 0) := by simp [World.cell?, hER]
  have f0 : w4.frozen? ⟨R, 0, none⟩ = false := by simp [World.frozen?, hER]
  have f1 : w4.frozen? ⟨R, 1, none⟩ = false := by simp [World.frozen?, hER]
  have d0 : w4.cell? ⟨w3.heap.size, 0, none⟩ = some (.slice none 0 0) := by simp [World.cell?, hE4]
  have d1 : w4.cell? ⟨w3.heap.size, 1, none⟩ = some (.int .i64 0) := by simp [World.cell?, hE4]
  have HB4 := Lib.hid (HB3.out.trans (hb4.mono HB3.out.size))
  have HR := Lib.hid hR
  rw [hw4]
  try simp only [hR]
  have HS : Hid (∀ (W : World) (a b : Value), Below w.heap.size w W → Below w.heap.size w ((W.setCell ⟨R, 0, none⟩ a).setCell ⟨R, 1, none⟩ b)) := Lib.hid fun W a b h => (h.setCell (p := ⟨R, 0, none⟩) (by show _ ≤ R; omega) a).setCell (p := ⟨R, 1, none⟩) (by show _ ≤ R; omega) b
  clear hw4 hR hb4 hE4 hER HB3 HE3
  first | go_region_with (fail) | fail
  all_goals
    go_wp2
    refine bodyPost_ret (v := .tuple #[.pointer none, .agg #[.slice none 0 0, .int .i64 0], .bool false]) (by simp [results, Tryz.results12, go_sem, c0, c1]) rfl ?_
    exact ⟨_, _, _, _, _, rfl, HS.out _ _ _ HB4.out.drew⟩
set_option maxRecDepth 100000 in
set_option maxHeartbeats 6400000 in
theorem lists_fit (s name key : ByteArray) (w : World) (h : Small30 s name key) (he : (parse s.data.toList).err = 0) (h40 : (stanzasOf s.data.toList).length < 40) :
    Calls Tryz.prog 12 #[.string s, .string name, .string key] w fun e w' => ∃ (b : Nat) (ve : Value) (nx : Int), e = .returned (.tuple #[.pointer (some ⟨b, 0, none⟩), .agg #[ve, .int .i64 nx], .bool true]) ∧ ListIn w' b s.data.toList ∧ EntsAt w'.heap.size w' ve (numberFrom 1 (parse s.data.toList).st.items) ∧ Below w.heap.size w w' := by
  obtain ⟨h1, h2, h3⟩ := h
  have h1z : ¬ (1500 : Int) < (s.size : Int) := by omega
  have h2z : ¬ (100 : Int) < (name.size : Int) := by omega
  have h3z : ¬ (100 : Int) < (key.size : Int) := by omega
  have LO := Lib.hid (fun w' => listOf_any s (by omega) w')
  have RO := Lib.hid (fun w' => refOf_ok s (by omega) w' he)
  have HE0 := Lib.hid he
  obtain ⟨w1, hw1⟩ : ∃ w1, w.alloc (.cells #[.slice none 0 0, .int .i64 0] 26) = w1 := ⟨_, rfl⟩
  have hb1 : Below w.heap.size w w1 := by rw [← hw1]; exact below_grow1 w _
  have hE : w1.heap[w.heap.size]? = some (.cells #[.slice none 0 0, .int .i64 0] 26 (0, 0)) := by rw [← hw1]; exact heap_alloc_new w _
  have hlt : w.heap.size < w1.heap.size := (Array.getElem?_eq_some_iff.1 hE).1
  have HB1 := Lib.hid hb1
  have HE := Lib.hid hE
  have HW1 := Lib.hid hw1
  obtain ⟨n, hn⟩ : ∃ n, (stanzasOf s.data.toList).length = n := ⟨_, rfl⟩
  rw [hn] at h40
  have hnz : (n : Int) < 40 := by omega
  have HN := Lib.hid hn
  clear hb1 hE hw1 he hn
  go_enter Tryz.func12, Tryz.ntmps12
  go_wp2_with fail
  rw [HW1.out]
  refine (LO.out w1).mono ?_
  intro e w2 hpost
  unfold ListPost at hpost
  rw [if_pos HE0.out] at hpost
  obtain ⟨b, ρ, ve0, vs0, rfl, hLA, hρ, hb2⟩ := hpost
  have HB2 := Lib.hid (HB1.out.trans (hb2.mono HB1.out.size))
  have HE2 := Lib.hid ((hb2.block _ hlt).trans HE.out)
  have HLA := Lib.hid hLA
  have HRHO : Hid (ρ w.heap.size = none) := Lib.hid (hρ _ hlt)
  have hz2 := hb2.size
  clear hb2 LO HB1 HE hLA hρ
  go_wp2_with fail
  refine (RO.out w2).mono ?_
  rintro e w3 ⟨v, rfl, hRL, hb3⟩
  have HB3 := Lib.hid (HB2.out.trans (hb3.mono HB2.out.size))
  have HE3 := Lib.hid ((hb3.block _ (Nat.lt_of_lt_of_le hlt hz2)).trans HE2.out)
  have HLA3 := Lib.hid (HLA.out.below hb3)
  have HRL := Lib.hid hRL
  obtain ⟨ve, vs, hv, hrow, -⟩ := hRL
  subst hv
  obtain ⟨eo, ec, hve⟩ := own_shape hrow
  subst hve
  obtain ⟨el, hel⟩ : ∃ el, (numberFrom 1 (parse s.data.toList).st.items).length = el := ⟨_, rfl⟩
  obtain ⟨nx, hnx⟩ : ∃ nx : Int, ((1 + recsOf (parse s.data.toList).st.items : Nat) : Int) = nx := ⟨_, rfl⟩
  have HEL := Lib.hid hel
  have HNX := Lib.hid hnx
  rw [hel, hnx]
  clear hb3 HB2 HE2 RO HW1 hrow HLA hel hnx
  go_wp2_with fail
  obtain ⟨w4, hw4⟩ : ∃ w4, w3.alloc (.cells #[.slice eo el ec, .int .i64 nx] 26) = w4 := ⟨_, rfl⟩
  have hb4 : Below w3.heap.size w3 w4 := by rw [← hw4]; exact below_grow1 w3 _
  have hE4 : w4.heap[w3.heap.size]? = some (.cells #[.slice eo el ec, .int .i64 nx] 26 (0, 0)) := by rw [← hw4]; exact heap_alloc_new w3 _
  have HLA4 := Lib.hid (HLA3.out.below hb4)
  have HRL4 : Hid (RList w2.heap.size w4 (.agg #[.slice eo el ec, .int .i64 nx]) (numberFrom 1 (parse s.data.toList).st.items) (1 + recsOf (parse s.data.toList).st.items)) := Lib.hid (by
    obtain ⟨ve, vs, hv, hrow, hl, hits⟩ := HRL.out
    injection hv with hv
    injection hv with hv
    injection hv with hv1 hv2
    subst hv1
    refine ⟨.slice eo el ec, vs, by rw [← HNX.out], ?_, hl, fun i u e h1 h2 => (hits i u e h1 h2).below hb4⟩
    rw [← HEL.out]
    exact ownsRow_of_block hrow fun g hg => hb4.block g (World.ownsRow.lt hrow g hg).2)
  obtain ⟨R, hR⟩ : ∃ R, w.heap.size = R := ⟨_, rfl⟩
  have hRl3 : R < w3.heap.size := by rw [← hR]; exact (Array.getElem?_eq_some_iff.1 HE3.out).1
  have hER : w4.heap[R]? = some (.cells #[.slice none 0 0, .int .i64 0] 26 (0, 0)) := by rw [← hR]; exact (hb4.block _ (Array.getElem?_eq_some_iff.1 HE3.out).1).trans HE3.out
  have c0 : w4.cell? ⟨R, 0, none⟩ = some (.slice none 0 0) := by simp [World.cell?, hER]
  have c1 : w4.cell? ⟨R, 1, none⟩ = some (.int .i64 0) := by simp [World.cell?, hER]
  have f0 : w4.frozen? ⟨R, 0, none⟩ = false := by simp [World.frozen?, hER]
  have f1 : w4.frozen? ⟨R, 1, none⟩ = false := by simp [World.frozen?, hER]
  have d0 : w4.cell? ⟨w3.heap.size, 0, none⟩ = some (.slice eo el ec) := by simp [World.cell?, hE4]
  have d1 : w4.cell? ⟨w3.heap.size, 1, none⟩ = some (.int .i64 nx) := by simp [World.cell?, hE4]
  have HB4 := Lib.hid (HB3.out.trans (hb4.mono HB3.out.size))
  have LN : Hid (Calls Tryz.prog 44 #[.pointer (some ⟨b, 0, none⟩)] w4.drew fun e w' => e = .returned (.int .i64 n) ∧ w4.drew = w') := Lib.hid (by
    have h := len_in (w := w4.drew) (b := b) (t := s.data.toList) ⟨ρ, _, _, HLA4.out.below (Below.refl _ _).drew⟩
    rw [HN.out] at h
    exact h)
  have FIN : Hid (∀ (a c : Value), ListIn (((w4.setCell ⟨R, 0, none⟩ a).setCell ⟨R, 1, none⟩ c).drew) b s.data.toList ∧ EntsAt (((w4.setCell ⟨R, 0, none⟩ a).setCell ⟨R, 1, none⟩ c).drew).heap.size (((w4.setCell ⟨R, 0, none⟩ a).setCell ⟨R, 1, none⟩ c).drew) (.slice eo el ec) (numberFrom 1 (parse s.data.toList).st.items) ∧ Below w.heap.size w (((w4.setCell ⟨R, 0, none⟩ a).setCell ⟨R, 1, none⟩ c).drew)) := Lib.hid fun a c => by
    have kb : KeepBut w4 R (((w4.setCell ⟨R, 0, none⟩ a).setCell ⟨R, 1, none⟩ c).drew) := (((KeepBut.refl w4 R).setCell 0 a).setCell 1 c).below (Below.refl _ _).drew
    refine ⟨⟨ρ, _, _, ListAt.but HLA4.out kb (by rw [← hR]; exact HRHO.out)⟩, ?_, ?_⟩
    · obtain ⟨ve, hve, hen⟩ := ents_of (RList.but HRL4.out kb (by omega))
      injection hve with hve
      injection hve with hve
      injection hve with hv1 hv2
      subst hv1
      exact hen
    · exact ((HB4.out.setCell (p := ⟨R, 0, none⟩) (by show _ ≤ R; omega) a).setCell (p := ⟨R, 1, none⟩) (by show _ ≤ R; omega) c).drew
  rw [hw4]
  try simp only [hR]
  clear hw4 hR hb4 hE4 hER HB3 HE3 HLA3 HRL HLA4 HRL4
  have P0 := And.intro d0 d1
  have P9 : Hid (∀ a c, (((w4.setCell ⟨R, 0, none⟩ a).setCell ⟨R, 1, none⟩ c).drew).cell? ⟨w3.heap.size, 0, none⟩ = some (.slice eo el ec) ∧ (((w4.setCell ⟨R, 0, none⟩ a).setCell ⟨R, 1, none⟩ c).drew).cell? ⟨w3.heap.size, 1, none⟩ = some (.int .i64 nx)) := Lib.hid fun a c =>
    ⟨(World.cell?_setCell_other _ _ _ _ (fun e => by injection e with e; omega)).trans ((World.cell?_setCell_other _ _ _ _ (fun e => by injection e with e; omega)).trans d0), (World.cell?_setCell_other _ _ _ _ (fun e => by injection e with e; omega)).trans ((World.cell?_setCell_other _ _ _ _ (fun e => by injection e with e; omega)).trans d1)⟩
  go_region_held3 (fun W' => W'.cell? ⟨w3.heap.size, 0, none⟩ = some (.slice eo el ec) ∧ W'.cell? ⟨w3.heap.size, 1, none⟩ = some (.int .i64 nx)) (first | exact P0 | exact P9.out _ _)
    (first | (go_at_call 44; refine LN.out.mono ?_; rintro e w' ⟨rfl, rfl⟩))
  all_goals
    go_wp2
    refine bodyPost_ret (v := .tuple #[.pointer (some ⟨b, 0, none⟩), .agg #[.slice eo el ec, .int .i64 nx], .bool true]) (by simp [results, Tryz.results12, go_sem, c0, c1]) rfl ?_
    obtain ⟨x1, x2, x3⟩ := FIN.out (.slice eo el ec) (.int .i64 nx)
    exact ⟨_, _, _, rfl, x1, x2, x3⟩
set_option maxRecDepth 100000 in
set_option maxHeartbeats 6400000 in
theorem lists_many (s name key : ByteArray) (w : World) (h : Small30 s name key) (he : (parse s.data.toList).err = 0) (h40 : ¬ (stanzasOf s.data.toList).length < 40) :
    Calls Tryz.prog 12 #[.string s, .string name, .string key] w fun e w' => ∃ (b : Nat) (ve : Value) (nx : Int), e = .returned (.tuple #[.pointer (some ⟨b, 0, none⟩), .agg #[ve, .int .i64 nx], .bool false]) ∧ ListIn w' b s.data.toList ∧ EntsAt w'.heap.size w' ve (numberFrom 1 (parse s.data.toList).st.items) ∧ Below w.heap.size w w' := by
  obtain ⟨h1, h2, h3⟩ := h
  have h1z : ¬ (1500 : Int) < (s.size : Int) := by omega
  have h2z : ¬ (100 : Int) < (name.size : Int) := by omega
  have h3z : ¬ (100 : Int) < (key.size : Int) := by omega
  have LO := Lib.hid (fun w' => listOf_any s (by omega) w')
  have RO := Lib.hid (fun w' => refOf_ok s (by omega) w' he)
  have HE0 := Lib.hid he
  obtain ⟨w1, hw1⟩ : ∃ w1, w.alloc (.cells #[.slice none 0 0, .int .i64 0] 26) = w1 := ⟨_, rfl⟩
  have hb1 : Below w.heap.size w w1 := by rw [← hw1]; exact below_grow1 w _
  have hE : w1.heap[w.heap.size]? = some (.cells #[.slice none 0 0, .int .i64 0] 26 (0, 0)) := by rw [← hw1]; exact heap_alloc_new w _
  have hlt : w.heap.size < w1.heap.size := (Array.getElem?_eq_some_iff.1 hE).1
  have HB1 := Lib.hid hb1
  have HE := Lib.hid hE
  have HW1 := Lib.hid hw1
  obtain ⟨n, hn⟩ : ∃ n, (stanzasOf s.data.toList).length = n := ⟨_, rfl⟩
  rw [hn] at h40
  have hnz : ¬ (n : Int) < 40 := by omega
  have HN := Lib.hid hn
  clear hb1 hE hw1 he hn
  go_enter Tryz.func12, Tryz.ntmps12
  go_wp2_with fail
  rw [HW1.out]
  refine (LO.out w1).mono ?_
  intro e w2 hpost
  unfold ListPost at hpost
  rw [if_pos HE0.out] at hpost
  obtain ⟨b, ρ, ve0, vs0, rfl, hLA, hρ, hb2⟩ := hpost
  have HB2 := Lib.hid (HB1.out.trans (hb2.mono HB1.out.size))
  have HE2 := Lib.hid ((hb2.block _ hlt).trans HE.out)
  have HLA := Lib.hid hLA
  have HRHO : Hid (ρ w.heap.size = none) := Lib.hid (hρ _ hlt)
  have hz2 := hb2.size
  clear hb2 LO HB1 HE hLA hρ
  go_wp2_with fail
  refine (RO.out w2).mono ?_
  rintro e w3 ⟨v, rfl, hRL, hb3⟩
  have HB3 := Lib.hid (HB2.out.trans (hb3.mono HB2.out.size))
  have HE3 := Lib.hid ((hb3.block _ (Nat.lt_of_lt_of_le hlt hz2)).trans HE2.out)
  have HLA3 := Lib.hid (HLA.out.below hb3)
  have HRL := Lib.hid hRL
  obtain ⟨ve, vs, hv, hrow, -⟩ := hRL
  subst hv
  obtain ⟨eo, ec, hve⟩ := own_shape hrow
  subst hve
  obtain ⟨el, hel⟩ : ∃ el, (numberFrom 1 (parse s.data.toList).st.items).length = el := ⟨_, rfl⟩
  obtain ⟨nx, hnx⟩ : ∃ nx : Int, ((1 + recsOf (parse s.data.toList).st.items : Nat) : Int) = nx := ⟨_, rfl⟩
  have HEL := Lib.hid hel
  have HNX := Lib.hid hnx
  rw [hel, hnx]
  clear hb3 HB2 HE2 RO HW1 hrow HLA hel hnx
  go_wp2_with fail
  obtain ⟨w4, hw4⟩ : ∃ w4, w3.alloc (.cells #[.slice eo el ec, .int .i64 nx] 26) = w4 := ⟨_, rfl⟩
  have hb4 : Below w3.heap.size w3 w4 := by rw [← hw4]; exact below_grow1 w3 _
  have hE4 : w4.heap[w3.heap.size]? = some (.cells #[.slice eo el ec, .int .i64 nx] 26 (0, 0)) := by rw [← hw4]; exact heap_alloc_new w3 _
  have HLA4 := Lib.hid (HLA3.out.below hb4)
  have HRL4 : Hid (RList w2.heap.size w4 (.agg #[.slice eo el ec, .int .i64 nx]) (numberFrom 1 (parse s.data.toList).st.items) (1 + recsOf (parse s.data.toList).st.items)) := Lib.hid (by
    obtain ⟨ve, vs, hv, hrow, hl, hits⟩ := HRL.out
    injection hv with hv
    injection hv with hv
    injection hv with hv1 hv2
    subst hv1
    refine ⟨.slice eo el ec, vs, by rw [← HNX.out], ?_, hl, fun i u e h1 h2 => (hits i u e h1 h2).below hb4⟩
    rw [← HEL.out]
    exact ownsRow_of_block hrow fun g hg => hb4.block g (World.ownsRow.lt hrow g hg).2)
  obtain ⟨R, hR⟩ : ∃ R, w.heap.size = R := ⟨_, rfl⟩
  have hRl3 : R < w3.heap.size := by rw [← hR]; exact (Array.getElem?_eq_some_iff.1 HE3.out).1
  have hER : w4.heap[R]? = some (.cells #[.slice none 0 0, .int .i64 0] 26 (0, 0)) := by rw [← hR]; exact (hb4.block _ (Array.getElem?_eq_some_iff.1 HE3.out).1).trans HE3.out
  have c0 : w4.cell? ⟨R, 0, none⟩ = some (.slice none 0 0) := by simp [World.cell?, hER]
  have c1 : w4.cell? ⟨R, 1, none⟩ = some (.int .i64 0) := by simp [World.cell?, hER]
  have f0 : w4.frozen? ⟨R, 0, none⟩ = false := by simp [World.frozen?, hER]
  have f1 : w4.frozen? ⟨R, 1, none⟩ = false := by simp [World.frozen?, hER]
  have d0 : w4.cell? ⟨w3.heap.size, 0, none⟩ = some (.slice eo el ec) := by simp [World.cell?, hE4]
  have d1 : w4.cell? ⟨w3.heap.size, 1, none⟩ = some (.int .i64 nx) := by simp [World.cell?, hE4]
  have HB4 := Lib.hid (HB3.out.trans (hb4.mono HB3.out.size))
  have LN : Hid (Calls Tryz.prog 44 #[.pointer (some ⟨b, 0, none⟩)] w4.drew fun e w' => e = .returned (.int .i64 n) ∧ w4.drew = w') := Lib.hid (by
    have h := len_in (w := w4.drew) (b := b) (t := s.data.toList) ⟨ρ, _, _, HLA4.out.below (Below.refl _ _).drew⟩
    rw [HN.out] at h
    exact h)
  have FIN : Hid (∀ (a c : Value), ListIn (((w4.setCell ⟨R, 0, none⟩ a).setCell ⟨R, 1, none⟩ c).drew) b s.data.toList ∧ EntsAt (((w4.setCell ⟨R, 0, none⟩ a).setCell ⟨R, 1, none⟩ c).drew).heap.size (((w4.setCell ⟨R, 0, none⟩ a).setCell ⟨R, 1, none⟩ c).drew) (.slice eo el ec) (numberFrom 1 (parse s.data.toList).st.items) ∧ Below w.heap.size w (((w4.setCell ⟨R, 0, none⟩ a).setCell ⟨R, 1, none⟩ c).drew)) := Lib.hid fun a c => by
    have kb : KeepBut w4 R (((w4.setCell ⟨R, 0, none⟩ a).setCell ⟨R, 1, none⟩ c).drew) := (((KeepBut.refl w4 R).setCell 0 a).setCell 1 c).below (Below.refl _ _).drew
    refine ⟨⟨ρ, _, _, ListAt.but HLA4.out kb (by rw [← hR]; exact HRHO.out)⟩, ?_, ?_⟩
    · obtain ⟨ve, hve, hen⟩ := ents_of (RList.but HRL4.out kb (by omega))
      injection hve with hve
      injection hve with hve
      injection hve with hv1 hv2
      subst hv1
      exact hen
    · exact ((HB4.out.setCell (p := ⟨R, 0, none⟩) (by show _ ≤ R; omega) a).setCell (p := ⟨R, 1, none⟩) (by show _ ≤ R; omega) c).drew
  rw [hw4]
  try simp only [hR]
  clear hw4 hR hb4 hE4 hER HB3 HE3 HLA3 HRL HLA4 HRL4
  have P0 := And.intro d0 d1
  have P9 : Hid (∀ a c, (((w4.setCell ⟨R, 0, none⟩ a).setCell ⟨R, 1, none⟩ c).drew).cell? ⟨w3.heap.size, 0, none⟩ = some (.slice eo el ec) ∧ (((w4.setCell ⟨R, 0, none⟩ a).setCell ⟨R, 1, none⟩ c).drew).cell? ⟨w3.heap.size, 1, none⟩ = some (.int .i64 nx)) := Lib.hid fun a c =>
    ⟨(World.cell?_setCell_other _ _ _ _ (fun e => by injection e with e; omega)).trans ((World.cell?_setCell_other _ _ _ _ (fun e => by injection e with e; omega)).trans d0), (World.cell?_setCell_other _ _ _ _ (fun e => by injection e with e; omega)).trans ((World.cell?_setCell_other _ _ _ _ (fun e => by injection e with e; omega)).trans d1)⟩
  go_region_held3 (fun W' => W'.cell? ⟨w3.heap.size, 0, none⟩ = some (.slice eo el ec) ∧ W'.cell? ⟨w3.heap.size, 1, none⟩ = some (.int .i64 nx)) (first | exact P0 | exact P9.out _ _)
    (first | (go_at_call 44; refine LN.out.mono ?_; rintro e w' ⟨rfl, rfl⟩))
  all_goals
    go_wp2
    refine bodyPost_ret (v := .tuple #[.pointer (some ⟨b, 0, none⟩), .agg #[.slice eo el ec, .int .i64 nx], .bool false]) (by simp [results, Tryz.results12, go_sem, c0, c1]; omega) rfl ?_
    obtain ⟨x1, x2, x3⟩ := FIN.out (.slice eo el ec) (.int .i64 nx)
    exact ⟨_, _, _, rfl, x1, x2, x3⟩
theorem lists_ok (s name key : ByteArray) (w : World) (h : Good30 s name key) :
    Calls Tryz.prog 12 #[.string s, .string name, .string key] w (ListsOk s.data.toList w) :=
  lists_fit s name key w h.1 h.2.1 h.2.2
theorem lists_no (s name key : ByteArray) (w : World) (h : ¬ Good30 s name key) (hs : s.size ≤ 9223372036854775807) (hn : name.size ≤ 9223372036854775807) (hk : key.size ≤ 9223372036854775807) :
    Calls Tryz.prog 12 #[.string s, .string name, .string key] w (ListsNo w) := by
  by_cases h1 : Small30 s name key
  · by_cases he : (parse s.data.toList).err = 0
    · have h40 : ¬ (stanzasOf s.data.toList).length < 40 := fun h2 => h ⟨h1, he, h2⟩
      refine (lists_many s name key w h1 he h40).mono ?_
      rintro e w' ⟨b, ve, nx, rfl, -, ⟨eo, ec, rfl, -⟩, hb⟩
      exact ⟨_, _, _, _, _, rfl, hb⟩
    · exact lists_bad s name key w h1 he
  · exact lists_large s name key w h1 hs hn hk
end Go.Proofs.YtjbnjlkoipkpoaaGreatDoor.T
