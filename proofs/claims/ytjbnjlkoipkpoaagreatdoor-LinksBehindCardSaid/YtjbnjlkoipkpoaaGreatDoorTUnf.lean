/- The reference's fields: stanzakeepref04.Unfold, stanzakeepref05.behind, .said. -/
import Derived.Test.YtjbnjlkoipkpoaaGreatDoorBRefSplit
import Derived.Test.YtjbnjlkoipkpoaaGreatDoorBMoves
import Derived.Test.YtjbnjlkoipkpoaaGreatDoorTRows
import Derived.Deep.DeepCutAuto
namespace Go.Proofs.YtjbnjlkoipkpoaaGreatDoor.B
open Go.RowKit Go.Shelf
open Go.Proofs.YtjbnjlkoipkpoaaGreatDoor.T

theorem cutOf_pair {l : List UInt8} (h : kindOf l = 4) : cutOf l = (ahead 58 l, behind 58 l, true) := by
  obtain ⟨h1, h2, h3⟩ := kind4 h
  unfold has at h1 h2
  unfold cutOf
  rw [h2, h1, h3]; rfl
/-- A More line: a blank and one byte more at least. -/
theorem kind_more {l : List UInt8} (h : kindOf l = 3) : 2 ≤ l.length := by
  match l, h with
  | [], h => simp [kindOf] at h
  | [c], h =>
    exfalso
    rw [kindOf_eq] at h
    by_cases h1 : has 10 [c] = true
    · rw [if_pos h1] at h; cases h
    · rw [if_neg h1] at h
      by_cases h2 : [c].all isBlank = true
      · rw [if_pos h2] at h; cases h
      · rw [if_neg h2] at h
        have h3 : blankHead [c] = false := by
          simp only [List.all_cons, List.all_nil, Bool.and_true] at h2
          simpa [blankHead] using h2
        rw [h3] at h
        split at h
        · cases h
        · simp only [Bool.false_eq_true, if_false] at h
          split at h <;> cases h
  | _ :: _ :: t, _ => simp
theorem trim_hit {c : UInt8} {l t : List UInt8} (h : l = c :: t) : Lib.trimPrefix l [c] = t := by rw [h]; simp [Lib.trimPrefix, Lib.hasPrefix, List.isPrefixOf]
theorem trim_miss {c : UInt8} {l : List UInt8} (h : ∀ t, l ≠ c :: t) : Lib.trimPrefix l [c] = l := by
  unfold Lib.trimPrefix
  rw [if_neg]
  intro e
  cases l with
  | nil => simp [Lib.hasPrefix, List.isPrefixOf] at e
  | cons x t =>
    simp [Lib.hasPrefix, List.isPrefixOf] at e
    exact h t (by rw [e])
theorem join_snoc (a : List UInt8) (r : List (List UInt8)) (x : List UInt8) : Lib.join (a :: (r ++ [x])) [10] = Lib.join (a :: r) [10] ++ [10] ++ x := by
  rw [Lib.join_cons, Lib.join_cons]
  simp [Lib.joinTail, List.append_assoc]
theorem drop_one (s : ByteArray) : (s.extract 1 s.size).data.toList = s.data.toList.drop 1 := Lib.extract_to_end s 1
def UnfIs (l0 : List UInt8) (r : List (List UInt8)) (N : Nat) (F : Fd) : Prop := (1000 < (fieldOf l0 r).val.length ∧ N = 6 ∧ F = ⟨[], []⟩) ∨ ((fieldOf l0 r).val.length ≤ 1000 ∧ N = 0 ∧ F = fieldOf l0 r)
theorem massOf_take (r : List (List UInt8)) (k : Nat) : massOf (r.take k) ≤ massOf r := by
  induction r generalizing k with
  | nil => simp
  | cons a t ih =>
    cases k with
    | zero => simp [massOf]
    | succ k => rw [List.take_succ_cons, massOf_cons, massOf_cons]; have := ih k; omega
abbrev fvl : Fd → Value := fdV
theorem data_app (a b : ByteArray) : (a ++ b).data.toList = a.data.toList ++ b.data.toList := by simp
theorem unf_end {l0 : List UInt8} {r : List (List UInt8)} {kb X : ByteArray} (h1 : (⟨(ahead 58 l0).toArray⟩ : ByteArray) = kb) (h2 : X.data.toList = (fieldOf l0 r).val) :
    Ending.returned (.tuple #[.agg #[.string kb, .string X], .int .i64 0]) = .returned (.tuple #[fvl (fieldOf l0 r), .int .i64 ((0 : Nat) : Int)]) := by
  have e : X = ⟨(fieldOf l0 r).val.toArray⟩ := by rw [← h2]
  rw [e, ← h1]; rfl
set_option maxRecDepth 20000 in
set_option maxHeartbeats 6400000 in
theorem refUnf_any (w : World) (v : Value) (l0 : List UInt8) (r : List (List UInt8)) (N : Nat) (F : Fd) (h : TextsAt w v (l0 :: r)) (h4 : kindOf l0 = 4) (h3 : ∀ m ∈ r, kindOf m = 3) (hm : massOf (l0 :: r) ≤ 200000) (hN : UnfIs l0 r N F) :
    Calls Tryz.prog 105 #[v] w fun e w' => e = .returned (.tuple #[fvl F, .int .i64 N]) ∧ Below w.heap.size w w' := by
  obtain ⟨ao, cp, rfl, hcp, hc⟩ := h
  obtain ⟨g, rfl, hg, hc0⟩ := hc 0 l0 rfl
  have HC := Lib.hid (fun (k : Nat) (s : List UInt8) (hk : r[k]? = some s) => show w.cell? ⟨g, k + 1, none⟩ = some (.string ⟨s.toArray⟩) by
    obtain ⟨g', e, -, h5⟩ := hc (k + 1) s (by simpa using hk)
    cases e
    exact h5)
  have hml := massOf_len (l0 :: r)
  have hm0 := massOf_mem (ls := l0 :: r) (s := l0) (by simp)
  have HM := Lib.hid (fun (s : List UInt8) (hs : s ∈ r) => massOf_mem (ls := l0 :: r) (s := s) (by simp [hs]))
  have hlen : (l0 :: r).length = r.length + 1 := rfl
  rw [hlen] at hml hcp ⊢
  obtain ⟨s0, hs0⟩ : ∃ s0 : ByteArray, (⟨l0.toArray⟩ : ByteArray) = s0 := ⟨_, rfl⟩
  have hs0d : s0.data.toList = l0 := by rw [← hs0]
  have hs0s : s0.size ≤ 200000 := by rw [Lib.size_eq, hs0d]; omega
  rw [hs0] at hc0
  have K0 := Lib.hid (fun w' => by have := refKind s0 (by omega) w'; rw [hs0d, h4] at this; exact this)
  obtain ⟨kb, hkb⟩ : ∃ kb : ByteArray, (⟨(ahead 58 l0).toArray⟩ : ByteArray) = kb := ⟨_, rfl⟩
  obtain ⟨vb, hvb⟩ : ∃ vb : ByteArray, (⟨(behind 58 l0).toArray⟩ : ByteArray) = vb := ⟨_, rfl⟩
  have hvbd : vb.data.toList = behind 58 l0 := by rw [← hvb]
  have C0 := Lib.hid (fun w' => by have := refCut s0 (by omega) w'; rw [hs0d, cutOf_pair h4] at this; simp only at this; rw [hkb, hvb] at this; exact this)
  have hvbs : vb.size ≤ 200000 := by rw [Lib.size_eq, hvbd]; have := behind_le' 58 l0; omega
  have H3 := Lib.hid h3
  have HVB := Lib.hid hvbd
  have HKB := Lib.hid hkb
  have HN := Lib.hid hN
  have hfl := field_len l0 r
  obtain ⟨B, hBB⟩ : ∃ B, w.heap.size = B := ⟨_, rfl⟩
  obtain ⟨w0, hw0⟩ : ∃ w0, w.alloc (.cells #[.string ⟨#[]⟩, .string ⟨#[]⟩] 95) = w0 := ⟨_, rfl⟩
  have hb0 : Below B w w0 := by rw [← hw0, ← hBB]; exact below_grow1 w _
  have hE0 : w0.heap[B]? = some (.cells #[.string ⟨#[]⟩, .string ⟨#[]⟩] 95 (0, 0)) := by rw [← hw0, ← hBB]; exact heap_alloc_new w _
  have HB0 := Lib.hid hb0
  have HE0 := Lib.hid hE0
  have HW0 := Lib.hid hw0
  have c0 := (hb0.cell (p := ⟨g, 0, none⟩) (by show g < B; omega)).trans hc0
  have hz0 : ((r.length : Int) + 1 == 0) = false := by rw [beq_eq_false_iff_ne]; omega
  clear hc hc0 hs0 hs0d hkb hvb hvbd h4 h3 hN hb0 hE0
  go_enter Tryz.func105, Tryz.ntmps105
  go_wp2_with fail
  refine (K0.out _).mono ?_
  rintro e w1 ⟨rfl, n1, rfl⟩
  go_wp2_with fail
  refine (C0.out _).mono ?_
  rintro e w2 ⟨rfl, n2, rfl⟩
  obtain ⟨W, hW⟩ : ∃ W, w0.drewN (n1 + n2) = W := ⟨_, rfl⟩
  have HB1 : Hid (Below B w W) := Lib.hid (by rw [← hW]; exact below_dn HB0.out _)
  have HE1 : Hid (W.heap[B]? = some (.cells #[.string ⟨#[]⟩, .string ⟨#[]⟩] 95 (0, 0))) := Lib.hid (by rw [← hW]; exact HE0.out)
  by_cases hv0 : vb.size = 0
  · have HX : Hid (vb.data.toList = Lib.join (partsOf l0 (r.take 0)) [10]) := Lib.hid (by
      have e : behind 58 l0 = [] := List.eq_nil_of_length_eq_zero (by rw [← HVB.out, ← Lib.size_eq]; exact hv0)
      rw [HVB.out, e]
      simp [partsOf, e, Lib.join_one, Lib.trimPrefix, Lib.hasPrefix])
    have hv1 : decide ((0 : Int) < (vb.size : Int)) = false := decide_eq_false (by omega)
    have hv2 : decide (0 < vb.size) = false := decide_eq_false (by omega)
    have HV0 := Lib.hid hv0
    clear hv0 HB0 HE0 c0
    go_wp2
    try rw [hW]
    go_loopw [5, 7] (fun x i wr => ∃ (k : Nat) (X : ByteArray), i = .int .i64 ((k : Int) + 1) ∧ k ≤ r.length ∧ x = .string X ∧ Hid (X.data.toList = Lib.join (partsOf l0 (r.take k)) [10]) ∧ Hid (Below B w wr) ∧ Hid (wr.heap[B]? = some (.cells #[.string ⟨#[]⟩, .string ⟨#[]⟩] 95 (0, 0)))) (fun _ i _ => r.length + 1 - (intOf i).toNat)
    case atStart => exact ⟨0, _, rfl, Nat.zero_le _, rfl, HX, HB1, HE1⟩
    case round =>
      clear HX HB1 HE1
      obtain ⟨k, X, rfl, hk, rfl, hX, hBw, hE⟩ := hrel
      have hXs : X.size ≤ 200000 := by
        rw [Lib.size_eq, hX.out]
        have h1 := field_len l0 (r.take k)
        rw [fieldOf_val] at h1
        have h2 : massOf (l0 :: r.take k) ≤ massOf (l0 :: r) := by rw [massOf_cons, massOf_cons]; have := massOf_take r k; omega
        omega
      by_cases hlt : k < r.length
      · obtain ⟨l, hl⟩ : ∃ l, r[k]? = some l := ⟨_, List.getElem?_eq_getElem hlt⟩
        have hcl := (hBw.out.cell (p := ⟨g, k + 1, none⟩) (by show g < B; omega)).trans (HC.out k l hl)
        have hlm := HM.out l (List.mem_of_getElem? hl)
        have hl3 := H3.out l (List.mem_of_getElem? hl)
        have hl2 := kind_more hl3
        obtain ⟨s, hs⟩ : ∃ s : ByteArray, (⟨l.toArray⟩ : ByteArray) = s := ⟨_, rfl⟩
        have hsd : s.data.toList = l := by rw [← hs]
        have hss : s.size ≤ 200000 := by rw [Lib.size_eq, hsd]; omega
        have hs2 : 2 ≤ s.size := by rw [Lib.size_eq, hsd]; exact hl2
        rw [hs] at hcl
        have KL := Lib.hid (fun w' => by have := refKind s (by omega) w'; rw [hsd, hl3] at this; exact this)
        have hE1d : (s.extract 1 s.size).data.toList = l.drop 1 := by rw [drop_one, hsd]
        obtain ⟨u, hu⟩ : ∃ u, s.extract 1 s.size = u := ⟨_, rfl⟩
        rw [hu] at hE1d
        have hus : u.size = s.size - 1 := by rw [Lib.size_eq, hE1d, List.length_drop, ← hsd, ← Lib.size_eq]
        have hus1 : 1 ≤ u.size := by omega
        have hus2 : u.size ≤ 200000 := by omega
        have HTK : Hid (partsOf l0 (r.take (k + 1)) = partsOf l0 (r.take k) ++ [Lib.trimPrefix (l.drop 1) [46]]) := Lib.hid (by rw [List.take_add_one, hl]; exact partsOf_snoc _ _ _)
        have HPT : Hid (Lib.join (partsOf l0 (r.take (k + 1))) [10] = X.data.toList ++ [10] ++ Lib.trimPrefix (l.drop 1) [46]) := Lib.hid (by rw [HTK.out, hX.out]; exact join_snoc _ _ _)
        have hu0 := get_data u 0 hus1
        have HU := Lib.hid hE1d
        have HUU := Lib.hid hu
        have hsli : ∀ W : World, (Instr.slice 9 (.string s) (some (.int .i64 1)) none none).run Tryz.prog W = .ok (.string u) W := fun W => by
          have := run_slice_string_l (P := Tryz.prog) (w := W) (t := 9) (s := s) Tryz.underlying9 .i64 1 (by omega) (by omega)
          rw [this]
          exact congrArg (fun x => Result.ok (Value.string x) W) hu
        have hd : ∃ d, l.drop 1 = u[0] :: d := by
          rw [← hE1d]
          exact data_cons u hus1
        have HD := Lib.hid hd
        clear hl hl2 hs hsd hE1d hu hd hl3 hu0 hus
        by_cases h46 : u[0] = 46
        · have hb46 : ((u[0].toNat : Int) == 46) = true := by rw [h46]; rfl
          have hb46' : (u[0].toNat == 46) = true := by rw [h46]; rfl
          have HT : Hid (Lib.trimPrefix (l.drop 1) [46] = (u.extract 1 u.size).data.toList) := Lib.hid (by
            obtain ⟨d, hd⟩ := HD.out
            rw [h46] at hd
            rw [trim_hit hd, drop_one, HU.out, hd]; rfl)
          have hxx : (u.extract 1 u.size).size ≤ 200000 := by rw [Lib.size_eq, drop_one, List.length_drop, ← Lib.size_eq]; omega
          clear h46
          go_wp2_with (go_at_call 103; refine (KL.out _).mono ?_; rintro e w' ⟨rfl, n3, rfl⟩)
          go_roundw
          case rel =>
            refine ⟨k + 1, _, by go_num, by omega, rfl, Lib.hid ?_, Lib.hid (below_dn hBw.out _), Lib.hid hE.out⟩
            rw [HPT.out, HT.out, data_app, data_app]
          case measure => simp [intOf]; omega
        · have hb46 : ((u[0].toNat : Int) == 46) = false := by
            rw [beq_eq_false_iff_ne]; intro e; exact h46 (byte_is 46 (by simpa using e))
          have hb46' : (u[0].toNat == 46) = false := by
            rw [beq_eq_false_iff_ne]; intro e; exact h46 (byte_is 46 (by exact_mod_cast e))
          have HT : Hid (Lib.trimPrefix (l.drop 1) [46] = u.data.toList) := Lib.hid (by
            obtain ⟨d, hd⟩ := HD.out
            rw [trim_miss (fun t e => by rw [hd] at e; injection e with e1 _; exact h46 e1), HU.out])
          clear h46
          go_wp2_with (go_at_call 103; refine (KL.out _).mono ?_; rintro e w' ⟨rfl, n3, rfl⟩)
          go_roundw
          case rel =>
            refine ⟨k + 1, _, by go_num, by omega, rfl, Lib.hid ?_, Lib.hid (below_dn hBw.out _), Lib.hid hE.out⟩
            rw [HPT.out, HT.out, data_app, data_app]
          case measure => simp [intOf]; omega
      · have hke : r.take k = r := List.take_of_length_le (by omega)
        have hX' := hX.out
        rw [hke, ← fieldOf_val] at hX'
        have hbl : B < wr.heap.size := (Array.getElem?_eq_some_iff.1 hE.out).1
        have d0 : wr.cell? ⟨B, 0, none⟩ = some (.string ⟨#[]⟩) := by simp [World.cell?, hE.out]
        have d1 : wr.cell? ⟨B, 1, none⟩ = some (.string ⟨#[]⟩) := by simp [World.cell?, hE.out]
        have f0 : wr.frozen? ⟨B, 0, none⟩ = false := by simp [World.frozen?, hE.out]
        have f1 : wr.frozen? ⟨B, 1, none⟩ = false := by simp [World.frozen?, hE.out]
        have hXl : X.size = (fieldOf l0 r).val.length := by rw [Lib.size_eq, hX']
        rcases HN.out with ⟨h1, hN1, hF1⟩ | ⟨h1, hN1, hF1⟩
        · have hlong : 1000 < X.size := by omega
          subst hN1 hF1
          clear hX' hX hXl hke h1
          go_wp2
          have hV : ((wr.setCell ⟨B, 0, none⟩ (.string ⟨#[]⟩)).setCell ⟨B, 1, none⟩ (.string ⟨#[]⟩)).heap[B]? = some (.cells #[.string ⟨#[]⟩, .string ⟨#[]⟩] 95 (0, 0)) := by
            simp [World.setCell, Array.getElem?_modify, hE.out]
          have hbV : Below B w ((wr.setCell ⟨B, 0, none⟩ (.string ⟨#[]⟩)).setCell ⟨B, 1, none⟩ (.string ⟨#[]⟩)) := (hBw.out.setCell (Nat.le_refl _) _).setCell (Nat.le_refl _) _
          generalize (wr.setCell ⟨B, 0, none⟩ (.string ⟨#[]⟩)).setCell ⟨B, 1, none⟩ (.string ⟨#[]⟩) = V at *
          have p0 : V.cell? ⟨B, 0, none⟩ = some (.string ⟨#[]⟩) := by simp [World.cell?, hV]
          have p1 : V.cell? ⟨B, 1, none⟩ = some (.string ⟨#[]⟩) := by simp [World.cell?, hV]
          exact bodyPost_ret (v := .tuple #[.agg #[.string ⟨#[]⟩, .string ⟨#[]⟩], .int .i64 6]) (by simp [results, Tryz.results105, go_sem, p0, p1]) rfl ⟨rfl, hBB ▸ hbV⟩
        · have hshort : X.size ≤ 1000 := by omega
          have HF := Lib.hid hF1
          have HX' := Lib.hid hX'
          subst hN1
          clear hX' hX hXl hke h1 hF1
          go_wp2
          have hV : ((wr.setCell ⟨B, 0, none⟩ (.string kb)).setCell ⟨B, 1, none⟩ (.string X)).heap[B]? = some (.cells #[.string kb, .string X] 95 (0, 0)) := by
            simp [World.setCell, Array.getElem?_modify, hE.out]
          have hbV : Below B w ((wr.setCell ⟨B, 0, none⟩ (.string kb)).setCell ⟨B, 1, none⟩ (.string X)) := (hBw.out.setCell (Nat.le_refl _) _).setCell (Nat.le_refl _) _
          generalize (wr.setCell ⟨B, 0, none⟩ (.string kb)).setCell ⟨B, 1, none⟩ (.string X) = V at *
          have p0 : V.cell? ⟨B, 0, none⟩ = some (.string kb) := by simp [World.cell?, hV]
          have p1 : V.cell? ⟨B, 1, none⟩ = some (.string X) := by simp [World.cell?, hV]
          exact bodyPost_ret (v := .tuple #[.agg #[.string kb, .string X], .int .i64 0]) (by simp [results, Tryz.results105, go_sem, p0, p1]) rfl ⟨by rw [HF.out]; exact unf_end HKB.out HX'.out, hBB ▸ hbV⟩
  · obtain ⟨t, ht⟩ := data_cons vb (by omega)
    have hp0 : 0 < vb.size := by omega
    have hv2 : decide (0 < vb.size) = true := decide_eq_true hp0
    have hv3 : decide ((0 : Int) < (vb.size : Int)) = true := decide_eq_true (by omega)
    by_cases h32 : vb[0] = 32
    · have hb1 : ((vb[0].toNat : Int) == 32) = true := by rw [h32]; rfl
      have hb2 : (vb[0].toNat == 32) = true := by rw [h32]; rfl
      have HX : Hid ((vb.extract 1 vb.size).data.toList = Lib.join (partsOf l0 (r.take 0)) [10]) := Lib.hid (by
        have e : behind 58 l0 = 32 :: t := by rw [← HVB.out, ht, h32]
        rw [drop_one, HVB.out]
        simp [partsOf, Lib.join_one, e, trim_hit])
      have hxs : (vb.extract 1 vb.size).size ≤ 200000 := by rw [Lib.size_eq, drop_one, List.length_drop, ← Lib.size_eq]; omega
      clear h32 ht hv0 HB0 HE0 c0
      go_wp2
      try rw [hW]
      go_loopw [5, 7] (fun x i wr => ∃ (k : Nat) (X : ByteArray), i = .int .i64 ((k : Int) + 1) ∧ k ≤ r.length ∧ x = .string X ∧ Hid (X.data.toList = Lib.join (partsOf l0 (r.take k)) [10]) ∧ Hid (Below B w wr) ∧ Hid (wr.heap[B]? = some (.cells #[.string ⟨#[]⟩, .string ⟨#[]⟩] 95 (0, 0)))) (fun _ i _ => r.length + 1 - (intOf i).toNat)
      case atStart => exact ⟨0, _, rfl, Nat.zero_le _, rfl, HX, HB1, HE1⟩
      case round =>
        clear HX HB1 HE1
        obtain ⟨k, X, rfl, hk, rfl, hX, hBw, hE⟩ := hrel
        have hXs : X.size ≤ 200000 := by
          rw [Lib.size_eq, hX.out]
          have h1 := field_len l0 (r.take k)
          rw [fieldOf_val] at h1
          have h2 : massOf (l0 :: r.take k) ≤ massOf (l0 :: r) := by rw [massOf_cons, massOf_cons]; have := massOf_take r k; omega
          omega
        by_cases hlt : k < r.length
        · obtain ⟨l, hl⟩ : ∃ l, r[k]? = some l := ⟨_, List.getElem?_eq_getElem hlt⟩
          have hcl := (hBw.out.cell (p := ⟨g, k + 1, none⟩) (by show g < B; omega)).trans (HC.out k l hl)
          have hlm := HM.out l (List.mem_of_getElem? hl)
          have hl3 := H3.out l (List.mem_of_getElem? hl)
          have hl2 := kind_more hl3
          obtain ⟨s, hs⟩ : ∃ s : ByteArray, (⟨l.toArray⟩ : ByteArray) = s := ⟨_, rfl⟩
          have hsd : s.data.toList = l := by rw [← hs]
          have hss : s.size ≤ 200000 := by rw [Lib.size_eq, hsd]; omega
          have hs2 : 2 ≤ s.size := by rw [Lib.size_eq, hsd]; exact hl2
          rw [hs] at hcl
          have KL := Lib.hid (fun w' => by have := refKind s (by omega) w'; rw [hsd, hl3] at this; exact this)
          have hE1d : (s.extract 1 s.size).data.toList = l.drop 1 := by rw [drop_one, hsd]
          obtain ⟨u, hu⟩ : ∃ u, s.extract 1 s.size = u := ⟨_, rfl⟩
          rw [hu] at hE1d
          have hus : u.size = s.size - 1 := by rw [Lib.size_eq, hE1d, List.length_drop, ← hsd, ← Lib.size_eq]
          have hus1 : 1 ≤ u.size := by omega
          have hus2 : u.size ≤ 200000 := by omega
          have HTK : Hid (partsOf l0 (r.take (k + 1)) = partsOf l0 (r.take k) ++ [Lib.trimPrefix (l.drop 1) [46]]) := Lib.hid (by rw [List.take_add_one, hl]; exact partsOf_snoc _ _ _)
          have HPT : Hid (Lib.join (partsOf l0 (r.take (k + 1))) [10] = X.data.toList ++ [10] ++ Lib.trimPrefix (l.drop 1) [46]) := Lib.hid (by rw [HTK.out, hX.out]; exact join_snoc _ _ _)
          have hu0 := get_data u 0 hus1
          have HU := Lib.hid hE1d
          have HUU := Lib.hid hu
          have hsli : ∀ W : World, (Instr.slice 9 (.string s) (some (.int .i64 1)) none none).run Tryz.prog W = .ok (.string u) W := fun W => by
            have := run_slice_string_l (P := Tryz.prog) (w := W) (t := 9) (s := s) Tryz.underlying9 .i64 1 (by omega) (by omega)
            rw [this]
            exact congrArg (fun x => Result.ok (Value.string x) W) hu
          have hd : ∃ d, l.drop 1 = u[0] :: d := by
            rw [← hE1d]
            exact data_cons u hus1
          have HD := Lib.hid hd
          clear hl hl2 hs hsd hE1d hu hd hl3 hu0 hus
          by_cases h46 : u[0] = 46
          · have hb46 : ((u[0].toNat : Int) == 46) = true := by rw [h46]; rfl
            have hb46' : (u[0].toNat == 46) = true := by rw [h46]; rfl
            have HT : Hid (Lib.trimPrefix (l.drop 1) [46] = (u.extract 1 u.size).data.toList) := Lib.hid (by
              obtain ⟨d, hd⟩ := HD.out
              rw [h46] at hd
              rw [trim_hit hd, drop_one, HU.out, hd]; rfl)
            have hxx : (u.extract 1 u.size).size ≤ 200000 := by rw [Lib.size_eq, drop_one, List.length_drop, ← Lib.size_eq]; omega
            clear h46
            go_wp2_with (go_at_call 103; refine (KL.out _).mono ?_; rintro e w' ⟨rfl, n3, rfl⟩)
            go_roundw
            case rel =>
              refine ⟨k + 1, _, by go_num, by omega, rfl, Lib.hid ?_, Lib.hid (below_dn hBw.out _), Lib.hid hE.out⟩
              rw [HPT.out, HT.out, data_app, data_app]
            case measure => simp [intOf]; omega
          · have hb46 : ((u[0].toNat : Int) == 46) = false := by
              rw [beq_eq_false_iff_ne]; intro e; exact h46 (byte_is 46 (by simpa using e))
            have hb46' : (u[0].toNat == 46) = false := by
              rw [beq_eq_false_iff_ne]; intro e; exact h46 (byte_is 46 (by exact_mod_cast e))
            have HT : Hid (Lib.trimPrefix (l.drop 1) [46] = u.data.toList) := Lib.hid (by
              obtain ⟨d, hd⟩ := HD.out
              rw [trim_miss (fun t e => by rw [hd] at e; injection e with e1 _; exact h46 e1), HU.out])
            clear h46
            go_wp2_with (go_at_call 103; refine (KL.out _).mono ?_; rintro e w' ⟨rfl, n3, rfl⟩)
            go_roundw
            case rel =>
              refine ⟨k + 1, _, by go_num, by omega, rfl, Lib.hid ?_, Lib.hid (below_dn hBw.out _), Lib.hid hE.out⟩
              rw [HPT.out, HT.out, data_app, data_app]
            case measure => simp [intOf]; omega
        · have hke : r.take k = r := List.take_of_length_le (by omega)
          have hX' := hX.out
          rw [hke, ← fieldOf_val] at hX'
          have hbl : B < wr.heap.size := (Array.getElem?_eq_some_iff.1 hE.out).1
          have d0 : wr.cell? ⟨B, 0, none⟩ = some (.string ⟨#[]⟩) := by simp [World.cell?, hE.out]
          have d1 : wr.cell? ⟨B, 1, none⟩ = some (.string ⟨#[]⟩) := by simp [World.cell?, hE.out]
          have f0 : wr.frozen? ⟨B, 0, none⟩ = false := by simp [World.frozen?, hE.out]
          have f1 : wr.frozen? ⟨B, 1, none⟩ = false := by simp [World.frozen?, hE.out]
          have hXl : X.size = (fieldOf l0 r).val.length := by rw [Lib.size_eq, hX']
          rcases HN.out with ⟨h1, hN1, hF1⟩ | ⟨h1, hN1, hF1⟩
          · have hlong : 1000 < X.size := by omega
            subst hN1 hF1
            clear hX' hX hXl hke h1
            go_wp2
            have hV : ((wr.setCell ⟨B, 0, none⟩ (.string ⟨#[]⟩)).setCell ⟨B, 1, none⟩ (.string ⟨#[]⟩)).heap[B]? = some (.cells #[.string ⟨#[]⟩, .string ⟨#[]⟩] 95 (0, 0)) := by
              simp [World.setCell, Array.getElem?_modify, hE.out]
            have hbV : Below B w ((wr.setCell ⟨B, 0, none⟩ (.string ⟨#[]⟩)).setCell ⟨B, 1, none⟩ (.string ⟨#[]⟩)) := (hBw.out.setCell (Nat.le_refl _) _).setCell (Nat.le_refl _) _
            generalize (wr.setCell ⟨B, 0, none⟩ (.string ⟨#[]⟩)).setCell ⟨B, 1, none⟩ (.string ⟨#[]⟩) = V at *
            have p0 : V.cell? ⟨B, 0, none⟩ = some (.string ⟨#[]⟩) := by simp [World.cell?, hV]
            have p1 : V.cell? ⟨B, 1, none⟩ = some (.string ⟨#[]⟩) := by simp [World.cell?, hV]
            exact bodyPost_ret (v := .tuple #[.agg #[.string ⟨#[]⟩, .string ⟨#[]⟩], .int .i64 6]) (by simp [results, Tryz.results105, go_sem, p0, p1]) rfl ⟨rfl, hBB ▸ hbV⟩
          · have hshort : X.size ≤ 1000 := by omega
            have HF := Lib.hid hF1
            have HX' := Lib.hid hX'
            subst hN1
            clear hX' hX hXl hke h1 hF1
            go_wp2
            have hV : ((wr.setCell ⟨B, 0, none⟩ (.string kb)).setCell ⟨B, 1, none⟩ (.string X)).heap[B]? = some (.cells #[.string kb, .string X] 95 (0, 0)) := by
              simp [World.setCell, Array.getElem?_modify, hE.out]
            have hbV : Below B w ((wr.setCell ⟨B, 0, none⟩ (.string kb)).setCell ⟨B, 1, none⟩ (.string X)) := (hBw.out.setCell (Nat.le_refl _) _).setCell (Nat.le_refl _) _
            generalize (wr.setCell ⟨B, 0, none⟩ (.string kb)).setCell ⟨B, 1, none⟩ (.string X) = V at *
            have p0 : V.cell? ⟨B, 0, none⟩ = some (.string kb) := by simp [World.cell?, hV]
            have p1 : V.cell? ⟨B, 1, none⟩ = some (.string X) := by simp [World.cell?, hV]
            exact bodyPost_ret (v := .tuple #[.agg #[.string kb, .string X], .int .i64 0]) (by simp [results, Tryz.results105, go_sem, p0, p1]) rfl ⟨by rw [HF.out]; exact unf_end HKB.out HX'.out, hBB ▸ hbV⟩
    · have hb1 : ((vb[0].toNat : Int) == 32) = false := by
        rw [beq_eq_false_iff_ne]; intro e; exact h32 (byte_is 32 (by simpa using e))
      have hb2 : (vb[0].toNat == 32) = false := by
        rw [beq_eq_false_iff_ne]; intro e; exact h32 (byte_is 32 (by exact_mod_cast e))
      have HX : Hid (vb.data.toList = Lib.join (partsOf l0 (r.take 0)) [10]) := Lib.hid (by
        have e : Lib.trimPrefix (behind 58 l0) [32] = behind 58 l0 := trim_miss (fun t' e2 => by
          rw [← HVB.out, ht] at e2; injection e2 with e3 _; exact h32 e3)
        rw [HVB.out]
        simp [partsOf, Lib.join_one, e])
      clear h32 ht hv0 HB0 HE0 c0
      go_wp2
      try rw [hW]
      go_loopw [5, 7] (fun x i wr => ∃ (k : Nat) (X : ByteArray), i = .int .i64 ((k : Int) + 1) ∧ k ≤ r.length ∧ x = .string X ∧ Hid (X.data.toList = Lib.join (partsOf l0 (r.take k)) [10]) ∧ Hid (Below B w wr) ∧ Hid (wr.heap[B]? = some (.cells #[.string ⟨#[]⟩, .string ⟨#[]⟩] 95 (0, 0)))) (fun _ i _ => r.length + 1 - (intOf i).toNat)
      case atStart => exact ⟨0, _, rfl, Nat.zero_le _, rfl, HX, HB1, HE1⟩
      case round =>
        clear HX HB1 HE1
        obtain ⟨k, X, rfl, hk, rfl, hX, hBw, hE⟩ := hrel
        have hXs : X.size ≤ 200000 := by
          rw [Lib.size_eq, hX.out]
          have h1 := field_len l0 (r.take k)
          rw [fieldOf_val] at h1
          have h2 : massOf (l0 :: r.take k) ≤ massOf (l0 :: r) := by rw [massOf_cons, massOf_cons]; have := massOf_take r k; omega
          omega
        by_cases hlt : k < r.length
        · obtain ⟨l, hl⟩ : ∃ l, r[k]? = some l := ⟨_, List.getElem?_eq_getElem hlt⟩
          have hcl := (hBw.out.cell (p := ⟨g, k + 1, none⟩) (by show g < B; omega)).trans (HC.out k l hl)
          have hlm := HM.out l (List.mem_of_getElem? hl)
          have hl3 := H3.out l (List.mem_of_getElem? hl)
          have hl2 := kind_more hl3
          obtain ⟨s, hs⟩ : ∃ s : ByteArray, (⟨l.toArray⟩ : ByteArray) = s := ⟨_, rfl⟩
          have hsd : s.data.toList = l := by rw [← hs]
          have hss : s.size ≤ 200000 := by rw [Lib.size_eq, hsd]; omega
          have hs2 : 2 ≤ s.size := by rw [Lib.size_eq, hsd]; exact hl2
          rw [hs] at hcl
          have KL := Lib.hid (fun w' => by have := refKind s (by omega) w'; rw [hsd, hl3] at this; exact this)
          have hE1d : (s.extract 1 s.size).data.toList = l.drop 1 := by rw [drop_one, hsd]
          obtain ⟨u, hu⟩ : ∃ u, s.extract 1 s.size = u := ⟨_, rfl⟩
          rw [hu] at hE1d
          have hus : u.size = s.size - 1 := by rw [Lib.size_eq, hE1d, List.length_drop, ← hsd, ← Lib.size_eq]
          have hus1 : 1 ≤ u.size := by omega
          have hus2 : u.size ≤ 200000 := by omega
          have HTK : Hid (partsOf l0 (r.take (k + 1)) = partsOf l0 (r.take k) ++ [Lib.trimPrefix (l.drop 1) [46]]) := Lib.hid (by rw [List.take_add_one, hl]; exact partsOf_snoc _ _ _)
          have HPT : Hid (Lib.join (partsOf l0 (r.take (k + 1))) [10] = X.data.toList ++ [10] ++ Lib.trimPrefix (l.drop 1) [46]) := Lib.hid (by rw [HTK.out, hX.out]; exact join_snoc _ _ _)
          have hu0 := get_data u 0 hus1
          have HU := Lib.hid hE1d
          have HUU := Lib.hid hu
          have hsli : ∀ W : World, (Instr.slice 9 (.string s) (some (.int .i64 1)) none none).run Tryz.prog W = .ok (.string u) W := fun W => by
            have := run_slice_string_l (P := Tryz.prog) (w := W) (t := 9) (s := s) Tryz.underlying9 .i64 1 (by omega) (by omega)
            rw [this]
            exact congrArg (fun x => Result.ok (Value.string x) W) hu
          have hd : ∃ d, l.drop 1 = u[0] :: d := by
            rw [← hE1d]
            exact data_cons u hus1
          have HD := Lib.hid hd
          clear hl hl2 hs hsd hE1d hu hd hl3 hu0 hus
          by_cases h46 : u[0] = 46
          · have hb46 : ((u[0].toNat : Int) == 46) = true := by rw [h46]; rfl
            have hb46' : (u[0].toNat == 46) = true := by rw [h46]; rfl
            have HT : Hid (Lib.trimPrefix (l.drop 1) [46] = (u.extract 1 u.size).data.toList) := Lib.hid (by
              obtain ⟨d, hd⟩ := HD.out
              rw [h46] at hd
              rw [trim_hit hd, drop_one, HU.out, hd]; rfl)
            have hxx : (u.extract 1 u.size).size ≤ 200000 := by rw [Lib.size_eq, drop_one, List.length_drop, ← Lib.size_eq]; omega
            clear h46
            go_wp2_with (go_at_call 103; refine (KL.out _).mono ?_; rintro e w' ⟨rfl, n3, rfl⟩)
            go_roundw
            case rel =>
              refine ⟨k + 1, _, by go_num, by omega, rfl, Lib.hid ?_, Lib.hid (below_dn hBw.out _), Lib.hid hE.out⟩
              rw [HPT.out, HT.out, data_app, data_app]
            case measure => simp [intOf]; omega
          · have hb46 : ((u[0].toNat : Int) == 46) = false := by
              rw [beq_eq_false_iff_ne]; intro e; exact h46 (byte_is 46 (by simpa using e))
            have hb46' : (u[0].toNat == 46) = false := by
              rw [beq_eq_false_iff_ne]; intro e; exact h46 (byte_is 46 (by exact_mod_cast e))
            have HT : Hid (Lib.trimPrefix (l.drop 1) [46] = u.data.toList) := Lib.hid (by
              obtain ⟨d, hd⟩ := HD.out
              rw [trim_miss (fun t e => by rw [hd] at e; injection e with e1 _; exact h46 e1), HU.out])
            clear h46
            go_wp2_with (go_at_call 103; refine (KL.out _).mono ?_; rintro e w' ⟨rfl, n3, rfl⟩)
            go_roundw
            case rel =>
              refine ⟨k + 1, _, by go_num, by omega, rfl, Lib.hid ?_, Lib.hid (below_dn hBw.out _), Lib.hid hE.out⟩
              rw [HPT.out, HT.out, data_app, data_app]
            case measure => simp [intOf]; omega
        · have hke : r.take k = r := List.take_of_length_le (by omega)
          have hX' := hX.out
          rw [hke, ← fieldOf_val] at hX'
          have hbl : B < wr.heap.size := (Array.getElem?_eq_some_iff.1 hE.out).1
          have d0 : wr.cell? ⟨B, 0, none⟩ = some (.string ⟨#[]⟩) := by simp [World.cell?, hE.out]
          have d1 : wr.cell? ⟨B, 1, none⟩ = some (.string ⟨#[]⟩) := by simp [World.cell?, hE.out]
          have f0 : wr.frozen? ⟨B, 0, none⟩ = false := by simp [World.frozen?, hE.out]
          have f1 : wr.frozen? ⟨B, 1, none⟩ = false := by simp [World.frozen?, hE.out]
          have hXl : X.size = (fieldOf l0 r).val.length := by rw [Lib.size_eq, hX']
          rcases HN.out with ⟨h1, hN1, hF1⟩ | ⟨h1, hN1, hF1⟩
          · have hlong : 1000 < X.size := by omega
            subst hN1 hF1
            clear hX' hX hXl hke h1
            go_wp2
            have hV : ((wr.setCell ⟨B, 0, none⟩ (.string ⟨#[]⟩)).setCell ⟨B, 1, none⟩ (.string ⟨#[]⟩)).heap[B]? = some (.cells #[.string ⟨#[]⟩, .string ⟨#[]⟩] 95 (0, 0)) := by
              simp [World.setCell, Array.getElem?_modify, hE.out]
            have hbV : Below B w ((wr.setCell ⟨B, 0, none⟩ (.string ⟨#[]⟩)).setCell ⟨B, 1, none⟩ (.string ⟨#[]⟩)) := (hBw.out.setCell (Nat.le_refl _) _).setCell (Nat.le_refl _) _
            generalize (wr.setCell ⟨B, 0, none⟩ (.string ⟨#[]⟩)).setCell ⟨B, 1, none⟩ (.string ⟨#[]⟩) = V at *
            have p0 : V.cell? ⟨B, 0, none⟩ = some (.string ⟨#[]⟩) := by simp [World.cell?, hV]
            have p1 : V.cell? ⟨B, 1, none⟩ = some (.string ⟨#[]⟩) := by simp [World.cell?, hV]
            exact bodyPost_ret (v := .tuple #[.agg #[.string ⟨#[]⟩, .string ⟨#[]⟩], .int .i64 6]) (by simp [results, Tryz.results105, go_sem, p0, p1]) rfl ⟨rfl, hBB ▸ hbV⟩
          · have hshort : X.size ≤ 1000 := by omega
            have HF := Lib.hid hF1
            have HX' := Lib.hid hX'
            subst hN1
            clear hX' hX hXl hke h1 hF1
            go_wp2
            have hV : ((wr.setCell ⟨B, 0, none⟩ (.string kb)).setCell ⟨B, 1, none⟩ (.string X)).heap[B]? = some (.cells #[.string kb, .string X] 95 (0, 0)) := by
              simp [World.setCell, Array.getElem?_modify, hE.out]
            have hbV : Below B w ((wr.setCell ⟨B, 0, none⟩ (.string kb)).setCell ⟨B, 1, none⟩ (.string X)) := (hBw.out.setCell (Nat.le_refl _) _).setCell (Nat.le_refl _) _
            generalize (wr.setCell ⟨B, 0, none⟩ (.string kb)).setCell ⟨B, 1, none⟩ (.string X) = V at *
            have p0 : V.cell? ⟨B, 0, none⟩ = some (.string kb) := by simp [World.cell?, hV]
            have p1 : V.cell? ⟨B, 1, none⟩ = some (.string X) := by simp [World.cell?, hV]
            exact bodyPost_ret (v := .tuple #[.agg #[.string kb, .string X], .int .i64 0]) (by simp [results, Tryz.results105, go_sem, p0, p1]) rfl ⟨by rw [HF.out]; exact unf_end HKB.out HX'.out, hBB ▸ hbV⟩
end Go.Proofs.YtjbnjlkoipkpoaaGreatDoor.B
