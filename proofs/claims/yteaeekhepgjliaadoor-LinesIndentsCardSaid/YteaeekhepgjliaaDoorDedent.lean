/- lines.Dedent. -/
import Derived.Test.YteaeekhepgjliaaDoorIndentLaw
import Derived.Test.YteaeekhepgjliaaDoorQuietIn
namespace Go.Proofs.YteaeekhepgjliaaDoor
open Go.RowKit Go.Shelf
attribute [local go_sem] Oper.semAt_some

/-- What a text is that is dedented. -/
def dedText (p : List UInt8) (xs : List LineD) : List UInt8 := if allPre p xs then dedOf p xs else []
/-- How the loop is left early. -/
structure DX (B0 : Nat) (w W : World) : Prop where
  below : Below B0 w W
  text : W.heap[B0 + 1]? = some (.cells #[.string ⟨#[]⟩] 9)
  is : W.heap[B0 + 2]? = some (.cells #[.bool false] 4)
theorem Keep3.trans {D tb : Nat} {W1 W2 W3 : World} (h : Keep3 D tb W1 W2) (k : Keep3 D tb W2 W3) : Keep3 D tb W1 W3 :=
  ⟨Nat.le_trans h.size k.size, fun i a b => (k.own i a b).trans (h.own i a b), k.text.trans h.text⟩
set_option maxHeartbeats 1000000 in
theorem dedent_any (s p : ByteArray) (hs : s.size ≤ 1000000) (w : World) :
    Calls Tryd.prog 20 #[.string s, .string p] w fun e w' => e = .returned (.tuple #[.string ⟨(dedText p.data.toList (splitL s.data.toList)).toArray⟩, .bool (allPre p.data.toList (splitL s.data.toList))]) ∧ Below w.heap.size w w' := by
  refine calls_marks Tryd.func20 rfl ?_
  simp only [Tryd.ntmps20, List.size_toArray, List.length_cons, List.length_nil, Nat.reduceAdd, Nat.reduceSub, Array.replicate_succ, Array.replicate_zero, List.push_toArray, List.append_toArray, List.nil_append, List.cons_append]
  go_wp2_with fail
  refine (Split_any _ _).mono ?_
  rintro e w3 ⟨rfl, rfl⟩
  go_wp2_with fail
  obtain ⟨B, hB⟩ : ∃ B, w.heap.size = B := ⟨_, rfl⟩
  simp only [hB]
  obtain ⟨W0, hW0⟩ : ∃ W0, ((((w.alloc (.cells #[.string p] 9)).alloc (.cells #[.string ⟨#[]⟩] 9)).alloc (.cells #[.bool false] 4)).alloc (.cells #[.pointer none, .slice none 0 0] 50)).alloc (.cells #[.string s] 9) = W0 := ⟨_, rfl⟩
  have s0 : W0.heap.size = B + 5 := by rw [← hW0]; simp [hB]
  have G := Lib.hid (alloc5 w (.cells #[.string p] 9) (.cells #[.string ⟨#[]⟩] 9) (.cells #[.bool false] 4) (.cells #[.pointer none, .slice none 0 0] 50) (.cells #[.string s] 9))
  rw [hW0, hB] at G
  have B0 : Below B w W0 := ⟨by rw [← hW0]; rfl, by rw [← hW0]; rfl, by rw [← hW0]; rfl, by omega, fun k hk => G.out.2.2.2.2.2 k hk⟩
  have D0 : DI (B + 5) B (B + 3) w W0 [] W0 := DI.start G.out.2.2.2.1 (by omega) B0
  try rw [hW0]
  clear hW0
  refine wp_range_split_boxN 7 (B + 4) s hs rfl (by simp [World.cell?, G.out.2.2.2.2.1]) (by omega)
    (fun pre W => DI (B + 5) B (B + 3) w W0 (dedOf p.data.toList pre) W ∧ allPre p.data.toList pre = true)
    (fun c pre W => c = .ret ∧ DX B w W ∧ allPre p.data.toList pre = false) ?hI ?hIx ?h0 ?assign ?hIa ?body ?done ?stop
  case hI =>
    rintro pre W W' ⟨h1, h2⟩ ht
    rw [s0] at ht
    exact ⟨h1.touch (by omega) (by omega) ht, h2⟩
  case hIx =>
    rintro c pre W W' ⟨rfl, ⟨h1, h2, h3⟩, h4⟩ ht
    rw [s0] at ht
    refine ⟨rfl, ⟨⟨ht.os.trans h1.os, ht.tape.trans h1.tape, ht.output.trans h1.output, Nat.le_trans h1.size ht.size, fun k hk => (ht.block k (.inl (by omega))).trans (h1.block k hk)⟩, (ht.block _ (.inl (by omega))).trans h2, (ht.block _ (.inl (by omega))).trans h3⟩, h4⟩
  case h0 => exact ⟨D0, rfl⟩
  case hIa =>
    rintro pre W o ⟨h1, h2⟩ hz
    rw [s0] at hz
    exact ⟨h1.alloc hz (by omega) (by omega) o, h2⟩
  case assign =>
    intro l x W K hK
    have hv : x.val = .agg #[.int .i64 x.no, .int .i64 x.at_, .string ⟨x.text.toArray⟩, .bool x.ended] := rfl
    have hc : lineCells x = [.int .i64 x.no, .int .i64 x.at_, .string ⟨x.text.toArray⟩, .bool x.ended] := rfl
    rw [hv, hc] at hK
    rw [hv]
    have HK := Lib.hid hK
    clear hK hv hc
    gi_wp2
    have h := HK.out
    simp at h
    exact h
  case body =>
    rintro l pre ⟨xno, xat, xtext, xend⟩ Bx W ⟨hDI, hap⟩ hBx hxB hpf hnr
    rw [s0] at hBx hnr ⊢
    rw [show LineD.val ⟨xno, xat, xtext, xend⟩ = .agg #[.int .i64 xno, .int .i64 xat, .string ⟨xtext.toArray⟩, .bool xend] from rfl]
    have HP := Lib.hid hpf
    have HD := Lib.hid hDI
    have HA := Lib.hid hap
    have HN := Lib.hid hnr
    have HX := Lib.hid hxB
    have hpW : W.heap[B]? = some (.cells #[.string p] 9) := hDI.kept _ _ (by omega) G.out.1 (fun e => by cases e) (fun c fz e => by injection e with _ e2 _; exact absurd e2 (by decide))
    have HPW := Lib.hid hpW
    have k0 : W.cell? ⟨B, 0, none⟩ = some (.string p) := by simp [World.cell?, hpW]
    have m2 : W.cell? ⟨Bx, 2, none⟩ = some (.string ⟨xtext.toArray⟩) := by simp [World.cell?, hxB, lineCells]
    clear hpf hDI hap hnr hxB hpW
    have C := Lib.hid (fun w => Tryd.strings_CutPrefix ⟨xtext.toArray⟩ p w)
    obtain ⟨hp, HQ⟩ : ∃ hp, Hid (Lib.hasPrefix xtext p.data.toList = hp) := ⟨_, rfl⟩
    obtain ⟨tr, HT⟩ : ∃ tr : ByteArray, Hid ((⟨(Lib.trimPrefix xtext p.data.toList).toArray⟩ : ByteArray) = tr) := ⟨_, rfl⟩
    have C' : Hid (∀ w, Calls Tryd.prog 34 #[.string ⟨xtext.toArray⟩, .string p] w fun e w' => e = .returned (.tuple #[.string tr, .bool hp]) ∧ w' = w) := by
      rw [← HQ.out, ← HT.out]; exact C.out
    clear C
    cases hp
    · have g1 : W.heap[B + 1]? = some (.cells #[.string ⟨#[]⟩] 9) := HD.out.kept _ _ (by omega) G.out.2.1 (fun e => by cases e) (fun c fz e => by injection e with _ e2 _; exact absurd e2 (by decide))
      have g2 : W.heap[B + 2]? = some (.cells #[.bool false] 4) := HD.out.kept _ _ (by omega) G.out.2.2.1 (fun e => by cases e) (fun c fz e => by injection e with _ e2 _; exact absurd e2 (by decide))
      have g4 : W.heap[B + 4]? = some (.cells #[.string s] 9) := HD.out.kept _ _ (by omega) G.out.2.2.2.2.1 (fun e => by cases e) (fun c fz e => by injection e with _ e2 _; exact absurd e2 (by decide))
      have k1 : W.cell? ⟨B + 1, 0, none⟩ = some (.string ⟨#[]⟩) := by simp [World.cell?, g1]
      have k2 : W.cell? ⟨B + 1 + 1, 0, none⟩ = some (.bool false) := by simp [World.cell?, g2]
      have f1 : W.frozen? ⟨B + 1, 0, none⟩ = false := by simp [World.frozen?, g1]
      have f2 : W.frozen? ⟨B + 1 + 1, 0, none⟩ = false := by simp [World.frozen?, g2]
      have G1 := Lib.hid g1
      have G2 := Lib.hid g2
      clear g1 g2 g4
      gi_wp2_with (refine ⟨trivial, ?_⟩; gi_at_call 34; refine (CallsIn.inRound l (callsIn_wide.2 (C'.out _))).mono ?_; rintro e w' ⟨rfl, rfl⟩)
      have hk : ∀ k, k ≠ B + 1 → k ≠ B + 2 → ((w'.setCell ⟨B + 1, 0, none⟩ (.string ⟨#[]⟩)).setCell ⟨B + 1 + 1, 0, none⟩ (.bool false)).heap[k]? = w'.heap[k]? := fun k a b => (Below.heap_setCell _ _ _ _ (by show k ≠ B + 1 + 1; omega)).trans (Below.heap_setCell _ _ _ _ (by show k ≠ B + 1; omega))
      refine ⟨⟨by simp [World.setCell], fun k a b => hk k (by omega) (by omega), hk _ (by omega) (by omega)⟩, rfl, ⟨(HD.out.below.setCell (p := ⟨B + 1, 0, none⟩) (by show B ≤ B + 1; omega) _).setCell (p := ⟨B + 1 + 1, 0, none⟩) (by show B ≤ B + 1 + 1; omega) _, ?_, ?_⟩, by rw [allPre_snoc, HQ.out, Bool.and_false]⟩
      · rw [Below.heap_setCell _ _ _ _ (by show B + 1 ≠ B + 1 + 1; omega), setCell_block _ G1.out]; rfl
      · rw [show B + 2 = B + 1 + 1 from rfl, setCell_block _ ((Below.heap_setCell _ _ _ _ (by show B + 1 + 1 ≠ B + 1; omega)).trans G2.out)]; rfl
    · have hlen : (dedOf p.data.toList (pre ++ [⟨xno, xat, xtext, xend⟩])).length ≤ 1000000 := by
        have := dedOf_le (p := p.data.toList) HP.out
        rw [size_len] at this
        omega
      have htr : tr.data.toList = xtext.drop p.data.toList.length := by
        rw [← HT.out]
        show Lib.trimPrefix xtext p.data.toList = _
        unfold Lib.trimPrefix
        have := HQ.out
        unfold Lib.hasPrefix at this
        simp [this, Lib.hasPrefix]
      rw [dedOf_snoc, List.length_append, List.length_append, ← htr, size_len] at hlen
      have hl1 : (Lib.byteCells (dedOf p.data.toList pre)).length + tr.size ≤ 140737488355328 := by
        rw [Lib.byteCells, List.length_map]; omega
      have HL := Lib.hid hlen
      have hBW : B ≤ W.heap.size := by have := HD.out.below.size; omega
      clear hlen
      gi_wp2_with (refine ⟨trivial, ?_⟩; gi_at_call 34; refine (CallsIn.inRound l (callsIn_wide.2 (C'.out _))).mono ?_; rintro e w' ⟨rfl, rfl⟩)
      refine ⟨trivial, ?_⟩
      refine (CallsIn.inRound l (callsIn_wide.2 (WriteString_k B (B + 3) _ tr _ HD.out.bld hl1 hBW))).mono ?_
      rintro e w1 ⟨rfl, hq1, hq2, hq3⟩
      obtain ⟨d1, d2, d3⟩ := HD.out.write (tb := B + 4) (by omega) (by omega) (by omega) HN.out G.out.2.2.2.2.1 hq1 rfl hq2 hq3
      have hx1 : w1.heap[Bx]? = some (.cells (lineCells ⟨xno, xat, xtext, xend⟩).toArray 34) := hq3 _ _ HX.out (fun e => by cases e; omega) (fun c fz e => by injection e with _ e2 _; exact absurd e2 (by decide))
      have m3 : w1.cell? ⟨Bx, 3, none⟩ = some (.bool xend) := by simp [World.cell?, hx1, lineCells]
      have D1 := Lib.hid d1
      have D2 := Lib.hid d2
      have D3 := Lib.hid d3
      clear hq1 hq2 hq3 hx1 m2 k0 d1 d2 d3
      cases xend
      · gi_wp2
        refine ⟨D2.out, ?_, by rw [allPre_snoc, HA.out, HQ.out]; rfl⟩
        rw [dedOf_snoc, show nl false = [] from rfl, List.append_nil, ← htr]
        exact D1.out
      · have hl2 : (Lib.byteCells (dedOf p.data.toList pre ++ tr.data.toList)).length + (⟨#[10]⟩ : ByteArray).size ≤ 140737488355328 := by
          rw [Lib.byteCells, List.length_map, List.length_append, size_len]
          have := HL.out
          show _ + 1 ≤ _
          omega
        have hBW1 : B ≤ w1.heap.size := by have := D2.out.size; omega
        gi_wp2_with fail
        refine ⟨trivial, ?_⟩
        refine (CallsIn.inRound l (callsIn_wide.2 (WriteString_k B (B + 3) _ ⟨#[10]⟩ _ D1.out.bld hl2 hBW1))).mono ?_
        rintro e w2 ⟨rfl, hq1, hq2, hq3⟩
        obtain ⟨d1, d2, d3⟩ := D1.out.write (tb := B + 4) (by omega) (by omega) (by omega) D3.out G.out.2.2.2.2.1 hq1 rfl hq2 hq3
        have E1 := Lib.hid d1
        have E2 := Lib.hid d2
        clear hq1 hq2 hq3 d1 d2 d3 m3
        gi_wp2
        refine ⟨D2.out.trans E2.out, ?_, by rw [allPre_snoc, HA.out, HQ.out]; rfl⟩
        rw [dedOf_snoc, show nl true = [10] from rfl, ← htr, ← List.append_assoc]
        exact E1.out
  case done =>
    rintro W ⟨hDI, hap⟩ hz hK
    rw [s0] at hz hK
    have hdt : dedText p.data.toList (splitL s.data.toList) = dedOf p.data.toList (splitL s.data.toList) := by unfold dedText; rw [hap]; rfl
    have HE := Lib.hid (And.intro hap hdt)
    clear hdt hap
    have HK := Lib.hid hK
    have HD := Lib.hid hDI
    clear hK
    have hBW : B ≤ W.heap.size := by omega
    go_wp2_with fail
    refine (Tryd.Builder_String_any_k B (B + 3) _ _ hDI.bld hBW).mono ?_
    rintro e w1 ⟨rfl, _, hq2, hq3⟩
    have g1 : w1.heap[B + 1]? = some (.cells #[.string ⟨#[]⟩] 9) := hq3 _ _ (HD.out.kept _ _ (by omega) G.out.2.1 (fun e => by cases e) (fun c fz e => by injection e with _ e2 _; exact absurd e2 (by decide))) (fun e => by cases e) (fun c fz e => by injection e with _ e2 _; exact absurd e2 (by decide))
    have g2 : w1.heap[B + 2]? = some (.cells #[.bool false] 4) := hq3 _ _ (HD.out.kept _ _ (by omega) G.out.2.2.1 (fun e => by cases e) (fun c fz e => by injection e with _ e2 _; exact absurd e2 (by decide))) (fun e => by cases e) (fun c fz e => by injection e with _ e2 _; exact absurd e2 (by decide))
    have g5 : w1.heap[B + 5]? = some (.deferred (some [])) := hq3 _ _ HK.out (fun e => by cases e) (fun c fz e => by cases e)
    have k1 : w1.cell? ⟨B + 1, 0, none⟩ = some (.string ⟨#[]⟩) := by simp [World.cell?, g1]
    have k2 : w1.cell? ⟨B + 1 + 1, 0, none⟩ = some (.bool false) := by simp [World.cell?, g2]
    have f1 : w1.frozen? ⟨B + 1, 0, none⟩ = false := by simp [World.frozen?, g1]
    have f2 : w1.frozen? ⟨B + 1 + 1, 0, none⟩ = false := by simp [World.frozen?, g2]
    have G1 := Lib.hid g1
    have G2 := Lib.hid g2
    have G5 := Lib.hid g5
    have HB := Lib.hid (hDI.below.trans hq2)
    clear g1 g2 g5 hq2 hq3 hDI
    go_wp2
    obtain ⟨R, hR⟩ : ∃ R : Value, R = .string ⟨(dedOf p.data.toList (splitL s.data.toList)).toArray⟩ := ⟨_, rfl⟩
    rw [← hR]
    have e1 : ((w1.setCell ⟨B + 1, 0, none⟩ R).setCell ⟨B + 1 + 1, 0, none⟩ (.bool true)).heap[B + 1]? = some (.cells #[R] 9) := by
      rw [Below.heap_setCell _ _ _ _ (by show B + 1 ≠ B + 1 + 1; omega), setCell_block _ G1.out]; rfl
    have e2 : ((w1.setCell ⟨B + 1, 0, none⟩ R).setCell ⟨B + 1 + 1, 0, none⟩ (.bool true)).heap[B + 1 + 1]? = some (.cells #[.bool true] 4) := by
      rw [setCell_block _ ((Below.heap_setCell _ _ _ _ (by show B + 1 + 1 ≠ B + 1; omega)).trans G2.out)]; rfl
    have e5 : ((w1.setCell ⟨B + 1, 0, none⟩ R).setCell ⟨B + 1 + 1, 0, none⟩ (.bool true)).heap[B + 5]? = some (.deferred (some [])) :=
      (Below.heap_setCell _ _ _ _ (by show B + 5 ≠ B + 1 + 1; omega)).trans ((Below.heap_setCell _ _ _ _ (by show B + 5 ≠ B + 1; omega)).trans G5.out)
    have hb := (HB.out.setCell (p := ⟨B + 1, 0, none⟩) (by show B ≤ B + 1; omega) R).setCell (p := ⟨B + 1 + 1, 0, none⟩) (by show B ≤ B + 1 + 1; omega) (.bool true)
    rw [HE.out.1, HE.out.2, hB]
    generalize (w1.setCell ⟨B + 1, 0, none⟩ R).setCell ⟨B + 1 + 1, 0, none⟩ (.bool true) = V at e1 e2 e5 hb ⊢
    have p1 : (V.putObj (B + 5) (.deferred none)).cell? ⟨B + 1, 0, none⟩ = some R := by
      have : (V.putObj (B + 5) (.deferred none)).heap[B + 1]? = some (.cells #[R] 9) := (World.putObj_heap_other (by omega)).trans e1
      simp [World.cell?, this]
    have p2 : (V.putObj (B + 5) (.deferred none)).cell? ⟨B + 1 + 1, 0, none⟩ = some (.bool true) := by
      have : (V.putObj (B + 5) (.deferred none)).heap[B + 1 + 1]? = some (.cells #[.bool true] 4) := (World.putObj_heap_other (by omega)).trans e2
      simp [World.cell?, this]
    refine marks1 (v := .tuple #[R, .bool true]) e5 (by simp [results, Tryd.results20, go_sem, p1, p2]) ⟨by rw [hR], hb.trans ⟨rfl, rfl, rfl, by simp, fun x hx => World.putObj_heap_other (by omega)⟩⟩
  case stop =>
    rintro c pre W hpf ⟨rfl, ⟨h1, h2, h3⟩, h4⟩ hK
    rw [s0] at hK
    have hdt : dedText p.data.toList (splitL s.data.toList) = [] := by unfold dedText; rw [allPre_prefix hpf h4]; rfl
    have HE := Lib.hid (And.intro (allPre_prefix hpf h4) hdt)
    clear hdt h4 hpf
    have H1 := Lib.hid h1
    have H2 := Lib.hid h2
    have H3 := Lib.hid h3
    have HK := Lib.hid hK
    clear h1 h2 h3 hK
    go_wp2
    rw [HE.out.1, HE.out.2, hB, s0]
    have p1 : (W.putObj (B + 5) (.deferred none)).cell? ⟨B + 1, 0, none⟩ = some (.string ⟨#[]⟩) := by
      have : (W.putObj (B + 5) (.deferred none)).heap[B + 1]? = some (.cells #[.string ⟨#[]⟩] 9) := (World.putObj_heap_other (by omega)).trans H2.out
      simp [World.cell?, this]
    have p2 : (W.putObj (B + 5) (.deferred none)).cell? ⟨B + 1 + 1, 0, none⟩ = some (.bool false) := by
      have : (W.putObj (B + 5) (.deferred none)).heap[B + 1 + 1]? = some (.cells #[.bool false] 4) := (World.putObj_heap_other (by omega)).trans H3.out
      simp [World.cell?, this]
    refine marks1 (v := .tuple #[.string ⟨#[]⟩, .bool false]) HK.out (by simp [results, Tryd.results20, go_sem, p1, p2]) ⟨rfl, H1.out.trans ⟨rfl, rfl, rfl, by simp, fun x hx => World.putObj_heap_other (by omega)⟩⟩
end Go.Proofs.YteaeekhepgjliaaDoor
