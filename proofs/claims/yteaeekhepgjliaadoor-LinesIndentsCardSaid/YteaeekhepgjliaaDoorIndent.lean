/- lines.Indent. -/
import Derived.Test.YteaeekhepgjliaaDoorDedent
namespace Go.Proofs.YteaeekhepgjliaaDoor
open Go.RowKit Go.Shelf
attribute [local go_sem] Oper.semAt_some

theorem app_data (a b : ByteArray) : (a ++ b).data.toList = a.data.toList ++ b.data.toList := by simp
set_option maxHeartbeats 1000000 in
theorem indent_any (s ah : ByteArray) (by_ : Value) (hs : s.size ≤ 1000000) (ha : ah.size ≤ 1000) (w : World)
    (J : ∀ w2, Below w.heap.size w w2 → Calls Tryd.prog 37 #[by_, .string ⟨#[]⟩] w2 fun e w' => e = .returned (.string ah) ∧ Below w2.heap.size w2 w') :
    Calls Tryd.prog 22 #[.string s, by_] w fun e w' => e = .returned (.string ⟨(insOf ah.data.toList (splitL s.data.toList)).toArray⟩) ∧ Below w.heap.size w w' := by
  refine calls_marks Tryd.func22 rfl ?_
  simp only [Tryd.ntmps22, List.size_toArray, List.length_cons, List.length_nil, Nat.reduceAdd, Nat.reduceSub, Array.replicate_succ, Array.replicate_zero, List.push_toArray, List.append_toArray, List.nil_append, List.cons_append]
  have HJ := Lib.hid J
  clear J
  go_wp2_with fail
  obtain ⟨wb, hwb⟩ : ∃ wb, w.alloc (.cells #[.pointer none, .slice none 0 0] 50) = wb := ⟨_, rfl⟩
  rw [hwb]
  have bb0 : Below w.heap.size w wb := by rw [← hwb]; exact (Below.refl _ _).alloc (Nat.le_refl _) _
  have gb0 : wb.heap[w.heap.size]? = some (.cells #[.pointer none, .slice none 0 0] 50) := by rw [← hwb]; exact World.alloc_heap_new _ _
  have sb0 : wb.heap.size = w.heap.size + 1 := by rw [← hwb]; simp
  clear hwb
  refine (HJ.out wb bb0).mono ?_
  rintro e wj ⟨rfl, bj⟩
  have gbj : wj.heap[w.heap.size]? = some (.cells #[.pointer none, .slice none 0 0] 50) := (bj.block _ (by omega)).trans gb0
  have sbj := bj.size
  have bbj : Below w.heap.size w wj := bb0.trans (bj.mono (by omega))
  obtain ⟨B, hB⟩ : ∃ B, w.heap.size = B := ⟨_, rfl⟩
  obtain ⟨A, hA⟩ : ∃ A, wj.heap.size = A := ⟨_, rfl⟩
  rw [hB] at gbj bbj sb0
  clear bj gb0 bb0
  go_wp2_with fail
  refine (Split_any _ _).mono ?_
  rintro e w3 ⟨rfl, rfl⟩
  go_wp2_with fail
  obtain ⟨W0, hW0⟩ : ∃ W0, (wj.alloc (.cells #[.string ah] 9)).alloc (.cells #[.string s] 9) = W0 := ⟨_, rfl⟩
  have s0 : W0.heap.size = A + 2 := by rw [← hW0]; simp [hA]
  have G : Hid (W0.heap[B]? = some (.cells #[.pointer none, .slice none 0 0] 50) ∧ W0.heap[A]? = some (.cells #[.string ah] 9) ∧ W0.heap[A + 1]? = some (.cells #[.string s] 9)) := by
    rw [← hW0, ← hA]
    refine ⟨?_, ?_, ?_⟩
    · exact (Below.heap_alloc _ _ _ (by simp; omega)).trans ((Below.heap_alloc _ _ _ (by omega)).trans gbj)
    · exact (Below.heap_alloc _ _ _ (by simp)).trans (World.alloc_heap_new _ _)
    · have := World.alloc_heap_new (wj.alloc (.cells #[.string ah] 9)) (.cells #[.string s] 9)
      rwa [World.size_alloc] at this
  have B0 : Below B w W0 := by rw [← hW0]; exact (bbj.alloc (by omega) _).alloc (by simp; omega) _
  have D0 : DI (A + 2) B B w W0 [] W0 := DI.start G.out.1 (by omega) B0
  have hBA : B < A := by omega
  rw [hW0]
  clear hW0 gbj bbj hA sbj
  refine wp_range_split_boxN 7 (A + 1) s hs rfl (by simp [World.cell?, G.out.2.2]) (by omega)
    (fun pre W => DI (A + 2) B B w W0 (insOf ah.data.toList pre) W)
    (fun c pre W => False) ?hI ?hIx ?h0 ?assign ?hIa ?body ?done ?stop
  case hI =>
    rintro pre W W' h1 ht
    rw [s0] at ht
    exact h1.touch (by omega) (by omega) ht
  case hIx => exact fun _ _ _ _ h _ => h
  case stop => exact fun _ _ _ _ h _ => h.elim
  case h0 => exact D0
  case hIa =>
    rintro pre W o h1 hz
    rw [s0] at hz
    exact h1.alloc hz (by omega) (by omega) o
  case assign =>
    intro l x W K hK
    have hv : x.val = .agg #[.int .i64 x.no, .int .i64 x.at_, .string ⟨x.text.toArray⟩, .bool x.ended] := rfl
    have hc : lineCells x = [.int .i64 x.no, .int .i64 x.at_, .string ⟨x.text.toArray⟩, .bool x.ended] := rfl
    rw [hv, hc] at hK
    rw [hv]
    have HK := Lib.hid hK
    clear hK hv hc
    gi_wp2
    have h := HK.out
    simp at h
    exact h
  case body =>
    rintro l pre ⟨xno, xat, xtext, xend⟩ Bx W hDI hBx hxB hpf hnr
    rw [s0] at hBx hnr ⊢
    rw [show LineD.val ⟨xno, xat, xtext, xend⟩ = .agg #[.int .i64 xno, .int .i64 xat, .string ⟨xtext.toArray⟩, .bool xend] from rfl]
    have HP := Lib.hid hpf
    have HD := Lib.hid hDI
    have HN := Lib.hid hnr
    have HX := Lib.hid hxB
    have hpW : W.heap[A]? = some (.cells #[.string ah] 9) := hDI.kept _ _ (by omega) G.out.2.1 (fun e => by injection e with e; omega) (fun c fz e => by injection e with _ e2 _; exact absurd e2 (by decide))
    have k0 : W.cell? ⟨A, 0, none⟩ = some (.string ah) := by simp [World.cell?, hpW]
    have m2 : W.cell? ⟨Bx, 2, none⟩ = some (.string ⟨xtext.toArray⟩) := by simp [World.cell?, hxB, lineCells]
    clear hpf hDI hnr hxB hpW
    have hlen : (insOf ah.data.toList (pre ++ [⟨xno, xat, xtext, xend⟩])).length ≤ 1001000000 := by
      have h1 := insOf_le (p := ah.data.toList) HP.out
      rw [size_len, size_len] at h1
      have h2 : s.size * ah.size ≤ 1000000 * 1000 := Nat.mul_le_mul hs ha
      omega
    rw [insOf_snoc, List.length_append, List.length_append, List.length_append, size_len] at hlen
    simp only at hlen
    obtain ⟨tr, HT⟩ : ∃ tr : ByteArray, Hid (ah ++ ⟨xtext.toArray⟩ = tr) := ⟨_, rfl⟩
    have htr : tr.data.toList = ah.data.toList ++ xtext := by rw [← HT.out, app_data]
    have htz : tr.size = ah.size + xtext.length := by rw [← size_len, htr, List.length_append, size_len]
    have hl1 : (Lib.byteCells (insOf ah.data.toList pre)).length + tr.size ≤ 140737488355328 := by
      rw [Lib.byteCells, List.length_map]; omega
    have HL := Lib.hid hlen
    have hBW : B ≤ W.heap.size := by have := HD.out.below.size; omega
    clear hlen
    gi_wp2_with fail
    rw [HT.out]
    refine ⟨trivial, ?_⟩
    refine (CallsIn.inRound l (callsIn_wide.2 (WriteString_k B B _ tr _ HD.out.bld hl1 hBW))).mono ?_
    rintro e w1 ⟨rfl, hq1, hq2, hq3⟩
    obtain ⟨d1, d2, d3⟩ := HD.out.write (tb := A + 1) (by omega) (by omega) (by omega) HN.out G.out.2.2 hq1 rfl hq2 hq3
    have hx1 : w1.heap[Bx]? = some (.cells (lineCells ⟨xno, xat, xtext, xend⟩).toArray 34) := hq3 _ _ HX.out (fun e => by injection e with e; omega) (fun c fz e => by injection e with _ e2 _; exact absurd e2 (by decide))
    have m3 : w1.cell? ⟨Bx, 3, none⟩ = some (.bool xend) := by simp [World.cell?, hx1, lineCells]
    have D1 := Lib.hid d1
    have D2 := Lib.hid d2
    have D3 := Lib.hid d3
    clear hq1 hq2 hq3 hx1 m2 k0 d1 d2 d3
    cases xend
    · gi_wp2
      refine ⟨D2.out, ?_⟩
      show DI (A + 2) B B w W0 (insOf ah.data.toList (pre ++ [⟨xno, xat, xtext, false⟩])) w1
      rw [insOf_snoc]
      show DI (A + 2) B B w W0 (insOf ah.data.toList pre ++ (ah.data.toList ++ (xtext ++ nl false))) w1
      rw [show nl false = [] from rfl, List.append_nil, ← htr]
      exact D1.out
    · have hl2 : (Lib.byteCells (insOf ah.data.toList pre ++ tr.data.toList)).length + (⟨#[10]⟩ : ByteArray).size ≤ 140737488355328 := by
        rw [Lib.byteCells, List.length_map, List.length_append, size_len]
        have := HL.out
        show _ + 1 ≤ _
        omega
      have hBW1 : B ≤ w1.heap.size := by have := D2.out.size; omega
      gi_wp2_with fail
      refine ⟨trivial, ?_⟩
      refine (CallsIn.inRound l (callsIn_wide.2 (WriteString_k B B _ ⟨#[10]⟩ _ D1.out.bld hl2 hBW1))).mono ?_
      rintro e w2 ⟨rfl, hq1, hq2, hq3⟩
      obtain ⟨d1, d2, d3⟩ := D1.out.write (tb := A + 1) (by omega) (by omega) (by omega) D3.out G.out.2.2 hq1 rfl hq2 hq3
      have E1 := Lib.hid d1
      have E2 := Lib.hid d2
      clear hq1 hq2 hq3 d1 d2 d3 m3
      gi_wp2
      refine ⟨D2.out.trans E2.out, ?_⟩
      show DI (A + 2) B B w W0 (insOf ah.data.toList (pre ++ [⟨xno, xat, xtext, true⟩])) w2
      rw [insOf_snoc]
      show DI (A + 2) B B w W0 (insOf ah.data.toList pre ++ (ah.data.toList ++ (xtext ++ nl true))) w2
      rw [show nl true = [10] from rfl, ← List.append_assoc ah.data.toList, ← htr, ← List.append_assoc]
      exact E1.out
  case done =>
    intro W hDI hz hK
    rw [s0] at hz hK
    have HK := Lib.hid hK
    clear hK
    have hBW : B ≤ W.heap.size := by omega
    go_wp2_with fail
    refine (Tryd.Builder_String_any_k B B _ _ hDI.bld hBW).mono ?_
    rintro e w1 ⟨rfl, _, hq2, hq3⟩
    have g5 : w1.heap[A + 2]? = some (.deferred (some [])) := hq3 _ _ HK.out (fun e => by injection e with e; omega) (fun c fz e => by cases e)
    have hb := hDI.below.trans hq2
    clear hq2 hq3 hDI
    go_wp2
    rw [hB]
    refine marks1 (v := .string ⟨(insOf ah.data.toList (splitL s.data.toList)).toArray⟩) g5 (by simp [results, Tryd.results22, go_sem]) ⟨rfl, hb.trans ⟨rfl, rfl, rfl, by simp, fun x hx => World.putObj_heap_other (by omega)⟩⟩
end Go.Proofs.YteaeekhepgjliaaDoor
