/- A range over the lines of a text: the iterator lines.Split, and one law for whoever goes over it. A range over a function, by what the function does: it yields a list's elements in turn, and whatever memory it makes is new. A region that draws its order, within a round of a range over a function: by its walk outside of a round. A range over an iterator function whose loop variable lies in a box that each round makes anew (slot q). -/
import Derived.RangeFuncBox
import Derived.RangeFuncLeaves
import Derived.RangeFuncCalls
import Derived.RangeFuncNested
import Derived.RangeFuncBound
import Derived.Shelf.Abstract
import Derived.Shelf.RegionOpen
import Derived.WalkKit
import Derived.OwnWalkIn
import Derived.TacticsInMore
import Derived.LoopNIn
import Derived.LoopIn
import Derived.Test.YtklbbcemacpimaaGreatDoorBLines
import Derived.OrdersIn
import Derived.Deep.RegionLaw
import Derived.Deep.AppendLies
namespace Go.Proofs.YtklbbcemacpimaaGreatDoor.B
open Go.RowKit Go.Shelf
attribute [local go_sem] Oper.semAt_some

/-- A line: its number, where it begins, its bytes, whether a line end is behind it. -/
structure LineD where
  no : Nat
  at_ : Nat
  text : List UInt8
  ended : Bool
/-- A line as the program has it. -/
def LineD.val (x : LineD) : Value := .agg #[.int .i64 x.no, .int .i64 x.at_, .string ⟨x.text.toArray⟩, .bool x.ended]
/-- A line's four cells. -/
def lineCells (x : LineD) : List Value := [.int .i64 x.no, .int .i64 x.at_, .string ⟨x.text.toArray⟩, .bool x.ended]
/-- The lines of what is left of a text. -/
def splitFrom (size : Nat) : Nat → Nat → List UInt8 → List LineD
  | 0, _, _ => []
  | f + 1, no, l => if l.isEmpty then [] else ⟨no, size - l.length, ahead 10 l, l.contains 10⟩ :: splitFrom size f (no + 1) (behind 10 l)
/-- A text's lines. -/
def splitL (l : List UInt8) : List LineD := splitFrom l.length l.length 0 l
/-- All blocks but these three are as they were. -/
structure Touch (D : Nat) (W W' : World) : Prop where
  os : W'.os = W.os
  tape : W'.tape = W.tape
  output : W'.output = W.output
  size : W.heap.size ≤ W'.heap.size
  block : ∀ k, (k < D ∨ D + 3 ≤ k) → W'.heap[k]? = W.heap[k]?
theorem Split_any (s : ByteArray) (w : World) :
    Calls Tryz.prog 42 #[.string s] w fun e w' => e = .returned (.func (.func 61) #[] #[.pointer (some ⟨w.heap.size, 0, none⟩)]) ∧ w' = w.alloc (.cells #[.string s] 9) := by
  go_enter Tryz.func42, Tryz.ntmps42
  go_wp2
  go_ret
  exact ⟨rfl, rfl⟩
theorem cut1_eq (c : UInt8) (l : List UInt8) : cut1 c l = (ahead c l, behind c l, has c l) := by
  unfold cut1 has
  rcases h : l.contains c with _ | _
  · rw [ahead_none _ _ h, behind_none _ _ h]; rfl
  · rfl
theorem strCut' (s : ByteArray) (hs : s.size ≤ 9223372036854775807) (c : UInt8) (w : World) :
    Calls Tryz.prog 62 #[.string s, .string ⟨#[c]⟩] w fun e w' => e = .returned (.tuple #[.string ⟨(ahead c s.data.toList).toArray⟩, .string ⟨(behind c s.data.toList).toArray⟩, .bool (has c s.data.toList)]) ∧ ∃ n, w' = w.drewN n := by
  have := strCut s hs c w
  rw [cut1_eq] at this
  exact this
theorem setCell_block {w : World} {b o : Nat} {c : Array Value} {t : TypeId} {f : Nat × Nat} (v : Value) (h : w.heap[b]? = some (.cells c t f)) : (w.setCell ⟨b, o, none⟩ v).heap[b]? = some (.cells (c.setIfInBounds o v) t f) := by
  simp [World.setCell, Array.getElem?_modify, h]
theorem behind_lt (c : UInt8) (l : List UInt8) (h : l ≠ []) : (behind c l).length < l.length := by
  unfold behind
  rw [List.length_tail]
  have := (List.dropWhile_sublist (fun x => x != c) (l := l)).length_le
  have : 0 < l.length := List.length_pos_iff.2 h
  omega
theorem splitFrom_cons (size f no : Nat) (l : List UInt8) (h : l ≠ []) (hf : l.length ≤ f) : ∃ f', f = f' + 1 ∧ (behind 10 l).length ≤ f' ∧ splitFrom size f no l = ⟨no, size - l.length, ahead 10 l, has 10 l⟩ :: splitFrom size f' (no + 1) (behind 10 l) := by
  have h0 : 0 < l.length := List.length_pos_iff.2 h
  have hb := behind_lt 10 l h
  obtain ⟨f', rfl⟩ : ∃ f', f = f' + 1 := ⟨f - 1, by omega⟩
  refine ⟨f', rfl, by omega, ?_⟩
  have hn : l.isEmpty = false := by simpa using h
  rw [splitFrom, hn]; rfl
theorem splitFrom_nil (size f no : Nat) : splitFrom size f no [] = [] := by cases f <;> rfl
theorem wideOk {n : Nat} : Fence.wide.depth.isSome = true → 1 ≤ n := fun h => by cases h
def strLen : Value → Nat | .string s => s.size | _ => 0
set_option maxHeartbeats 1000000 in
theorem split_iter (n l tb B : Nat) (s : ByteArray) (hs : s.size ≤ 1000000) (J Jx : List LineD → World → Prop) (W : World) (hB : W.heap.size = B) (htb : tb < B) (hc : W.cell? ⟨tb, 0, none⟩ = some (.string s))
    (hJ : ∀ pre W1 W2, J pre W1 → (∀ k, k ≠ B → W2.heap[k]? = W1.heap[k]?) → W2.os = W1.os → W2.tape = W1.tape → W2.output = W1.output → W1.heap.size ≤ W2.heap.size → J pre W2)
    (hY : ∀ pre x W1, J pre W1 → pre ++ [x] <+: splitL s.data.toList → (∃ cs, W1.heap[B]? = some (.cells cs 111)) → B < W1.heap.size → YieldAt Fence.wide (n - 1) Tryz.prog l #[x.val] W1 fun e W' =>
      (e = .returned (.bool true) ∧ J (pre ++ [x]) W' ∧ W'.heap[B]? = W1.heap[B]? ∧ W'.cell? ⟨tb, 0, none⟩ = W1.cell? ⟨tb, 0, none⟩) ∨ (e = .returned (.bool false) ∧ Jx (pre ++ [x]) W'))
    (h0 : J [] W) :
    CallsIn Fence.wide n Tryz.prog 61 #[.func (.yield l) #[] #[], .pointer (some ⟨tb, 0, none⟩)] W fun e W' => (∃ v, e = .returned v) ∧
      (J (splitL s.data.toList) W' ∨ (∃ pre, pre <+: splitL s.data.toList ∧ Jx pre W')) := by
  refine callsIn_of_wp Tryz.func61 rfl trivial ?_ rfl
  simp only [Tryz.ntmps61, List.size_toArray, List.length_cons, List.length_nil, Nat.reduceAdd, Nat.reduceSub, Array.replicate_succ, Array.replicate_zero, List.push_toArray, List.append_toArray, List.nil_append, List.cons_append]
  have HJ := Lib.hid hJ
  have HY := Lib.hid hY
  have H0 := Lib.hid h0
  clear hJ hY h0
  gi_wp2
  gi_loopw [4] (fun v wr => ∃ (pre : List LineD) (r : ByteArray) (f : Nat) (tx : ByteArray) (en : Bool), v = .string r ∧ r.size ≤ s.size ∧ r.size ≤ f ∧ Hid (splitL s.data.toList = pre ++ splitFrom s.size f pre.length r.data.toList) ∧ J pre wr ∧
      Hid (wr.heap[B]? = some (.cells #[.int .i64 pre.length, .int .i64 ((s.size - r.size : Nat) : Int), .string tx, .bool en] 111)) ∧ wr.cell? ⟨tb, 0, none⟩ = some (.string s) ∧ pre.length + r.size ≤ s.size)
    (fun v _ => strLen v)
  case atStart =>
    refine ⟨[], s, s.size, ⟨#[]⟩, false, rfl, Nat.le_refl _, Nat.le_refl _, ?_, ?_, ?_, ?_, by simp⟩
    · show _ = _
      unfold splitL
      rw [size_len]; rfl
    · refine HJ.out [] W _ H0.out (fun k hk => ?_) rfl rfl rfl (by simp)
      rcases Nat.lt_or_ge k B with h | h
      · exact Below.heap_alloc _ _ _ (by omega)
      · rw [Array.getElem?_eq_none (by simp; omega), Array.getElem?_eq_none (by omega)]
    · show _ = _
      rw [← hB, World.alloc_heap_new]
      simp
    · exact (World.cell?_of_block (Below.heap_alloc W _ tb (by omega))).trans hc
  case round =>
    obtain ⟨pre, r, f, tx, en, rfl, hl, hf, hsp, hJp, hBx, htx, hpl⟩ := hrel
    have HJp := Lib.hid hJp
    clear hJp
    have hx0 : wr.cell? ⟨B, 0, none⟩ = some (.int .i64 pre.length) := by simp [World.cell?, hBx.out]
    have hx1 : wr.cell? ⟨B, 1, none⟩ = some (.int .i64 ((s.size - r.size : Nat) : Int)) := by simp [World.cell?, hBx.out]
    have hx2 : wr.cell? ⟨B, 2, none⟩ = some (.string tx) := by simp [World.cell?, hBx.out]
    have hx3 : wr.cell? ⟨B, 3, none⟩ = some (.bool en) := by simp [World.cell?, hBx.out]
    have hz0 : ∀ o, wr.frozen? ⟨B, o, none⟩ = false := by intro o; simp [World.frozen?, hBx.out]
    have hfz0 := hz0 0
    have hfz1 := hz0 1
    have hfz2 := hz0 2
    have hfz3 := hz0 3
    clear hz0
    by_cases hr : 0 < r.size
    · obtain ⟨t, ht⟩ := data_cons r hr
      have T := Lib.hid ht
      have hne : ¬ r.toList = [] := by rw [toList_nil, ht]; simp
      have hne2 : r.toList.isEmpty = false := by rw [toList_nil, ht]; rfl
      have C := Lib.hid (fun w => strCut' r (by omega) 10 w)
      clear ht
      have L : Hid (r.data.toList.length = r.size) := size_len r
      have hnn : Hid (r.data.toList ≠ []) := by show _ ≠ _; rw [T.out]; simp
      obtain ⟨f', F⟩ := splitFrom_cons s.size f pre.length r.data.toList hnn.out (by rw [L.out]; exact hf)
      have FF := Lib.hid F
      clear F
      obtain ⟨a, hA⟩ : ∃ a, Hid (ahead 10 r.data.toList = a) := ⟨_, rfl⟩
      obtain ⟨b, hBb⟩ : ∃ b : ByteArray, Hid ((⟨(behind 10 r.data.toList).toArray⟩ : ByteArray) = b) := ⟨_, rfl⟩
      obtain ⟨en', hE⟩ : ∃ en', Hid (has 10 r.data.toList = en') := ⟨_, rfl⟩
      have hbd : Hid (b.data.toList = behind 10 r.data.toList) := by show _ = _; rw [← hBb.out]
      have hbl : b.size < r.size := by
        rw [← size_len b, hbd.out, ← L.out]; exact behind_lt 10 _ hnn.out
      rw [hA.out, hBb.out, hE.out] at C
      gi_wp2_with (refine ⟨trivial, wideOk, ?_⟩; gi_at_call 62; refine ((callsIn_wide.2 (C.out _))).mono ?_; rintro e w1 ⟨rfl, nq, rfl⟩)
      obtain ⟨W1, hW1⟩ : ∃ W1, ((wr.drewN nq).setCell ⟨B, 2, none⟩ (.string ⟨a.toArray⟩)).setCell ⟨B, 3, none⟩ (.bool en') = W1 := ⟨_, rfl⟩
      rw [hW1]
      have hb1 : W1.heap[B]? = some (.cells #[.int .i64 pre.length, .int .i64 ((s.size - r.size : Nat) : Int), .string ⟨a.toArray⟩, .bool en'] 111) := by
        rw [← hW1]
        exact setCell_block _ (setCell_block _ hBx.out)
      have hJ1 : J pre W1 := by
        refine HJ.out pre wr W1 HJp.out (fun k hk => ?_) ?_ ?_ ?_ ?_
        · rw [← hW1, Below.heap_setCell _ _ _ _ hk, Below.heap_setCell _ _ _ _ hk]; rfl
        all_goals rw [← hW1]
        all_goals first | rfl | (simp [World.setCell])
      have htx1 : W1.cell? ⟨tb, 0, none⟩ = some (.string s) := by
        rw [← htx]
        refine World.cell?_of_block ?_
        show W1.heap[tb]? = wr.heap[tb]?
        rw [← hW1, Below.heap_setCell _ _ _ _ (by show tb ≠ B; omega), Below.heap_setCell _ _ _ _ (by show tb ≠ B; omega)]; rfl
      have hBs : B < W1.heap.size := (Array.getElem?_eq_some_iff.1 hb1).1
      have hpfx : Hid (pre ++ [⟨pre.length, s.size - r.size, a, en'⟩] <+: splitL s.data.toList) := by
        show _ <+: _
        rw [hsp.out, FF.out.2.2, hA.out, hE.out, L.out]
        exact ⟨splitFrom s.size f' (pre.length + 1) (behind 10 r.data.toList), by simp⟩
      have Y := HY.out pre ⟨pre.length, s.size - r.size, a, en'⟩ W1 hJ1 hpfx.out ⟨_, hb1⟩ hBs
      obtain ⟨fn, tmps, assign, body, hy, hR⟩ := Y
      have HR := Lib.hid hR
      have hJ1' := Lib.hid hJ1
      clear hW1 hR hJ1
      unfold LineD.val at hy
      gi_wp2
      refine ⟨wideOk, HR.out.mono ?_⟩
      clear HR
      rintro e W3 (⟨rfl, hJ3, hk3, ht3⟩ | ⟨rfl, hJx3⟩)
      · have HJ3 := Lib.hid hJ3
        have hb3 := Lib.hid (hk3.trans hb1)
        have htx3 := ht3.trans htx1
        have hs3 : B < W3.heap.size := (Array.getElem?_eq_some_iff.1 hb3.out).1
        have hy0 : W3.cell? ⟨B, 0, none⟩ = some (.int .i64 pre.length) := by simp [World.cell?, hb3.out]
        have hy1 : W3.cell? ⟨B, 1, none⟩ = some (.int .i64 ((s.size - r.size : Nat) : Int)) := by simp [World.cell?, hb3.out]
        have hz0 : W3.frozen? ⟨B, 0, none⟩ = false := by simp [World.frozen?, hb3.out]
        have hz1 : W3.frozen? ⟨B, 1, none⟩ = false := by simp [World.frozen?, hb3.out]
        clear hJ3 hk3 ht3 hx0 hx1 hx2 hx3 hfz0 hfz1 hfz2 hfz3 hy hb1 htx1
        gi_wp2
        go_roundw
        case rel =>
          refine ⟨pre ++ [⟨pre.length, s.size - r.size, a, en'⟩], b, f', ⟨a.toArray⟩, en', rfl, by omega, ?_, ?_, ?_, ?_, ?_, ?_⟩
          · rw [← size_len b, hbd.out]; exact FF.out.2.1
          · show _ = _
            rw [hsp.out, FF.out.2.2, hA.out, hE.out, L.out, hbd.out]
            simp
          · refine HJ.out _ W3 _ HJ3.out (fun k hk => ?_) rfl rfl rfl (by simp [World.setCell])
            rw [Below.heap_setCell _ _ _ _ hk, Below.heap_setCell _ _ _ _ hk]
          · show _ = _
            rw [setCell_block _ (setCell_block _ hb3.out)]
            have e1 : ((s.size : Int) - (b.size : Int)) = ((s.size - b.size : Nat) : Int) := by omega
            simp [e1]
          · refine (World.cell?_of_block ?_).trans htx3
            show (((W3.setCell _ _).setCell _ _).heap[tb]?) = W3.heap[tb]?
            rw [Below.heap_setCell _ _ _ _ (by show tb ≠ B; omega), Below.heap_setCell _ _ _ _ (by show tb ≠ B; omega)]
          · simp; omega
        case measure => simp [strLen]; omega
      · gi_wp2
        refine bodyPost_ret (results_none rfl _ _ _) rfl ?_
        exact ⟨⟨_, rfl⟩, .inr ⟨_, hpfx.out, hJx3⟩⟩
    · have hn := nil_of_size r hr
      have hne : r.toList = [] := by rw [toList_nil, hn]
      have hne2 : r.toList.isEmpty = true := by rw [hne]; rfl
      have HN := Lib.hid hn
      clear hn
      gi_wp2
      go_end0
      refine ⟨⟨_, rfl⟩, .inl ?_⟩
      rw [hsp.out, HN.out, splitFrom_nil, List.append_nil]
      exact HJp.out
theorem Touch.refl (D : Nat) (W : World) : Touch D W W := ⟨rfl, rfl, rfl, Nat.le_refl _, fun _ _ => rfl⟩
theorem Touch.put (D : Nat) (W : World) (o : Obj) : Touch D W (W.putObj (D + 1) o) :=
  ⟨rfl, rfl, rfl, by simp, fun k hk => World.putObj_heap_other (by omega)⟩
/-- What the body of a round leaves alone: the loop's own three blocks and the text's. -/
structure Keep3 (D tb : Nat) (W W' : World) : Prop where
  size : W.heap.size ≤ W'.heap.size
  own : ∀ k, D ≤ k → k < D + 3 → W'.heap[k]? = W.heap[k]?
  text : W'.heap[tb]? = W.heap[tb]?
theorem Keep3.refl (D tb : Nat) (W : World) : Keep3 D tb W W := ⟨Nat.le_refl _, fun _ _ _ => rfl, rfl⟩
/-- How the body of a round may be left. -/
def splitPost (D tb : Nat) (I : List LineD → World → Prop) (Ix : Code → List LineD → World → Prop) (xs : List LineD) (W : World) : Exit → Act → World → Prop
  | .normal, _, W' => Keep3 D tb W W' ∧ I xs W'
  | .ret, _, W' => Keep3 D tb W W' ∧ Ix .ret xs W'
  | .exit id, _, W' => Keep3 D tb W W' ∧ Ix (.exit id) xs W'
  | .goto t, _, W' => Keep3 D tb W W' ∧ Ix (.goto t) xs W'
  | .panic _, _, _ => False
  | .outgrown, _, _ => False
/-- The loop's own three blocks stand, and none is a row of bytes. -/
def NoRow (D : Nat) (W : World) : Prop := ∀ k, D ≤ k → k < D + 3 → ∃ o, W.heap[k]? = some o ∧ ∀ c fz, o ≠ .cells c 5 fz
set_option maxHeartbeats 1000000 in
/-- THE STATEMENT 'for l := range lines.Split(text) { .. }'. -/
theorem wpIn_range_splitN {n : Nat} {g : Operand} {p0 : Tmp} {assign body : Code} {Q : Exit → Act → World → Prop} {a : Act} {w : World}
    (tb : Nat) (s : ByteArray) (hs : s.size ≤ 1000000) (hg : a.eval g = .func (.func 61) #[] #[.pointer (some ⟨tb, 0, none⟩)]) (hc : w.cell? ⟨tb, 0, none⟩ = some (.string s)) (htb : tb < w.heap.size)
    (I : List LineD → World → Prop) (Ix : Code → List LineD → World → Prop)
    (hI : ∀ pre W W', I pre W → Touch w.heap.size W W' → I pre W') (hIx : ∀ c pre W W', Ix c pre W → Touch w.heap.size W W' → Ix c pre W') (h0 : I [] w)
    (Ax : LineD → Act → World → Prop) (hAx : ∀ x b W W', Ax x b W → Touch w.heap.size W W' → Ax x b W')
    (hassign : ∀ (l : Nat) (pre : List LineD) (x : LineD) (W : World) (K : Act → World → Prop), I pre W → w.heap.size + 3 ≤ W.heap.size → (∀ b W', Keep3 w.heap.size tb W W' → I pre W' → Ax x b W' → K b W') →
      assign.wpIn (Fence.wide.inRound l) (n - 1 - 1) Tryz.prog (Exit.then K (fun _ _ _ => False)) { tmps := (#[p0].zip #[x.val]).foldl (fun t (p, v) => t.setIfInBounds p v) a.tmps, defers := [] } W)
    (hbody : ∀ (l : Nat) (pre : List LineD) (x : LineD) (b : Act) (W : World), I pre W → Ax x b W → pre ++ [x] <+: splitL s.data.toList → w.heap.size + 3 ≤ W.heap.size → NoRow w.heap.size W →
      body.wpIn (Fence.wide.inRound l) (n - 1 - 1) Tryz.prog (splitPost w.heap.size tb I Ix (pre ++ [x]) W) b W)
    (hdone : ∀ (W : World), I (splitL s.data.toList) W → w.heap.size + 2 ≤ W.heap.size → W.heap[w.heap.size]? = some (.deferred (some [])) → Q .normal { a with defers := { target := .collected w.heap.size, args := #[] } :: a.defers } W)
    (hstop : ∀ (c : Code) (pre : List LineD) (W : World), pre <+: splitL s.data.toList → Ix c pre W → W.heap[w.heap.size]? = some (.deferred (some [])) →
      c.wpIn Fence.wide n Tryz.prog Q { a with defers := { target := .collected w.heap.size, args := #[] } :: a.defers } W) :
    (Code.rangeFunc g #[p0] assign body).wpIn Fence.wide n Tryz.prog Q a w := by
  refine wpIn_rangeFunc ?_
  intro fn hfn
  obtain ⟨rec, hrec⟩ : ∃ rec : LoopState → Option Code → Loop, rec = fun st pe => { state := st, pending := pe, fn, tmps := a.tmps, params := #[p0], assign, body, defers := w.heap.size } := ⟨_, rfl⟩
  obtain ⟨W1, hW1⟩ : ∃ W1, (w.alloc (.deferred (some []))).alloc (.loop (rec .ready none)) = W1 := ⟨_, rfl⟩
  have hs1 : W1.heap.size = w.heap.size + 2 := by rw [← hW1]; simp
  have hL1 : W1.heap[w.heap.size + 1]? = some (.loop (rec .ready none)) := by
    rw [← hW1]; have := World.alloc_heap_new (w.alloc (.deferred (some []))) (.loop (rec .ready none)); rwa [World.size_alloc] at this
  have hK1 : W1.heap[w.heap.size]? = some (.deferred (some [])) := by
    rw [← hW1]; exact (Below.heap_alloc _ _ _ (by simp)).trans (World.alloc_heap_new w _)
  have hT1 : Touch w.heap.size w W1 := by
    refine ⟨by rw [← hW1]; rfl, by rw [← hW1]; rfl, by rw [← hW1]; rfl, by omega, fun k hk => ?_⟩
    rcases hk with hk | hk
    · rw [← hW1]; exact (Below.heap_alloc _ _ _ (by simp; omega)).trans (Below.heap_alloc _ _ _ hk)
    · rw [Array.getElem?_eq_none (by omega), Array.getElem?_eq_none (by omega)]
  have hI1 : I [] W1 := hI _ _ _ h0 hT1
  have hc1 : W1.cell? ⟨tb, 0, none⟩ = some (.string s) := (World.cell?_of_block (hT1.block tb (.inl htb))).trans hc
  refine ⟨w.heap.size + 1, [{ target := .collected w.heap.size, args := #[] }], W1, { target := .fn (.func 61) #[.pointer (some ⟨tb, 0, none⟩)], args := #[.func (.yield (w.heap.size + 1)) #[] #[]] }, W1, 61,
    #[.func (.yield (w.heap.size + 1)) #[] #[], .pointer (some ⟨tb, 0, none⟩)], W1, ?_, ?_, fun _ _ => trivial, ?_, wideOk, ?_⟩
  · rw [← hW1, hrec]; exact run_enterLoop_outer _ _ _ _ _
  · simp only [resolve, hg]
    simp [go_sem]
  · have eg : ∀ args w, (callFunc 61 args).run Tryz.prog w = .ok (.enter 61 args) w := enters_of Tryz.func61 (by kernel_rfl) rfl
    simp [invoke, go_sem, eg]
  · refine (split_iter (n - 1) (w.heap.size + 1) tb (w.heap.size + 2) s hs
      (fun pre W => I pre W ∧ W.heap[w.heap.size + 1]? = some (.loop (rec .ready none)) ∧ W.heap[w.heap.size]? = some (.deferred (some [])))
      (fun pre W => ∃ c, Ix c pre W ∧ W.heap[w.heap.size + 1]? = some (.loop (rec .done (some c))) ∧ W.heap[w.heap.size]? = some (.deferred (some [])))
      W1 hs1 (by omega) hc1 ?_ ?_ ⟨hI1, hL1, hK1⟩).mono ?_
    · rintro pre Wa Wb ⟨hi, hl, hk⟩ hb h1 h2 h3 h4
      exact ⟨hI _ _ _ hi ⟨h1, h2, h3, h4, fun k hk => hb k (by omega)⟩, (hb _ (by omega)).trans hl, (hb _ (by omega)).trans hk⟩
    · rintro pre x W ⟨hi, hl, hk⟩ hpf ⟨cs, hcs⟩ hBs
      have hlt : w.heap.size + 1 < W.heap.size := by omega
      have hy := run_yield (P := Tryz.prog) (args := #[x.val]) hl (by rw [hrec]; rfl)
      rw [hrec] at hy
      refine ⟨fn, _, assign, body, hy, roundIn_of_wpIn hfn (hassign _ pre x W _ hi (by omega) (fun b Wb hkb hib haxb => ?_))⟩
      have hlb : Wb.heap[w.heap.size + 1]? = some (.loop (rec .ready none)) := (hkb.own _ (by omega) (by omega)).trans hl
      have hkkb : Wb.heap[w.heap.size]? = some (.deferred (some [])) := (hkb.own _ (Nat.le_refl _) (by omega)).trans hk
      have hltb : w.heap.size + 1 < Wb.heap.size := by have := hkb.size; omega
      refine ⟨_, run_beginRound hlb (by rw [hrec]), ?_⟩
      have hl2 : (Wb.putObj (w.heap.size + 1) (.loop { rec .ready none with state := .busy })).heap[w.heap.size + 1]? = some (.loop { rec .ready none with state := .busy }) := World.putObj_heap_same hltb
      have hk2 : (Wb.putObj (w.heap.size + 1) (.loop { rec .ready none with state := .busy })).heap[w.heap.size]? = some (.deferred (some [])) := (World.putObj_heap_other (by omega)).trans hkkb
      have hnr : NoRow w.heap.size (Wb.putObj (w.heap.size + 1) (.loop { rec .ready none with state := .busy })) := by
        intro k k1 k2
        rcases (by omega : k = w.heap.size ∨ k = w.heap.size + 1 ∨ k = w.heap.size + 2) with rfl | rfl | rfl
        · exact ⟨_, hk2, fun _ _ e => by cases e⟩
        · exact ⟨_, hl2, fun _ _ e => by cases e⟩
        · refine ⟨_, (World.putObj_heap_other (by omega)).trans ((hkb.own _ (by omega) (by omega)).trans hcs), fun _ _ e => ?_⟩
          injection e with _ e2 _
          exact absurd e2 (by decide)
      refine wpIn_mono (hbody _ pre x b _ (hI _ _ _ hib (Touch.put _ _ _)) (hAx _ _ _ _ haxb (Touch.put _ _ _)) hpf (by simp; have := hkb.size; omega) hnr) ?_
      have fin : ∀ (jump : Option Code) (W3 : World), Keep3 w.heap.size tb (Wb.putObj (w.heap.size + 1) (.loop { rec .ready none with state := .busy })) W3 →
          (Instr.endRound (w.heap.size + 1) jump).run Tryz.prog W3 = .ok (.bool jump.isNone) (W3.putObj (w.heap.size + 1) (.loop (rec (if jump.isNone then .ready else .done) jump))) ∧
          (W3.putObj (w.heap.size + 1) (.loop (rec (if jump.isNone then .ready else .done) jump))).heap[w.heap.size + 1]? = some (.loop (rec (if jump.isNone then .ready else .done) jump)) ∧
          (W3.putObj (w.heap.size + 1) (.loop (rec (if jump.isNone then .ready else .done) jump))).heap[w.heap.size]? = some (.deferred (some [])) := fun jump W3 hk3 => by
        have hl3 := (hk3.own (w.heap.size + 1) (by omega) (by omega)).trans hl2
        have := run_endRound (P := Tryz.prog) jump hl3
        rw [hrec] at this ⊢
        exact ⟨this, World.putObj_heap_same (Array.getElem?_eq_some_iff.1 hl3).1, (World.putObj_heap_other (by omega)).trans ((hk3.own _ (Nat.le_refl _) (by omega)).trans hk2)⟩
      rintro e a3 W3 hp
      cases e with
      | normal =>
        obtain ⟨hk3, hi3⟩ := hp
        obtain ⟨hr, hl4, hk4⟩ := fin none W3 hk3
        refine ⟨_, _, hr, .inl ⟨rfl, ⟨hI _ _ _ hi3 (Touch.put _ _ _), hl4, hk4⟩, ?_, ?_⟩⟩
        · exact (World.putObj_heap_other (by omega)).trans ((hk3.own (w.heap.size + 2) (by omega) (by omega)).trans ((World.putObj_heap_other (by omega)).trans (hkb.own _ (by omega) (by omega))))
        · exact World.cell?_of_block ((World.putObj_heap_other (by show tb ≠ _; omega)).trans (hk3.text.trans ((World.putObj_heap_other (by show tb ≠ _; omega)).trans hkb.text)))
      | ret =>
        obtain ⟨hk3, hi3⟩ := hp
        obtain ⟨hr, hl4, hk4⟩ := fin (some .ret) W3 hk3
        exact ⟨_, _, hr, .inr ⟨rfl, .ret, hIx _ _ _ _ hi3 (Touch.put _ _ _), hl4, hk4⟩⟩
      | exit id =>
        obtain ⟨hk3, hi3⟩ := hp
        obtain ⟨hr, hl4, hk4⟩ := fin (some (.exit id)) W3 hk3
        exact ⟨_, _, hr, .inr ⟨rfl, .exit id, hIx _ _ _ _ hi3 (Touch.put _ _ _), hl4, hk4⟩⟩
      | goto t =>
        obtain ⟨hk3, hi3⟩ := hp
        obtain ⟨hr, hl4, hk4⟩ := fin (some (.goto t)) W3 hk3
        exact ⟨_, _, hr, .inr ⟨rfl, .goto t, hIx _ _ _ _ hi3 (Touch.put _ _ _), hl4, hk4⟩⟩
      | panic ch => exact hp.elim
      | outgrown => exact hp.elim
    · rintro e W2 ⟨⟨v, rfl⟩, (⟨hi, hl, hk⟩ | ⟨pre, hSp, c, hi, hl, hk⟩)⟩
      · have hsz2 : w.heap.size + 1 < W2.heap.size := (Array.getElem?_eq_some_iff.1 hl).1
        exact ⟨none, _, by have := run_endLoop (P := Tryz.prog) hl (by rw [hrec]; simp); rw [hrec] at this; exact this, hdone _ (hI _ _ _ hi (Touch.put _ _ _)) (by simp; omega) ((World.putObj_heap_other (by omega)).trans hk)⟩
      · exact ⟨some c, _, by have := run_endLoop (P := Tryz.prog) hl (by rw [hrec]; simp); rw [hrec] at this; exact this, hstop c pre _ hSp (hIx _ _ _ _ hi (Touch.put _ _ _)) ((World.putObj_heap_other (by omega)).trans hk)⟩
set_option maxHeartbeats 1000000 in
/-- THE STATEMENT 'for l := range lines.Split(text) { .. }'. -/
theorem wpIn_range_split {n : Nat} {g : Operand} {p0 : Tmp} {assign body : Code} {Q : Exit → Act → World → Prop} {a : Act} {w : World}
    (tb : Nat) (s : ByteArray) (hs : s.size ≤ 1000000) (hg : a.eval g = .func (.func 61) #[] #[.pointer (some ⟨tb, 0, none⟩)]) (hc : w.cell? ⟨tb, 0, none⟩ = some (.string s)) (htb : tb < w.heap.size)
    (I : List LineD → World → Prop) (Ix : Code → List LineD → World → Prop)
    (hI : ∀ pre W W', I pre W → Touch w.heap.size W W' → I pre W') (hIx : ∀ c pre W W', Ix c pre W → Touch w.heap.size W W' → Ix c pre W') (h0 : I [] w)
    (Ax : LineD → Act → World → Prop) (hAx : ∀ x b W W', Ax x b W → Touch w.heap.size W W' → Ax x b W')
    (hassign : ∀ (l : Nat) (pre : List LineD) (x : LineD) (W : World) (K : Act → World → Prop), I pre W → w.heap.size + 3 ≤ W.heap.size → (∀ b W', Keep3 w.heap.size tb W W' → I pre W' → Ax x b W' → K b W') →
      assign.wpIn (Fence.wide.inRound l) (n - 1 - 1) Tryz.prog (Exit.then K (fun _ _ _ => False)) { tmps := (#[p0].zip #[x.val]).foldl (fun t (p, v) => t.setIfInBounds p v) a.tmps, defers := [] } W)
    (hbody : ∀ (l : Nat) (pre : List LineD) (x : LineD) (b : Act) (W : World), I pre W → Ax x b W → pre ++ [x] <+: splitL s.data.toList → w.heap.size + 3 ≤ W.heap.size →
      body.wpIn (Fence.wide.inRound l) (n - 1 - 1) Tryz.prog (splitPost w.heap.size tb I Ix (pre ++ [x]) W) b W)
    (hdone : ∀ (W : World), I (splitL s.data.toList) W → w.heap.size + 2 ≤ W.heap.size → W.heap[w.heap.size]? = some (.deferred (some [])) → Q .normal { a with defers := { target := .collected w.heap.size, args := #[] } :: a.defers } W)
    (hstop : ∀ (c : Code) (pre : List LineD) (W : World), pre <+: splitL s.data.toList → Ix c pre W → W.heap[w.heap.size]? = some (.deferred (some [])) →
      c.wpIn Fence.wide n Tryz.prog Q { a with defers := { target := .collected w.heap.size, args := #[] } :: a.defers } W) :
    (Code.rangeFunc g #[p0] assign body).wpIn Fence.wide n Tryz.prog Q a w :=
  wpIn_range_splitN tb s hs hg hc htb I Ix hI hIx h0 Ax hAx hassign (fun l pre x b W h1 h2 h3 h4 _ => hbody l pre x b W h1 h2 h3 h4) hdone hstop
theorem Keep3.alloc (D tb : Nat) (W : World) (o : Obj) (h : D + 3 ≤ W.heap.size) (ht : tb < D) : Keep3 D tb W (W.alloc o) :=
  ⟨by simp, fun k _ hk => Below.heap_alloc _ _ _ (by omega), Below.heap_alloc _ _ _ (by omega)⟩
/-- THE SAME, where the loop's variable lies in a box that each round makes anew (slot q). -/
theorem wpIn_range_split_boxN {n : Nat} {g : Operand} {p0 : Tmp} {assign body : Code} {Q : Exit → Act → World → Prop} {a : Act} {w : World} (q : Tmp)
    (tb : Nat) (s : ByteArray) (hs : s.size ≤ 1000000) (hg : a.eval g = .func (.func 61) #[] #[.pointer (some ⟨tb, 0, none⟩)]) (hc : w.cell? ⟨tb, 0, none⟩ = some (.string s)) (htb : tb < w.heap.size)
    (I : List LineD → World → Prop) (Ix : Code → List LineD → World → Prop)
    (hI : ∀ pre W W', I pre W → Touch w.heap.size W W' → I pre W') (hIx : ∀ c pre W W', Ix c pre W → Touch w.heap.size W W' → Ix c pre W') (h0 : I [] w)
    (hassign : ∀ (l : Nat) (x : LineD) (W : World) (K : Act → World → Prop),
      K { tmps := ((#[p0].zip #[x.val]).foldl (fun t (p, v) => t.setIfInBounds p v) a.tmps).setIfInBounds q (.pointer (some ⟨W.heap.size, 0, none⟩)), defers := [] } (W.alloc (.cells (lineCells x).toArray 111)) →
      assign.wpIn (Fence.wide.inRound l) (n - 1 - 1) Tryz.prog (Exit.then K (fun _ _ _ => False)) { tmps := (#[p0].zip #[x.val]).foldl (fun t (p, v) => t.setIfInBounds p v) a.tmps, defers := [] } W)
    (hIa : ∀ pre W o, I pre W → w.heap.size + 3 ≤ W.heap.size → I pre (W.alloc o))
    (hbody : ∀ (l : Nat) (pre : List LineD) (x : LineD) (Bx : Nat) (W : World), I pre W → w.heap.size + 3 ≤ Bx → W.heap[Bx]? = some (.cells (lineCells x).toArray 111) → pre ++ [x] <+: splitL s.data.toList → NoRow w.heap.size W →
      body.wpIn (Fence.wide.inRound l) (n - 1 - 1) Tryz.prog (splitPost w.heap.size tb I Ix (pre ++ [x]) W) { tmps := ((#[p0].zip #[x.val]).foldl (fun t (p, v) => t.setIfInBounds p v) a.tmps).setIfInBounds q (.pointer (some ⟨Bx, 0, none⟩)), defers := [] } W)
    (hdone : ∀ (W : World), I (splitL s.data.toList) W → w.heap.size + 2 ≤ W.heap.size → W.heap[w.heap.size]? = some (.deferred (some [])) → Q .normal { a with defers := { target := .collected w.heap.size, args := #[] } :: a.defers } W)
    (hstop : ∀ (c : Code) (pre : List LineD) (W : World), pre <+: splitL s.data.toList → Ix c pre W → W.heap[w.heap.size]? = some (.deferred (some [])) →
      c.wpIn Fence.wide n Tryz.prog Q { a with defers := { target := .collected w.heap.size, args := #[] } :: a.defers } W) :
    (Code.rangeFunc g #[p0] assign body).wpIn Fence.wide n Tryz.prog Q a w := by
  refine wpIn_range_splitN tb s hs hg hc htb I Ix hI hIx h0
    (fun x b W => ∃ Bx, w.heap.size + 3 ≤ Bx ∧ W.heap[Bx]? = some (.cells (lineCells x).toArray 111) ∧ b = { tmps := ((#[p0].zip #[x.val]).foldl (fun t (p, v) => t.setIfInBounds p v) a.tmps).setIfInBounds q (.pointer (some ⟨Bx, 0, none⟩)), defers := [] })
    ?_ ?_ ?_ hdone hstop
  · rintro x b W W' ⟨Bx, h1, h2, h3⟩ ht
    exact ⟨Bx, h1, (ht.block _ (.inr h1)).trans h2, h3⟩
  · intro l pre x W K hi hsz hK
    exact hassign l x W K (hK _ _ (Keep3.alloc _ _ _ _ hsz htb) (hIa _ _ _ hi hsz) ⟨W.heap.size, hsz, World.alloc_heap_new _ _, rfl⟩)
  · rintro l pre x b W hi ⟨Bx, h1, h2, rfl⟩ hpf hsz hnr
    exact hbody l pre x Bx W hi h1 h2 hpf hnr
/-- THE SAME, where the loop's variable lies in a box that each round makes anew (slot q). -/
theorem wpIn_range_split_box {n : Nat} {g : Operand} {p0 : Tmp} {assign body : Code} {Q : Exit → Act → World → Prop} {a : Act} {w : World} (q : Tmp)
    (tb : Nat) (s : ByteArray) (hs : s.size ≤ 1000000) (hg : a.eval g = .func (.func 61) #[] #[.pointer (some ⟨tb, 0, none⟩)]) (hc : w.cell? ⟨tb, 0, none⟩ = some (.string s)) (htb : tb < w.heap.size)
    (I : List LineD → World → Prop) (Ix : Code → List LineD → World → Prop)
    (hI : ∀ pre W W', I pre W → Touch w.heap.size W W' → I pre W') (hIx : ∀ c pre W W', Ix c pre W → Touch w.heap.size W W' → Ix c pre W') (h0 : I [] w)
    (hassign : ∀ (l : Nat) (x : LineD) (W : World) (K : Act → World → Prop),
      K { tmps := ((#[p0].zip #[x.val]).foldl (fun t (p, v) => t.setIfInBounds p v) a.tmps).setIfInBounds q (.pointer (some ⟨W.heap.size, 0, none⟩)), defers := [] } (W.alloc (.cells (lineCells x).toArray 111)) →
      assign.wpIn (Fence.wide.inRound l) (n - 1 - 1) Tryz.prog (Exit.then K (fun _ _ _ => False)) { tmps := (#[p0].zip #[x.val]).foldl (fun t (p, v) => t.setIfInBounds p v) a.tmps, defers := [] } W)
    (hIa : ∀ pre W o, I pre W → w.heap.size + 3 ≤ W.heap.size → I pre (W.alloc o))
    (hbody : ∀ (l : Nat) (pre : List LineD) (x : LineD) (Bx : Nat) (W : World), I pre W → w.heap.size + 3 ≤ Bx → W.heap[Bx]? = some (.cells (lineCells x).toArray 111) → pre ++ [x] <+: splitL s.data.toList →
      body.wpIn (Fence.wide.inRound l) (n - 1 - 1) Tryz.prog (splitPost w.heap.size tb I Ix (pre ++ [x]) W) { tmps := ((#[p0].zip #[x.val]).foldl (fun t (p, v) => t.setIfInBounds p v) a.tmps).setIfInBounds q (.pointer (some ⟨Bx, 0, none⟩)), defers := [] } W)
    (hdone : ∀ (W : World), I (splitL s.data.toList) W → w.heap.size + 2 ≤ W.heap.size → W.heap[w.heap.size]? = some (.deferred (some [])) → Q .normal { a with defers := { target := .collected w.heap.size, args := #[] } :: a.defers } W)
    (hstop : ∀ (c : Code) (pre : List LineD) (W : World), pre <+: splitL s.data.toList → Ix c pre W → W.heap[w.heap.size]? = some (.deferred (some [])) →
      c.wpIn Fence.wide n Tryz.prog Q { a with defers := { target := .collected w.heap.size, args := #[] } :: a.defers } W) :
    (Code.rangeFunc g #[p0] assign body).wpIn Fence.wide n Tryz.prog Q a w :=
  wpIn_range_split_boxN q tb s hs hg hc htb I Ix hI hIx h0 hassign hIa (fun l pre x Bx W h1 h2 h3 h4 _ => hbody l pre x Bx W h1 h2 h3 h4) hdone hstop
/-- A function whose body holds a range over a function, walked by the plain words: at its end the loops' marks are taken up. -/
theorem calls_marks {f : FuncId} {fn : Func} {c : Code} {args : Array Value} {w : World} {R : Ending → World → Prop} (hf : Tryz.prog.funcs[f]? = some fn) (hb : fn.body = some c)
    (h : c.wp Tryz.prog (bodyPostM Fence.wide 9 Tryz.prog fn R) { tmps := args ++ Array.replicate (fn.ntmps - args.size) undef, defers := [] } w) : Calls Tryz.prog f args w R :=
  (callsIn_wide (n := 9)).1 (callsIn_of_wp_marks hf hb trivial (wpIn_wide.2 h) rfl)
theorem wp_range_split_box {g : Operand} {p0 : Tmp} {assign body : Code} {Q : Exit → Act → World → Prop} {a : Act} {w : World} (q : Tmp)
    (tb : Nat) (s : ByteArray) (hs : s.size ≤ 1000000) (hg : a.eval g = .func (.func 61) #[] #[.pointer (some ⟨tb, 0, none⟩)]) (hc : w.cell? ⟨tb, 0, none⟩ = some (.string s)) (htb : tb < w.heap.size)
    (I : List LineD → World → Prop) (Ix : Code → List LineD → World → Prop)
    (hI : ∀ pre W W', I pre W → Touch w.heap.size W W' → I pre W') (hIx : ∀ c pre W W', Ix c pre W → Touch w.heap.size W W' → Ix c pre W') (h0 : I [] w)
    (hassign : ∀ (l : Nat) (x : LineD) (W : World) (K : Act → World → Prop),
      K { tmps := ((#[p0].zip #[x.val]).foldl (fun t (p, v) => t.setIfInBounds p v) a.tmps).setIfInBounds q (.pointer (some ⟨W.heap.size, 0, none⟩)), defers := [] } (W.alloc (.cells (lineCells x).toArray 111)) →
      assign.wpIn (Fence.wide.inRound l) 7 Tryz.prog (Exit.then K (fun _ _ _ => False)) { tmps := (#[p0].zip #[x.val]).foldl (fun t (p, v) => t.setIfInBounds p v) a.tmps, defers := [] } W)
    (hIa : ∀ pre W o, I pre W → w.heap.size + 3 ≤ W.heap.size → I pre (W.alloc o))
    (hbody : ∀ (l : Nat) (pre : List LineD) (x : LineD) (Bx : Nat) (W : World), I pre W → w.heap.size + 3 ≤ Bx → W.heap[Bx]? = some (.cells (lineCells x).toArray 111) → pre ++ [x] <+: splitL s.data.toList →
      body.wpIn (Fence.wide.inRound l) 7 Tryz.prog (splitPost w.heap.size tb I Ix (pre ++ [x]) W) { tmps := ((#[p0].zip #[x.val]).foldl (fun t (p, v) => t.setIfInBounds p v) a.tmps).setIfInBounds q (.pointer (some ⟨Bx, 0, none⟩)), defers := [] } W)
    (hdone : ∀ (W : World), I (splitL s.data.toList) W → w.heap.size + 2 ≤ W.heap.size → W.heap[w.heap.size]? = some (.deferred (some [])) → Q .normal { a with defers := { target := .collected w.heap.size, args := #[] } :: a.defers } W)
    (hstop : ∀ (c : Code) (pre : List LineD) (W : World), pre <+: splitL s.data.toList → Ix c pre W → W.heap[w.heap.size]? = some (.deferred (some [])) →
      c.wp Tryz.prog Q { a with defers := { target := .collected w.heap.size, args := #[] } :: a.defers } W) :
    (Code.rangeFunc g #[p0] assign body).wp Tryz.prog Q a w :=
  wpIn_wide.1 (wpIn_range_split_box (n := 9) q tb s hs hg hc htb I Ix hI hIx h0 hassign hIa hbody hdone fun c pre W h1 h2 h3 => wpIn_wide.2 (hstop c pre W h1 h2 h3))
theorem wp_range_split_boxN {g : Operand} {p0 : Tmp} {assign body : Code} {Q : Exit → Act → World → Prop} {a : Act} {w : World} (q : Tmp)
    (tb : Nat) (s : ByteArray) (hs : s.size ≤ 1000000) (hg : a.eval g = .func (.func 61) #[] #[.pointer (some ⟨tb, 0, none⟩)]) (hc : w.cell? ⟨tb, 0, none⟩ = some (.string s)) (htb : tb < w.heap.size)
    (I : List LineD → World → Prop) (Ix : Code → List LineD → World → Prop)
    (hI : ∀ pre W W', I pre W → Touch w.heap.size W W' → I pre W') (hIx : ∀ c pre W W', Ix c pre W → Touch w.heap.size W W' → Ix c pre W') (h0 : I [] w)
    (hassign : ∀ (l : Nat) (x : LineD) (W : World) (K : Act → World → Prop),
      K { tmps := ((#[p0].zip #[x.val]).foldl (fun t (p, v) => t.setIfInBounds p v) a.tmps).setIfInBounds q (.pointer (some ⟨W.heap.size, 0, none⟩)), defers := [] } (W.alloc (.cells (lineCells x).toArray 111)) →
      assign.wpIn (Fence.wide.inRound l) 7 Tryz.prog (Exit.then K (fun _ _ _ => False)) { tmps := (#[p0].zip #[x.val]).foldl (fun t (p, v) => t.setIfInBounds p v) a.tmps, defers := [] } W)
    (hIa : ∀ pre W o, I pre W → w.heap.size + 3 ≤ W.heap.size → I pre (W.alloc o))
    (hbody : ∀ (l : Nat) (pre : List LineD) (x : LineD) (Bx : Nat) (W : World), I pre W → w.heap.size + 3 ≤ Bx → W.heap[Bx]? = some (.cells (lineCells x).toArray 111) → pre ++ [x] <+: splitL s.data.toList → NoRow w.heap.size W →
      body.wpIn (Fence.wide.inRound l) 7 Tryz.prog (splitPost w.heap.size tb I Ix (pre ++ [x]) W) { tmps := ((#[p0].zip #[x.val]).foldl (fun t (p, v) => t.setIfInBounds p v) a.tmps).setIfInBounds q (.pointer (some ⟨Bx, 0, none⟩)), defers := [] } W)
    (hdone : ∀ (W : World), I (splitL s.data.toList) W → w.heap.size + 2 ≤ W.heap.size → W.heap[w.heap.size]? = some (.deferred (some [])) → Q .normal { a with defers := { target := .collected w.heap.size, args := #[] } :: a.defers } W)
    (hstop : ∀ (c : Code) (pre : List LineD) (W : World), pre <+: splitL s.data.toList → Ix c pre W → W.heap[w.heap.size]? = some (.deferred (some [])) →
      c.wp Tryz.prog Q { a with defers := { target := .collected w.heap.size, args := #[] } :: a.defers } W) :
    (Code.rangeFunc g #[p0] assign body).wp Tryz.prog Q a w :=
  wpIn_wide.1 (wpIn_range_split_boxN (n := 9) q tb s hs hg hc htb I Ix hI hIx h0 hassign hIa hbody hdone fun c pre W h1 h2 h3 => wpIn_wide.2 (hstop c pre W h1 h2 h3))
/-- THE SAME, where the loop's variable is not used. -/
theorem wp_range_split_skip {g : Operand} {p0 : Tmp} {assign body : Code} {Q : Exit → Act → World → Prop} {a : Act} {w : World}
    (tb : Nat) (s : ByteArray) (hs : s.size ≤ 1000000) (hg : a.eval g = .func (.func 61) #[] #[.pointer (some ⟨tb, 0, none⟩)]) (hc : w.cell? ⟨tb, 0, none⟩ = some (.string s)) (htb : tb < w.heap.size)
    (I : List LineD → World → Prop) (Ix : Code → List LineD → World → Prop)
    (hI : ∀ pre W W', I pre W → Touch w.heap.size W W' → I pre W') (hIx : ∀ c pre W W', Ix c pre W → Touch w.heap.size W W' → Ix c pre W') (h0 : I [] w)
    (hassign : ∀ (l : Nat) (x : LineD) (W : World) (K : Act → World → Prop),
      K { tmps := (#[p0].zip #[x.val]).foldl (fun t (p, v) => t.setIfInBounds p v) a.tmps, defers := [] } W →
      assign.wpIn (Fence.wide.inRound l) 7 Tryz.prog (Exit.then K (fun _ _ _ => False)) { tmps := (#[p0].zip #[x.val]).foldl (fun t (p, v) => t.setIfInBounds p v) a.tmps, defers := [] } W)
    (hbody : ∀ (l : Nat) (pre : List LineD) (x : LineD) (W : World), I pre W → w.heap.size + 3 ≤ W.heap.size → pre ++ [x] <+: splitL s.data.toList →
      body.wpIn (Fence.wide.inRound l) 7 Tryz.prog (splitPost w.heap.size tb I Ix (pre ++ [x]) W) { tmps := (#[p0].zip #[x.val]).foldl (fun t (p, v) => t.setIfInBounds p v) a.tmps, defers := [] } W)
    (hdone : ∀ (W : World), I (splitL s.data.toList) W → w.heap.size + 2 ≤ W.heap.size → W.heap[w.heap.size]? = some (.deferred (some [])) → Q .normal { a with defers := { target := .collected w.heap.size, args := #[] } :: a.defers } W)
    (hstop : ∀ (c : Code) (pre : List LineD) (W : World), pre <+: splitL s.data.toList → Ix c pre W → W.heap[w.heap.size]? = some (.deferred (some [])) →
      c.wp Tryz.prog Q { a with defers := { target := .collected w.heap.size, args := #[] } :: a.defers } W) :
    (Code.rangeFunc g #[p0] assign body).wp Tryz.prog Q a w := by
  refine wpIn_wide.1 (wpIn_range_split (n := 9) tb s hs hg hc htb I Ix hI hIx h0 (fun x b _ => b = { tmps := (#[p0].zip #[x.val]).foldl (fun t (p, v) => t.setIfInBounds p v) a.tmps, defers := [] }) (fun _ _ _ _ h _ => h) ?_ ?_ hdone fun c pre W h1 h2 h3 => wpIn_wide.2 (hstop c pre W h1 h2 h3))
  · exact fun l pre x W K hi _ hK => hassign l x W K (hK _ _ (Keep3.refl _ _ _) hi rfl)
  · rintro l pre x b W hi rfl hpf hsz
    exact hbody l pre x W hi hsz hpf
/-- At a return with two loops' marks. -/
theorem marks2 {fn : Func} {R : Ending → World → Prop} {tmps : Array Value} {D1 D2 : Nat} {w : World} {v : Value} (h1 : w.heap[D1]? = some (.deferred (some []))) (h2 : w.heap[D2]? = some (.deferred (some []))) (hne : D2 ≠ D1)
    (hr : (results fn tmps).run Tryz.prog ((w.putObj D1 (.deferred none)).putObj D2 (.deferred none)) = .ok v ((w.putObj D1 (.deferred none)).putObj D2 (.deferred none)))
    (hR : R (.returned v) ((w.putObj D1 (.deferred none)).putObj D2 (.deferred none))) :
    bodyPostM Fence.wide 9 Tryz.prog fn R .ret { tmps := tmps, defers := [{ target := .collected D1, args := #[] }, { target := .collected D2, args := #[] }] } w := by
  refine ⟨by simp, .inl ⟨_, _, rfl, run_takeDeferred h1, ?_⟩⟩
  refine ⟨by simp, .inl ⟨_, _, rfl, run_takeDeferred ((World.putObj_heap_other hne).trans h2), ?_⟩⟩
  exact ⟨v, hr, hR⟩
theorem marks1 {fn : Func} {R : Ending → World → Prop} {tmps : Array Value} {D1 : Nat} {w : World} {v : Value} (h1 : w.heap[D1]? = some (.deferred (some [])))
    (hr : (results fn tmps).run Tryz.prog (w.putObj D1 (.deferred none)) = .ok v (w.putObj D1 (.deferred none)))
    (hR : R (.returned v) (w.putObj D1 (.deferred none))) :
    bodyPostM Fence.wide 9 Tryz.prog fn R .ret { tmps := tmps, defers := [{ target := .collected D1, args := #[] }] } w := by
  refine ⟨by simp, .inl ⟨_, _, rfl, run_takeDeferred h1, ?_⟩⟩
  exact ⟨v, hr, hR⟩
end Go.Proofs.YtklbbcemacpimaaGreatDoor.B

namespace Go.Proofs.YtklbbcemacpimaaGreatDoor.B
open Go.RowKit Go.Shelf
attribute [local go_sem] Oper.semAt_some

/-- All blocks but the loop's own two are as they were; others may be new. -/
structure Touch2 (D : Nat) (W W' : World) : Prop where
  os : W'.os = W.os
  tape : W'.tape = W.tape
  output : W'.output = W.output
  size : W.heap.size ≤ W'.heap.size
  block : ∀ k, k < W.heap.size → k ≠ D → k ≠ D + 1 → W'.heap[k]? = W.heap[k]?
theorem Touch2.below {D : Nat} {W W' : World} (h : Below W.heap.size W W') : Touch2 D W W' := ⟨h.os, h.tape, h.output, h.size, fun k hk _ _ => h.block k hk⟩
theorem Touch2.put (D : Nat) (W : World) (o : Obj) : Touch2 D W (W.putObj (D + 1) o) := ⟨rfl, rfl, rfl, by simp, fun k _ _ hk => World.putObj_heap_other hk⟩
/-- What an iterator does: it yields the list's elements; Ctx: what it needs of the memory. -/
def Iters {α : Type} (F : FuncId) (caps : Array Value) (val : α → Value) (xs : List α) (Ctx : World → Prop) (n : Nat) : Prop :=
  ∀ (l : Nat) (J Jx : List α → World → Prop) (W : World), Ctx W →
    (∀ pre W1 W2, J pre W1 → Below W1.heap.size W1 W2 → J pre W2) →
    (∀ pre x W1, J pre W1 → Ctx W1 → pre ++ [x] <+: xs → YieldAt Fence.wide (n - 1) Tryz.prog l #[val x] W1 fun e W' => (e = .returned (.bool true) ∧ J (pre ++ [x]) W' ∧ Ctx W') ∨ (e = .returned (.bool false) ∧ Jx (pre ++ [x]) W')) →
    J [] W → CallsIn Fence.wide n Tryz.prog F (#[.func (.yield l) #[] #[]] ++ caps) W fun e W' => (∃ v, e = .returned v) ∧ (J xs W' ∨ ∃ pre, pre <+: xs ∧ Jx pre W')
/-- What the body of a round leaves alone: the loop's own blocks; and what the iterator needs. -/
structure KeepC (D : Nat) (Ctx : World → Prop) (W W' : World) : Prop where
  size : W.heap.size ≤ W'.heap.size
  own0 : W'.heap[D]? = W.heap[D]?
  own1 : W'.heap[D + 1]? = W.heap[D + 1]?
  ctx : Ctx W → Ctx W'
def iterPost {α : Type} (D : Nat) (Ctx : World → Prop) (I : List α → World → Prop) (Ix : Code → List α → World → Prop) (xs : List α) (W : World) : Exit → Act → World → Prop
  | .normal, _, W' => KeepC D Ctx W W' ∧ I xs W'
  | .ret, _, W' => KeepC D Ctx W W' ∧ Ix .ret xs W'
  | .exit id, _, W' => KeepC D Ctx W W' ∧ Ix (.exit id) xs W'
  | .goto t, _, W' => KeepC D Ctx W W' ∧ Ix (.goto t) xs W'
  | .panic _, _, _ => False
  | .outgrown, _, _ => False
set_option maxHeartbeats 1000000 in
theorem wpIn_range_iter {α : Type} {n : Nat} {g : Operand} {p0 : Tmp} {assign body : Code} {Q : Exit → Act → World → Prop} {a : Act} {w : World}
    (F : FuncId) (caps : Array Value) (val : α → Value) (xs : List α) (Ctx : World → Prop) (hit : Iters F caps val xs Ctx (n - 1)) (hen : ∀ args w, (callFunc F args).run Tryz.prog w = .ok (.enter F args) w)
    (hg : a.eval g = .func (.func F) #[] caps) (hcx : ∀ W W', Ctx W → Touch2 w.heap.size W W' → Ctx W') (hc0 : Ctx w)
    (I : List α → World → Prop) (Ix : Code → List α → World → Prop)
    (hI : ∀ pre W W', I pre W → Touch2 w.heap.size W W' → I pre W') (hIx : ∀ c pre W W', Ix c pre W → Touch2 w.heap.size W W' → Ix c pre W') (h0 : I [] w)
    (Ax : α → Act → World → Prop) (hAx : ∀ x b W W', Ax x b W → Touch2 w.heap.size W W' → Ax x b W')
    (hassign : ∀ (l : Nat) (pre : List α) (x : α) (W : World) (K : Act → World → Prop), I pre W → pre ++ [x] <+: xs → w.heap.size + 2 ≤ W.heap.size → (∀ b W', KeepC w.heap.size Ctx W W' → I pre W' → Ax x b W' → K b W') →
      assign.wpIn (Fence.wide.inRound l) (n - 1 - 1) Tryz.prog (Exit.then K (fun _ _ _ => False)) { tmps := (#[p0].zip #[val x]).foldl (fun t (p, v) => t.setIfInBounds p v) a.tmps, defers := [] } W)
    (hbody : ∀ (l : Nat) (pre : List α) (x : α) (b : Act) (W : World), I pre W → Ctx W → Ax x b W → pre ++ [x] <+: xs → w.heap.size + 2 ≤ W.heap.size →
      body.wpIn (Fence.wide.inRound l) (n - 1 - 1) Tryz.prog (iterPost w.heap.size Ctx I Ix (pre ++ [x]) W) b W)
    (hdone : ∀ (W : World), I xs W → w.heap.size + 2 ≤ W.heap.size → W.heap[w.heap.size]? = some (.deferred (some [])) → Q .normal { a with defers := { target := .collected w.heap.size, args := #[] } :: a.defers } W)
    (hstop : ∀ (c : Code) (pre : List α) (W : World), pre <+: xs → Ix c pre W → W.heap[w.heap.size]? = some (.deferred (some [])) →
      c.wpIn Fence.wide n Tryz.prog Q { a with defers := { target := .collected w.heap.size, args := #[] } :: a.defers } W) :
    (Code.rangeFunc g #[p0] assign body).wpIn Fence.wide n Tryz.prog Q a w := by
  refine wpIn_rangeFunc ?_
  intro fn hfn
  obtain ⟨rec, hrec⟩ : ∃ rec : LoopState → Option Code → Loop, rec = fun st pe => { state := st, pending := pe, fn, tmps := a.tmps, params := #[p0], assign, body, defers := w.heap.size } := ⟨_, rfl⟩
  obtain ⟨W1, hW1⟩ : ∃ W1, (w.alloc (.deferred (some []))).alloc (.loop (rec .ready none)) = W1 := ⟨_, rfl⟩
  have hs1 : W1.heap.size = w.heap.size + 2 := by rw [← hW1]; simp
  have hL1 : W1.heap[w.heap.size + 1]? = some (.loop (rec .ready none)) := by
    rw [← hW1]; have := World.alloc_heap_new (w.alloc (.deferred (some []))) (.loop (rec .ready none)); rwa [World.size_alloc] at this
  have hK1 : W1.heap[w.heap.size]? = some (.deferred (some [])) := by
    rw [← hW1]; exact (Below.heap_alloc _ _ _ (by simp)).trans (World.alloc_heap_new w _)
  have hT1 : Touch2 w.heap.size w W1 := by
    refine ⟨by rw [← hW1]; rfl, by rw [← hW1]; rfl, by rw [← hW1]; rfl, by omega, fun k hk _ _ => ?_⟩
    rw [← hW1]; exact (Below.heap_alloc _ _ _ (by simp; omega)).trans (Below.heap_alloc _ _ _ hk)
  have hI1 : I [] W1 := hI _ _ _ h0 hT1
  have hc1 : Ctx W1 := hcx _ _ hc0 hT1
  refine ⟨w.heap.size + 1, [{ target := .collected w.heap.size, args := #[] }], W1, { target := .fn (.func F) caps, args := #[.func (.yield (w.heap.size + 1)) #[] #[]] }, W1, F,
    #[.func (.yield (w.heap.size + 1)) #[] #[]] ++ caps, W1, ?_, ?_, fun _ _ => trivial, ?_, wideOk, ?_⟩
  · rw [← hW1, hrec]; exact run_enterLoop_outer _ _ _ _ _
  · simp only [resolve, hg]
    simp [go_sem]
  · simp [invoke, go_sem, hen]
  · refine (hit (w.heap.size + 1)
      (fun pre W => I pre W ∧ w.heap.size + 2 ≤ W.heap.size ∧ W.heap[w.heap.size + 1]? = some (.loop (rec .ready none)) ∧ W.heap[w.heap.size]? = some (.deferred (some [])))
      (fun pre W => ∃ c, Ix c pre W ∧ W.heap[w.heap.size + 1]? = some (.loop (rec .done (some c))) ∧ W.heap[w.heap.size]? = some (.deferred (some [])))
      W1 hc1 ?_ ?_ ⟨hI1, by omega, hL1, hK1⟩).mono ?_
    · rintro pre Wa Wb ⟨hi, hz, hl, hk⟩ hb
      exact ⟨hI _ _ _ hi (Touch2.below hb), Nat.le_trans hz hb.size, (hb.block _ (by omega)).trans hl, (hb.block _ (by omega)).trans hk⟩
    · rintro pre x W ⟨hi, hz, hl, hk⟩ hcW hpf
      have hlt : w.heap.size + 1 < W.heap.size := by omega
      have hy := run_yield (P := Tryz.prog) (args := #[val x]) hl (by rw [hrec]; rfl)
      rw [hrec] at hy
      refine ⟨fn, _, assign, body, hy, roundIn_of_wpIn hfn (hassign _ pre x W _ hi hpf (by omega) (fun b Wb hkb hib haxb => ?_))⟩
      have hlb : Wb.heap[w.heap.size + 1]? = some (.loop (rec .ready none)) := hkb.own1.trans hl
      have hkkb : Wb.heap[w.heap.size]? = some (.deferred (some [])) := hkb.own0.trans hk
      have hltb : w.heap.size + 1 < Wb.heap.size := by have := hkb.size; omega
      refine ⟨_, run_beginRound hlb (by rw [hrec]), ?_⟩
      have hl2 : (Wb.putObj (w.heap.size + 1) (.loop { rec .ready none with state := .busy })).heap[w.heap.size + 1]? = some (.loop { rec .ready none with state := .busy }) := World.putObj_heap_same hltb
      have hk2 : (Wb.putObj (w.heap.size + 1) (.loop { rec .ready none with state := .busy })).heap[w.heap.size]? = some (.deferred (some [])) := (World.putObj_heap_other (by omega)).trans hkkb
      have hcb : Ctx (Wb.putObj (w.heap.size + 1) (.loop { rec .ready none with state := .busy })) := hcx _ _ (hkb.ctx hcW) (Touch2.put _ _ _)
      refine wpIn_mono (hbody _ pre x b _ (hI _ _ _ hib (Touch2.put _ _ _)) hcb (hAx _ _ _ _ haxb (Touch2.put _ _ _)) hpf (by simp; have := hkb.size; omega)) ?_
      have fin : ∀ (jump : Option Code) (W3 : World), KeepC w.heap.size Ctx (Wb.putObj (w.heap.size + 1) (.loop { rec .ready none with state := .busy })) W3 →
          (Instr.endRound (w.heap.size + 1) jump).run Tryz.prog W3 = .ok (.bool jump.isNone) (W3.putObj (w.heap.size + 1) (.loop (rec (if jump.isNone then .ready else .done) jump))) ∧
          (W3.putObj (w.heap.size + 1) (.loop (rec (if jump.isNone then .ready else .done) jump))).heap[w.heap.size + 1]? = some (.loop (rec (if jump.isNone then .ready else .done) jump)) ∧
          (W3.putObj (w.heap.size + 1) (.loop (rec (if jump.isNone then .ready else .done) jump))).heap[w.heap.size]? = some (.deferred (some [])) := fun jump W3 hk3 => by
        have hl3 := hk3.own1.trans hl2
        have := run_endRound (P := Tryz.prog) jump hl3
        rw [hrec] at this ⊢
        exact ⟨this, World.putObj_heap_same (Array.getElem?_eq_some_iff.1 hl3).1, (World.putObj_heap_other (by omega)).trans (hk3.own0.trans hk2)⟩
      rintro e a3 W3 hp
      cases e with
      | normal =>
        obtain ⟨hk3, hi3⟩ := hp
        obtain ⟨hr, hl4, hk4⟩ := fin none W3 hk3
        have hz3 := hk3.size
        exact ⟨_, _, hr, .inl ⟨rfl, ⟨hI _ _ _ hi3 (Touch2.put _ _ _), by simp at hz3 ⊢; omega, hl4, hk4⟩, hcx _ _ (hk3.ctx hcb) (Touch2.put _ _ _)⟩⟩
      | ret =>
        obtain ⟨hk3, hi3⟩ := hp
        obtain ⟨hr, hl4, hk4⟩ := fin (some .ret) W3 hk3
        exact ⟨_, _, hr, .inr ⟨rfl, .ret, hIx _ _ _ _ hi3 (Touch2.put _ _ _), hl4, hk4⟩⟩
      | exit id =>
        obtain ⟨hk3, hi3⟩ := hp
        obtain ⟨hr, hl4, hk4⟩ := fin (some (.exit id)) W3 hk3
        exact ⟨_, _, hr, .inr ⟨rfl, .exit id, hIx _ _ _ _ hi3 (Touch2.put _ _ _), hl4, hk4⟩⟩
      | goto t =>
        obtain ⟨hk3, hi3⟩ := hp
        obtain ⟨hr, hl4, hk4⟩ := fin (some (.goto t)) W3 hk3
        exact ⟨_, _, hr, .inr ⟨rfl, .goto t, hIx _ _ _ _ hi3 (Touch2.put _ _ _), hl4, hk4⟩⟩
      | panic ch => exact hp.elim
      | outgrown => exact hp.elim
    · rintro e W2 ⟨⟨v, rfl⟩, (⟨hi, hz, hl, hk⟩ | ⟨pre, hSp, c, hi, hl, hk⟩)⟩
      · exact ⟨none, _, by have := run_endLoop (P := Tryz.prog) hl (by rw [hrec]; simp); rw [hrec] at this; exact this, hdone _ (hI _ _ _ hi (Touch2.put _ _ _)) (by simp; omega) ((World.putObj_heap_other (by omega)).trans hk)⟩
      · exact ⟨some c, _, by have := run_endLoop (P := Tryz.prog) hl (by rw [hrec]; simp); rw [hrec] at this; exact this, hstop c pre _ hSp (hIx _ _ _ _ hi (Touch2.put _ _ _)) ((World.putObj_heap_other (by omega)).trans hk)⟩
end Go.Proofs.YtklbbcemacpimaaGreatDoor.B

namespace Go.Proofs.YtklbbcemacpimaaGreatDoor.B
open Go.RowKit Go.Shelf

theorem rowsIn_of {l n : Nat} {P : Program} {row : String} {args : Array Value} {w : World} {R : Value → World → Prop} (h : Rows P row args w R) : RowsIn (Fence.wide.inRound l) n P row args w R :=
  fun c cs _ => let ⟨v, w', r, s⟩ := h c cs; ⟨v, w', r, stepsIn_wide.2 s⟩
theorem opIn_of_wp {P : Program} {l n : Nat} {o : Oper} {a : Act} {K : Act → World → Prop} {Q : Exit → Act → World → Prop} {w : World} (hd : ∀ c, o.op ≠ .defer c) (h : o.wp P a w K Q) : o.wpIn (Fence.wide.inRound l) n P a w K Q := by
  refine ⟨fun _ _ => trivial, ?_⟩
  rw [Oper.semAt_eq _ _ _ hd]
  unfold Oper.wp at h
  generalize (execOp a.eval o).run P w = r at *
  cases r with
  | ok nx w' =>
    cases nx with
    | value v => exact h
    | skip => exact h
    | defer d => exact h
    | enter f args => exact ⟨wideOk, CallsIn.inRound l (callsIn_wide.2 h)⟩
    | row row args => exact ⟨wideOk, rowsIn_of h⟩
    | round a b c d e => exact h.elim
    | _ => exact h
  | halt hh w' =>
    cases hh with
    | panic v => exact h
    | _ => exact h
theorem anyIn_of_any {P : Program} {md : Region.Mode} {ops : Array Oper} {l n : Nat} {Q : Exit → Act → World → Prop} (hd : ∀ (j : Nat) o c, ops[j]? = some o → o.op ≠ .defer c) (hQ : ¬ LetsOut Q) :
    ∀ (fuel : Nat) (listed : Array Bool) (a : Act) (w : World), wpAny P md ops Q fuel listed a w → wpAnyIn (Fence.wide.inRound l) n P md ops Q fuel listed a w
  | 0, _, _, _, h => h
  | fuel + 1, listed, a, w, h => by
    refine ⟨h.1, fun i hi => ?_⟩
    have h2 := h.2 i hi
    unfold wpOp at h2
    unfold wpOpIn
    cases ho : ops[i]? with
    | none =>
      simp only [ho] at h2
      exact anyIn_of_any hd hQ _ _ _ _ h2
    | some o =>
      simp only [ho] at h2
      simp only
      split
      · rename_i hw
        rw [if_pos hw] at h2
        rcases h2 with h2 | ⟨_, h2⟩
        · exact opIn_of_wp (fun c => hd i o c ho) (Oper.wp_mono (anyIn_of_any hd hQ _ _) h2)
        · exact absurd h2 hQ
      · rename_i hw
        rw [if_neg hw] at h2
        exact ⟨fun _ _ => trivial, anyIn_of_any hd hQ _ _ _ _ h2⟩
def noDefer (ops : List Oper) : Bool := ops.all fun o => match o.op with | .defer _ => false | _ => true
theorem noDefer_spec {ops : List Oper} (h : noDefer ops = true) : ∀ (j : Nat) o c, ops.toArray[j]? = some o → o.op ≠ .defer c := by
  intro j o c ho e
  have hm : o ∈ ops := by
    have := List.mem_of_getElem? (l := ops) (i := j) (by simpa using ho)
    exact this
  unfold noDefer at h
  rw [List.all_eq_true] at h
  have := h o hm
  rw [e] at this
  cases this
theorem wpIn_region_round {P : Program} {l n id : Nat} {Q : Exit → Act → World → Prop} {a : Act} {w : World} {ops : List Oper} (hm : P.follows .mixedOrders = true) (hd : noDefer ops = true) (hQ : ¬ LetsOut Q)
    (h : wpAny P .any ops.toArray Q ops.length (Array.replicate ops.length false) a w.drew) : (Code.region id ops.toArray true).wpIn (Fence.wide.inRound l) n P Q a w :=
  wpIn_region_any hm (by
    have := anyIn_of_any (l := l) (n := n) (noDefer_spec hd) hQ _ _ _ _ h
    simpa using this)
end Go.Proofs.YtklbbcemacpimaaGreatDoor.B

namespace Go.Proofs.YtklbbcemacpimaaGreatDoor.B
open Go.RowKit Go.Shelf

theorem Touch2.alloc (D : Nat) (W : World) (o : Obj) : Touch2 D W (W.alloc o) := Touch2.below ((Below.refl _ _).alloc (Nat.le_refl _) o)
theorem wp_range_iter_box {α : Type} {g : Operand} {p0 : Tmp} {assign body : Code} {Q : Exit → Act → World → Prop} {a : Act} {w : World} (q : Tmp) (cells : α → List Value) (tid : TypeId)
    (F : FuncId) (caps : Array Value) (val : α → Value) (xs : List α) (Ctx : World → Prop) (hit : Iters F caps val xs Ctx 8) (hen : ∀ args w, (callFunc F args).run Tryz.prog w = .ok (.enter F args) w)
    (hg : a.eval g = .func (.func F) #[] caps) (hcx : ∀ W W', Ctx W → Touch2 w.heap.size W W' → Ctx W') (hc0 : Ctx w)
    (I : List α → World → Prop) (Ix : Code → List α → World → Prop)
    (hI : ∀ pre W W', I pre W → Touch2 w.heap.size W W' → I pre W') (hIx : ∀ c pre W W', Ix c pre W → Touch2 w.heap.size W W' → Ix c pre W') (h0 : I [] w)
    (hassign : ∀ (l : Nat) (x : α) (W : World) (K : Act → World → Prop), x ∈ xs →
      K { tmps := ((#[p0].zip #[val x]).foldl (fun t (p, v) => t.setIfInBounds p v) a.tmps).setIfInBounds q (.pointer (some ⟨W.heap.size, 0, none⟩)), defers := [] } (W.alloc (.cells (cells x).toArray tid)) →
      assign.wpIn (Fence.wide.inRound l) 7 Tryz.prog (Exit.then K (fun _ _ _ => False)) { tmps := (#[p0].zip #[val x]).foldl (fun t (p, v) => t.setIfInBounds p v) a.tmps, defers := [] } W)
    (hbody : ∀ (l : Nat) (pre : List α) (x : α) (Bx : Nat) (W : World), I pre W → Ctx W → w.heap.size + 2 ≤ Bx → W.heap[Bx]? = some (.cells (cells x).toArray tid (0, 0)) → pre ++ [x] <+: xs →
      body.wpIn (Fence.wide.inRound l) 7 Tryz.prog (iterPost w.heap.size Ctx I Ix (pre ++ [x]) W) { tmps := ((#[p0].zip #[val x]).foldl (fun t (p, v) => t.setIfInBounds p v) a.tmps).setIfInBounds q (.pointer (some ⟨Bx, 0, none⟩)), defers := [] } W)
    (hdone : ∀ (W : World), I xs W → w.heap.size + 2 ≤ W.heap.size → W.heap[w.heap.size]? = some (.deferred (some [])) → Q .normal { a with defers := { target := .collected w.heap.size, args := #[] } :: a.defers } W)
    (hstop : ∀ (c : Code) (pre : List α) (W : World), pre <+: xs → Ix c pre W → W.heap[w.heap.size]? = some (.deferred (some [])) →
      c.wp Tryz.prog Q { a with defers := { target := .collected w.heap.size, args := #[] } :: a.defers } W) :
    (Code.rangeFunc g #[p0] assign body).wp Tryz.prog Q a w := by
  refine wpIn_wide.1 (wpIn_range_iter (n := 9) F caps val xs Ctx hit hen hg hcx hc0 I Ix hI hIx h0
    (fun x b W => ∃ Bx, w.heap.size + 2 ≤ Bx ∧ W.heap[Bx]? = some (.cells (cells x).toArray tid (0, 0)) ∧ b = { tmps := ((#[p0].zip #[val x]).foldl (fun t (p, v) => t.setIfInBounds p v) a.tmps).setIfInBounds q (.pointer (some ⟨Bx, 0, none⟩)), defers := [] })
    ?_ ?_ ?_ hdone fun c pre W h1 h2 h3 => wpIn_wide.2 (hstop c pre W h1 h2 h3))
  · rintro x b W W' ⟨Bx, h1, h2, h3⟩ ht
    exact ⟨Bx, h1, (ht.block _ (Array.getElem?_eq_some_iff.1 h2).1 (by omega) (by omega)).trans h2, h3⟩
  · intro l pre x W K hi hpf hsz hK
    refine hassign l x W K (by obtain ⟨t, ht⟩ := hpf; rw [← ht]; simp) (hK _ _ ⟨by simp, ?_, ?_, fun h => hcx _ _ h (Touch2.alloc _ _ _)⟩ (hI _ _ _ hi (Touch2.alloc _ _ _)) ⟨W.heap.size, hsz, heap_alloc_new _ _, rfl⟩)
    · exact Below.heap_alloc _ _ _ (by omega)
    · exact Below.heap_alloc _ _ _ (by omega)
  · rintro l pre x b W hi hc ⟨Bx, h1, h2, rfl⟩ hpf hsz
    exact hbody l pre x Bx W hi hc h1 h2 hpf
end Go.Proofs.YtklbbcemacpimaaGreatDoor.B
