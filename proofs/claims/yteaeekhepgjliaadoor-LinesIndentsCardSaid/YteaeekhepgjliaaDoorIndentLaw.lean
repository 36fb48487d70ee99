/- The plain law of indenting and dedenting. -/
import Derived.Test.YteaeekhepgjliaaDoorLineLaw
import Derived.Shelf.Strings.BuilderK
namespace Go.Proofs.YteaeekhepgjliaaDoor
open Go.RowKit Go.Shelf

/-- A line's end. -/
def nl (b : Bool) : List UInt8 := if b then [10] else []
/-- The text of some lines, each with a text ahead of it. -/
def insOf (p : List UInt8) (xs : List LineD) : List UInt8 := (xs.map fun x => p ++ (x.text ++ nl x.ended)).flatten
/-- Does each line begin with a text? -/
def allPre (p : List UInt8) (xs : List LineD) : Bool := xs.all fun x => Lib.hasPrefix x.text p
/-- The text of some lines, each without what is ahead of it. -/
def dedOf (p : List UInt8) (xs : List LineD) : List UInt8 := (xs.map fun x => x.text.drop p.length ++ nl x.ended).flatten
theorem insOf_snoc (p : List UInt8) (xs : List LineD) (x : LineD) : insOf p (xs ++ [x]) = insOf p xs ++ (p ++ (x.text ++ nl x.ended)) := by simp [insOf]
theorem dedOf_snoc (p : List UInt8) (xs : List LineD) (x : LineD) : dedOf p (xs ++ [x]) = dedOf p xs ++ (x.text.drop p.length ++ nl x.ended) := by simp [dedOf]
theorem allPre_snoc (p : List UInt8) (xs : List LineD) (x : LineD) : allPre p (xs ++ [x]) = (allPre p xs && Lib.hasPrefix x.text p) := by simp [allPre]
theorem allPre_prefix {p : List UInt8} {xs ys : List LineD} (h : xs <+: ys) (hf : allPre p xs = false) : allPre p ys = false := by
  obtain ⟨r, rfl⟩ := h
  unfold allPre at *
  rw [List.all_append, hf]; rfl
theorem insOf_none (xs : List LineD) : insOf [] xs = textOf xs := by simp [insOf, textOf, nl]
theorem textOf_len_cons (x : LineD) (r : List LineD) : (textOf (x :: r)).length = (x.text ++ nl x.ended).length + (textOf r).length := by
  have e : textOf (x :: r) = (x.text ++ nl x.ended) ++ textOf r := by simp [textOf, nl]
  rw [e, List.length_append]
theorem insOf_len (p : List UInt8) (xs : List LineD) : (insOf p xs).length = xs.length * p.length + (textOf xs).length := by
  induction xs with
  | nil => simp [insOf, textOf]
  | cons x r ih =>
    have e : insOf p (x :: r) = (p ++ (x.text ++ nl x.ended)) ++ insOf p r := by simp [insOf]
    rw [e, textOf_len_cons, List.length_append, ih, List.length_append, List.length_cons, Nat.succ_mul]
    omega
theorem dedOf_len (p : List UInt8) (xs : List LineD) : (dedOf p xs).length ≤ (textOf xs).length := by
  induction xs with
  | nil => simp [dedOf, textOf]
  | cons x r ih =>
    have e : dedOf p (x :: r) = (x.text.drop p.length ++ nl x.ended) ++ dedOf p r := by simp [dedOf]
    rw [e, textOf_len_cons, List.length_append, List.length_append, List.length_append, List.length_drop]
    omega
theorem insOf_le {p l : List UInt8} {pre : List LineD} (h : pre <+: splitL l) : (insOf p pre).length ≤ l.length * p.length + l.length := by
  have h1 := insOf_len p pre
  have h2 := textOf_prefix h
  have h3 := h.length_le
  have h4 := splitL_len l
  have h5 : pre.length * p.length ≤ l.length * p.length := Nat.mul_le_mul_right _ (by omega)
  omega
theorem dedOf_le {p l : List UInt8} {pre : List LineD} (h : pre <+: splitL l) : (dedOf p pre).length ≤ l.length := by
  have h1 := dedOf_len p pre
  have h2 := textOf_prefix h
  omega
theorem has_app (a b : List UInt8) : has 10 (a ++ b) = (has 10 a || has 10 b) := by
  unfold has
  rw [Bool.eq_iff_iff]
  simp
theorem ahead_app (u R : List UInt8) (h : has 10 u = false) : ahead 10 (u ++ 10 :: R) = u ∧ behind 10 (u ++ 10 :: R) = R := by
  have g1 : (u ++ 10 :: R)[u.length]? = some 10 := by simp
  have g2 : ∀ j : Nat, j < u.length → (u ++ 10 :: R)[j]? ≠ some 10 := fun j hj e => by
    rw [List.getElem?_append_left hj] at e
    have := contains_of_get 10 u j e
    unfold has at h
    rw [h] at this
    cases this
  refine ⟨?_, ?_⟩
  · rw [ahead_eq_take _ _ _ g1 g2]; simp
  · rw [behind_eq_drop _ _ _ g1 g2, List.drop_append]; simp
/-- WHAT AN INDENTED TEXT'S LINES ARE. -/
theorem ins_split (p : List UInt8) (hp : has 10 p = false) : ∀ (f no : Nat) (l : List UInt8) (size size' no' f' : Nat), l.length ≤ f → (insOf p (splitFrom size f no l)).length ≤ f' →
    (splitFrom size' f' no' (insOf p (splitFrom size f no l))).map (fun x => (x.text, x.ended)) = (splitFrom size f no l).map (fun x => (p ++ x.text, x.ended))
  | 0, no, l, size, size', no', f', h, h' => by
    obtain rfl : l = [] := by rw [← List.length_eq_zero_iff]; omega
    simp [splitFrom_nil, insOf]
  | f + 1, no, l, size, size', no', f', h, h' => by
    by_cases hl : l = []
    · subst hl; simp [splitFrom_nil, insOf]
    · obtain ⟨f0, hf, h1, h2⟩ := splitFrom_cons size (f + 1) no l hl h
      obtain rfl : f = f0 := by omega
      have IH := ins_split p hp f (no + 1) (behind 10 l) size size' (no' + 1)
      rw [h2] at h' ⊢
      obtain ⟨rest, hrest⟩ : ∃ rest, splitFrom size f (no + 1) (behind 10 l) = rest := ⟨_, rfl⟩
      rw [hrest] at IH h' ⊢
      have e : insOf p (⟨no, size - l.length, ahead 10 l, has 10 l⟩ :: rest) = p ++ (ahead 10 l ++ nl (has 10 l)) ++ insOf p rest := by simp [insOf]
      rw [e] at h' ⊢
      have ha : has 10 (p ++ ahead 10 l) = false := by
        rw [has_app, hp]; exact ahead_not 10 l
      rcases hc : has 10 l with _ | _
      · have hb := behind_none 10 l hc
        rw [hb, splitFrom_nil] at hrest
        subst hrest
        have e2 : p ++ (ahead 10 l ++ nl false) ++ insOf p [] = p ++ ahead 10 l := by simp [nl, insOf]
        rw [hc, e2] at h'
        rw [e2]
        have hne : p ++ ahead 10 l ≠ [] := by rw [ahead_none 10 l hc]; simp [hl]
        obtain ⟨f1, rfl, k1, k2⟩ := splitFrom_cons size' f' no' _ hne h'
        rw [k2, ha, ahead_none _ _ ha, behind_none _ _ ha, splitFrom_nil]
        rfl
      · have e2 : p ++ (ahead 10 l ++ nl true) ++ insOf p rest = (p ++ ahead 10 l) ++ 10 :: insOf p rest := by simp [nl]
        rw [hc, e2] at h'
        rw [e2]
        obtain ⟨a1, a2⟩ := ahead_app (p ++ ahead 10 l) (insOf p rest) ha
        have a3 : has 10 ((p ++ ahead 10 l) ++ 10 :: insOf p rest) = true := by rw [has_app]; simp [has]
        obtain ⟨f1, rfl, k1, k2⟩ := splitFrom_cons size' f' no' _ (by simp) h'
        rw [a2] at k1
        rw [k2, a1, a2, a3]
        have := IH f1 h1 k1
        rw [List.map_cons, List.map_cons, this]
theorem ins_back (p l : List UInt8) (hp : has 10 p = false) : allPre p (splitL (insOf p (splitL l))) = true ∧ dedOf p (splitL (insOf p (splitL l))) = l := by
  have h := ins_split p hp l.length 0 l l.length (insOf p (splitL l)).length 0 (insOf p (splitL l)).length (Nat.le_refl _) (Nat.le_refl _)
  change (splitL (insOf p (splitL l))).map (fun x => (x.text, x.ended)) = (splitL l).map (fun x => (p ++ x.text, x.ended)) at h
  constructor
  · have e : allPre p (splitL (insOf p (splitL l))) = ((splitL (insOf p (splitL l))).map (fun x => (x.text, x.ended))).all (fun q => Lib.hasPrefix q.1 p) := by
      rw [List.all_map]; rfl
    rw [e, h, List.all_map, List.all_eq_true]
    intro x _
    show Lib.hasPrefix (p ++ x.text) p = true
    unfold Lib.hasPrefix
    simp
  · have e : dedOf p (splitL (insOf p (splitL l))) = (((splitL (insOf p (splitL l))).map (fun x => (x.text, x.ended))).map (fun q => q.1.drop p.length ++ nl q.2)).flatten := by
      rw [List.map_map]; rfl
    rw [e, h, List.map_map]
    have e2 : (fun q : List UInt8 × Bool => q.1.drop p.length ++ nl q.2) ∘ (fun x : LineD => (p ++ x.text, x.ended)) = fun x : LineD => x.text ++ if x.ended then [10] else [] := by
      funext x
      simp [nl]
    rw [e2]
    exact splitL_text l
/-- WHERE A LOOP THAT WRITES INTO A BUILDER STANDS: the builder (bb) holds the bytes bs, and nothing else that stood ahead of the loop has changed. -/
structure DI (N B0 bb : Nat) (w W0 : World) (bs : List UInt8) (W : World) : Prop where
  bld : Lib.IsBuilderF 50 5 B0 bb (Lib.byteCells bs) W
  row : ∀ v, W.cell? ⟨bb, 1, none⟩ = some v → ∀ k, N ≤ k → k < N + 3 → v.ownBlock ≠ some k
  kept : ∀ k o, k < N → W0.heap[k]? = some o → some k ≠ some bb → (∀ c fz, o ≠ .cells c 5 fz) → W.heap[k]? = some o
  below : Below B0 w W
theorem isb_block {B b : Nat} {bs : List Value} {w : World} (h : Lib.IsBuilderF 50 5 B b bs w) : ∃ p v, w.heap[b]? = some (.cells #[p, v] 50 (0, 0)) ∧ w.ownsRowF B 5 1 v bs.length bs := by
  rcases h with ⟨_, v, h, k, _⟩ | ⟨_, v, h, k, _⟩ <;> exact ⟨_, v, h, k⟩
theorem isb_same {B b : Nat} {bs : List Value} {w w' : World} (h : Lib.IsBuilderF 50 5 B b bs w) (hb : w'.heap[b]? = w.heap[b]?) (hr : ∀ v g, w.cell? ⟨b, 1, none⟩ = some v → v.ownBlock = some g → w'.heap[g]? = w.heap[g]?) : Lib.IsBuilderF 50 5 B b bs w' := by
  rcases h with ⟨h1, v, h2, ⟨h3, h4⟩, h5⟩ | ⟨h1, v, h2, ⟨h3, h4⟩, h5⟩
  all_goals
    have hc : w.cell? ⟨b, 1, none⟩ = some v := by simp [World.cell?, h2]
  · refine .inl ⟨h1, v, hb.trans h2, ⟨h3, ?_⟩, h5⟩
    rcases h4 with h | ⟨g, cap, cur, fz, rfl, k1, k2, k3⟩
    · exact .inl h
    · exact .inr ⟨g, cap, cur, fz, rfl, k1, (hr _ g hc rfl).trans k2, k3⟩
  · refine .inr ⟨h1, v, hb.trans h2, ⟨h3, ?_⟩, h5⟩
    rcases h4 with h | ⟨g, cap, cur, fz, rfl, k1, k2, k3⟩
    · exact .inl h
    · exact .inr ⟨g, cap, cur, fz, rfl, k1, (hr _ g hc rfl).trans k2, k3⟩
theorem isb_cell {B b : Nat} {bs : List Value} {w : World} (h : Lib.IsBuilderF 50 5 B b bs w) : ∃ v, w.cell? ⟨b, 1, none⟩ = some v ∧ ∀ g, v.ownBlock = some g → ∃ cur fz, w.heap[g]? = some (.cells cur 5 fz) := by
  obtain ⟨p, v, h1, _, h2⟩ := isb_block h
  refine ⟨v, by simp [World.cell?, h1], fun g hg => ?_⟩
  rcases h2 with ⟨rfl, _⟩ | ⟨g', cap, cur, fz, rfl, k1, k2, k3⟩
  · cases hg
  · cases hg; exact ⟨cur, fz, k2⟩
theorem DI.touch {N B0 bb : Nat} {w W0 : World} {bs : List UInt8} {W W' : World} (h : DI N B0 bb w W0 bs W) (hB : B0 ≤ N) (hb : bb < N) (ht : Touch N W W') : DI N B0 bb w W0 bs W' := by
  have e := ht.block bb (.inl hb)
  have ec : W'.cell? ⟨bb, 1, none⟩ = W.cell? ⟨bb, 1, none⟩ := World.cell?_of_block e
  refine ⟨isb_same h.bld e (fun v g h1 h2 => ?_), fun v hv => h.row v (ec.symm.trans hv), fun k o hk h1 h2 h3 => (ht.block k (.inl hk)).trans (h.kept k o hk h1 h2 h3), ?_⟩
  · have := h.row v h1
    exact ht.block g (by
      by_cases hg : g < N
      · exact .inl hg
      · exact .inr (by
          have := this g (by omega)
          rcases Nat.lt_or_ge g (N + 3) with h' | h'
          · exact absurd h2 (this h')
          · exact h'))
  · have := h.below
    exact ⟨ht.os.trans this.os, ht.tape.trans this.tape, ht.output.trans this.output, Nat.le_trans this.size ht.size, fun k hk => (ht.block k (.inl (by omega))).trans (this.block k hk)⟩
theorem DI.alloc {N B0 bb : Nat} {w W0 : World} {bs : List UInt8} {W : World} (h : DI N B0 bb w W0 bs W) (hz : N + 3 ≤ W.heap.size) (hB : B0 ≤ N) (hb : bb < N) (o : Obj) : DI N B0 bb w W0 bs (W.alloc o) := by
  have e : ∀ k, k < W.heap.size → (W.alloc o).heap[k]? = W.heap[k]? := fun k hk => Below.heap_alloc _ _ _ hk
  have eb := e bb (by omega)
  have ec : (W.alloc o).cell? ⟨bb, 1, none⟩ = W.cell? ⟨bb, 1, none⟩ := World.cell?_of_block eb
  refine ⟨isb_same h.bld eb (fun v g h1 h2 => ?_), fun v hv => h.row v (ec.symm.trans hv), fun k o hk h1 h2 h3 => (e k (by omega)).trans (h.kept k o hk h1 h2 h3), h.below.alloc (by omega) _⟩
  obtain ⟨v', hv', hr⟩ := isb_cell h.bld
  obtain rfl : v' = v := by rw [hv'] at h1; exact Option.some.inj h1
  obtain ⟨cur, fz, hg⟩ := hr g h2
  exact e g (Array.getElem?_eq_some_iff.1 hg).1
theorem alloc5 (w : World) (a b c d e : Obj) : (((((w.alloc a).alloc b).alloc c).alloc d).alloc e).heap[w.heap.size]? = some a ∧ (((((w.alloc a).alloc b).alloc c).alloc d).alloc e).heap[w.heap.size + 1]? = some b ∧ (((((w.alloc a).alloc b).alloc c).alloc d).alloc e).heap[w.heap.size + 2]? = some c ∧
    (((((w.alloc a).alloc b).alloc c).alloc d).alloc e).heap[w.heap.size + 3]? = some d ∧ (((((w.alloc a).alloc b).alloc c).alloc d).alloc e).heap[w.heap.size + 4]? = some e ∧ ∀ k, k < w.heap.size → (((((w.alloc a).alloc b).alloc c).alloc d).alloc e).heap[k]? = w.heap[k]? := by
  have h : (((((w.alloc a).alloc b).alloc c).alloc d).alloc e).heap = ((((w.heap.push a).push b).push c).push d).push e := rfl
  rw [h]
  refine ⟨?_, ?_, ?_, ?_, ?_, fun k hk => ?_⟩ <;> simp only [Array.getElem?_push, Array.size_push]
  · rw [if_neg (by omega), if_neg (by omega), if_neg (by omega), if_neg (by omega), if_pos trivial]
  · rw [if_neg (by omega), if_neg (by omega), if_neg (by omega), if_pos trivial]
  · rw [if_neg (by omega), if_neg (by omega), if_pos trivial]
  · rw [if_neg (by omega), if_pos trivial]
  · rw [if_pos trivial]
  · rw [if_neg (by omega), if_neg (by omega), if_neg (by omega), if_neg (by omega), if_neg (by omega)]
theorem DI.start {N B0 bb : Nat} {w W0 : World} (h : W0.heap[bb]? = some (.cells #[.pointer none, .slice none 0 0] 50)) (hb : B0 ≤ bb) (hw : Below B0 w W0) : DI N B0 bb w W0 [] W0 :=
  ⟨.inl ⟨hb, _, h, ⟨rfl, .inl ⟨rfl, rfl⟩⟩, by simp [Value.ownBlock]⟩, fun v hv k _ _ e => by
    have : W0.cell? ⟨bb, 1, none⟩ = some (.slice none 0 0) := by simp [World.cell?, h]
    rw [this] at hv
    cases hv
    simp [Value.ownBlock] at e, fun _ _ _ h _ _ => h, hw⟩
/-- A WRITE. -/
theorem DI.write {N B0 bb tb : Nat} {w W0 : World} {bs : List UInt8} {s t : ByteArray} {p : Value} {W W' : World} (h : DI N B0 bb w W0 bs W) (hb : bb < N) (htb : tb < N) (hne : tb ≠ bb) (hn : NoRow N W)
    (ht : W0.heap[tb]? = some (.cells #[.string t] 9)) (h1 : Lib.BuilderAtF 50 5 B0 bb p (Lib.byteCells bs ++ Lib.strCells s) W') (hp : p = .pointer (some ⟨bb, 0, none⟩)) (h2 : Below B0 W W') (h3 : Lib.OthersKept 5 (some bb) W W') :
    DI N B0 bb w W0 (bs ++ s.data.toList) W' ∧ Keep3 N tb W W' ∧ NoRow N W' := by
  subst hp
  have e1 : Lib.byteCells bs ++ Lib.strCells s = Lib.byteCells (bs ++ s.data.toList) := by rw [Lib.strCells_eq]; simp [Lib.byteCells]
  rw [e1] at h1
  have hB : Lib.IsBuilderF 50 5 B0 bb (Lib.byteCells (bs ++ s.data.toList)) W' := .inr h1
  have hn' : ∀ k, N ≤ k → k < N + 3 → W'.heap[k]? = W.heap[k]? := fun k k1 k2 => by
    obtain ⟨o, ho, hq⟩ := hn k k1 k2
    rw [ho]
    exact h3 k o ho (fun e => by cases e; omega) hq
  have hnr : NoRow N W' := fun k k1 k2 => by
    obtain ⟨o, ho, hq⟩ := hn k k1 k2
    exact ⟨o, (hn' k k1 k2).trans ho, hq⟩
  have htW := h.kept tb _ htb ht (fun e => hne (Option.some.inj e)) (fun c fz e => by injection e with _ e2 _; exact absurd e2 (by decide))
  refine ⟨⟨hB, fun v hv k k1 k2 hk => ?_, fun k o hk g1 g2 g3 => h3 k o (h.kept k o hk g1 g2 g3) g2 g3, h.below.trans h2⟩, ⟨h2.size, hn', ?_⟩, hnr⟩
  · obtain ⟨v', hv', hr⟩ := isb_cell hB
    obtain rfl : v' = v := by rw [hv'] at hv; exact Option.some.inj hv
    obtain ⟨cur, fz, hg⟩ := hr k hk
    obtain ⟨o, ho, hq⟩ := hnr k k1 k2
    rw [hg] at ho
    exact hq _ _ (Option.some.inj ho).symm
  · rw [htW]
    exact h3 tb _ htW (fun e => hne (Option.some.inj e)) (fun c fz e => by injection e with _ e2 _; exact absurd e2 (by decide))
/-- The strings.Builder's writer. -/
theorem WriteString_k (B b : Nat) (bs : List Value) (s : ByteArray) (w : World) (h : Lib.IsBuilderF 50 5 B b bs w) (hlen : bs.length + s.size ≤ 140737488355328) (hBw : B ≤ w.heap.size) :
    Calls Tryd.prog 35 #[.pointer (some ⟨b, 0, none⟩), .string s] w fun e w' => e = .returned (.tuple #[.int .i64 s.size, .nilIface]) ∧ (Lib.BuilderAtF 50 5 B b (.pointer (some ⟨b, 0, none⟩)) (bs ++ Lib.strCells s) w' ∧ Below B w w' ∧ Lib.OthersKept 5 (some b) w w') :=
  Any.Builder_WriteString_k { Tryd.lays156 with } Tryd.Builder_Extra_156 B b bs s w h hlen hBw
end Go.Proofs.YteaeekhepgjliaaDoor
