/- The plain law of parsing: what a text's items are. No program is named here but the lines' law. What every parsed item is: few fields, short values; an item with fields is a stanza. No program is named here. Where a parser lies in the heap: its own block and its rows. -/
import Derived.Test.YtklbbcemacpimaaGreatDoorBSplit
import Derived.Test.YtklbbcemacpimaaGreatDoorBPlain
import Derived.Lib.SmallJoins
import Derived.Deep.AppendLies
namespace Go.Proofs.YtklbbcemacpimaaGreatDoor.B
open Go.RowKit

structure Fd where
  key : List UInt8
  val : List UInt8
structure It where
  kind : Nat
  raw : List UInt8
  fields : List Fd
/-- The field that lines say; an error's number. -/
def fieldOf (l0 : List UInt8) (r : List (List UInt8)) : Fd :=
  ⟨ahead 58 l0, Lib.join (Lib.trimPrefix (behind 58 l0) [32] :: r.map fun s => Lib.trimPrefix (s.drop 1) [46]) [10]⟩
def unfoldN : List (List UInt8) → Nat
  | [] => 2
  | l0 :: r => if kindOf l0 ≠ 4 then 2 else if r.any (fun s => kindOf s != 3) = true then 2 else if 1000 < (fieldOf l0 r).val.length then 6 else 0
theorem unfoldN_cons (l0 : List UInt8) (r : List (List UInt8)) : unfoldN (l0 :: r) = if kindOf l0 ≠ 4 then 2 else if r.any (fun s => kindOf s != 3) = true then 2 else if 1000 < (fieldOf l0 r).val.length then 6 else 0 := rfl
def unfoldF : List (List UInt8) → Fd
  | [] => ⟨[], []⟩
  | l0 :: r => fieldOf l0 r
/-- What is under way. -/
structure Ps where
  lines : List (List UInt8)
  from_ : Int
  full : Bool
  items : List It
  block : List (List UInt8)
  fields : List Fd
  records : Nat
def Ps.zero : Ps := ⟨[], 0, false, [], [], [], 0⟩
structure Res where
  err : Nat
  at_ : Int
  st : Ps
def Ps.flushed (p : Ps) : Ps := { p with fields := p.fields ++ [unfoldF p.lines], lines := [] }
def Ps.flush (p : Ps) : Res :=
  if p.lines = [] then ⟨0, 0, p⟩ else if unfoldN p.lines ≠ 0 then ⟨unfoldN p.lines, p.from_, p⟩ else if p.full = true then ⟨11, p.from_, p⟩ else ⟨0, 0, p.flushed⟩
/-- The item that a block is. -/
def Ps.item (p : Ps) : It := ⟨if p.fields = [] then 2 else 3, Lib.join p.block [10] ++ [10], p.fields⟩
def Ps.ended (p : Ps) : Ps :=
  if p.block = [] then { p with block := [], fields := [] } else { p with items := p.items ++ [p.item], records := if p.fields = [] then p.records else p.records + 1, block := [], fields := [] }
def Ps.fin (p : Ps) : Res := if p.flush.err ≠ 0 then p.flush else ⟨0, 0, p.flush.st.ended⟩
def Ps.begun (p : Ps) (l : LineD) : Ps := { p with lines := [l.text], from_ := l.no, full := decide (p.fields.length = 40) || (decide (p.fields.length = 0) && decide (p.records = 400)) }
def Ps.more (p : Ps) (l : LineD) : Ps := { p with lines := p.lines ++ [l.text] }
def Ps.aheadOf (p : Ps) (l : LineD) (kind : Nat) : Res :=
  if kind = 3 then (if p.lines = [] then ⟨2, l.no, p⟩ else if l.ended = true then ⟨0, 0, p.more l⟩ else (p.more l).flush)
  else if kind = 1 then p.fin else p.flush
def Ps.kept (p : Ps) (l : LineD) : Ps := { p with block := p.block ++ [l.text] }
def Ps.blank (p : Ps) (l : LineD) : Ps := { p with items := p.items ++ [⟨1, l.text ++ [10], []⟩] }
def Ps.taken (p : Ps) (l : LineD) (kind : Nat) : Res :=
  if kind = 5 ∨ l.ended = false then ⟨2, l.no, p⟩ else if kind = 1 then ⟨0, 0, p.blank l⟩ else if kind = 4 then ⟨0, 0, (p.begun l).kept l⟩ else ⟨0, 0, p.kept l⟩
def Ps.take (p : Ps) (l : LineD) : Res :=
  if (p.aheadOf l (kindOf l.text)).err ≠ 0 then p.aheadOf l (kindOf l.text) else (p.aheadOf l (kindOf l.text)).st.taken l (kindOf l.text)
def parseFrom (p : Ps) : List LineD → Res
  | [] => ⟨0, 0, p⟩
  | l :: r => if (p.take l).err ≠ 0 then p.take l else parseFrom (p.take l).st r
def parse (t : List UInt8) : Res := if (parseFrom Ps.zero (splitL t)).err ≠ 0 then parseFrom Ps.zero (splitL t) else (parseFrom Ps.zero (splitL t)).st.fin
theorem parseFrom_snoc (p : Ps) (pre : List LineD) (x : LineD) (h : (parseFrom p pre).err = 0) :
    parseFrom p (pre ++ [x]) = if ((parseFrom p pre).st.take x).err ≠ 0 then (parseFrom p pre).st.take x else ⟨0, 0, ((parseFrom p pre).st.take x).st⟩ := by
  induction pre generalizing p with
  | nil => rfl
  | cons l r ih =>
    have e : parseFrom p (l :: r) = if (p.take l).err ≠ 0 then p.take l else parseFrom (p.take l).st r := rfl
    have e2 : parseFrom p ((l :: r) ++ [x]) = if (p.take l).err ≠ 0 then p.take l else parseFrom (p.take l).st (r ++ [x]) := rfl
    rw [e] at h ⊢
    rw [e2]
    by_cases hz : (p.take l).err ≠ 0
    · rw [if_pos hz] at h; exact absurd h hz
    · rw [if_neg hz] at h ⊢
      rw [if_neg hz]
      exact ih _ h
/-- An error stops all that follows. -/
theorem parseFrom_stop (p : Ps) (pre suf : List LineD) (h : (parseFrom p pre).err ≠ 0) : parseFrom p (pre ++ suf) = parseFrom p pre := by
  induction pre generalizing p with
  | nil => exact absurd rfl h
  | cons l r ih =>
    have e : parseFrom p (l :: r) = if (p.take l).err ≠ 0 then p.take l else parseFrom (p.take l).st r := rfl
    have e2 : parseFrom p ((l :: r) ++ suf) = if (p.take l).err ≠ 0 then p.take l else parseFrom (p.take l).st (r ++ suf) := rfl
    rw [e] at h ⊢
    rw [e2]
    by_cases hz : (p.take l).err ≠ 0
    · rw [if_pos hz, if_pos hz]
    · rw [if_neg hz] at h ⊢
      rw [if_neg hz]
      exact ih _ h
end Go.Proofs.YtklbbcemacpimaaGreatDoor.B

namespace Go.Proofs.YtklbbcemacpimaaGreatDoor.B
open Go.RowKit

def FsFine (fs : List Fd) : Prop := fs.length ≤ 40 ∧ ∀ f ∈ fs, f.val.length ≤ 1000
theorem FsFine.nil : FsFine [] := ⟨by simp, fun f h => by simp at h⟩
def It.Fine (x : It) : Prop := FsFine x.fields ∧ (x.kind = 3 ↔ x.fields ≠ [])
structure Ps.Fine (p : Ps) : Prop where
  fields : FsFine p.fields
  items : ∀ x ∈ p.items, x.Fine
  room : p.lines ≠ [] → p.full = false → p.fields.length < 40
theorem Ps.zero_fine : Ps.zero.Fine := ⟨FsFine.nil, fun x h => by simp [Ps.zero] at h, fun h => absurd rfl h⟩
theorem unfoldF_val {ls : List (List UInt8)} (h : unfoldN ls = 0) : (unfoldF ls).val.length ≤ 1000 := by
  cases ls with
  | nil => simp [unfoldN] at h
  | cons l0 r =>
    rw [unfoldN_cons] at h
    split at h
    · cases h
    split at h
    · cases h
    split at h
    · cases h
    · show (fieldOf l0 r).val.length ≤ 1000
      omega
theorem Ps.Fine.flush {p : Ps} (h : p.Fine) : p.flush.st.Fine := by
  unfold Ps.flush
  split
  · exact h
  split
  · exact h
  split
  · exact h
  · rename_i h1 h2 h3
    refine ⟨⟨?_, ?_⟩, h.items, fun h => absurd rfl h⟩
    · show (p.fields ++ [unfoldF p.lines]).length ≤ 40
      have := h.room h1 (by simpa using h3)
      simp; omega
    · intro f hf
      rcases List.mem_append.1 hf with hf | hf
      · exact h.fields.2 f hf
      · rw [List.mem_singleton.1 hf]
        exact unfoldF_val (by simpa using h2)
theorem Ps.Fine.item {p : Ps} (h : p.Fine) : p.item.Fine := by
  refine ⟨h.fields, ?_⟩
  show (if p.fields = [] then 2 else 3) = 3 ↔ p.fields ≠ []
  by_cases e : p.fields = [] <;> simp [e]
/-- Behind an end no field is under way. -/
theorem Ps.Fine.ended {p : Ps} (h : p.Fine) (hl : p.lines = []) : p.ended.Fine := by
  unfold Ps.ended
  split
  · exact ⟨FsFine.nil, h.items, fun e => absurd hl e⟩
  · refine ⟨FsFine.nil, fun x hx => ?_, fun e => absurd hl e⟩
    rcases List.mem_append.1 hx with hx | hx
    · exact h.items x hx
    · rw [List.mem_singleton.1 hx]
      exact h.item
theorem flush_lines {p : Ps} (h : p.flush.err = 0) : p.flush.st.lines = [] := by
  unfold Ps.flush at h ⊢
  split
  · rename_i h1; exact h1
  rename_i h1
  rw [if_neg h1] at h
  split
  · rename_i h2; rw [if_pos h2] at h; exact absurd h h2
  rename_i h2
  rw [if_neg h2] at h
  split
  · rename_i h3; rw [if_pos h3] at h; cases h
  · rfl
theorem Ps.Fine.fin {p : Ps} (h : p.Fine) : p.fin.st.Fine := by
  unfold Ps.fin
  split
  · exact h.flush
  · rename_i h1
    exact h.flush.ended (flush_lines (by simpa using h1))
theorem Ps.Fine.more {p : Ps} (h : p.Fine) (hl : p.lines ≠ []) (l : LineD) : (p.more l).Fine := ⟨h.fields, h.items, fun _ => h.room hl⟩
theorem Ps.Fine.aheadOf {p : Ps} (h : p.Fine) (l : LineD) (kind : Nat) : (p.aheadOf l kind).st.Fine := by
  unfold Ps.aheadOf
  split
  · split
    · exact h
    rename_i h1
    split
    · exact h.more h1 l
    · exact (h.more h1 l).flush
  · split
    · exact h.fin
    · exact h.flush
theorem Ps.Fine.taken {p : Ps} (h : p.Fine) (l : LineD) (kind : Nat) : (p.taken l kind).st.Fine := by
  unfold Ps.taken
  split
  · exact h
  split
  · refine ⟨h.fields, fun x hx => ?_, h.room⟩
    rcases List.mem_append.1 hx with hx | hx
    · exact h.items x hx
    · rw [List.mem_singleton.1 hx]
      exact ⟨FsFine.nil, by simp⟩
  split
  · refine ⟨h.fields, h.items, fun _ hf => ?_⟩
    have h1 : (decide (p.fields.length = 40) || (decide (p.fields.length = 0) && decide (p.records = 400))) = false := hf
    have h2 := h.fields.1
    simp only [Bool.or_eq_false_iff, decide_eq_false_iff_not] at h1
    show p.fields.length < 40
    omega
  · exact ⟨h.fields, h.items, h.room⟩
theorem Ps.Fine.take {p : Ps} (h : p.Fine) (l : LineD) : (p.take l).st.Fine := by
  unfold Ps.take
  split
  · exact h.aheadOf l _
  · exact (h.aheadOf l _).taken l _
theorem parseFrom_fine : ∀ (ls : List LineD) {p : Ps}, p.Fine → (parseFrom p ls).st.Fine
  | [], _, h => h
  | l :: r, p, h => by
    show (if (p.take l).err ≠ 0 then p.take l else parseFrom (p.take l).st r).st.Fine
    split
    · exact h.take l
    · exact parseFrom_fine r (h.take l)
theorem parse_fine (t : List UInt8) : (parse t).st.Fine := by
  unfold parse
  split
  · exact parseFrom_fine _ Ps.zero_fine
  · exact (parseFrom_fine _ Ps.zero_fine).fin
/-! ### How many stanzas -/
def recs (xs : List It) : Nat := (xs.filter fun x => x.kind = 3).length
theorem recs_app (xs ys : List It) : recs (xs ++ ys) = recs xs + recs ys := by unfold recs; rw [List.filter_append, List.length_append]
structure Ps.Few (p : Ps) : Prop where
  rec_ : recs p.items = p.records
  le : p.records ≤ 400
  fs : p.fields ≠ [] → p.records < 400
  ln : p.lines ≠ [] → p.full = false → p.records < 400
theorem Ps.zero_few : Ps.zero.Few := ⟨rfl, by simp [Ps.zero], fun h => absurd rfl h, fun h => absurd rfl h⟩
theorem Ps.Few.flush {p : Ps} (h : p.Few) : p.flush.st.Few := by
  unfold Ps.flush
  split
  · exact h
  split
  · exact h
  split
  · exact h
  · rename_i h1 h2 h3
    exact ⟨h.rec_, h.le, fun _ => h.ln h1 (by simpa using h3), fun h => absurd rfl h⟩
theorem Ps.Few.ended {p : Ps} (h : p.Few) (hl : p.lines = []) : p.ended.Few := by
  unfold Ps.ended
  split
  · exact ⟨h.rec_, h.le, fun e => absurd rfl e, fun e => absurd hl e⟩
  · refine ⟨?_, ?_, fun e => absurd rfl e, fun e => absurd hl e⟩
    · show recs (p.items ++ [p.item]) = if p.fields = [] then p.records else p.records + 1
      rw [recs_app, h.rec_]
      unfold Ps.item recs
      by_cases e : p.fields = [] <;> simp [e]
    · show (if p.fields = [] then p.records else p.records + 1) ≤ 400
      have := h.le
      split
      · exact this
      · rename_i e; exact h.fs e
theorem Ps.Few.fin {p : Ps} (h : p.Few) : p.fin.st.Few := by
  unfold Ps.fin
  split
  · exact h.flush
  · rename_i h1
    exact h.flush.ended (flush_lines (by simpa using h1))
theorem Ps.Few.more {p : Ps} (h : p.Few) (hl : p.lines ≠ []) (l : LineD) : (p.more l).Few := ⟨h.rec_, h.le, h.fs, fun _ => h.ln hl⟩
theorem Ps.Few.aheadOf {p : Ps} (h : p.Few) (l : LineD) (kind : Nat) : (p.aheadOf l kind).st.Few := by
  unfold Ps.aheadOf
  split
  · split
    · exact h
    rename_i h1
    split
    · exact h.more h1 l
    · exact (h.more h1 l).flush
  · split
    · exact h.fin
    · exact h.flush
theorem Ps.Few.taken {p : Ps} (h : p.Few) (l : LineD) (kind : Nat) : (p.taken l kind).st.Few := by
  unfold Ps.taken
  split
  · exact h
  split
  · refine ⟨?_, h.le, h.fs, h.ln⟩
    show recs (p.items ++ [_]) = p.records
    rw [recs_app, h.rec_]; rfl
  split
  · refine ⟨h.rec_, h.le, h.fs, fun _ hf => ?_⟩
    have h1 : (decide (p.fields.length = 40) || (decide (p.fields.length = 0) && decide (p.records = 400))) = false := hf
    have h2 := h.le
    show p.records < 400
    by_cases e : p.fields = []
    · rw [e] at h1
      simp at h1
      omega
    · exact h.fs e
  · exact ⟨h.rec_, h.le, h.fs, h.ln⟩
theorem Ps.Few.take {p : Ps} (h : p.Few) (l : LineD) : (p.take l).st.Few := by
  unfold Ps.take
  split
  · exact h.aheadOf l _
  · exact (h.aheadOf l _).taken l _
theorem parseFrom_few : ∀ (ls : List LineD) {p : Ps}, p.Few → (parseFrom p ls).st.Few
  | [], _, h => h
  | l :: r, p, h => by
    show (if (p.take l).err ≠ 0 then p.take l else parseFrom (p.take l).st r).st.Few
    split
    · exact h.take l
    · exact parseFrom_few r (h.take l)
theorem parse_few (t : List UInt8) : recs (parse t).st.items ≤ 400 := by
  have key : (parse t).st.Few := by
    unfold parse
    split
    · exact parseFrom_few _ Ps.zero_few
    · exact (parseFrom_few _ Ps.zero_few).fin
  rw [key.rec_]; exact key.le
end Go.Proofs.YtklbbcemacpimaaGreatDoor.B

namespace Go.Proofs.YtklbbcemacpimaaGreatDoor.B
open Go.RowKit Go.Shelf

def strC (l : List UInt8) : List Value := [.string ⟨l.toArray⟩]
def Fd.cells (f : Fd) : List Value := [.string ⟨f.key.toArray⟩, .string ⟨f.val.toArray⟩]
/-- The values that the parser's block holds, and its items' rows of fields. -/
structure Pay where
  vl : Value
  vi : Value
  vb : Value
  vf : Value
  vis : List Value
def It.cells (x : It) (v : Value) : List Value := [.int .i64 x.kind, .string ⟨x.raw.toArray⟩, v]
def itemCells (xs : List It) (vs : List Value) : List Value := (xs.zip vs).flatMap fun p => p.1.cells p.2
def Ps.cells (p : Ps) (L : Pay) : Array Value := #[L.vl, .int .i64 p.from_, .bool p.full, L.vi, L.vb, L.vf, .int .i64 p.records]
/-- The parser lies in block b. -/
structure ParserAt (w : World) (ρ : Col) (b : Nat) (p : Ps) (L : Pay) : Prop where
  blk : Blk w ρ 0 b (.cells (p.cells L) 106 (0, 0))
  rowL : Row w ρ 1 9 1 L.vl p.lines.length (p.lines.flatMap strC)
  rowI : Row w ρ 2 65 3 L.vi p.items.length (itemCells p.items L.vis)
  rowB : Row w ρ 3 9 1 L.vb p.block.length (p.block.flatMap strC)
  rowF : Row w ρ (5 + p.items.length) 57 2 L.vf p.fields.length (p.fields.flatMap Fd.cells)
  len : L.vis.length = p.items.length
  its : ∀ (i : Nat) v x, L.vis[i]? = some v → p.items[i]? = some x → Row w ρ (5 + i) 57 2 v x.fields.length (x.fields.flatMap Fd.cells)
  nilF : p.fields = [] → L.vf = .slice none 0 0
  fits : Fits w ρ
theorem ParserAt.keep {w w' : World} {ρ ρ' σ : Col} {b : Nat} {p : Ps} {L : Pay} (h : ParserAt w ρ b p L) (he : Ext w ρ ρ') (k : Kept σ w w') (hσ : ∀ g, ρ g ≠ none → σ g = none) (hf : Fits w' ρ') : ParserAt w' ρ' b p L where
  blk := h.blk.keep he k (hσ _ (by rw [h.blk.2]; simp))
  rowL := h.rowL.keep he k fun g hg => hσ g (by rw [hg]; simp)
  rowI := h.rowI.keep he k fun g hg => hσ g (by rw [hg]; simp)
  rowB := h.rowB.keep he k fun g hg => hσ g (by rw [hg]; simp)
  rowF := h.rowF.keep he k fun g hg => hσ g (by rw [hg]; simp)
  len := h.len
  its := fun i v x h1 h2 => (h.its i v x h1 h2).keep he k fun g hg => hσ g (by rw [hg]; simp)
  nilF := h.nilF
  fits := hf
theorem ParserAt.below {w w' : World} {ρ : Col} {b : Nat} {p : Ps} {L : Pay} (h : ParserAt w ρ b p L) (hb : Below w.heap.size w w') : ParserAt w' ρ b p L :=
  h.keep (Ext.refl _ _) (σ := fun _ => none) (Kept.below hb) (fun _ _ => rfl) (h.fits.more hb.size)
def IsParser (w : World) (ρ : Col) (b : Nat) (p : Ps) : Prop := ∃ L, ParserAt w ρ b p L
theorem IsParser.below {w w' : World} {ρ : Col} {b : Nat} {p : Ps} (h : IsParser w ρ b p) (hb : Below w.heap.size w w') : IsParser w' ρ b p := let ⟨L, hL⟩ := h; ⟨L, hL.below hb⟩
/-- A call turned the parser into p'; what is not the parser's is as it was. -/
def Became (w : World) (ρ : Col) (b : Nat) (p' : Ps) (w' : World) : Prop := ∃ ρ', IsParser w' ρ' b p' ∧ Ext w ρ ρ' ∧ Kept ρ w w'
theorem Became.same {w w' : World} {ρ : Col} {b : Nat} {p : Ps} (h : IsParser w ρ b p) (hb : Below w.heap.size w w') : Became w ρ b p w' := ⟨ρ, h.below hb, Ext.refl _ _, Kept.below hb⟩
theorem Became.below {w w' w'' : World} {ρ : Col} {b : Nat} {p : Ps} (h : Became w ρ b p w') (hb : Below w'.heap.size w' w'') : Became w ρ b p w'' := by
  obtain ⟨ρ', h1, h2, h3⟩ := h
  exact ⟨ρ', h1.below hb, h2, h3.trans h2 (Kept.below hb)⟩
theorem Became.next {w w' w'' : World} {ρ ρ' : Col} {b : Nat} {p : Ps} (he : Ext w ρ ρ') (hk : Kept ρ w w') (h : Became w' ρ' b p w'') : Became w ρ b p w'' := by
  obtain ⟨ρ'', h1, h2, h3⟩ := h
  exact ⟨ρ'', h1, he.trans h2 hk.size, hk.trans he h3⟩
theorem Became.from {w w' w'' : World} {ρ : Col} {b : Nat} {p : Ps} (hb : Below w.heap.size w w') (h : Became w' ρ b p w'') : Became w ρ b p w'' := h.next (Ext.refl _ _) (Kept.below hb)
/-- The parser's own cells, for a walk. -/
structure ParserCells (w : World) (b : Nat) (p : Ps) (L : Pay) : Prop where
  c0 : w.cell? ⟨b, 0, none⟩ = some L.vl
  c1 : w.cell? ⟨b, 1, none⟩ = some (.int .i64 p.from_)
  c2 : w.cell? ⟨b, 2, none⟩ = some (.bool p.full)
  c3 : w.cell? ⟨b, 3, none⟩ = some L.vi
  c4 : w.cell? ⟨b, 4, none⟩ = some L.vb
  c5 : w.cell? ⟨b, 5, none⟩ = some L.vf
  c6 : w.cell? ⟨b, 6, none⟩ = some (.int .i64 p.records)
  f0 : w.frozen? ⟨b, 0, none⟩ = false
  f1 : w.frozen? ⟨b, 1, none⟩ = false
  f2 : w.frozen? ⟨b, 2, none⟩ = false
  f3 : w.frozen? ⟨b, 3, none⟩ = false
  f4 : w.frozen? ⟨b, 4, none⟩ = false
  f5 : w.frozen? ⟨b, 5, none⟩ = false
  f6 : w.frozen? ⟨b, 6, none⟩ = false
theorem cell_of_row (w : World) (b i : Nat) (cs : Array Value) (T : TypeId) (h : w.heap[b]? = some (.cells cs T (0, 0))) : w.cell? ⟨b, i, none⟩ = cs[i]? := by simp [World.cell?, h]
theorem frozen_of_row (w : World) (b i : Nat) (cs : Array Value) (T : TypeId) (h : w.heap[b]? = some (.cells cs T (0, 0))) : w.frozen? ⟨b, i, none⟩ = false := by simp [World.frozen?, h]
theorem ParserAt.cells {w : World} {ρ : Col} {b : Nat} {p : Ps} {L : Pay} (h : ParserAt w ρ b p L) : ParserCells w b p L := by
  have c := fun j => cell_of_row w b j _ _ h.blk.1
  have f := fun j => frozen_of_row w b j _ _ h.blk.1
  exact ⟨c 0, c 1, c 2, c 3, c 4, c 5, c 6, f 0, f 1, f 2, f 3, f 4, f 5, f 6⟩
/-- A store into a block that is known whole. -/
theorem Blk.store {w : World} {ρ : Col} {c b i : Nat} {cs : Array Value} {T : TypeId} {v : Value} (h : Blk w ρ c b (.cells cs T (0, 0))) : Blk (w.setCell ⟨b, i, none⟩ v) ρ c b (.cells (cs.setIfInBounds i v) T (0, 0)) ∧ Kept (Only c ρ) w (w.setCell ⟨b, i, none⟩ v) := by
  refine ⟨⟨?_, h.2⟩, Kept.setCell (by rw [only_some h.2]; simp)⟩
  simp only [World.setCell, Array.getElem?_modify]
  rw [if_pos trivial, h.1]
  rfl
theorem Row.shape {w : World} {ρ : Col} {c : Nat} {e : TypeId} {size : Nat} {v : Value} {n : Nat} {xs : List Value} (h : Row w ρ c e size v n xs) : ∃ ao cp, v = .slice ao n cp := by
  rcases h.1.2 with ⟨rfl, rfl⟩ | ⟨g, cp, cur, rfl, _⟩
  · exact ⟨_, _, rfl⟩
  · exact ⟨_, _, rfl⟩
/-- The parts of the parser that a change of some colours leaves as they were. -/
theorem ParserAt.parts {w w' : World} {ρ ρ' : Col} {b : Nat} {p : Ps} {L : Pay} {q : Nat → Bool} (h : ParserAt w ρ b p L) (he : Ext w ρ ρ') (K : Kept (Those q ρ) w w') :
    (q 0 = false → Blk w' ρ' 0 b (.cells (p.cells L) 106 (0, 0))) ∧
    (q 1 = false → Row w' ρ' 1 9 1 L.vl p.lines.length (p.lines.flatMap strC)) ∧
    (q 2 = false → Row w' ρ' 2 65 3 L.vi p.items.length (itemCells p.items L.vis)) ∧
    (q 3 = false → Row w' ρ' 3 9 1 L.vb p.block.length (p.block.flatMap strC)) ∧
    (q (5 + p.items.length) = false → Row w' ρ' (5 + p.items.length) 57 2 L.vf p.fields.length (p.fields.flatMap Fd.cells)) ∧
    (∀ (i : Nat) v x, L.vis[i]? = some v → p.items[i]? = some x → q (5 + i) = false → Row w' ρ' (5 + i) 57 2 v x.fields.length (x.fields.flatMap Fd.cells)) :=
  ⟨fun hp => h.blk.keep he K (those_at h.blk.2 hp), fun hp => h.rowL.keep he K fun _ hg => those_at hg hp, fun hp => h.rowI.keep he K fun _ hg => those_at hg hp, fun hp => h.rowB.keep he K fun _ hg => those_at hg hp, fun hp => h.rowF.keep he K fun _ hg => those_at hg hp,
    fun i v x a b h5 => (h.its i v x a b).keep he K fun _ hg => those_at hg h5⟩
/-- A fault at a line. -/
def faultV (g : Nat) : Value := .iface 150 (.pointer (some ⟨g, 0, none⟩))
def errnoV (k : Nat) : Value := .iface 94 (.int .i64 k)
/-- An error: a fault at a place, by an error's number, that lies in block g. -/
def FaultAt (w : World) (g : Nat) (at_ : Int) (k : Nat) : Prop := w.heap[g]? = some (.cells #[.int .i64 at_, errnoV k] 152 (0, 0))
/-- How a step of the parser ends: no error and the parser so, or a fault. -/
def StepPost (w : World) (ρ : Col) (b : Nat) (r : Res) (e : Ending) (w' : World) : Prop :=
  if r.err = 0 then e = .returned .nilIface ∧ Became w ρ b r.st w' else ∃ g, e = .returned (faultV g) ∧ w.heap.size ≤ g ∧ FaultAt w' g r.at_ r.err ∧ Kept ρ w w'
end Go.Proofs.YtklbbcemacpimaaGreatDoor.B
