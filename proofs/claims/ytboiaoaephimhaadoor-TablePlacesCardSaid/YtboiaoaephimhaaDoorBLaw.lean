/- The plain law of parsing: what a text's items are. No program is named here but the lines' law. -/
import Derived.Test.YtboiaoaephimhaaDoorBSplit
import Derived.Test.YtboiaoaephimhaaDoorBFoot
namespace Go.Proofs.YtboiaoaephimhaaDoor.B
open Go.RowKit

structure Fd where
  key : List UInt8
  val : List UInt8
structure It where
  kind : Nat
  raw : List UInt8
  fields : List Fd
/-- The field that lines say; an error's number. -/
def fieldOf (l0 : List UInt8) (r : List (List UInt8)) : Fd :=
  ⟨ahead 58 l0, Lib.join (Lib.trimPrefix (behind 58 l0) [32] :: r.map fun s => Lib.trimPrefix (s.drop 1) [46]) [10]⟩
def unfoldN : List (List UInt8) → Nat
  | [] => 2
  | l0 :: r => if kindOf l0 ≠ 4 then 2 else if r.any (fun s => kindOf s != 3) = true then 2 else if 1000 < (fieldOf l0 r).val.length then 6 else 0
theorem unfoldN_cons (l0 : List UInt8) (r : List (List UInt8)) : unfoldN (l0 :: r) = if kindOf l0 ≠ 4 then 2 else if r.any (fun s => kindOf s != 3) = true then 2 else if 1000 < (fieldOf l0 r).val.length then 6 else 0 := rfl
def unfoldF : List (List UInt8) → Fd
  | [] => ⟨[], []⟩
  | l0 :: r => fieldOf l0 r
/-- What is under way. -/
structure Ps where
  lines : List (List UInt8)
  from_ : Int
  full : Bool
  items : List It
  block : List (List UInt8)
  fields : List Fd
  records : Nat
def Ps.zero : Ps := ⟨[], 0, false, [], [], [], 0⟩
structure Res where
  err : Nat
  at_ : Int
  st : Ps
def Ps.flushed (p : Ps) : Ps := { p with fields := p.fields ++ [unfoldF p.lines], lines := [] }
def Ps.flush (p : Ps) : Res :=
  if p.lines = [] then ⟨0, 0, p⟩ else if unfoldN p.lines ≠ 0 then ⟨unfoldN p.lines, p.from_, p⟩ else if p.full = true then ⟨11, p.from_, p⟩ else ⟨0, 0, p.flushed⟩
/-- The item that a block is. -/
def Ps.item (p : Ps) : It := ⟨if p.fields = [] then 2 else 3, Lib.join p.block [10] ++ [10], p.fields⟩
def Ps.ended (p : Ps) : Ps :=
  if p.block = [] then { p with block := [], fields := [] } else { p with items := p.items ++ [p.item], records := if p.fields = [] then p.records else p.records + 1, block := [], fields := [] }
def Ps.fin (p : Ps) : Res := if p.flush.err ≠ 0 then p.flush else ⟨0, 0, p.flush.st.ended⟩
def Ps.begun (p : Ps) (l : LineD) : Ps := { p with lines := [l.text], from_ := l.no, full := decide (p.fields.length = 40) || (decide (p.fields.length = 0) && decide (p.records = 400)) }
def Ps.more (p : Ps) (l : LineD) : Ps := { p with lines := p.lines ++ [l.text] }
def Ps.aheadOf (p : Ps) (l : LineD) (kind : Nat) : Res :=
  if kind = 3 then (if p.lines = [] then ⟨2, l.no, p⟩ else if l.ended = true then ⟨0, 0, p.more l⟩ else (p.more l).flush)
  else if kind = 1 then p.fin else p.flush
def Ps.kept (p : Ps) (l : LineD) : Ps := { p with block := p.block ++ [l.text] }
def Ps.blank (p : Ps) (l : LineD) : Ps := { p with items := p.items ++ [⟨1, l.text ++ [10], []⟩] }
def Ps.taken (p : Ps) (l : LineD) (kind : Nat) : Res :=
  if kind = 5 ∨ l.ended = false then ⟨2, l.no, p⟩ else if kind = 1 then ⟨0, 0, p.blank l⟩ else if kind = 4 then ⟨0, 0, (p.begun l).kept l⟩ else ⟨0, 0, p.kept l⟩
def Ps.take (p : Ps) (l : LineD) : Res :=
  if (p.aheadOf l (kindOf l.text)).err ≠ 0 then p.aheadOf l (kindOf l.text) else (p.aheadOf l (kindOf l.text)).st.taken l (kindOf l.text)
def parseFrom (p : Ps) : List LineD → Res
  | [] => ⟨0, 0, p⟩
  | l :: r => if (p.take l).err ≠ 0 then p.take l else parseFrom (p.take l).st r
def parse (t : List UInt8) : Res := if (parseFrom Ps.zero (splitL t)).err ≠ 0 then parseFrom Ps.zero (splitL t) else (parseFrom Ps.zero (splitL t)).st.fin
theorem parseFrom_snoc (p : Ps) (pre : List LineD) (x : LineD) (h : (parseFrom p pre).err = 0) :
    parseFrom p (pre ++ [x]) = if ((parseFrom p pre).st.take x).err ≠ 0 then (parseFrom p pre).st.take x else ⟨0, 0, ((parseFrom p pre).st.take x).st⟩ := by
  induction pre generalizing p with
  | nil => rfl
  | cons l r ih =>
    have e : parseFrom p (l :: r) = if (p.take l).err ≠ 0 then p.take l else parseFrom (p.take l).st r := rfl
    have e2 : parseFrom p ((l :: r) ++ [x]) = if (p.take l).err ≠ 0 then p.take l else parseFrom (p.take l).st (r ++ [x]) := rfl
    rw [e] at h ⊢
    rw [e2]
    by_cases hz : (p.take l).err ≠ 0
    · rw [if_pos hz] at h; exact absurd h hz
    · rw [if_neg hz] at h ⊢
      rw [if_neg hz]
      exact ih _ h
/-- An error stops all that follows. -/
theorem parseFrom_stop (p : Ps) (pre suf : List LineD) (h : (parseFrom p pre).err ≠ 0) : parseFrom p (pre ++ suf) = parseFrom p pre := by
  induction pre generalizing p with
  | nil => exact absurd rfl h
  | cons l r ih =>
    have e : parseFrom p (l :: r) = if (p.take l).err ≠ 0 then p.take l else parseFrom (p.take l).st r := rfl
    have e2 : parseFrom p ((l :: r) ++ suf) = if (p.take l).err ≠ 0 then p.take l else parseFrom (p.take l).st (r ++ suf) := rfl
    rw [e] at h ⊢
    rw [e2]
    by_cases hz : (p.take l).err ≠ 0
    · rw [if_pos hz, if_pos hz]
    · rw [if_neg hz] at h ⊢
      rw [if_neg hz]
      exact ih _ h
end Go.Proofs.YtboiaoaephimhaaDoor.B
