/- Rows of texts that came in. -/
import Derived.Test.YtboiaoaephimhaaDoorTRows
namespace Go.Proofs.YtboiaoaephimhaaDoor.T
open Go.RowKit

/-- A row of texts that came in. -/
def StrArg (w : World) (u : Value) (r : List ByteArray) : Prop := r.length ≤ 9223372036854775807 ∧ (∀ s ∈ r, s.size ≤ 9223372036854775807) ∧
  ((u = .slice none 0 0 ∧ r = []) ∨ ∃ a cp, u = .slice (some a) r.length cp ∧ ∀ (k : Nat) (s : ByteArray), r[k]? = some s → a.block < w.heap.size ∧ w.cell? (a.add k) = some (.string s))
theorem StrArg.at_ {w : World} {u : Value} {r : List ByteArray} (h : StrArg w u r) : StrsAt w.heap.size w u r := by
  rcases h.2.2 with ⟨h0, h1⟩ | ⟨a, cp, h0, h1⟩
  · exact ⟨none, 0, by rw [h0, h1]; rfl, fun k s hs => by rw [h1] at hs; simp at hs⟩
  · exact ⟨some a, cp, h0, fun k s hs => ⟨a, rfl, h1 k s hs⟩⟩
/-- Rows of texts that came in. -/
def RowsArg (w : World) (v : Value) (rs : List (List ByteArray)) : Prop := ∃ (ao : Option Addr) (cp : Nat), v = .slice ao rs.length cp ∧ rs.length ≤ 9223372036854775807 ∧
  ∀ (k : Nat) (r : List ByteArray), rs[k]? = some r → ∃ a u, ao = some a ∧ a.block < w.heap.size ∧ w.cell? (a.add k) = some u ∧ StrArg w u r
theorem RowsArg.at_ {w : World} {v : Value} {rs : List (List ByteArray)} (h : RowsArg w v rs) : RowsAt w.heap.size w v rs :=
  let ⟨ao, cp, h1, _, h3⟩ := h
  ⟨ao, cp, h1, fun k r hr => let ⟨a, u, h4, h5, h6, h7⟩ := h3 k r hr; ⟨a, u, h4, h5, h6, h7.at_⟩⟩
end Go.Proofs.YtboiaoaephimhaaDoor.T
