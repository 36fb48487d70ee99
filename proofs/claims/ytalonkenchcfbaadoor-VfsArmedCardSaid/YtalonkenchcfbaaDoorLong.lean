/- Scripts: what the law reads of its row of operations; and whether it is long. -/
import Derived.Test.YtalonkenchcfbaaDoorAlive
namespace Go.Proofs.YtalonkenchcfbaaDoor
open Go.RowKit Go.Maps

/-- A row of operations, as the law reads it: of operation i, its five cells. -/
structure OpC where
  kind : Int
  num : Int
  name : ByteArray
  text : ByteArray
  keepA : Option Addr
  keepL : Nat
  keepC : Nat
def OpC.cells (o : OpC) : List Value := [.int .i64 o.kind, .int .i64 o.num, .string o.name, .string o.text, .slice o.keepA o.keepL o.keepC]
structure OpC.Fit (o : OpC) : Prop where
  kl : -9223372036854775808 ≤ o.kind
  kh : o.kind ≤ 9223372036854775807
  nl : -9223372036854775808 ≤ o.num
  nh : o.num ≤ 9223372036854775807
  name : o.name.size ≤ 9223372036854775807
  text : o.text.size ≤ 9223372036854775807
  keep : o.keepL ≤ 9223372036854775807
theorem add_block (a : Addr) (n : Nat) : (a.add n).block = a.block := by unfold Addr.add; split <;> rfl
/-- The cells of an operation from address p on. -/
def OpAt (w : World) (p : Addr) (o : OpC) : Prop :=
  w.cell? p = some (.int .i64 o.kind) ∧ w.cell? ⟨p.block, p.off + 1, none⟩ = some (.int .i64 o.num) ∧ w.cell? ⟨p.block, p.off + 2, none⟩ = some (.string o.name) ∧ w.cell? ⟨p.block, p.off + 3, none⟩ = some (.string o.text) ∧ w.cell? ⟨p.block, p.off + 4, none⟩ = some (.slice o.keepA o.keepL o.keepC)
theorem OpAt.below {B : Nat} {w w' : World} {p : Addr} {o : OpC} (h : OpAt w p o) (hb : Below B w w') (hp : p.block < B) : OpAt w' p o := by
  obtain ⟨h0, h1, h2, h3, h4⟩ := h
  exact ⟨(hb.cell hp).trans h0, (hb.cell (p := ⟨p.block, _, none⟩) hp).trans h1, (hb.cell (p := ⟨p.block, _, none⟩) hp).trans h2, (hb.cell (p := ⟨p.block, _, none⟩) hp).trans h3, (hb.cell (p := ⟨p.block, _, none⟩) hp).trans h4⟩
/-- The script stands in memory below block B. -/
def ScriptAt (B : Nat) (w : World) (v : Value) (l : List OpC) : Prop :=
  ∃ (ao : Option Addr) (cap : Nat), v = .slice ao l.length cap ∧ l.length ≤ 9223372036854775807 ∧
    ∀ (k : Nat) (o : OpC), l[k]? = some o → ∃ a, ao = some a ∧ a.block < B ∧ o.Fit ∧ OpAt w (a.add (k * 5)) o
theorem ScriptAt.below {B : Nat} {w w' : World} {v : Value} {l : List OpC} (h : ScriptAt B w v l) (hb : Below B w w') : ScriptAt B w' v l :=
  let ⟨ao, cap, h1, h2, h3⟩ := h
  ⟨ao, cap, h1, h2, fun k o hk => let ⟨a, h4, h5, h6, h7⟩ := h3 k o hk; ⟨a, h4, h5, h6, h7.below hb (by rw [add_block]; exact h5)⟩⟩
theorem ScriptAt.up {B B' : Nat} {w : World} {v : Value} {l : List OpC} (h : ScriptAt B w v l) (hb : B ≤ B') : ScriptAt B' w v l :=
  let ⟨ao, cap, h1, h2, h3⟩ := h
  ⟨ao, cap, h1, h2, fun k o hk => let ⟨a, h4, h5, h6⟩ := h3 k o hk; ⟨a, h4, by omega, h6⟩⟩
/-- What a row is that is not long. -/
def Short (l : List OpC) : Prop := l.length ≤ 61 ∧ ∀ o ∈ l, o.text.size ≤ 200 ∧ o.name.size ≤ 100 ∧ o.keepL ≤ 60
def LongPost (l : List OpC) (w : World) (e : Ending) (w' : World) : Prop := ∃ r : Bool, e = .returned (.bool r) ∧ Below w.heap.size w w' ∧ (r = false → Short l)
theorem script_take {l : List OpC} {k : Nat} {o : OpC} (h : l[k]? = some o) : l.take (k + 1) = l.take k ++ [o] := by
  rw [List.take_add_one, h]; rfl
set_option maxHeartbeats 1600000 in
theorem long_any (v : Value) (l : List OpC) (w : World) (h : ScriptAt w.heap.size w v l) : Calls Tryd.prog 7 #[v] w (LongPost l w) := by
  obtain ⟨ao, cap, rfl, h4, h5⟩ := h
  have H5 := Lib.hid h5
  clear h5
  go_enter Tryd.func7, Tryd.ntmps7
  go_wp2
  go_loopw [7] (fun i wr => ∃ k : Nat, i = .int .i64 k ∧ k ≤ l.length ∧ k ≤ 61 ∧ Hid (∀ o ∈ l.take k, o.text.size ≤ 200 ∧ o.name.size ≤ 100 ∧ o.keepL ≤ 60) ∧ Hid (Below w.heap.size w wr)) (fun i _ => l.length - (intOf i).toNat)
  case atStart => exact ⟨0, rfl, Nat.zero_le _, Nat.zero_le _, (by intro o ho; simp at ho), Below.refl _ _⟩
  case round =>
    obtain ⟨k, rfl, hk, hk61, hall, hw⟩ := hrel
    by_cases hlt : k < l.length
    · obtain ⟨⟨okind, onum, oname, otext, okA, okL, okC⟩, ho⟩ : ∃ o, l[k]? = some o := ⟨_, List.getElem?_eq_getElem hlt⟩
      obtain ⟨a, rfl, h2, ⟨k0, k1, k2, k3, k4, k5, k6⟩, hc⟩ := H5.out k _ ho
      obtain ⟨c0, c1, c2, c3, c4⟩ := hc.below hw.out (by rw [add_block]; exact h2)
      simp only at k0 k1 k2 k3 k4 k5 k6 c0 c1 c2 c3 c4
      have ho := Lib.hid ho
      clear hc
      have bw := Lib.hid (hw.out.alloc (by have := hw.out.size; omega) (Obj.cells #[Value.int IntKind.i64 okind, Value.int IntKind.i64 onum, Value.string oname, Value.string otext, Value.slice okA okL okC] 34))
      go_wp2
      case roundEnd =>
        rename_i t
        refine ⟨⟨k + 1, by go_num, by omega, by omega, ?_, bw⟩, by simp [intOf]; omega⟩
        show ∀ o ∈ l.take (k + 1), _
        rw [script_take ho.out]
        intro o h
        rcases List.mem_append.1 h with h | h
        · exact hall.out o h
        · obtain rfl := List.mem_singleton.1 h
          exact ⟨by simp only; omega, by simp only; omega, by simp only; omega⟩
      all_goals
        go_ret
        exact ⟨true, rfl, bw.out, fun h => by cases h⟩
    · go_wp2
      go_ret
      exact ⟨false, rfl, hw.out, fun _ => ⟨by omega, by rw [List.take_of_length_le (by omega)] at hall; exact hall.out⟩⟩
end Go.Proofs.YtalonkenchcfbaaDoor
