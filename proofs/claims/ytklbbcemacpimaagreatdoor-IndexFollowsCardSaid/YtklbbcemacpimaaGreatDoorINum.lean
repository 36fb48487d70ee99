/- Numbers and texts side by side. -/
import Derived.Test.YtklbbcemacpimaaGreatDoorIRefLaw
import Derived.Sort.EncStr
import Derived.Lib.SlKeysI
import Derived.Deep.QuietTactic
import Derived.BigQuiet
namespace Go.Proofs.YtklbbcemacpimaaGreatDoor.I
open Go Go.Maps Go.Proofs Go.RowKit Go.Sort

/-- Numbers lie in a slice. -/
def IntsAt (w : World) (v : Value) (ss : List Int) : Prop :=
  ∃ (ao : Option Addr) (cp : Nat), v = .slice ao ss.length cp ∧ ss.length ≤ 9223372036854775807 ∧ ∀ (k : Nat) f, ss[k]? = some f → ∃ a, ao = some a ∧ w.cell? (a.add k) = some (.int .i64 f)
/-- Texts lie in a slice. -/
def StrsAt (w : World) (v : Value) (ss : List L8) : Prop :=
  ∃ (ao : Option Addr) (cp : Nat), v = .slice ao ss.length cp ∧ ss.length ≤ 9223372036854775807 ∧ ∀ (k : Nat) f, ss[k]? = some f → ∃ a, ao = some a ∧ w.cell? (a.add k) = some (.string ⟨f.toArray⟩)
theorem maxLen_is : maxLen = 9223372036854775807 := by kernel_rfl
theorem IntsAt.of {w : World} {lo : Nat} {T : TypeId} {v : Value} {ss : List Int} (h : w.ownsRow lo T 1 v ss.length (ss.map encZ)) : IntsAt w v ss := by
  have hm := maxLen_is
  rcases h.2 with ⟨rfl, h0⟩ | ⟨g, cp, cur, hv, h1, h2, h3, h4, h5⟩
  · exact ⟨none, 0, by rw [h0], by omega, fun k f hk => by
      have := (List.getElem?_eq_some_iff.1 hk).1
      omega⟩
  · refine ⟨_, cp, hv, by omega, fun k f hk => ⟨_, rfl, h.cells (g := g) (by rw [hv]; rfl) k _ ?_⟩⟩
    rw [List.getElem?_map, hk]
    rfl
theorem StrsAt.of {w : World} {lo : Nat} {T : TypeId} {v : Value} {ss : List L8} (h : w.ownsRow lo T 1 v ss.length (ss.map encStr)) : StrsAt w v ss := by
  have hm := maxLen_is
  rcases h.2 with ⟨rfl, h0⟩ | ⟨g, cp, cur, hv, h1, h2, h3, h4, h5⟩
  · exact ⟨none, 0, by rw [h0], by omega, fun k f hk => by
      have := (List.getElem?_eq_some_iff.1 hk).1
      omega⟩
  · refine ⟨_, cp, hv, by omega, fun k f hk => ⟨_, rfl, h.cells (g := g) (by rw [hv]; rfl) k _ ?_⟩⟩
    rw [List.getElem?_map, hk]
    rfl
theorem IntsAt.below {w w' : World} {v : Value} {ss : List Int} (h : IntsAt w v ss) (hb : Below w.heap.size w w') : IntsAt w' v ss :=
  let ⟨ao, cp, h1, h2, h3⟩ := h
  ⟨ao, cp, h1, h2, fun k f hk => let ⟨a, e, hc⟩ := h3 k f hk; ⟨a, e, by rw [hb.cell (World.block_lt_of_cell? _ _ hc)]; exact hc⟩⟩
theorem StrsAt.below {w w' : World} {v : Value} {ss : List L8} (h : StrsAt w v ss) (hb : Below w.heap.size w w') : StrsAt w' v ss :=
  let ⟨ao, cp, h1, h2, h3⟩ := h
  ⟨ao, cp, h1, h2, fun k f hk => let ⟨a, e, hc⟩ := h3 k f hk; ⟨a, e, by rw [hb.cell (World.block_lt_of_cell? _ _ hc)]; exact hc⟩⟩
set_option maxRecDepth 20000 in
set_option maxHeartbeats 1600000 in
theorem texts_same (va vb : Value) (ss : List L8) (w : World) (ha : StrsAt w va ss) (hb : StrsAt w vb ss) :
    Calls Tryz.prog 23 #[va, vb] w fun e w' => e = .returned (.bool true) ∧ ∃ n, w' = w.drewN n := by
  obtain ⟨ao, ca, rfl, hn, hA⟩ := ha
  obtain ⟨bo, cb, rfl, -, hB⟩ := hb
  have HA := Lib.hid hA
  have HB := Lib.hid hB
  clear hA hB
  go_enter Tryz.func23, Tryz.ntmps23
  go_wp2
  go_loopw [13] (fun i wr => ∃ k : Nat, i = .int .i64 k ∧ k ≤ ss.length ∧ Hid (∃ n, wr = w.drewN n)) (fun i _ => ss.length - (iOf i).toNat)
  case atStart => exact ⟨0, rfl, Nat.zero_le _, Lib.hid ⟨0, rfl⟩⟩
  case round =>
    obtain ⟨k, rfl, hk, hw⟩ := hrel
    by_cases hlt : k < ss.length
    · obtain ⟨f, hf⟩ : ∃ f, ss[k]? = some f := ⟨_, List.getElem?_eq_getElem hlt⟩
      obtain ⟨a, rfl, a1⟩ := HA.out k f hf
      obtain ⟨b, rfl, b1⟩ := HB.out k f hf
      obtain ⟨n, hwn⟩ := hw.out
      have x1 : wr.cell? (a.add k) = some (.string ⟨f.toArray⟩) := by rw [hwn]; exact a1
      have y1 : wr.cell? (b.add k) = some (.string ⟨f.toArray⟩) := by rw [hwn]; exact b1
      obtain ⟨s1, hs1⟩ : ∃ s1 : ByteArray, (⟨f.toArray⟩ : ByteArray) = s1 := ⟨_, rfl⟩
      rw [hs1] at x1 y1
      have HN := Lib.hid hwn
      clear a1 b1 hwn hf hs1
      go_wp2
      go_quiet (fail)
      go_wp2
      exact ⟨⟨k + 1, by go_num, by omega, Lib.hid ⟨n + nq, by rw [HN.out, World.drewN_drewN]⟩⟩, by simp [iOf]; omega⟩
    · go_wp2
      go_ret
      exact ⟨rfl, hw.out⟩
set_option maxRecDepth 20000 in
set_option maxHeartbeats 1600000 in
theorem ints_same (va vb : Value) (ss : List Int) (w : World) (ha : IntsAt w va ss) (hb : IntsAt w vb ss) :
    Calls Tryz.prog 13 #[va, vb] w fun e w' => e = .returned (.bool true) ∧ ∃ n, w' = w.drewN n := by
  obtain ⟨ao, ca, rfl, hn, hA⟩ := ha
  obtain ⟨bo, cb, rfl, -, hB⟩ := hb
  have HA := Lib.hid hA
  have HB := Lib.hid hB
  clear hA hB
  go_enter Tryz.func13, Tryz.ntmps13
  go_wp2
  go_loopw [13] (fun i wr => ∃ k : Nat, i = .int .i64 k ∧ k ≤ ss.length ∧ Hid (∃ n, wr = w.drewN n)) (fun i _ => ss.length - (iOf i).toNat)
  case atStart => exact ⟨0, rfl, Nat.zero_le _, Lib.hid ⟨0, rfl⟩⟩
  case round =>
    obtain ⟨k, rfl, hk, hw⟩ := hrel
    by_cases hlt : k < ss.length
    · obtain ⟨f, hf⟩ : ∃ f, ss[k]? = some f := ⟨_, List.getElem?_eq_getElem hlt⟩
      obtain ⟨a, rfl, a1⟩ := HA.out k f hf
      obtain ⟨b, rfl, b1⟩ := HB.out k f hf
      obtain ⟨n, hwn⟩ := hw.out
      have x1 : wr.cell? (a.add k) = some (.int .i64 f) := by rw [hwn]; exact a1
      have y1 : wr.cell? (b.add k) = some (.int .i64 f) := by rw [hwn]; exact b1
      have HN := Lib.hid hwn
      clear a1 b1 hwn hf
      go_wp2
      go_quiet (fail)
      go_wp2
      exact ⟨⟨k + 1, by go_num, by omega, Lib.hid ⟨n + nq, by rw [HN.out, World.drewN_drewN]⟩⟩, by simp [iOf]; omega⟩
    · go_wp2
      go_ret
      exact ⟨rfl, hw.out⟩
end Go.Proofs.YtklbbcemacpimaaGreatDoor.I
