/- Texts, numbers, rows side by side, where they are the same. -/
import Derived.Test.YtboiaoaephimhaaDoorTRows
import Derived.Deep.QuietTactic
import Derived.BigQuiet
namespace Go.Proofs.YtboiaoaephimhaaDoor.T
open Go.RowKit Go.Shelf
open Go.Proofs.YtboiaoaephimhaaDoor.B

set_option maxRecDepth 20000 in
set_option maxHeartbeats 1600000 in
theorem texts_same (B : Nat) (va vb : Value) (ss : List ByteArray) (w : World) (ha : StrsAt B w va ss) (hb : StrsAt B w vb ss) (hn : ss.length ≤ 9223372036854775807) :
    Calls Tryd.prog 24 #[va, vb] w fun e w' => e = .returned (.bool true) ∧ ∃ n, w' = w.drewN n := by
  obtain ⟨ao, ca, rfl, hA⟩ := ha
  obtain ⟨bo, cb, rfl, hB⟩ := hb
  have HA := Lib.hid hA
  have HB := Lib.hid hB
  clear hA hB
  go_enter Tryd.func24, Tryd.ntmps24
  go_wp2
  go_loopw [13] (fun i wr => ∃ k : Nat, i = .int .i64 k ∧ k ≤ ss.length ∧ Hid (∃ n, wr = w.drewN n)) (fun i _ => ss.length - (intOf i).toNat)
  case atStart => exact ⟨0, rfl, Nat.zero_le _, Lib.hid ⟨0, rfl⟩⟩
  case round =>
    obtain ⟨k, rfl, hk, hw⟩ := hrel
    by_cases hlt : k < ss.length
    · obtain ⟨f, hf⟩ : ∃ f, ss[k]? = some f := ⟨_, List.getElem?_eq_getElem hlt⟩
      obtain ⟨a, rfl, -, a1⟩ := HA.out k f hf
      obtain ⟨b, rfl, -, b1⟩ := HB.out k f hf
      obtain ⟨n, hwn⟩ := hw.out
      have x1 : wr.cell? (a.add k) = some (.string f) := by rw [hwn]; exact a1
      have y1 : wr.cell? (b.add k) = some (.string f) := by rw [hwn]; exact b1
      have HN := Lib.hid hwn
      clear a1 b1 hwn hf
      go_wp2
      go_quiet (fail)
      go_wp2
      exact ⟨⟨k + 1, by go_num, by omega, Lib.hid ⟨n + nq, by rw [HN.out, World.drewN_drewN]⟩⟩, by simp [intOf]; omega⟩
    · go_wp2
      go_ret
      exact ⟨rfl, hw.out⟩
set_option maxRecDepth 20000 in
set_option maxHeartbeats 1600000 in
theorem ints_same (B : Nat) (va vb : Value) (ss : List Nat) (w : World) (ha : IntsAt B w va ss) (hb : IntsAt B w vb ss) (hn : ss.length ≤ 9223372036854775807) :
    Calls Tryd.prog 8 #[va, vb] w fun e w' => e = .returned (.bool true) ∧ ∃ n, w' = w.drewN n := by
  obtain ⟨ao, ca, rfl, hA⟩ := ha
  obtain ⟨bo, cb, rfl, hB⟩ := hb
  have HA := Lib.hid hA
  have HB := Lib.hid hB
  clear hA hB
  go_enter Tryd.func8, Tryd.ntmps8
  go_wp2
  go_loopw [13] (fun i wr => ∃ k : Nat, i = .int .i64 k ∧ k ≤ ss.length ∧ Hid (∃ n, wr = w.drewN n)) (fun i _ => ss.length - (intOf i).toNat)
  case atStart => exact ⟨0, rfl, Nat.zero_le _, Lib.hid ⟨0, rfl⟩⟩
  case round =>
    obtain ⟨k, rfl, hk, hw⟩ := hrel
    by_cases hlt : k < ss.length
    · obtain ⟨f, hf⟩ : ∃ f, ss[k]? = some f := ⟨_, List.getElem?_eq_getElem hlt⟩
      obtain ⟨a, rfl, -, a1⟩ := HA.out k f hf
      obtain ⟨b, rfl, -, b1⟩ := HB.out k f hf
      obtain ⟨n, hwn⟩ := hw.out
      have x1 : wr.cell? (a.add k) = some (.int .i64 f) := by rw [hwn]; exact a1
      have y1 : wr.cell? (b.add k) = some (.int .i64 f) := by rw [hwn]; exact b1
      have HN := Lib.hid hwn
      clear a1 b1 hwn hf
      go_wp2
      go_quiet (fail)
      go_wp2
      exact ⟨⟨k + 1, by go_num, by omega, Lib.hid ⟨n + nq, by rw [HN.out, World.drewN_drewN]⟩⟩, by simp [intOf]; omega⟩
    · go_wp2
      go_ret
      exact ⟨rfl, hw.out⟩
set_option maxRecDepth 20000 in
set_option maxHeartbeats 1600000 in
theorem rows_same (B : Nat) (va vb : Value) (rs : List (List ByteArray)) (w : World) (ha : RowsAt B w va rs) (hb : RowsAt B w vb rs) (hn : rs.length ≤ 9223372036854775807) (hm : ∀ r ∈ rs, r.length ≤ 9223372036854775807) :
    Calls Tryd.prog 11 #[va, vb] w fun e w' => e = .returned (.bool true) ∧ ∃ n, w' = w.drewN n := by
  obtain ⟨ao, ca, rfl, hA⟩ := ha
  obtain ⟨bo, cb, rfl, hB⟩ := hb
  have HA := Lib.hid hA
  have HB := Lib.hid hB
  have HM := Lib.hid hm
  clear hA hB hm
  go_enter Tryd.func11, Tryd.ntmps11
  go_wp2
  go_loopw [13] (fun i wr => ∃ k : Nat, i = .int .i64 k ∧ k ≤ rs.length ∧ Hid (∃ n, wr = w.drewN n)) (fun i _ => rs.length - (intOf i).toNat)
  case atStart => exact ⟨0, rfl, Nat.zero_le _, Lib.hid ⟨0, rfl⟩⟩
  case round =>
    obtain ⟨k, rfl, hk, hw⟩ := hrel
    by_cases hlt : k < rs.length
    · obtain ⟨r, hr⟩ : ∃ r, rs[k]? = some r := ⟨_, List.getElem?_eq_getElem hlt⟩
      obtain ⟨a, ua, rfl, -, a1, a2⟩ := HA.out k r hr
      obtain ⟨b, ub, rfl, -, b1, b2⟩ := HB.out k r hr
      obtain ⟨n, hwn⟩ := hw.out
      have x1 : wr.cell? (a.add k) = some ua := by rw [hwn]; exact a1
      have y1 : wr.cell? (b.add k) = some ub := by rw [hwn]; exact b1
      have HN := Lib.hid hwn
      have FF : Hid (∀ m, Calls Tryd.prog 24 #[ua, ub] (wr.drewN m) fun e w' => e = .returned (.bool true) ∧ ∃ n, w' = (wr.drewN m).drewN n) := Lib.hid fun m => texts_same B ua ub r _ (by rw [hwn]; exact a2) (by rw [hwn]; exact b2) (HM.out r (List.mem_of_getElem? hr))
      obtain ⟨fa, c1, hua, -⟩ := a2
      obtain ⟨fb, c2, hub, -⟩ := b2
      subst hua hub
      clear a1 b1 hwn hr
      go_wp2
      go_quiet ((go_at_call 24; exact Calls.quiet_of (FF.out _)))
      go_wp2
      exact ⟨⟨k + 1, by go_num, by omega, Lib.hid ⟨n + nq, by rw [HN.out, World.drewN_drewN]⟩⟩, by simp [intOf]; omega⟩
    · go_wp2
      go_ret
      exact ⟨rfl, hw.out⟩
end Go.Proofs.YtboiaoaephimhaaDoor.T
