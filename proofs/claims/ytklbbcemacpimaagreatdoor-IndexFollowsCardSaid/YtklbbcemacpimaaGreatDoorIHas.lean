/- IndexWithin's own closure: is a number among those that have the key? -/
import Derived.Test.YtklbbcemacpimaaGreatDoorIAlive
import Derived.Test.YtklbbcemacpimaaGreatDoorIWithLaw
namespace Go.Proofs.YtklbbcemacpimaaGreatDoor.I
open Go Go.Maps Go.Proofs Go.RowKit Go.Sort Go.Shelf

theorem own_sh2 {w : World} {base : Nat} {e : TypeId} {size n : Nat} {v : Value} {xs : List Value} (h : w.ownsRow base e size v n xs) : ∃ ao c, v = .slice ao n c := by
  rcases h.2 with ⟨h1, h2⟩ | ⟨g, c, cur, h1, _⟩
  · exact ⟨none, 0, by rw [h1, h2]⟩
  · exact ⟨_, _, h1⟩
theorem ownB {N : Nat} {e : TypeId} {size n : Nat} {xs : List Value} {w w' : World} {v : Value} (h : w.ownsRow N e size v n xs) (hb : Below w.heap.size w w') : w'.ownsRow N e size v n xs := by
  refine ⟨h.1, ?_⟩
  rcases h.2 with h0 | ⟨g, cap, cur, rfl, hB, hg, r⟩
  · exact .inl h0
  · exact .inr ⟨g, cap, cur, rfl, hB, (hb.block g (Array.getElem?_eq_some_iff.1 hg).1).trans hg, r⟩
set_option maxRecDepth 20000 in
set_option maxHeartbeats 1600000 in
theorem has_any (id : Int) (Bw : Nat) (u : Value) (W : List Int) (w : World) (hc : w.cell? ⟨Bw, 0, none⟩ = some u) (hu : IntsAt w u W) (hid : id ∈ W) :
    Calls Tryz.prog 10 #[.int .i64 id, .pointer (some ⟨Bw, 0, none⟩)] w fun e w' => e = .returned (.bool true) ∧ w' = w := by
  obtain ⟨ao, cp, rfl, hn, hA⟩ := hu
  have HA := Lib.hid hA
  have HID := Lib.hid hid
  clear hA hid
  go_enter Tryz.func10, Tryz.ntmps10
  go_wp2
  go_loopw [8] (fun i wr => ∃ k : Nat, i = .int .i64 k ∧ k ≤ W.length ∧ Hid (id ∉ W.take k) ∧ wr = w) (fun i _ => W.length - (iOf i).toNat)
  case atStart => exact ⟨0, rfl, Nat.zero_le _, Lib.hid (by simp), rfl⟩
  case round =>
    obtain ⟨k, rfl, hk, hnot, hw⟩ := hrel
    subst hw
    by_cases hlt : k < W.length
    · obtain ⟨f, hf⟩ : ∃ f, W[k]? = some f := ⟨_, List.getElem?_eq_getElem hlt⟩
      obtain ⟨a, rfl, a1⟩ := HA.out k f hf
      have HT : Hid (W.take (k + 1) = W.take k ++ [f]) := Lib.hid (by rw [List.take_add_one, hf]; rfl)
      clear hf
      by_cases he : f = id
      · subst he
        go_wp2
        go_ret
        exact ⟨rfl, rfl⟩
      · have hne : (f == id) = false := by rw [beq_eq_false_iff_ne]; exact he
        have HN : Hid (id ∉ W.take (k + 1)) := Lib.hid (by rw [HT.out]; intro h; rcases List.mem_append.1 h with h | h; exact hnot.out h; exact he (List.mem_singleton.1 h).symm)
        go_wp2
        exact ⟨⟨k + 1, by go_num, by omega, HN, trivial⟩, by simp [iOf]; omega⟩
    · have ht : W.take k = W := List.take_of_length_le (by omega)
      have := hnot.out
      rw [ht] at this
      exact absurd HID.out this
end Go.Proofs.YtklbbcemacpimaaGreatDoor.I
