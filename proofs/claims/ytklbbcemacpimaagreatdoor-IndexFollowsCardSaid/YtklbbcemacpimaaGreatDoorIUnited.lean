/- index.united. -/
import Derived.Test.YtklbbcemacpimaaGreatDoorIKeys
namespace Go.Proofs.YtklbbcemacpimaaGreatDoor.I
open Go Go.Maps Go.Proofs Go.RowKit Go.Sort Go.Shelf

theorem below_drew' {C : Nat} {w w' : World} (h : Below C w w') (n : Nat) : Below C w (w'.drewN n) := h.trans ⟨rfl, rfl, rfl, Nat.le_refl _, fun _ _ => rfl⟩
theorem rowLow {w : World} {lo hi : Nat} {e : TypeId} {size n : Nat} {v : Value} {xs : List Value} (h : w.ownsRow hi e size v n xs) (hl : lo ≤ hi) : w.ownsRow lo e size v n xs := by
  refine ⟨h.1, ?_⟩
  rcases h.2 with h2 | ⟨g, cap, cur, h1, h2, h3⟩
  · exact .inl h2
  · exact .inr ⟨g, cap, cur, h1, Nat.le_trans hl h2, h3⟩
/-- A map of counts, or nil. -/
def CntIs (w : World) (n : Nat) (p : Option Nat × (Int → Option Int)) : Prop := match p.1 with
  | some b => CMap tys w b n p.2
  | none => ∀ x, p.2 x = none
theorem CntIs.keep {w w' : World} {n : Nat} {p : Option Nat × (Int → Option Int)} (h : CntIs w n p) (hb : ∀ b, p.1 = some b → b < w.heap.size → w'.heap[b]? = w.heap[b]?) : CntIs w' n p := by
  unfold CntIs at h ⊢
  obtain ⟨p1, p2⟩ := p
  cases p1 with
  | none => exact h
  | some b => exact MF.block h (hb b rfl (MF.lt h))
theorem CntIs.lt {w : World} {n : Nat} {p : Option Nat × (Int → Option Int)} (h : CntIs w n p) {b : Nat} (hb : p.1 = some b) : b < w.heap.size := by
  unfold CntIs at h
  rw [hb] at h
  exact MF.lt h
/-- A row of counts. -/
def CntsAt (w : World) (n : Nat) (v : Value) (ps : List (Option Nat × (Int → Option Int))) : Prop :=
  ∃ (ao : Option Addr) (cp : Nat), v = .slice ao ps.length cp ∧ ∀ (k : Nat) p, ps[k]? = some p → ∃ g, ao = some ⟨g, 0, none⟩ ∧ w.cell? ⟨g, k, none⟩ = some (.map p.1) ∧ CntIs w n p
set_option maxRecDepth 100000 in
set_option maxHeartbeats 1600000 in
theorem united_any (v : Value) (n : Nat) (ps : List (Option Nat × (Int → Option Int))) (w : World) (h : CntsAt w n v ps) (hn : n ≤ 1000000) (hl : ps.length ≤ 1000000) :
    Calls Tryz.prog 32 #[v] w (IntAns w fun x => ∃ p ∈ ps, p.2 x ≠ none) := by
  obtain ⟨ao, cp, rfl, hc⟩ := h
  obtain ⟨w1, hw1⟩ : ∃ w1, w.alloc (.map #[] 0) = w1 := ⟨_, rfl⟩
  have lm : (Instr.makeMap 84 none).run Tryz.prog w = .ok (.map (some w.heap.size)) w1 := by rw [← hw1]; rfl
  have hb1 : Below w.heap.size w w1 := by rw [← hw1]; exact below_grow1 w _
  have hm1 : CMap tys w1 w.heap.size 0 (fun _ => none) := by rw [← hw1]; exact MF.made _ _ _ _ w
  have HC := Lib.hid hc
  have HB1 := Lib.hid hb1
  have HM1 := Lib.hid hm1
  clear hc hb1 hm1 hw1
  go_enter Tryz.func32, Tryz.ntmps32
  go_wp2_with fail
  go_loopw [9] (fun i wr => ∃ k : Nat, i = .int .i64 k ∧ k ≤ ps.length ∧ Hid (∃ f, CMap tys wr w.heap.size (k * n) f ∧ ∀ x, f x ≠ none ↔ ∃ p ∈ ps.take k, p.2 x ≠ none) ∧ Hid (Below w.heap.size w wr)) (fun i _ => ps.length - (iOf i).toNat)
  case atStart => exact ⟨0, rfl, Nat.zero_le _, Lib.hid ⟨_, HM1.out.more (Nat.zero_le _), fun x => by simp⟩, HB1⟩
  case round =>
    obtain ⟨k, rfl, hk, hf, hB⟩ := hrel
    by_cases hlt : k < ps.length
    · obtain ⟨p, hp⟩ : ∃ p, ps[k]? = some p := ⟨_, List.getElem?_eq_getElem hlt⟩
      obtain ⟨g, rfl, c1, c2⟩ := HC.out k p hp
      obtain ⟨f, hm, hx⟩ := hf.out
      have hgl : g < w.heap.size := World.block_lt_of_cell? _ _ c1
      have c1' : wr.cell? ⟨g, k, none⟩ = some (.map p.1) := (hB.out.cell (p := ⟨g, k, none⟩) hgl).trans c1
      have c2' : CntIs wr n p := c2.keep fun b _ hb => hB.out.block b hb
      have CP := Lib.hid (copyI_any w.heap.size (k * n) f p.1 p.2 n wr hm c2' (fun e => by have := c2.lt e; omega) (by
        have : k * n ≤ 1000000 * 1000000 := Nat.mul_le_mul (by omega) hn
        unfold maxLen; omega))
      obtain ⟨p1, p2⟩ := p
      have HX := Lib.hid hx
      have HP := Lib.hid hp
      clear c1 c2 c2' hm hx hp hf
      go_wp2_with fail
      refine CP.out.mono ?_
      rintro e w2 ⟨rfl, hm2, hg2⟩
      have hB2 : Below w.heap.size w w2 := hB.out.grown hg2 hB.out.size (fun k hk => by cases hk; exact Nat.le_refl _)
      have HM2 : Hid (∃ f, CMap tys w2 w.heap.size ((k + 1) * n) f ∧ ∀ x, f x ≠ none ↔ ∃ p ∈ ps.take (k + 1), p.2 x ≠ none) := Lib.hid ⟨_, by rw [Nat.succ_mul]; exact hm2, fun x => by
        rw [List.take_add_one, HP.out]
        unfold merge2
        have h1 := HX.out x
        cases hg : p2 x with
        | some a => simp [hg]
        | none =>
          simp only [Option.none_or]
          rw [h1]
          constructor
          · rintro ⟨p, hp, hne⟩; exact ⟨p, by simp [hp], hne⟩
          · rintro ⟨p, hp, hne⟩
            simp only [Option.toList_some, List.mem_append, List.mem_singleton] at hp
            rcases hp with hp | rfl
            · exact ⟨p, hp, hne⟩
            · exact absurd hg hne⟩
      have HB2 := Lib.hid hB2
      clear hm2 hg2 hB2
      go_wp2_with fail
      exact ⟨⟨k + 1, by go_num, by omega, HM2, HB2⟩, by simp [iOf]; omega⟩
    · obtain rfl : k = ps.length := by omega
      obtain ⟨f, hm, hx⟩ := hf.out
      rw [List.take_length] at hx
      have hkn : ps.length * n ≤ 1000000 * 1000000 := Nat.mul_le_mul hl hn
      have SK := Lib.hid (sortedI_any w.heap.size (ps.length * n) f wr hm (by omega))
      have HX := Lib.hid hx
      clear hm hx hf
      go_wp2_with fail
      refine (keysI_any (some w.heap.size) wr).mono ?_
      rintro e w2 ⟨rfl, rfl⟩
      go_wp2_with fail
      refine SK.out.mono ?_
      rintro e w3 ⟨u, ss, rfl, h1, h2, h3, h4⟩
      have h3' : w3.ownsRow w.heap.size 3 1 u ss.length (ss.map encZ) := rowLow h3 (by have := hB.out.size; simp; omega)
      have h4' : Below w.heap.size w w3 := (hB.out.alloc hB.out.size _).trans (h4.mono (by have := hB.out.size; simp; omega))
      have FIN := Lib.hid (And.intro h1 (And.intro h2 (And.intro h3' h4')))
      clear h1 h2 h3 h4 h3' h4' SK
      go_wp2_with fail
      go_ret
      exact ⟨u, ss, rfl, FIN.out.1, fun x => (FIN.out.2.1 x).trans (HX.out x), FIN.out.2.2.1, FIN.out.2.2.2⟩
end Go.Proofs.YtklbbcemacpimaaGreatDoor.I
