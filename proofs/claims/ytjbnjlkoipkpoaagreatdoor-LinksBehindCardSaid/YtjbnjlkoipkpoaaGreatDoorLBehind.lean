/- The closure of the law LinksBehind: where a stanza stands in the order; what the order says. -/
import Derived.Test.YtjbnjlkoipkpoaaGreatDoorLOrderLaw
import Derived.Test.YtjbnjlkoipkpoaaGreatDoorTPlace
namespace Go.Proofs.YtjbnjlkoipkpoaaGreatDoor.T
open Go.RowKit Go.Shelf Go.Maps
open Go.Proofs.YtjbnjlkoipkpoaaGreatDoor.B

/-- The place of a number in a list; -1: it is not there. -/
def PlaceZ (zs : List Int) (n : Int) (i : Int) : Prop :=
  (i = -1 ∧ n ∉ zs) ∨ ∃ k : Nat, i = k ∧ zs[k]? = some n ∧ n ∉ zs.take k
theorem PlaceZ.uniq {zs : List Int} {n i : Int} (hn : zs.Nodup) (h : PlaceZ zs n i) {k : Nat} (hk : zs[k]? = some n) : i = k := by
  rcases h with ⟨_, h⟩ | ⟨j, h1, h2, _⟩
  · exact absurd (List.mem_of_getElem? hk) h
  · rw [h1, nodup_get hn h2 hk]
set_option maxHeartbeats 1600000 in
theorem behPlace_any (v : Value) (zs : List Int) (n : Int) (ob : Nat) (w : World) (ho : w.cell? ⟨ob, 0, none⟩ = some v) (h : ZsAt w.heap.size w v zs) (hn : zs.length ≤ 100000000) :
    Calls Tryz.prog 45 #[.int .i64 n, .pointer (some ⟨ob, 0, none⟩)] w fun e w' => (∃ i : Int, e = .returned (.int .i64 i) ∧ PlaceZ zs n i) ∧ w = w' := by
  obtain ⟨ao, c, rfl, hc⟩ := h
  have HC := Lib.hid hc
  clear hc
  go_enter Tryz.func45, Tryz.ntmps45
  go_wp2
  go_loop [8] (fun i => ∃ k : Nat, i = .int .i64 k ∧ k ≤ zs.length ∧ Hid (n ∉ zs.take k)) (fun i => zs.length - (intOf i).toNat)
  case atStart => exact ⟨0, rfl, Nat.zero_le _, Lib.hid (by simp)⟩
  case round =>
    obtain ⟨k, rfl, hk, ha⟩ := hrel
    by_cases hlt : k < zs.length
    · obtain ⟨z, hz⟩ : ∃ z, zs[k]? = some z := ⟨_, List.getElem?_eq_getElem hlt⟩
      obtain ⟨a, rfl, hg, n0⟩ := HC.out k z hz
      have HZ := Lib.hid hz
      have hkz : (k : Int) < (zs.length : Int) := by omega
      clear hz
      by_cases he : z = n
      · have HH : Hid (PlaceZ zs n k) := Lib.hid (.inr ⟨k, rfl, he ▸ HZ.out, ha.out⟩)
        subst he
        clear ha
        go_wp2
        go_ret
        exact ⟨⟨_, rfl, HH.out⟩, rfl⟩
      · have he2 : (z == n) = false := by rw [beq_eq_false_iff_ne]; exact he
        have HT : Hid (n ∉ zs.take (k + 1)) := Lib.hid (by
          rw [List.take_add_one, HZ.out]
          simp only [Option.toList_some, List.mem_append, List.mem_singleton, not_or]
          exact ⟨ha.out, fun e => he e.symm⟩)
        clear ha he
        go_wp2
        exact ⟨⟨k + 1, by go_num, by omega, HT⟩, by simp [intOf]; omega⟩
    · have h1 := ha.out
      rw [List.take_of_length_le (by omega)] at h1
      have HH : Hid (PlaceZ zs n (-1)) := Lib.hid (.inl ⟨rfl, h1⟩)
      have hkz : ¬ (k : Int) < (zs.length : Int) := by omega
      clear ha h1
      go_wp2
      go_ret
      exact ⟨⟨_, rfl, HH.out⟩, rfl⟩
/-- What the law needs of the order. -/
structure BehLaw (name key : L8) (ss : List St) : Prop where
  all : (ordOf name key ss).length = ss.length ↔ roundsL ((linksL name key ss).map prZ) ss = []
  ordd : Ordd (nextF ((linksL name key ss).map prZ)) ss (ordOf name key ss)
theorem namedL_mem {name l : L8} : ∀ {ss : List St}, namedL name l ss ≠ 0 → ∃ x ∈ ss, x.1 = namedL name l ss
  | [], h => absurd rfl h
  | x :: r, h => by
    unfold namedL at h ⊢
    split
    · exact ⟨x, by simp, rfl⟩
    · rename_i hx
      rw [if_neg hx] at h
      obtain ⟨y, hy, e⟩ := namedL_mem h
      exact ⟨y, by simp [hy], e⟩
theorem links_to {name key : L8} {ss : List St} : ∀ p ∈ (linksL name key ss).map prZ, p.2 ≠ 0 → ∃ x ∈ ss, (x.1 : Int) = p.2 := by
  intro p hp h0
  obtain ⟨l, hl, rfl⟩ := List.mem_map.1 hp
  obtain ⟨x, hx, hl⟩ := List.mem_flatMap.1 hl
  obtain ⟨f, hf, hl⟩ := List.mem_flatMap.1 hl
  unfold lkF at hl
  split at hl
  · obtain ⟨wd, _, rfl⟩ := List.mem_map.1 hl
    have h1 : namedL name wd ss ≠ 0 := fun e => h0 (by show ((namedL name wd ss : Nat) : Int) = 0; rw [e]; rfl)
    obtain ⟨y, hy, e⟩ := namedL_mem h1
    exact ⟨y, hy, by show (y.1 : Int) = ((namedL name wd ss : Nat) : Int); rw [e]⟩
  · simp at hl
theorem stan_nodup (t : List UInt8) : ((stanzasOf t).map fun x => (x.1 : Int)).Nodup := by
  have h : (stanzasOf t).map (fun x => (x.1 : Int)) = (List.range' 1 (stanzasOf t).length).map fun n : Nat => (n : Int) := by
    apply List.ext_getElem?
    intro i
    rw [List.getElem?_map, List.getElem?_map]
    cases hx : (stanzasOf t)[i]? with
    | none =>
      have := List.getElem?_eq_none_iff.1 hx
      rw [List.getElem?_eq_none (by rw [List.length_range']; exact this)]; rfl
    | some x =>
      have h1 := stan_id30 hx
      have h2 := (List.getElem?_eq_some_iff.1 hx).1
      rw [List.getElem?_range' (by omega)]
      simp [h1]; omega
  rw [h]
  exact List.Pairwise.map _ (fun a b (hab : a ≠ b) => by intro e; have e2 : (a : Int) = (b : Int) := e; omega) (List.nodup_range' (s := 1) (n := (stanzasOf t).length))
theorem behLaw (name key : L8) (t : List UInt8) : BehLaw name key (stanzasOf t) where
  all := by
    unfold ordOf
    rw [order_rounds (stan_nodup t) links_to]
    constructor
    · intro h
      unfold roundsL
      rw [List.map_eq_nil_iff, List.filter_eq_nil_iff]
      intro x hx hs
      exact h x hx (selfB_iff.1 hs)
    · intro h x hx hr
      unfold roundsL at h
      rw [List.map_eq_nil_iff, List.filter_eq_nil_iff] at h
      exact h x hx (selfB_iff.2 hr)
  ordd := (orderL_ordd _ [] (.start _ _)).1
end Go.Proofs.YtjbnjlkoipkpoaaGreatDoor.T
