/- The keys of the index's maps, sorted; counts copied. -/
import Derived.Test.YtklbbcemacpimaaGreatDoorKeys
import Derived.Test.YtklbbcemacpimaaGreatDoorIPut
namespace Go.Proofs.YtklbbcemacpimaaGreatDoor.I
open Go Go.Maps Go.Proofs Go.RowKit Go.Sort Go.Shelf

theorem sortsS (m : Nat) : AnyZ.SortsIn Tryz.prog Tryz.sortedS_ren Fence.wide m :=
  ⟨fun blk off cap ss W hH hblk hsz => callsIn_wide.2 (AnyM.slices_Sort_string Tryz.sortS blk off cap ss W hH hblk hsz),
   fun p cap W => callsIn_wide.2 (AnyM.slices_Sort_string_none Tryz.sortS p cap W)⟩
theorem sortsI (m : Nat) : AnyZI.SortsIn Tryz.prog Tryz.sortedI_ren Fence.wide m :=
  ⟨fun blk off cap ss W hH hblk hsz => callsIn_wide.2 (AnyM.slices_Sort_int Tryz.sortI blk off cap ss W hH hblk hsz),
   fun p cap W => callsIn_wide.2 (AnyM.slices_Sort_int_none Tryz.sortI p cap W)⟩
theorem keysK_any (mb : Option Nat) (W : World) : Calls Tryz.prog 41 #[.map mb] W fun e w' => e = .returned (.func (.func 60) #[] #[.pointer (some ⟨W.heap.size, 0, none⟩)]) ∧ w' = W.alloc (.cells #[.map mb] 72) :=
  (callsIn_wide (n := 5)).1 (AnyZ.keys_in Tryz.keysK Fence.wide 5 trivial rfl mb W)
theorem keysV_any (mb : Option Nat) (W : World) : Calls Tryz.prog 30 #[.map mb] W fun e w' => e = .returned (.func (.func 49) #[] #[.pointer (some ⟨W.heap.size, 0, none⟩)]) ∧ w' = W.alloc (.cells #[.map mb] 82) :=
  (callsIn_wide (n := 5)).1 (AnyZ.keys_in Tryz.keysV Fence.wide 5 trivial rfl mb W)
theorem keysI_any (mb : Option Nat) (W : World) : Calls Tryz.prog 52 #[.map mb] W fun e w' => e = .returned (.func (.func 75) #[] #[.pointer (some ⟨W.heap.size, 0, none⟩)]) ∧ w' = W.alloc (.cells #[.map mb] 84) :=
  (callsIn_wide (n := 5)).1 (AnyZI.keys_in Tryz.keysI Fence.wide 5 trivial rfl mb W)
/-- Texts, rising, in a new row. -/
def StrAns (w : World) (mem : L8 → Prop) (e : Ending) (w' : World) : Prop :=
  ∃ (v : Value) (ss : List L8), e = .returned v ∧ ss.Pairwise (· < ·) ∧ (∀ x, x ∈ ss ↔ mem x) ∧ w'.ownsRow w.heap.size 9 1 v ss.length (ss.map encStr) ∧ Below w.heap.size w w'
/-- Numbers, rising, in a new row. -/
def IntAns (w : World) (mem : Int → Prop) (e : Ending) (w' : World) : Prop :=
  ∃ (v : Value) (ss : List Int), e = .returned v ∧ ss.Pairwise (· < ·) ∧ (∀ x, x ∈ ss ↔ mem x) ∧ w'.ownsRow w.heap.size 3 1 v ss.length (ss.map encZ) ∧ Below w.heap.size w w'
theorem rising_s {ss : List L8} (h : ss.Nodup) : (ss.mergeSort (fun x y => decide (x ≤ y))).Pairwise (· < ·) := by
  have tr : ∀ a b c : L8, decide (a ≤ b) = true → decide (b ≤ c) = true → decide (a ≤ c) = true := fun a b c h1 h2 => by simp only [decide_eq_true_eq] at *; exact List.le_trans h1 h2
  have to : ∀ a b : L8, (decide (a ≤ b) || decide (b ≤ a)) = true := fun a b => by simp only [Bool.or_eq_true, decide_eq_true_eq]; exact List.le_total a b
  have h1 := List.pairwise_mergeSort tr to ss
  have h2 : (ss.mergeSort (fun x y => decide (x ≤ y))).Nodup := ((List.mergeSort_perm ss _).nodup_iff).2 h
  refine (h1.and h2).imp fun {a b} hab => ?_
  obtain ⟨h3, h4⟩ := hab
  simp only [decide_eq_true_eq] at h3
  rcases List.le_iff_lt_or_eq.1 h3 with h5 | h5
  · exact h5
  · exact absurd h5 h4
theorem rising_i {ss : List Int} (h : ss.Nodup) : (ss.mergeSort (fun x y => decide (x ≤ y))).Pairwise (· < ·) := by
  have tr : ∀ a b c : Int, decide (a ≤ b) = true → decide (b ≤ c) = true → decide (a ≤ c) = true := fun a b c h1 h2 => by simp only [decide_eq_true_eq] at *; omega
  have to : ∀ a b : Int, (decide (a ≤ b) || decide (b ≤ a)) = true := fun a b => by simp only [Bool.or_eq_true, decide_eq_true_eq]; omega
  have h1 := List.pairwise_mergeSort tr to ss
  have h2 : (ss.mergeSort (fun x y => decide (x ≤ y))).Nodup := ((List.mergeSort_perm ss _).nodup_iff).2 h
  refine (h1.and h2).imp fun {a b} hab => ?_
  obtain ⟨h3, h4⟩ := hab
  simp only [decide_eq_true_eq] at h3
  omega
theorem strKeys_facts {P : Program} {k : TypeId} {R : Value → Option (DataW Unit × List MemPlace)} {w : World} {b n : Nat} {D : DataW Unit} (hown : w.ownsMap P k R b n D) (hk : P.underlying k = some .string) : (strKeys D).Nodup ∧ ∀ x, x ∈ strKeys D ↔ Maps.has D (.string x) = true := by
  obtain ⟨es, hD, hpw, _⟩ := hown.entries (string_keyed hk)
  obtain ⟨es', hD', hko⟩ := hown.keysOf
  obtain rfl : es = es' := by rw [hD] at hD'; simpa using hD'
  subst hD
  have hk' : ∀ p ∈ es, ∃ x, p.1 = .string x := fun p hp => by obtain ⟨v, hv⟩ := hko p hp; obtain ⟨x, _, hx, _⟩ := Maps.keyOf_str hk hv; exact ⟨x, hx⟩
  constructor
  · show (es.map fun p => strOf p.1).Nodup
    refine List.pairwise_map.2 (hpw.imp_of_mem fun {p q} hp' hq' hne e => hne ?_)
    obtain ⟨a, ha⟩ := hk' p hp'
    obtain ⟨b, hb⟩ := hk' q hq'
    rw [ha, hb] at e ⊢
    exact congrArg _ e
  · intro x
    rw [has_eq, List.any_eq_true]
    show x ∈ es.map (fun p => strOf p.1) ↔ _
    rw [List.mem_map]
    constructor
    · rintro ⟨p, hp', rfl⟩
      obtain ⟨a, ha⟩ := hk' p hp'
      exact ⟨p, hp', by rw [ha]; simp [Lit.sameKey, strOf]⟩
    · rintro ⟨p, hp', hs⟩
      obtain ⟨a, ha⟩ := hk' p hp'
      rw [ha] at hs
      exact ⟨p, hp', by rw [ha]; simpa [Lit.sameKey, strOf] using hs⟩
theorem intKeys_facts {P : Program} {k : TypeId} {R : Value → Option (DataW Unit × List MemPlace)} {w : World} {b n : Nat} {D : DataW Unit} (hown : w.ownsMap P k R b n D) (hk : P.underlying k = some (.int .i64)) : (intKeys D).Nodup ∧ ∀ x, x ∈ intKeys D ↔ Maps.has D (.int .i64 x) = true := by
  obtain ⟨es, hD, hpw, _⟩ := hown.entries (int_keyed hk)
  obtain ⟨es', hD', hko⟩ := hown.keysOf
  obtain rfl : es = es' := by rw [hD] at hD'; simpa using hD'
  subst hD
  have hk' : ∀ p ∈ es, ∃ x, p.1 = .int .i64 x := fun p hp => by obtain ⟨v, hv⟩ := hko p hp; obtain ⟨x, _, hx, _⟩ := Maps.keyOf_i64 hk hv; exact ⟨x, hx⟩
  constructor
  · show (es.map fun p => _root_.Go.intOf p.1).Nodup
    refine List.pairwise_map.2 (hpw.imp_of_mem fun {p q} hp' hq' hne e => hne ?_)
    obtain ⟨a, ha⟩ := hk' p hp'
    obtain ⟨b, hb⟩ := hk' q hq'
    rw [ha, hb] at e ⊢
    exact congrArg _ e
  · intro x
    rw [has_eq, List.any_eq_true]
    show x ∈ es.map (fun p => _root_.Go.intOf p.1) ↔ _
    rw [List.mem_map]
    constructor
    · rintro ⟨p, hp', rfl⟩
      obtain ⟨a, ha⟩ := hk' p hp'
      exact ⟨p, hp', by rw [ha]; simp [Lit.sameKey, _root_.Go.intOf]⟩
    · rintro ⟨p, hp', hs⟩
      obtain ⟨a, ha⟩ := hk' p hp'
      rw [ha] at hs
      exact ⟨p, hp', by rw [ha]; simpa [Lit.sameKey, _root_.Go.intOf] using hs⟩
set_option maxHeartbeats 1000000 in
theorem sortedK_any (b n : Nat) (f : L8 → Option Nat) (w : World) (h : KMap tys w b n f) (hn : n ≤ 1000000000000) :
    Calls Tryz.prog 29 #[.func (.func 60) #[] #[.pointer (some ⟨w.heap.size, 0, none⟩)]] (w.alloc (.cells #[.map (some b)] 72)) (StrAns (w.alloc (.cells #[.map (some b)] 72)) fun x => f x ≠ none) := by
  obtain ⟨D0, hown, -, -, hhas⟩ := h.has
  have hbl := hown.lt
  have hsz := hown.size_le
  have hseq : SeqGives Fence.wide 2 Tryz.prog 60 #[.pointer (some ⟨w.heap.size, 0, none⟩)] encStr (fun ss => ss.Perm (strKeys D0)) (Maps.size D0) (w.alloc (.cells #[.map (some b)] 72)) :=
    AnyZ.keys_gives (ρ := Tryz.keysK_ren) { Tryz.keysK with } Fence.wide _ trivial rfl (by omega) w.heap.size b n D0 _ (by simp) (by simp) (by
      obtain ⟨es, clock, hb, Ft, hs, hD⟩ := hown
      exact ⟨es, clock, (Below.heap_alloc _ _ b hbl).trans hb, Ft, hs, hD⟩)
  have c := AnyZ.sorted_in Tryz.sortedS Fence.wide 5 trivial trivial trivial trivial rfl (by omega) (sortsS _) (enters_of Tryz.func48 (by kernel_rfl) rfl) 60 #[.pointer (some ⟨w.heap.size, 0, none⟩)] trivial (enters_of Tryz.func60 (by kernel_rfl) rfl) _ _ (by unfold maxLen; omega) (by omega) _ hseq
  obtain ⟨hnd, hmem⟩ := strKeys_facts hown tys.hs
  refine ((callsIn_wide (n := 5)).1 c).mono fun _ _ ⟨v, ss, h1, h2, h3, _, h5⟩ => ⟨v, ss.mergeSort (fun x y => decide (x ≤ y)), h1, rising_s (h2.nodup_iff.2 hnd), fun x => ?_, by rw [List.length_mergeSort]; exact h3, h5⟩
  rw [List.mem_mergeSort, h2.mem_iff, hmem]
  have := hhas x
  rw [show Maps.has D0 (Lit.string x) = Maps.has D0 (mkS x) from rfl, this]
  cases hfx : f x <;> simp [hfx]
set_option maxHeartbeats 1000000 in
theorem sortedV_any (b n : Nat) (f : L8 → Option Nat) (w : World) (h : KMap tys w b n f) (hn : n ≤ 1000000000000) :
    Calls Tryz.prog 29 #[.func (.func 49) #[] #[.pointer (some ⟨w.heap.size, 0, none⟩)]] (w.alloc (.cells #[.map (some b)] 82)) (StrAns (w.alloc (.cells #[.map (some b)] 82)) fun x => f x ≠ none) := by
  obtain ⟨D0, hown, -, -, hhas⟩ := h.has
  have hbl := hown.lt
  have hsz := hown.size_le
  have hseq : SeqGives Fence.wide 2 Tryz.prog 49 #[.pointer (some ⟨w.heap.size, 0, none⟩)] encStr (fun ss => ss.Perm (strKeys D0)) (Maps.size D0) (w.alloc (.cells #[.map (some b)] 82)) :=
    AnyZ.keys_gives (ρ := Tryz.keysV_ren) { Tryz.keysV with } Fence.wide _ trivial rfl (by omega) w.heap.size b n D0 _ (by simp) (by simp) (by
      obtain ⟨es, clock, hb, Ft, hs, hD⟩ := hown
      exact ⟨es, clock, (Below.heap_alloc _ _ b hbl).trans hb, Ft, hs, hD⟩)
  have c := AnyZ.sorted_in Tryz.sortedS Fence.wide 5 trivial trivial trivial trivial rfl (by omega) (sortsS _) (enters_of Tryz.func48 (by kernel_rfl) rfl) 49 #[.pointer (some ⟨w.heap.size, 0, none⟩)] trivial (enters_of Tryz.func49 (by kernel_rfl) rfl) _ _ (by unfold maxLen; omega) (by omega) _ hseq
  obtain ⟨hnd, hmem⟩ := strKeys_facts hown tys.hs
  refine ((callsIn_wide (n := 5)).1 c).mono fun _ _ ⟨v, ss, h1, h2, h3, _, h5⟩ => ⟨v, ss.mergeSort (fun x y => decide (x ≤ y)), h1, rising_s (h2.nodup_iff.2 hnd), fun x => ?_, by rw [List.length_mergeSort]; exact h3, h5⟩
  rw [List.mem_mergeSort, h2.mem_iff, hmem]
  have := hhas x
  rw [show Maps.has D0 (Lit.string x) = Maps.has D0 (mkS x) from rfl, this]
  cases hfx : f x <;> simp [hfx]
set_option maxHeartbeats 1000000 in
theorem sortedV_nil (w : World) :
    Calls Tryz.prog 29 #[.func (.func 49) #[] #[.pointer (some ⟨w.heap.size, 0, none⟩)]] (w.alloc (.cells #[.map none] 82)) (StrAns (w.alloc (.cells #[.map none] 82)) fun _ => False) := by
  have hseq : SeqGives Fence.wide 2 Tryz.prog 49 #[.pointer (some ⟨w.heap.size, 0, none⟩)] encStr (fun ss : List (List UInt8) => ss = []) 0 (w.alloc (.cells #[.map none] 82)) :=
    AnyZ.keys_gives_nil (ρ := Tryz.keysV_ren) { Tryz.keysV with } Fence.wide _ trivial rfl w.heap.size _ (by simp) (by simp)
  have c := AnyZ.sorted_in Tryz.sortedS Fence.wide 5 trivial trivial trivial trivial rfl (by omega) (sortsS _) (enters_of Tryz.func48 (by kernel_rfl) rfl) 49 #[.pointer (some ⟨w.heap.size, 0, none⟩)] trivial (enters_of Tryz.func49 (by kernel_rfl) rfl) _ 0 (Nat.zero_le _) (by omega) _ hseq
  refine ((callsIn_wide (n := 5)).1 c).mono fun _ _ ⟨v, ss, h1, h2, h3, _, h5⟩ => ⟨v, [], h1, List.Pairwise.nil, fun x => by simp, ?_, h5⟩
  rw [h2, List.mergeSort_nil] at h3
  exact h3
set_option maxHeartbeats 1000000 in
theorem sortedI_any (b n : Nat) (f : Int → Option Int) (w : World) (h : CMap tys w b n f) (hn : n ≤ 1000000000000) :
    Calls Tryz.prog 51 #[.func (.func 75) #[] #[.pointer (some ⟨w.heap.size, 0, none⟩)]] (w.alloc (.cells #[.map (some b)] 84)) (IntAns (w.alloc (.cells #[.map (some b)] 84)) fun x => f x ≠ none) := by
  obtain ⟨D0, hown, -, -, hhas⟩ := h.has
  have hbl := hown.lt
  have hsz := hown.size_le
  have hseq : SeqGives Fence.wide 2 Tryz.prog 75 #[.pointer (some ⟨w.heap.size, 0, none⟩)] encZ (fun ss => ss.Perm (intKeys D0)) (Maps.size D0) (w.alloc (.cells #[.map (some b)] 84)) :=
    AnyZI.keys_gives (ρ := Tryz.keysI_ren) { Tryz.keysI with } Fence.wide _ trivial rfl (by omega) w.heap.size b n D0 _ (by simp) (by simp) (by
      obtain ⟨es, clock, hb, Ft, hs, hD⟩ := hown
      exact ⟨es, clock, (Below.heap_alloc _ _ b hbl).trans hb, Ft, hs, hD⟩)
  have c := AnyZI.sorted_in Tryz.sortedI Fence.wide 5 trivial trivial trivial trivial rfl (by omega) (sortsI _) (enters_of Tryz.func74 (by kernel_rfl) rfl) 75 #[.pointer (some ⟨w.heap.size, 0, none⟩)] trivial (enters_of Tryz.func75 (by kernel_rfl) rfl) _ _ (by unfold maxLen; omega) (by omega) _ hseq
  obtain ⟨hnd, hmem⟩ := intKeys_facts hown tys.hi
  refine ((callsIn_wide (n := 5)).1 c).mono fun _ _ ⟨v, ss, h1, h2, h3, _, h5⟩ => ⟨v, ss.mergeSort (fun x y => decide (x ≤ y)), h1, rising_i (h2.nodup_iff.2 hnd), fun x => ?_, by rw [List.length_mergeSort]; exact h3, h5⟩
  rw [List.mem_mergeSort, h2.mem_iff, hmem]
  have := hhas x
  rw [show Maps.has D0 (Lit.int .i64 x) = Maps.has D0 (mkN x) from rfl, this]
  cases hfx : f x <;> simp [hfx]
/-- 'maps.Copy' at counts; of nil it copies nothing. -/
def merge2 (f : Int → Option Int) (g : Int → Option Int) : Int → Option Int := fun x => (g x).or (f x)
theorem copyI_any (bd nd : Nat) (f : Int → Option Int) (ps : Option Nat) (g : Int → Option Int) (ns : Nat) (w : World) (hd : CMap tys w bd nd f) (hs : match ps with | some bs => CMap tys w bs ns g | none => ∀ x, g x = none) (hne : ps ≠ some bd) (hn : nd + ns ≤ maxLen) :
    Calls Tryz.prog 50 #[.map (some bd), .map ps] w fun e w' => e = .returned (.tuple #[]) ∧ CMap tys w' bd (nd + ns) (merge2 f g) ∧ w.grownBy w' (some bd) := by
  obtain ⟨Dd, hd1, hd2, hd3⟩ := hd
  cases ps with
  | none =>
    have c := AnyX.maps_Copy_opt Tryz.copyI (int_keyed tys.hi) numEl.R bd nd none Dd .nil w hd1 (.inl ⟨rfl, rfl⟩) hne (by show nd + 0 ≤ _; omega)
    refine Calls.mono c fun e w' ⟨h1, h2, h3⟩ => ⟨h1, ⟨Dd, World.ownsMap.mono h2 (by show nd + 0 ≤ _; omega), hd2, fun x z => ?_⟩, h3⟩
    have hs' : g x = none := hs x
    rw [hd3]; unfold merge2; rw [hs']; rfl
  | some bs =>
    obtain ⟨Ds, hs1, hs2, hs3, hs4⟩ := MF.has (show CMap tys w bs ns g from hs)
    have hsz := hs1.size_le
    have c := AnyX.maps_Copy_opt Tryz.copyI (int_keyed tys.hi) numEl.R bd nd (some bs) Dd Ds w hd1 (.inr ⟨bs, ns, rfl, hs1⟩) hne (by omega)
    obtain ⟨es, hD, hpw, hkl⟩ := hs1.entries (int_keyed tys.hi)
    obtain ⟨ed, hDd⟩ := hd2
    have hat : ∀ x z, (Lib.mergeD Dd Ds).atKey (mkN x) z = if Maps.has Ds (mkN x) = true then Ds.atKey (mkN x) z else Dd.atKey (mkN x) z := fun x z => by
      subst hD
      show (es.foldl (fun D p => D.put p.1 p.2) Dd).atKey (mkN x) z = _
      rw [atKey_foldPut _ _ es Dd ⟨ed, hDd⟩ hkl hpw, has_eq]
      cases hf : es.find? (fun (p : Lit × DataW Unit) => p.1.sameKey (mkN x)) with
      | some p =>
        have h1 := List.find?_some hf
        have h2 := List.mem_of_find?_eq_some hf
        have : es.any (fun p => p.1.sameKey (mkN x)) = true := List.any_eq_true.2 ⟨p, h2, h1⟩
        rw [if_pos this]
        simp [DataW.atKey, hf]
      | none =>
        have : es.any (fun p => p.1.sameKey (mkN x)) = false := by
          rw [List.any_eq_false]
          intro p hp
          simpa using List.find?_eq_none.1 hf p hp
        rw [this]; simp
    have hmap : IsMap (Lib.mergeD Dd Ds) := by
      subst hD
      have : ∀ (es : List (Lit × DataW Unit)) (D : DataW Unit), IsMap D → IsMap (es.foldl (fun D p => D.put p.1 p.2) D) := by
        intro es
        induction es with
        | nil => intro D h; exact h
        | cons p r ih => intro D h; exact ih _ (h.put _ _)
      exact this es Dd ⟨ed, hDd⟩
    refine Calls.mono c fun e w' ⟨h1, h2, h3⟩ => ⟨h1, ⟨_, World.ownsMap.mono h2 (by omega), hmap, fun x z => ?_⟩, h3⟩
    rw [hat, hs4]
    unfold merge2
    cases hg : g x with
    | none => simp [hd3]
    | some a => simp [hs3, hg]
end Go.Proofs.YtklbbcemacpimaaGreatDoor.I
