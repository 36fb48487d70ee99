/- The walk of the statement LinesIndents. -/
import Derived.Test.YteaeekhepgjliaaDoorIndent
import Derived.Test.YteaeekhepgjliaaDoorRefIndent
import Derived.StillTailTactics
namespace Go.Proofs.YteaeekhepgjliaaDoor
open Go.RowKit Go.Shelf

theorem bytes_of (s : ByteArray) : (⟨s.data.toList.toArray⟩ : ByteArray) = s := rfl
theorem indent_none (s : ByteArray) (hs : s.size ≤ 1000000) (w : World) :
    Calls Tryd.prog 22 #[.string s, .slice none 0 0] w fun e w' => e = .returned (.string s) ∧ Below w.heap.size w w' := by
  have h := indent_any s ⟨#[]⟩ (.slice none 0 0) hs (by show 0 ≤ 1000; omega) w (fun w2 _ => (Tryd.strings_Join_none none 0 ⟨#[]⟩ w2).mono fun e w' ⟨h1, h2⟩ => ⟨h1, by rw [h2]; exact Below.refl _ _⟩)
  have e : (⟨(insOf (⟨#[]⟩ : ByteArray).data.toList (splitL s.data.toList)).toArray⟩ : ByteArray) = s := by
    show (⟨(insOf [] (splitL s.data.toList)).toArray⟩ : ByteArray) = s
    rw [insOf_none, splitL_text]
  rwa [e] at h
theorem indent_two (s a b : ByteArray) (hs : s.size ≤ 1000000) (hab : (a ++ b).size ≤ 1000) (w : World) (g c : Nat) (fz : Nat × Nat) (hc : 2 ≤ c) (hg : w.heap[g]? = some (.cells #[.string a, .string b] 9 fz)) :
    Calls Tryd.prog 22 #[.string s, .slice (some ⟨g, 0, none⟩) 2 c] w fun e w' => e = .returned (.string ⟨(insOf (a ++ b).data.toList (splitL s.data.toList)).toArray⟩) ∧ Below w.heap.size w w' := by
  have hgl : g < w.heap.size := (Array.getElem?_eq_some_iff.1 hg).1
  have e : (⟨(Lib.join ([a, b].map (·.data.toList)) (⟨#[]⟩ : ByteArray).data.toList).toArray⟩ : ByteArray) = a ++ b := by
    have h : Lib.join ([a, b].map (·.data.toList)) (⟨#[]⟩ : ByteArray).data.toList = (a ++ b).data.toList := by
      rw [app_list]
      simp [Lib.join]
    rw [h]
  refine indent_any s (a ++ b) _ hs hab w (fun w2 hw2 => ?_)
  have hg2 := (hw2.block g hgl).trans hg
  have h := Tryd.strings_Join g 0 c [a, b] ⟨#[]⟩ w2 (fun j x hx => by
    match j, hx with
    | 0, hx => simp at hx; subst hx; simp [World.cell?, hg2]
    | 1, hx => simp at hx; subst hx; simp [World.cell?, hg2]
    | j + 2, hx => simp at hx) (by have := hw2.size; omega) (by simp) hc (by
      have h : Lib.join ([a, b].map (·.data.toList)) (⟨#[]⟩ : ByteArray).data.toList = (a ++ b).data.toList := by
        rw [app_list]
        simp [Lib.join]
      rw [h, size_len]; omega)
  rwa [e] at h
theorem dedent_back (s p : ByteArray) (hs : s.size ≤ 1000) (hp : p.size ≤ 200) (hn : has 10 p.data.toList = false) (w : World) :
    Calls Tryd.prog 20 #[.string ⟨(insOf p.data.toList (splitL s.data.toList)).toArray⟩, .string p] w fun e w' => e = .returned (.tuple #[.string s, .bool true]) ∧ Below w.heap.size w w' := by
  have hz : (⟨(insOf p.data.toList (splitL s.data.toList)).toArray⟩ : ByteArray).size ≤ 1000000 := by
    have h1 := insOf_le (p := p.data.toList) (l := s.data.toList) (List.prefix_refl _)
    rw [size_len, size_len] at h1
    have h2 : s.size * p.size ≤ 1000 * 200 := Nat.mul_le_mul hs hp
    show (insOf p.data.toList (splitL s.data.toList)).toArray.size ≤ _
    rw [List.size_toArray]
    omega
  have h := dedent_any ⟨(insOf p.data.toList (splitL s.data.toList)).toArray⟩ p hz w
  obtain ⟨h1, h2⟩ := ins_back p.data.toList s.data.toList hn
  have e1 : (⟨(insOf p.data.toList (splitL s.data.toList)).toArray⟩ : ByteArray).data.toList = insOf p.data.toList (splitL s.data.toList) := rfl
  rw [e1] at h
  unfold dedText at h
  rw [h1, if_pos rfl, h2] at h
  exact h
set_option maxHeartbeats 1000000 in
theorem indents_walk (s a b : ByteArray) (w : World) :
    Calls Tryd.prog 7 #[.string s, .string a, .string b] w fun e w' => e = .returned (.bool true) ∧ Below w.heap.size w w' := by
  by_cases hb : s.size ≤ 1000 ∧ a.size ≤ 100 ∧ b.size ≤ 100
  · obtain ⟨h1, h2, h3⟩ := hb
    have hab : (a ++ b).size = a.size + b.size := ByteArray.size_append
    have q1 : ¬ (1000 : Int) < s.size := by omega
    have q2 : ¬ (100 : Int) < a.size := by omega
    have q3 : ¬ (100 : Int) < b.size := by omega
    have C1 := Lib.hid (fun w => dedent_any s a (by omega) w)
    have C2 := Lib.hid (fun w => refDedent s a (by omega) w)
    have C3 := Lib.hid (fun w g c fz hc hg => indent_two s a b (by omega) (by omega) w g c fz hc hg)
    have C4 := Lib.hid (fun w => refIndent s (a ++ b) (by omega) (by omega) w)
    have C5 := Lib.hid (fun w => indent_none s (by omega) w)
    have C6 := Lib.hid (fun hn w => dedent_back s (a ++ b) h1 (by omega) hn w)
    obtain ⟨t1, ht1⟩ : ∃ t1 : ByteArray, (⟨(dedText a.data.toList (splitL s.data.toList)).toArray⟩ : ByteArray) = t1 := ⟨_, rfl⟩
    obtain ⟨o1, ho1⟩ : ∃ o1, allPre a.data.toList (splitL s.data.toList) = o1 := ⟨_, rfl⟩
    obtain ⟨t2, ht2⟩ : ∃ t2 : ByteArray, (⟨(insOf (a ++ b).data.toList (splitL s.data.toList)).toArray⟩ : ByteArray) = t2 := ⟨_, rfl⟩
    rw [ht1, ho1] at C1 C2
    rw [ht2] at C3 C4 C6
    clear ht1 ho1 ht2
    go_enter Tryd.func7, Tryd.ntmps7
    go_wp2_with fail
    refine (alive_any _).mono ?_
    rintro e w1 ⟨rfl, b1⟩
    have B1 := Lib.hid b1
    clear b1
    go_wp2_with fail
    refine (C1.out _).mono ?_
    rintro e w2 ⟨rfl, b2⟩
    have B2 := Lib.hid (B1.out.trans (b2.mono B1.out.size))
    clear b2
    go_wp2_with fail
    refine (C2.out _).mono ?_
    rintro e w3 ⟨rfl, b3⟩
    have B3 := Lib.hid (B2.out.trans (b3.mono B2.out.size))
    clear b3
    go_wp2_with fail
    refine (C3.out _ w3.heap.size 2 (0, 0) (Nat.le_refl _) (World.alloc_heap_new _ _)).mono ?_
    rintro e w4 ⟨rfl, b4⟩
    have B4 := Lib.hid ((B3.out.alloc B3.out.size _).trans (b4.mono (by simp; have := B3.out.size; omega)))
    clear b4
    go_wp2_with fail
    refine (C4.out _).mono ?_
    rintro e w5 ⟨rfl, b5⟩
    have B5 := Lib.hid (B4.out.trans (b5.mono B4.out.size))
    clear b5
    go_wp2_with fail
    refine (C5.out _).mono ?_
    rintro e w6 ⟨rfl, b6⟩
    have B6 := Lib.hid (B5.out.trans (b6.mono B5.out.size))
    clear b6
    clear C1 C2 C3 C4 C5
    go_wp2
    go_loopw [73] (fun i wr => ∃ k : Nat, i = .int .i64 k ∧ k ≤ (a ++ b).size ∧ Hid (∀ j : Nat, j < k → (a ++ b).data.toList[j]? ≠ some 10) ∧ Hid (Below w.heap.size w wr)) (fun i _ => (a ++ b).size - (intOf i).toNat)
    case atStart => exact ⟨0, rfl, Nat.zero_le _, fun j hj => absurd hj (Nat.not_lt_zero _), B6.out⟩
    case round =>
      obtain ⟨k, rfl, hk, hj, hw⟩ := hrel
      by_cases hlt : k < (a ++ b).size
      · go_wp2
        · go_ret
          exact ⟨rfl, hw.out⟩
        · have hn := get_notb (a ++ b) k hlt 10 (by assumption)
          refine ⟨⟨k + 1, by go_num, by omega, fun j h => ?_, hw.out⟩, by simp [intOf]; omega⟩
          rcases Nat.lt_or_ge j k with h' | h'
          · exact hj.out j h'
          · obtain rfl : j = k := by omega
            exact hn
      · have hn : has 10 (a ++ b).data.toList = false := not_contains_of _ _ fun j h => hj.out j (by rw [size_len] at h; omega)
        have C := Lib.hid (C6.out hn)
        clear C6 hn
        go_wp2_with fail
        refine (C.out _).mono ?_
        rintro e w7 ⟨rfl, b7⟩
        have B7 := Lib.hid (hw.out.trans (b7.mono hw.out.size))
        clear b7
        go_wp2
        go_ret
        exact ⟨rfl, B7.out⟩
  · have hb' : (1000 : Int) < s.size ∨ (100 : Int) < a.size ∨ (100 : Int) < b.size := by omega
    clear hb
    go_enter Tryd.func7, Tryd.ntmps7
    go_wp2_with fail
    refine (alive_any _).mono ?_
    rintro e w1 ⟨rfl, b1⟩
    have B1 := Lib.hid b1
    clear b1
    rcases hb' with h | h | h
    all_goals
      go_wp2
      all_goals
        go_ret
        exact ⟨rfl, B1.out⟩
end Go.Proofs.YteaeekhepgjliaaDoor
