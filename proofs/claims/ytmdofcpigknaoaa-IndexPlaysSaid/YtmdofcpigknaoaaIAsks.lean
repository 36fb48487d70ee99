/- stanzakeeplaw08.asks: an index, and the reference's stanzas, answer the same. -/
import Derived.Test.YtmdofcpigknaoaaIAns
import Derived.Test.YtmdofcpigknaoaaIRefVals
import Derived.Test.YtmdofcpigknaoaaIRefBetw
namespace Go.Proofs.Ytmdofcpigknaoaa.I
open Go Go.Maps Go.Proofs Go.RowKit Go.Sort Go.Shelf

/-- Numbers, or texts, as an answer. -/
def AInts (L : List Int) (w : World) (e : Ending) (w' : World) : Prop := ∃ u, e = .returned u ∧ IntsAt w' u L ∧ Below w.heap.size w w'
def AStrs (L : List L8) (w : World) (e : Ending) (w' : World) : Prop := ∃ u, e = .returned u ∧ StrsAt w' u L ∧ Below w.heap.size w w'
theorem IntAns.is {w : World} {p : Int → Prop} {e : Ending} {w' : World} {L : List Int} (h : IntAns w p e w') (hL : ∀ ss : List Int, ss.Pairwise (· < ·) → (∀ i, i ∈ ss ↔ p i) → ss = L) : AInts L w e w' := by
  obtain ⟨v, ss, h1, h2, h3, h4, h5⟩ := h
  have := hL ss h2 h3
  subst this
  exact ⟨v, h1, IntsAt.of h4, h5⟩
theorem StrAns.is {w : World} {p : L8 → Prop} {e : Ending} {w' : World} {L : List L8} (h : StrAns w p e w') (hL : ∀ ss : List L8, ss.Pairwise (· < ·) → (∀ i, i ∈ ss ↔ p i) → ss = L) : AStrs L w e w' := by
  obtain ⟨v, ss, h1, h2, h3, h4, h5⟩ := h
  have := hL ss h2 h3
  subst this
  exact ⟨v, h1, StrsAt.of h4, h5⟩
theorem XAt.rise {own : Nat → Prop} {w : World} {xb n : Nat} {m : Ms} (h : XAt own w xb n m) : Rising m := let ⟨_, _, _, _, _, _, h⟩ := h; h.rise
theorem XAt.fine {own : Nat → Prop} {w : World} {xb n : Nat} {m : Ms} (h : XAt own w xb n m) : ∀ s ∈ m, Fine s := let ⟨_, _, _, _, _, _, h⟩ := h; h.fine
set_option maxRecDepth 100000 in
set_option maxHeartbeats 6400000 in
theorem asks_any (own A : Nat → Prop) (w : World) (xb n : Nat) (m : Ms) (v : Value) (key lo hi : ByteArray) (h : XAt own w xb n m) (hm : MsIn A w v m) (hA : ∀ b, A b → b < w.heap.size) (hn : n ≤ 1000000) (hlen : m.length ≤ 900) (hk : key.size ≤ maxLen) (hlo : lo.size ≤ maxLen) :
    Calls Try.prog 16 #[.pointer (some ⟨xb, 0, none⟩), v, .string key, .string lo, .string hi] w fun e w' => e = .returned (.bool true) ∧ Below w.heap.size w w' := by
  have hR := h.rise
  have hfew : ∀ s ∈ m, s.2.length ≤ 1000 := fun s hs => (h.fine s hs).few
  have hcn := rCount_nonneg key.data.toList lo.data.toList m
  have hcl := rCount_le key.data.toList lo.data.toList m hfew
  obtain ⟨ao, cp, rfl, -⟩ := _root_.id hm
  have hX : ∀ w', Below w.heap.size w w' → XAt own w' xb n m := fun w' hb => h.below hb
  have hM : ∀ w', Below w.heap.size w w' → MsIn A w' (.slice ao m.length cp) m ∧ ∀ b, A b → b < w'.heap.size := fun w' hb => ⟨hm.below hb hA, fun b hb' => Nat.lt_of_lt_of_le (hA b hb') hb.size⟩
  have LE := Lib.hid fun w' hb => len_any (hX w' hb)
  have WI := Lib.hid fun w' hb => (with_at (hX w' hb) hn key hk).mono fun e w2 ha => ha.is fun ss h1 h2 => who_all hR key.data.toList h1 h2
  have EQ := Lib.hid fun w' hb => (equal_at (hX w' hb) hn key lo hk hlo).mono fun e w2 ha => ha.is fun ss h1 h2 => who_eq hR key.data.toList lo.data.toList h1 h2
  have BE := Lib.hid fun w' hb => (between_at (hX w' hb) hn key lo hi hk).mono fun e w2 ha => ha.is fun ss h1 h2 => who_between hR key.data.toList lo.data.toList hi.data.toList h1 h2
  have KE := Lib.hid fun w' hb => (keys_at (hX w' hb) hn).mono fun e w2 ha => ha.is fun ss h1 h2 => keys_eq hR h1 h2
  have VA := Lib.hid fun w' hb => (values_at (hX w' hb) hn key hk).mono fun e w2 ha => ha.is fun ss h1 h2 => vals_eq hR key.data.toList h1 h2
  have CO := Lib.hid fun w' hb => count_at (hX w' hb) hn key lo hk hlo
  have RW := Lib.hid fun w' hb => (refBetween_any A (.slice ao m.length cp) m key ⟨#[]⟩ ⟨#[]⟩ true w' (hM w' hb).2 (hM w' hb).1 (by omega)).mono fun e w2 ⟨u, h1, h2, h3⟩ => (show AInts (rWho (pick key.data.toList [] [] true) m) w' e w2 from ⟨u, h1, IntsAt.of h2, h3⟩)
  have RE := Lib.hid fun w' hb => (refBetween_any A (.slice ao m.length cp) m key lo lo false w' (hM w' hb).2 (hM w' hb).1 (by omega)).mono fun e w2 ⟨u, h1, h2, h3⟩ => (show AInts (rWho (pick key.data.toList lo.data.toList lo.data.toList false) m) w' e w2 from ⟨u, h1, IntsAt.of h2, h3⟩)
  have RB := Lib.hid fun w' hb => (refBetween_any A (.slice ao m.length cp) m key lo hi false w' (hM w' hb).2 (hM w' hb).1 (by omega)).mono fun e w2 ⟨u, h1, h2, h3⟩ => (show AInts (rWho (pick key.data.toList lo.data.toList hi.data.toList false) m) w' e w2 from ⟨u, h1, IntsAt.of h2, h3⟩)
  have RK := Lib.hid fun w' hb => (refKeys_any A (.slice ao m.length cp) m w' (hM w' hb).2 (hM w' hb).1 hlen hfew).mono fun e w2 ⟨u, h1, h2, h3⟩ => (show AStrs (addAllS (keysM m)) w' e w2 from ⟨u, h1, StrsAt.of h2, h3⟩)
  have RV := Lib.hid fun w' hb => (refValues_any A (.slice ao m.length cp) m key w' (hM w' hb).2 (hM w' hb).1 hlen hfew).mono fun e w2 ⟨u, h1, h2, h3⟩ => (show AStrs (addAllS (valsM key.data.toList m)) w' e w2 from ⟨u, h1, StrsAt.of h2, h3⟩)
  have RC := Lib.hid fun w' hb => refCount_any A (.slice ao m.length cp) m key lo w' (hM w' hb).1 hlen hfew
  obtain ⟨c, hc⟩ : ∃ c, rCount key.data.toList lo.data.toList m = c := ⟨_, rfl⟩
  rw [hc] at CO RC hcn hcl
  clear h hm hX hM hfew hR hA
  go_enter Try.func16, Try.ntmps16
  go_wp2_with fail
  refine (LE.out w (Below.refl _ _)).mono ?_
  rintro e w0 ⟨rfl, hw⟩
  subst hw
  have hb0 : Below w0.heap.size w0 w0 := Below.refl _ _
  go_wp2_with fail
  refine (WI.out _ hb0).mono ?_
  rintro e wa1 ⟨ua1, rfl, ia1, ha1⟩
  have hba1 := hb0.trans (ha1.mono hb0.size)
  have IA1 := Lib.hid ia1
  clear ia1
  go_wp2_with fail
  refine (RW.out _ hba1).mono ?_
  rintro e wb1 ⟨ub1, rfl, ib1, hc1⟩
  have hbb1 := hba1.trans (hc1.mono hba1.size)
  have SA1 := Lib.hid (ints_same _ _ _ wb1 (IA1.out.below hc1) ib1)
  clear ib1 IA1
  go_wp2_with fail
  refine SA1.out.mono ?_
  rintro e wc1 ⟨rfl, k1, rfl⟩
  have hb1 := below_dn hbb1 k1
  clear SA1 ha1 hba1 hc1 hbb1
  go_wp2_with fail
  refine (EQ.out _ hb1).mono ?_
  rintro e wa2 ⟨ua2, rfl, ia2, ha2⟩
  have hba2 := hb1.trans (ha2.mono hb1.size)
  have IA2 := Lib.hid ia2
  clear ia2
  go_wp2_with fail
  refine (RE.out _ hba2).mono ?_
  rintro e wb2 ⟨ub2, rfl, ib2, hc2⟩
  have hbb2 := hba2.trans (hc2.mono hba2.size)
  have SA2 := Lib.hid (ints_same _ _ _ wb2 (IA2.out.below hc2) ib2)
  clear ib2 IA2
  go_wp2_with fail
  refine SA2.out.mono ?_
  rintro e wc2 ⟨rfl, k2, rfl⟩
  have hb2 := below_dn hbb2 k2
  clear SA2 ha2 hba2 hc2 hbb2
  go_wp2_with fail
  refine (BE.out _ hb2).mono ?_
  rintro e wa3 ⟨ua3, rfl, ia3, ha3⟩
  have hba3 := hb2.trans (ha3.mono hb2.size)
  have IA3 := Lib.hid ia3
  clear ia3
  go_wp2_with fail
  refine (RB.out _ hba3).mono ?_
  rintro e wb3 ⟨ub3, rfl, ib3, hc3⟩
  have hbb3 := hba3.trans (hc3.mono hba3.size)
  have SA3 := Lib.hid (ints_same _ _ _ wb3 (IA3.out.below hc3) ib3)
  clear ib3 IA3
  go_wp2_with fail
  refine SA3.out.mono ?_
  rintro e wc3 ⟨rfl, k3, rfl⟩
  have hb3 := below_dn hbb3 k3
  clear SA3 ha3 hba3 hc3 hbb3
  go_wp2_with fail
  refine (KE.out _ hb3).mono ?_
  rintro e wa4 ⟨ua4, rfl, ia4, ha4⟩
  have hba4 := hb3.trans (ha4.mono hb3.size)
  have IA4 := Lib.hid ia4
  clear ia4
  go_wp2_with fail
  refine (RK.out _ hba4).mono ?_
  rintro e wb4 ⟨ub4, rfl, ib4, hc4⟩
  have hbb4 := hba4.trans (hc4.mono hba4.size)
  have SA4 := Lib.hid (texts_same _ _ _ wb4 (IA4.out.below hc4) ib4)
  clear ib4 IA4
  go_wp2_with fail
  refine SA4.out.mono ?_
  rintro e wc4 ⟨rfl, k4, rfl⟩
  have hb4 := below_dn hbb4 k4
  clear SA4 ha4 hba4 hc4 hbb4
  go_wp2_with fail
  refine (VA.out _ hb4).mono ?_
  rintro e wa5 ⟨ua5, rfl, ia5, ha5⟩
  have hba5 := hb4.trans (ha5.mono hb4.size)
  have IA5 := Lib.hid ia5
  clear ia5
  go_wp2_with fail
  refine (RV.out _ hba5).mono ?_
  rintro e wb5 ⟨ub5, rfl, ib5, hc5⟩
  have hbb5 := hba5.trans (hc5.mono hba5.size)
  have SA5 := Lib.hid (texts_same _ _ _ wb5 (IA5.out.below hc5) ib5)
  clear ib5 IA5
  go_wp2_with fail
  refine SA5.out.mono ?_
  rintro e wc5 ⟨rfl, k5, rfl⟩
  have hb5 := below_dn hbb5 k5
  clear SA5 ha5 hba5 hc5 hbb5
  go_wp2_with fail
  refine (CO.out _ hb5).mono ?_
  rintro e w6 ⟨rfl, h6⟩
  have hb6 := hb5.trans (h6.mono hb5.size)
  go_wp2_with fail
  refine (RC.out _ hb6).mono ?_
  rintro e w7 ⟨rfl, rfl⟩
  go_wp2_with fail
  go_ret
  exact ⟨rfl, hb6⟩
end Go.Proofs.Ytmdofcpigknaoaa.I
