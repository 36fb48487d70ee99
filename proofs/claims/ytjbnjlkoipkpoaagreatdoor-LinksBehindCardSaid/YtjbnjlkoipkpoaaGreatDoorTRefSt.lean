/- The reference's lines of a field: stanzakeepref05.behind, .said. What is wrong at a line: stanzakeepref05.wrong. Where the reference's parser stands in memory. -/
import Derived.Test.YtjbnjlkoipkpoaaGreatDoorTUnf
import Derived.Test.YtjbnjlkoipkpoaaGreatDoorBRefLaw
import Derived.Deep.RegionLaw
import Derived.Laws.AppendOwnNone
namespace Go.Proofs.YtjbnjlkoipkpoaaGreatDoor.B
open Go.RowKit Go.Shelf
open Go.Proofs.YtjbnjlkoipkpoaaGreatDoor.T

/-- Lines lie in a row, below block C. -/
def LinesAt (C : Nat) (w : World) (v : Value) (xs : List LineD) : Prop :=
  ∃ (ao : Option Addr) (cp : Nat), v = .slice ao xs.length cp ∧ ∀ (k : Nat) (x : LineD), xs[k]? = some x → ∃ g, ao = some ⟨g, 0, none⟩ ∧ g < C ∧ w.cell? ⟨g, k * 4 + 2, none⟩ = some (.string ⟨x.text.toArray⟩) ∧ w.cell? ⟨g, k * 4 + 3, none⟩ = some (.bool x.ended)
theorem LinesAt.below {C D : Nat} {w w' : World} {v : Value} {xs : List LineD} (h : LinesAt C w v xs) (hb : Below D w w') (hC : C ≤ D) : LinesAt C w' v xs :=
  let ⟨ao, cp, h1, h2⟩ := h
  ⟨ao, cp, h1, fun k s hk => let ⟨g, h3, h4, h5, h6⟩ := h2 k s hk; ⟨g, h3, h4, (hb.cell (p := ⟨g, _, none⟩) (by show g < D; omega)).trans h5, (hb.cell (p := ⟨g, _, none⟩) (by show g < D; omega)).trans h6⟩⟩
theorem LinesAt.up {C D : Nat} {w : World} {v : Value} {xs : List LineD} (h : LinesAt C w v xs) (hC : C ≤ D) : LinesAt D w v xs :=
  let ⟨ao, cp, h1, h2⟩ := h
  ⟨ao, cp, h1, fun k s hk => let ⟨g, h3, h4, h5⟩ := h2 k s hk; ⟨g, h3, by omega, h5⟩⟩
theorem rowCells_get : ∀ (xs : List LineD) (k : Nat) (x : LineD), xs[k]? = some x → (rowCells xs)[k * 4 + 2]? = some (.string ⟨x.text.toArray⟩) ∧ (rowCells xs)[k * 4 + 3]? = some (.bool x.ended)
  | [], k, x, h => by simp at h
  | y :: r, 0, x, h => by simp at h; subst h; exact ⟨rfl, rfl⟩
  | y :: r, k + 1, x, h => by
    obtain ⟨h1, h2⟩ := rowCells_get r k x (by simpa using h)
    have e1 : (k + 1) * 4 = k * 4 + 1 + 1 + 1 + 1 := by omega
    rw [e1]
    have e : rowCells (y :: r) = lineCells y ++ rowCells r := by simp [rowCells]
    rw [e]
    exact ⟨by simpa [lineCells] using h1, by simpa [lineCells] using h2⟩
theorem LinesAt.row {base : Nat} {w : World} {v : Value} {xs : List LineD} (h : w.ownsRow base 178 4 v xs.length (rowCells xs)) : LinesAt w.heap.size w v xs := by
  rcases h.2 with ⟨h0, h1⟩ | ⟨g, cap, cur, hv, hb, hg, -⟩
  · refine ⟨none, 0, ?_, fun k f hk => ?_⟩
    · rw [h1, h0]
    · have := (List.getElem?_eq_some_iff.1 hk).1; omega
  · refine ⟨_, cap, hv, fun k x hk => ⟨g, rfl, (Array.getElem?_eq_some_iff.1 hg).1, ?_⟩⟩
    obtain ⟨h3, h4⟩ := rowCells_get xs k x hk
    have e1 := h.cells (g := g) (by rw [hv]; rfl) _ _ h3
    have e2 := h.cells (g := g) (by rw [hv]; rfl) _ _ h4
    rw [addrO] at e1 e2
    exact ⟨e1, e2⟩
def kindsOf (xs : List LineD) : List Nat := xs.map fun x => kindOf x.text
theorem kindsOf_get {xs : List LineD} {k : Nat} {x : LineD} (h : xs[k]? = some x) : (kindsOf xs)[k]? = some (kindOf x.text) := by simp [kindsOf, h]
theorem kindsOf_len (xs : List LineD) : (kindsOf xs).length = xs.length := by simp [kindsOf]
/-- Does a Pair or More line stand right ahead? -/
def behB (ks : List Nat) : Nat → Bool
  | 0 => false
  | i + 1 => isPart (ks.getD i 0)
set_option maxRecDepth 20000 in
set_option maxHeartbeats 1600000 in
theorem behind_any (v : Value) (ks : List Nat) (i : Nat) (w : World) (h : IntsAt w.heap.size w v ks) (hi : i ≤ ks.length) (hn : ks.length ≤ 1000000) :
    Calls Tryz.prog 151 #[v, .int .i64 i] w fun e w' => e = .returned (.bool (behB ks i)) ∧ w = w' := by
  obtain ⟨ao, cp, rfl, hc⟩ := h
  have HC := Lib.hid hc
  clear hc
  cases i with
  | zero =>
    go_enter Tryz.func151, Tryz.ntmps151
    go_wp2
    go_ret
    exact ⟨rfl, rfl⟩
  | succ i =>
    obtain ⟨n, hn'⟩ : ∃ n, ks[i]? = some n := ⟨_, List.getElem?_eq_getElem (by omega)⟩
    obtain ⟨a, rfl, -, h1⟩ := HC.out i n hn'
    have e0 : behB ks (i + 1) = (n == 4 || n == 3) := by simp [behB, hn', isPart]
    have E0 := Lib.hid e0
    have e1 : (((i + 1 : Nat) : Int)) = (i : Int) + 1 := by omega
    rw [e1]
    clear hn' e0 e1
    by_cases h4 : n = 4
    · subst h4
      go_enter Tryz.func151, Tryz.ntmps151
      go_wp2
      go_ret
      exact ⟨by rw [E0.out]; rfl, rfl⟩
    · have h4b : ((n : Int) == 4) = false := by rw [beq_eq_false_iff_ne]; omega
      have h4c : (n == 4) = false := by rw [beq_eq_false_iff_ne]; omega
      by_cases h3 : n = 3
      · subst h3
        go_enter Tryz.func151, Tryz.ntmps151
        go_wp2
        go_ret
        exact ⟨by rw [E0.out]; rfl, rfl⟩
      · have h3b : ((n : Int) == 3) = false := by rw [beq_eq_false_iff_ne]; omega
        have h3c : (n == 3) = false := by rw [beq_eq_false_iff_ne]; omega
        have E1 : Hid (behB ks (i + 1) = false) := Lib.hid (by rw [E0.out, h4c, h3c]; rfl)
        clear h3 h4
        go_enter Tryz.func151, Tryz.ntmps151
        go_wp2
        go_ret
        exact ⟨by rw [E1.out]; rfl, rfl⟩
theorem mores_take (r : List LineD) : mores r = r.take (mores r).length := by
  have h := mores_others r
  have h2 : r.take (mores r).length = (mores r ++ others r).take (mores r).length := by rw [h]
  rw [h2]; simp
theorem mores_len (r : List LineD) : (mores r).length ≤ r.length := by
  have := congrArg List.length (mores_others r)
  rw [List.length_append] at this; omega
theorem mores_in {r : List LineD} {j : Nat} {y : LineD} (hj : j < (mores r).length) (hy : r[j]? = some y) : kindOf y.text = 3 := by
  have h1 : (mores r)[j]? = some y := by rw [mores_take, List.getElem?_take, if_pos hj]; exact hy
  exact mores_kind y (List.mem_of_getElem? h1)
theorem mores_out {r : List LineD} {y : LineD} (hy : r[(mores r).length]? = some y) : kindOf y.text ≠ 3 := by
  have h := mores_others r
  have h1 : (mores r ++ others r)[(mores r).length]? = some y := by rw [h]; exact hy
  rw [List.getElem?_append_right (Nat.le_refl _), Nat.sub_self] at h1
  cases ho : others r with
  | nil => rw [ho] at h1; simp at h1
  | cons z t =>
    rw [ho] at h1
    simp at h1
    rw [← h1]
    exact others_kind ho
/-- The lines of the field that begins at a line. -/
def saidL (x : LineD) (r : List LineD) : List (List UInt8) := x.text :: (mores r).map (·.text)
theorem strC_snoc (ls : List (List UInt8)) (l : List UInt8) : (ls ++ [l]).flatMap strC = ls.flatMap strC ++ [.string ⟨l.toArray⟩] := by simp [strC]
theorem strC_one (ls : List (List UInt8)) : ∀ u ∈ ls.flatMap strC, u.oneCell' = true := by
  intro u hu
  obtain ⟨a, _, ha⟩ := List.mem_flatMap.1 hu
  unfold strC at ha
  simp at ha
  rw [ha]; rfl
def SRel (w : World) (x : LineD) (r : List LineD) (i : Nat) (v k : Value) (wr : World) : Prop :=
  ∃ (j : Nat), k = .int .i64 ((i : Int) + 1 + j) ∧ j ≤ (mores r).length ∧ Hid (wr.ownsRow w.heap.size 9 1 v (j + 1) ((x.text :: (r.take j).map (·.text)).flatMap strC)) ∧ Hid (Below w.heap.size w wr)
set_option maxRecDepth 20000 in
set_option maxHeartbeats 3200000 in
theorem said_any (vl vk : Value) (xs : List LineD) (i : Nat) (x : LineD) (w : World) (hl : LinesAt w.heap.size w vl xs) (hk : IntsAt w.heap.size w vk (kindsOf xs)) (hx : xs[i]? = some x) (hn : xs.length ≤ 1000000) :
    Calls Tryz.prog 106 #[vl, vk, .int .i64 i] w fun e w' => ∃ u, e = .returned u ∧ w'.ownsRow w.heap.size 9 1 u (saidL x (xs.drop (i + 1))).length ((saidL x (xs.drop (i + 1))).flatMap strC) ∧ Below w.heap.size w w' := by
  obtain ⟨i0, hi0, hz0, hz1, hz2⟩ := info_parts infoS
  obtain ⟨lo, lc, rfl, hL⟩ := hl
  obtain ⟨ko, kc, rfl, hK⟩ := hk
  have HL := Lib.hid hL
  have HK := Lib.hid hK
  obtain ⟨g, rfl, hg, hg2, -⟩ := hL i x hx
  have hil := (List.getElem?_eq_some_iff.1 hx).1
  obtain ⟨r, hr⟩ : ∃ r, xs.drop (i + 1) = r := ⟨_, rfl⟩
  have HRG := Lib.hid (fun (j : Nat) (y : LineD) (hy : r[j]? = some y) => show xs[i + 1 + j]? = some y by rw [← hr, List.getElem?_drop] at hy; exact hy)
  have hrl : r.length = xs.length - (i + 1) := by rw [← hr, List.length_drop]
  have HRL := Lib.hid hrl
  have hml := mores_len r
  rw [hr]
  have hkl := kindsOf_len xs
  rw [hkl]
  obtain ⟨s0, hs0⟩ : ∃ s0 : ByteArray, (⟨x.text.toArray⟩ : ByteArray) = s0 := ⟨_, rfl⟩
  rw [hs0] at hg2
  have HS0 := Lib.hid hs0
  have hml2 : (mores r).length ≤ 1000000 := by omega
  clear hL hK hx hr hrl hs0 hkl
  obtain ⟨B, hBB⟩ : ∃ B, w.heap.size = B := ⟨_, rfl⟩
  have R0 : SRel w x r i (.slice (some ⟨w.heap.size, 0, none⟩) 1 1) (.int .i64 ((i : Int) + 1)) (w.alloc (.cells #[.string s0] 9)) := by
    refine ⟨0, by simp, Nat.zero_le _, Lib.hid ?_, Lib.hid (below_grow1 w _)⟩
    refine ⟨rfl, .inr ⟨w.heap.size, 1, #[.string s0], rfl, Nat.le_refl _, heap_alloc_new w _, Nat.le_refl _, by unfold maxLen; omega, rfl, ?_⟩⟩
    rw [← HS0.out]; rfl
  have HR0 := Lib.hid R0
  clear R0
  rw [hBB] at HR0
  go_enter Tryz.func106, Tryz.ntmps106
  go_wp2
  go_loopw [7, 8] (fun v k wr => SRel w x r i v k wr) (fun _ k _ => i + 1 + (mores r).length + 1 - (intOf k).toNat)
  case atStart => exact HR0.out
  case round =>
    clear HR0
    obtain ⟨j, rfl, hj, hO, hW⟩ := hrel
    have hzr : B ≤ wr.heap.size := hBB ▸ hW.out.size
    by_cases hlt : j < (mores r).length
    · obtain ⟨y, hy⟩ : ∃ y, r[j]? = some y := ⟨_, List.getElem?_eq_getElem (by omega)⟩
      have hxy := HRG.out j y hy
      have hjl := (List.getElem?_eq_some_iff.1 hxy).1
      obtain ⟨g', e, -, h5, -⟩ := HL.out (i + 1 + j) y hxy
      cases e
      obtain ⟨a, ha, ha1, ha2⟩ := HK.out (i + 1 + j) _ (kindsOf_get hxy)
      have hk3 := mores_in hlt hy
      rw [hk3] at ha2
      subst ha
      have d1 := (hW.out.cell (p := ⟨g, (i + 1 + j) * 4 + 2, none⟩) hg).trans h5
      have d2 := (hW.out.cell (p := a.add (i + 1 + j)) (by rw [add_block]; exact ha1)).trans ha2
      obtain ⟨s, hs⟩ : ∃ s : ByteArray, (⟨y.text.toArray⟩ : ByteArray) = s := ⟨_, rfl⟩
      rw [hs] at d1
      have HS := Lib.hid hs
      have HY : Hid ((x.text :: (r.take (j + 1)).map (·.text)).flatMap strC = (x.text :: (r.take j).map (·.text)).flatMap strC ++ [.string s]) := Lib.hid (by
        rw [← hs, ← strC_snoc, List.take_add_one, hy]; simp)
      have hO3 := hO.out
      obtain ⟨vo, vc, hv⟩ := own_shape hO3
      subst hv
      have HO3 := Lib.hid hO3
      have HO4 := Lib.hid (World.ownsRow.alloc hO3 (.cells #[.string s] 9))
      have e3 : ((i : Int) + 1 + (j : Int)) = ((i + 1 + j : Nat) : Int) := by omega
      rw [e3]
      obtain ⟨q, hq⟩ : ∃ q, i + 1 + j = q := ⟨_, rfl⟩
      rw [hq] at d1 d2 hjl
      rw [hq]
      have HQ := Lib.hid hq
      clear hy hxy h5 ha2 hk3 hs hO hO3 e3 hq
      go_wp2_with (at_builtin; refine wpList_append_lies _ rfl _ _ _ rfl w.heap.size 9 i0 _ 1 16 Tryz.underlying39 hi0 hz0 hz1 hz2 rfl (by omega) (.slice vo (j + 1) vc) (j + 1) _ rfl HO4.out ⟨wr.heap.size, 0, none⟩ 1 1 [.string s] rfl rfl (World.news_of_block (cs := #[.string s]) (heap_alloc_new wr _)) (by simp [Value.oneCell']) (by omega) (by unfold maxLen; omega) (by omega) (by simp; omega) _ rfl ?_; refine Hid.out ?_)
      refine Lib.hid ?_
      intro gg cap w8 hown8 hgrow hat hlt8
      have hb0 := hW.out.alloc (by rw [hBB]; exact hzr) (.cells #[.string s] 9)
      have HB8 := Lib.hid (hb0.grown hgrow hb0.size (fun q hq => (World.ownsRow.lt HO3.out q hq).1))
      have HN8 := Lib.hid hown8
      clear hown8 hgrow hat hb0
      go_wp2
      refine ⟨⟨j + 1, by rw [← HQ.out]; go_num, by omega, ?_, HB8⟩, by rw [← HQ.out]; simp [intOf]; omega⟩
      refine Lib.hid ?_
      rw [hBB, HY.out]
      simp only [List.flatMap_cons, List.map_take, List.append_assoc]
      exact HN8.out
    · have hje : j = (mores r).length := by omega
      subst hje
      have hO3 := hO.out
      have hU : wr.ownsRow w.heap.size 9 1 u7 (saidL x r).length ((saidL x r).flatMap strC) := by
        unfold saidL
        rw [List.length_cons, List.length_map]
        have := hO3
        rw [← mores_take] at this
        exact this
      have HU := Lib.hid hU
      have e3 : ((i : Int) + 1 + ((mores r).length : Int)) = ((i + 1 + (mores r).length : Nat) : Int) := by omega
      rw [e3]
      by_cases hend : i + 1 + (mores r).length < xs.length
      · obtain ⟨y, hy⟩ : ∃ y, r[(mores r).length]? = some y := ⟨_, List.getElem?_eq_getElem (by have := HRL.out; omega)⟩
        have hxy := HRG.out _ y hy
        obtain ⟨a, ha, ha1, ha2⟩ := HK.out _ _ (kindsOf_get hxy)
        have hk3 := mores_out hy
        subst ha
        have d2 := (hW.out.cell (p := a.add _) (by rw [add_block]; exact ha1)).trans ha2
        have h3b : ((kindOf y.text : Int) == 3) = false := by rw [beq_eq_false_iff_ne]; omega
        obtain ⟨q, hq⟩ : ∃ q, i + 1 + (mores r).length = q := ⟨_, rfl⟩
        rw [hq] at d2 hend
        rw [hq]
        clear hy hxy ha2 hk3 hU hO hO3 e3 hq
        go_wp2
        go_ret
        exact ⟨_, rfl, HU.out, hW.out⟩
      · obtain ⟨q, hq⟩ : ∃ q, i + 1 + (mores r).length = q := ⟨_, rfl⟩
        rw [hq] at hend
        rw [hq]
        clear hU hO hO3 e3 hq
        go_wp2
        go_ret
        exact ⟨_, rfl, HU.out, hW.out⟩
end Go.Proofs.YtjbnjlkoipkpoaaGreatDoor.B

namespace Go.Proofs.YtjbnjlkoipkpoaaGreatDoor.B
open Go.RowKit Go.Shelf
open Go.Proofs.YtjbnjlkoipkpoaaGreatDoor.T

def wrongAt (b : Bool) (fl rc : Nat) (x : LineD) (r : List LineD) : Nat :=
  if kindOf x.text = 5 ∨ (kindOf x.text = 3 ∧ b = false) ∨ x.ended = false then 2
  else if kindOf x.text ≠ 4 then 0
  else if unfoldN (saidL x r) ≠ 0 then unfoldN (saidL x r)
  else if 40 ≤ fl ∨ (fl = 0 ∧ 400 ≤ rc) then 11 else 0
theorem wrongN_eq (b : Bool) (s : Rs) (x : LineD) (r : List LineD) : wrongN b s x r = wrongAt b s.fields.length s.records x r := rfl
theorem kind_cases (l : List UInt8) : kindOf l = 1 ∨ kindOf l = 2 ∨ kindOf l = 3 ∨ kindOf l = 4 ∨ kindOf l = 5 := by
  rw [kindOf_eq]
  repeat' split
  all_goals simp
theorem said_text {w : World} {base : Nat} {u : Value} {x : LineD} {r : List LineD} (h : w.ownsRow base 9 1 u (saidL x r).length ((saidL x r).flatMap strC)) : TextsAt w u (saidL x r) := TextsAt.of h rfl (by simp [saidL])
theorem mass_said (x : LineD) (r : List LineD) : massOf (saidL x r) ≤ massOf ((x :: r).map (·.text)) := by
  have h := mores_others r
  have e : massOf ((x :: r).map (·.text)) = x.text.length + 1 + massOf (r.map (·.text)) := by rw [List.map_cons, massOf_cons]
  have e2 : massOf (saidL x r) = x.text.length + 1 + massOf ((mores r).map (·.text)) := massOf_cons _ _
  rw [e, e2, ← h, List.map_append]
  have : ∀ a b : List (List UInt8), massOf a ≤ massOf (a ++ b) := by
    intro a b
    induction a with
    | nil => simp [massOf]
    | cons y t ih => rw [List.cons_append, massOf_cons, massOf_cons]; omega
  have := this ((mores r).map (·.text)) ((others r).map (·.text))
  rw [h]
  have h9 : mores (mores r ++ others r) = mores r := by rw [h]
  omega
theorem mass_drop : ∀ (xs : List LineD) (i : Nat), massOf ((xs.drop i).map (·.text)) ≤ massOf (xs.map (·.text))
  | [], i => by simp
  | x :: t, 0 => by simp
  | x :: t, i + 1 => by rw [List.drop_succ_cons, List.map_cons, massOf_cons]; have := mass_drop t i; omega
theorem unf_is (x : LineD) (r : List LineD) (h4 : kindOf x.text = 4) : UnfIs x.text ((mores r).map (·.text)) (unfoldN (saidL x r)) (if unfoldN (saidL x r) = 0 then unfoldF (saidL x r) else ⟨[], []⟩) := by
  have e : unfoldN (saidL x r) = if 1000 < (fieldOf x.text ((mores r).map (·.text))).val.length then 6 else 0 := by
    unfold saidL
    rw [unfoldN_cons, if_neg (by rw [h4]; simp), if_neg]
    intro h
    obtain ⟨s, hs, h1⟩ := List.any_eq_true.1 h
    obtain ⟨m, hm, rfl⟩ := List.mem_map.1 hs
    have := mores_kind m hm
    rw [this] at h1; simp at h1
  unfold UnfIs
  by_cases h : 1000 < (fieldOf x.text ((mores r).map (·.text))).val.length
  · rw [e, if_pos h]; exact .inl ⟨h, rfl, rfl⟩
  · rw [e, if_neg h]; exact .inr ⟨by omega, rfl, rfl⟩
/-- The reference's Unfold at the lines of a field. -/
theorem unf_said {w : World} {base : Nat} {u : Value} {x : LineD} {r : List LineD} (h : w.ownsRow base 9 1 u (saidL x r).length ((saidL x r).flatMap strC)) (h4 : kindOf x.text = 4) (hm : massOf (saidL x r) ≤ 200000) :
    Calls Tryz.prog 105 #[u] w fun e w' => e = .returned (.tuple #[fvl (if unfoldN (saidL x r) = 0 then unfoldF (saidL x r) else ⟨[], []⟩), .int .i64 (unfoldN (saidL x r))]) ∧ Below w.heap.size w w' :=
  refUnf_any w u x.text _ _ _ (said_text h) h4 (fun m hm => by obtain ⟨y, hy, rfl⟩ := List.mem_map.1 hm; exact mores_kind y hy) hm (unf_is x r h4)
set_option maxRecDepth 20000 in
set_option maxHeartbeats 6400000 in
theorem wrong_any (vl vk : Value) (xs : List LineD) (i : Nat) (x : LineD) (fl rc : Nat) (w : World) (hl : LinesAt w.heap.size w vl xs) (hk : IntsAt w.heap.size w vk (kindsOf xs)) (hx : xs[i]? = some x) (hn : xs.length ≤ 1000000) (hm : massOf (xs.map (·.text)) ≤ 200000) (hfl : fl ≤ 1000000) (hrc : rc ≤ 1000000) :
    Calls Tryz.prog 104 #[vl, vk, .int .i64 i, .int .i64 fl, .int .i64 rc] w fun e w' => e = .returned (.int .i64 (wrongAt (behB (kindsOf xs) i) fl rc x (xs.drop (i + 1)))) ∧ Below w.heap.size w w' := by
  have SD := Lib.hid (said_any vl vk xs i x w hl hk hx hn)
  have hil := (List.getElem?_eq_some_iff.1 hx).1
  have BH := Lib.hid (behind_any vk (kindsOf xs) i w hk (by rw [kindsOf_len]; omega) (by rw [kindsOf_len]; exact hn))
  have hms : massOf (saidL x (xs.drop (i + 1))) ≤ 200000 := by
    have h1 := mass_said x (xs.drop (i + 1))
    have h2 := mass_drop xs i
    have h3 : xs.drop i = x :: xs.drop (i + 1) := by
      rw [List.drop_eq_getElem_cons hil]
      rw [List.getElem?_eq_getElem hil] at hx
      injection hx with hx
      rw [hx]
    rw [h3] at h2
    omega
  have HMS := Lib.hid hms
  have HUS := Lib.hid (fun (w' : World) (u : Value) (h4 : kindOf x.text = 4) (h : w'.ownsRow w.heap.size 9 1 u (saidL x (xs.drop (i + 1))).length ((saidL x (xs.drop (i + 1))).flatMap strC)) => unf_said h h4 hms)
  obtain ⟨lo, lc, rfl, hL⟩ := hl
  obtain ⟨ko, kc, rfl, hK⟩ := hk
  obtain ⟨g, rfl, hg, hg2, hg3⟩ := hL i x hx
  obtain ⟨a, rfl, ha, hk1⟩ := hK i _ (kindsOf_get hx)
  have hkl := kindsOf_len xs
  rw [hkl] at BH SD ⊢
  obtain ⟨b, hb⟩ : ∃ b, behB (kindsOf xs) i = b := ⟨_, rfl⟩
  rw [hb] at BH
  rw [hb]
  obtain ⟨r, hr⟩ : ∃ r, xs.drop (i + 1) = r := ⟨_, rfl⟩
  rw [hr] at SD HUS
  rw [hr]
  obtain ⟨W, hW⟩ : ∃ W, wrongAt b fl rc x r = W := ⟨_, rfl⟩
  rw [hW]
  have HWW : Hid (wrongAt b fl rc x r = W) := Lib.hid hW
  have HK1 := Lib.hid hk1
  clear hL hK hx hms hm hkl hb hr hW hk1
  have fin : ∀ (n : Nat), wrongAt b fl rc x r = n → W = n := fun n h => HWW.out.symm.trans h
  have HFIN := Lib.hid fin
  clear fin
  rcases kind_cases x.text with hkd | hkd | hkd | hkd | hkd
  · have k1 := HK1.out
    rw [hkd] at k1
    have HKD := Lib.hid hkd
    clear hkd SD
    cases he : x.ended with
    | false =>
      rw [he] at hg3
      have E : Hid (W = 2) := Lib.hid (HFIN.out 2 (by unfold wrongAt; rw [if_pos (.inr (.inr he))]))
      clear he
      go_enter Tryz.func104, Tryz.ntmps104
      go_wp2
      go_ret
      exact ⟨by rw [E.out]; rfl, Below.refl _ _⟩
    | true =>
      rw [he] at hg3
      have E : Hid (W = 0) := Lib.hid (HFIN.out 0 (by unfold wrongAt; rw [if_neg (by rw [HKD.out, he]; simp), if_pos (by rw [HKD.out]; simp)]))
      clear he
      go_enter Tryz.func104, Tryz.ntmps104
      go_wp2
      go_ret
      exact ⟨by rw [E.out]; rfl, Below.refl _ _⟩
  · have k1 := HK1.out
    rw [hkd] at k1
    have HKD := Lib.hid hkd
    clear hkd SD
    cases he : x.ended with
    | false =>
      rw [he] at hg3
      have E : Hid (W = 2) := Lib.hid (HFIN.out 2 (by unfold wrongAt; rw [if_pos (.inr (.inr he))]))
      clear he
      go_enter Tryz.func104, Tryz.ntmps104
      go_wp2
      go_ret
      exact ⟨by rw [E.out]; rfl, Below.refl _ _⟩
    | true =>
      rw [he] at hg3
      have E : Hid (W = 0) := Lib.hid (HFIN.out 0 (by unfold wrongAt; rw [if_neg (by rw [HKD.out, he]; simp), if_pos (by rw [HKD.out]; simp)]))
      clear he
      go_enter Tryz.func104, Tryz.ntmps104
      go_wp2
      go_ret
      exact ⟨by rw [E.out]; rfl, Below.refl _ _⟩
  · have k1 := HK1.out
    rw [hkd] at k1
    have HKD := Lib.hid hkd
    clear hkd SD
    cases b with
    | false =>
      have E : Hid (W = 2) := Lib.hid (HFIN.out 2 (by unfold wrongAt; rw [if_pos (.inr (.inl ⟨HKD.out, rfl⟩))]))
      go_enter Tryz.func104, Tryz.ntmps104
      go_wp2_with fail
      refine BH.out.mono ?_
      rintro e w' ⟨rfl, rfl⟩
      go_wp2
      go_ret
      exact ⟨by rw [E.out]; rfl, Below.refl _ _⟩
    | true =>
      cases he : x.ended with
      | false =>
        rw [he] at hg3
        have E : Hid (W = 2) := Lib.hid (HFIN.out 2 (by unfold wrongAt; rw [if_pos (.inr (.inr he))]))
        clear he
        go_enter Tryz.func104, Tryz.ntmps104
        go_wp2_with fail
        refine BH.out.mono ?_
        rintro e w' ⟨rfl, rfl⟩
        go_wp2
        go_ret
        exact ⟨by rw [E.out]; rfl, Below.refl _ _⟩
      | true =>
        rw [he] at hg3
        have E : Hid (W = 0) := Lib.hid (HFIN.out 0 (by unfold wrongAt; rw [if_neg (by rw [HKD.out, he]; simp), if_pos (by rw [HKD.out]; simp)]))
        clear he
        go_enter Tryz.func104, Tryz.ntmps104
        go_wp2_with fail
        refine BH.out.mono ?_
        rintro e w' ⟨rfl, rfl⟩
        go_wp2
        go_ret
        exact ⟨by rw [E.out]; rfl, Below.refl _ _⟩
  · have k1 := HK1.out
    rw [hkd] at k1
    have HKD := Lib.hid hkd
    clear hkd
    cases he : x.ended with
    | false =>
      rw [he] at hg3
      have E : Hid (W = 2) := Lib.hid (HFIN.out 2 (by unfold wrongAt; rw [if_pos (.inr (.inr he))]))
      clear he
      go_enter Tryz.func104, Tryz.ntmps104
      go_wp2
      go_ret
      exact ⟨by rw [E.out]; rfl, Below.refl _ _⟩
    | true =>
      rw [he] at hg3
      have hgo : ¬ (kindOf x.text = 5 ∨ (kindOf x.text = 3 ∧ b = false) ∨ x.ended = false) := by rw [HKD.out, he]; simp
      obtain ⟨N, hN⟩ : ∃ N, unfoldN (saidL x r) = N := ⟨_, rfl⟩
      have hN2 : N = 0 ∨ N = 6 := by
        rcases unf_is x r HKD.out with ⟨-, h1, -⟩ | ⟨-, h1, -⟩
        · exact .inr (by rw [← hN]; exact h1)
        · exact .inl (by rw [← hN]; exact h1)
      obtain ⟨F, hF⟩ : ∃ F, (if unfoldN (saidL x r) = 0 then unfoldF (saidL x r) else (⟨[], []⟩ : Fd)) = F := ⟨_, rfl⟩
      have HU2 : Hid (∀ (w' : World) (u : Value), w'.ownsRow w.heap.size 9 1 u (saidL x r).length ((saidL x r).flatMap strC) → Calls Tryz.prog 105 #[u] w' fun e w'' => e = .returned (.tuple #[fvl F, .int .i64 N]) ∧ Below w'.heap.size w' w'') := Lib.hid (fun w' u h => by
        have := HUS.out w' u HKD.out h
        rw [hF, hN] at this
        exact this)
      unfold fvl fdV at HU2
      have EW : Hid (W = if N ≠ 0 then N else if 40 ≤ fl ∨ (fl = 0 ∧ 400 ≤ rc) then 11 else 0) := Lib.hid (HFIN.out _ (by unfold wrongAt; rw [if_neg hgo, if_neg (by rw [HKD.out]; simp), hN]))
      have hp : ∀ a b : ByteArray, (binOp .neq 3 (.int .i64 (N : Int)) (.int .i64 0)).run Tryz.prog default = (binOp .neq 3 (.int .i64 (N : Int)) (.int .i64 0)).run Tryz.prog default := fun _ _ => rfl
      clear he hgo hN hF hp HUS
      go_enter Tryz.func104, Tryz.ntmps104
      go_wp2_with fail
      refine SD.out.mono ?_
      rintro e w1 ⟨u, rfl, hU, hb1⟩
      have UU := Lib.hid (HU2.out w1 u hU)
      have HB1 := Lib.hid hb1
      have hz1 := hb1.size
      clear hU hb1 SD HU2
      go_wp2_with fail
      refine UU.out.mono ?_
      rintro e w2 ⟨rfl, hb2⟩
      have HB2 := Lib.hid (HB1.out.trans (hb2.mono hz1))
      have hz2 := HB2.out.size
      clear hb2 UU
      have HB3 := fun o => Lib.hid (HB2.out.alloc hz2 o)
      rcases hN2 with rfl | rfl
      · by_cases h40 : 40 ≤ fl
        · have E : Hid (W = 11) := Lib.hid (by rw [EW.out, if_neg (by simp), if_pos (.inl h40)])
          go_wp2
          go_ret
          exact ⟨by rw [E.out]; rfl, (HB3 _).out⟩
        · by_cases h0 : fl = 0
          · subst h0
            by_cases h400 : 400 ≤ rc
            · have E : Hid (W = 11) := Lib.hid (by rw [EW.out, if_neg (by simp), if_pos (.inr ⟨rfl, h400⟩)])
              go_wp2
              go_ret
              exact ⟨by rw [E.out]; rfl, (HB3 _).out⟩
            · have E : Hid (W = 0) := Lib.hid (by rw [EW.out, if_neg (by simp), if_neg (by omega)])
              go_wp2
              go_ret
              exact ⟨by rw [E.out]; rfl, (HB3 _).out⟩
          · have h0b : ((fl : Int) == 0) = false := by rw [beq_eq_false_iff_ne]; omega
            have h0c : (fl == 0) = false := by rw [beq_eq_false_iff_ne]; omega
            have E : Hid (W = 0) := Lib.hid (by rw [EW.out, if_neg (by simp), if_neg (by omega)])
            clear h0
            go_wp2
            go_ret
            exact ⟨by rw [E.out]; rfl, (HB3 _).out⟩
      · have E : Hid (W = 6) := Lib.hid (by rw [EW.out, if_pos (by simp)])
        go_wp2
        go_ret
        exact ⟨by rw [E.out]; rfl, (HB3 _).out⟩
  · have k1 := HK1.out
    rw [hkd] at k1
    have HKD := Lib.hid hkd
    clear hkd SD
    have E : Hid (W = 2) := Lib.hid (HFIN.out 2 (by unfold wrongAt; rw [if_pos (.inl HKD.out)]))
    go_enter Tryz.func104, Tryz.ntmps104
    go_wp2
    go_ret
    exact ⟨by rw [E.out]; rfl, Below.refl _ _⟩
end Go.Proofs.YtjbnjlkoipkpoaaGreatDoor.B

namespace Go.Proofs.YtjbnjlkoipkpoaaGreatDoor.B
open Go.RowKit Go.Shelf
open Go.Proofs.YtjbnjlkoipkpoaaGreatDoor.T

/-- A row of fields at C or beyond. -/
def FdR (C : Nat) (w : World) (u : Value) (fs : List Fd) : Prop := w.ownsRow C 95 2 u fs.length (fs.flatMap Fd.cells)
theorem FdR.below {C : Nat} {w w' : World} {u : Value} {fs : List Fd} (h : FdR C w u fs) (hb : Below w.heap.size w w') : FdR C w' u fs :=
  ownsRow_of_block h fun g hg => hb.block g (World.ownsRow.lt h g hg).2
theorem FdR.nil (C : Nat) (w : World) : FdR C w (.slice none 0 0) [] := World.ownsRow_nil _ _ _ _
theorem FdR.shape {C : Nat} {w : World} {u : Value} {fs : List Fd} (h : FdR C w u fs) : ∃ ao cp, u = .slice ao fs.length cp := own_shape h
theorem own_base {w : World} {C D size n : Nat} {e : TypeId} {v : Value} {xs : List Value} (h : w.ownsRow D e size v n xs) (hC : C ≤ D) : w.ownsRow C e size v n xs := by
  refine ⟨h.1, ?_⟩
  rcases h.2 with h0 | ⟨g, cap, cur, hv, hB, hr⟩
  · exact .inl h0
  · exact .inr ⟨g, cap, cur, hv, by omega, hr⟩
/-- Rows of different types lie apart. -/
theorem own_apart {w w' : World} {C D size size' n n' : Nat} {e e' : TypeId} {u v : Value} {xs ys : List Value} (h : w.ownsRow C e size u n xs) (hv : w.ownsRow D e' size' v n' ys) (hne : e ≠ e') (hg : w.grownBy w' v.ownBlock) : w'.ownsRow C e size u n xs := by
  refine ownsRow_of_block h fun g hgu => hg.block g (World.ownsRow.lt h g hgu).2 fun e2 => ?_
  rcases h.2 with ⟨h0, _⟩ | ⟨g1, cap, cur, hu, _, hg1, _⟩
  · rw [h0] at hgu; simp [Value.ownBlock] at hgu
  · rcases hv.2 with ⟨h0, _⟩ | ⟨g2, cap2, cur2, hv2, _, hg2, _⟩
    · rw [h0] at e2; simp [Value.ownBlock] at e2
    · rw [hu] at hgu
      rw [hv2] at e2
      have e3 : g1 = g := by simpa [Value.ownBlock] using hgu
      have e4 : g = g2 := by simpa [Value.ownBlock] using e2
      rw [e3, e4, hg2] at hg1
      injection hg1 with e5
      injection e5 with _ e6
      exact hne e6.symm
def nowK (s : Rs) : Nat := if s.fields = [] then 2 else 3
def nowC (s : Rs) (vf : Value) : Array Value := #[.int .i64 (nowK s), .string ⟨s.raw.toArray⟩, vf]
structure RefSt (N : Nat) (W : World) (s : Rs) (vo vf : Value) (vs : List Value) : Prop where
  now : W.heap[N]? = some (.cells (nowC s vf) 111 (0, 0))
  out : W.ownsRow (N + 1) 111 3 vo s.out.length (itemCells s.out vs)
  len : vs.length = s.out.length
  its : ∀ (i : Nat) (u : Value) (x : It), vs[i]? = some u → s.out[i]? = some x → FdR (N + 1) W u x.fields
  fld : FdR (N + 1) W vf s.fields
  nilF : s.fields = [] → vf = .slice none 0 0
theorem RefSt.below {N : Nat} {W W' : World} {s : Rs} {vo vf : Value} {vs : List Value} (h : RefSt N W s vo vf vs) (hb : Below W.heap.size W W') : RefSt N W' s vo vf vs where
  now := (hb.block N (Array.getElem?_eq_some_iff.1 h.now).1).trans h.now
  out := ownsRow_of_block h.out fun g hg => hb.block g (World.ownsRow.lt h.out g hg).2
  len := h.len
  its := fun i u x h1 h2 => (h.its i u x h1 h2).below hb
  fld := h.fld.below hb
  nilF := h.nilF
/-- An item more; what is under way stays. -/
theorem RefSt.own_n {N n : Nat} {W : World} {s : Rs} {vo vf : Value} {vs : List Value} (h : RefSt N W s vo vf vs) (hn : s.out.length = n) : W.ownsRow (N + 1) 111 3 vo n (itemCells s.out vs) := hn ▸ h.out
theorem RefSt.push {N gg cap n : Nat} {W w8 : World} {s : Rs} {vo vf : Value} {vs : List Value} (h : RefSt N W s vo vf vs) (x : It) (u : Value) (hu : FdR (N + 1) W u x.fields) (hn : s.out.length = n)
    (hown : w8.ownsRow (N + 1) 111 3 (.slice (some ⟨gg, 0, none⟩) (n + 1) cap) (n + 1) (itemCells s.out vs ++ x.cells u)) (hg : W.grownBy w8 vo.ownBlock) :
    RefSt N w8 { s with out := s.out ++ [x] } (.slice (some ⟨gg, 0, none⟩) (n + 1) cap) vf (vs ++ [u]) where
  now := by
    refine (hg.block N (Array.getElem?_eq_some_iff.1 h.now).1 fun e => ?_).trans h.now
    have := (World.ownsRow.lt h.out N e.symm).1
    omega
  out := by
    show w8.ownsRow (N + 1) 111 3 _ (s.out ++ [x]).length (itemCells (s.out ++ [x]) (vs ++ [u]))
    have e : itemCells (s.out ++ [x]) (vs ++ [u]) = itemCells s.out vs ++ x.cells u := by
      unfold itemCells
      rw [List.zip_append h.len.symm, List.flatMap_append]
      simp
    rw [e, List.length_append, hn]
    exact hown
  len := by show (vs ++ [u]).length = (s.out ++ [x]).length; rw [List.length_append, List.length_append, h.len]; rfl
  its := fun i v y h1 h2 => by
    have h2' : (s.out ++ [x])[i]? = some y := h2
    by_cases hi : i < s.out.length
    · rw [List.getElem?_append_left (by rw [h.len]; exact hi)] at h1
      rw [List.getElem?_append_left hi] at h2'
      exact own_apart (h.its i v y h1 h2') h.out (by decide) hg
    · have h3 := (List.getElem?_eq_some_iff.1 h2').1
      rw [List.length_append] at h3
      have hi2 : i = s.out.length := by simp at h3; omega
      subst hi2
      rw [← h.len] at h1
      simp at h1 h2'
      rw [← h1, ← h2']
      exact own_apart hu h.out (by decide) hg
  fld := own_apart h.fld h.out (by decide) hg
  nilF := h.nilF
/-- The cells of what is under way are written. -/
theorem RefSt.write {N : Nat} {W W' : World} {s s' : Rs} {vo vf vf' : Value} {vs : List Value} (h : RefSt N W s vo vf vs) (ho : s'.out = s.out)
    (hN : W'.heap[N]? = some (.cells (nowC s' vf') 111 (0, 0))) (hk : ∀ k, k < W.heap.size → k ≠ N → W'.heap[k]? = W.heap[k]?) (hf : FdR (N + 1) W' vf' s'.fields) (hn : s'.fields = [] → vf' = .slice none 0 0) : RefSt N W' s' vo vf' vs where
  now := hN
  out := by
    rw [ho]
    exact ownsRow_of_block h.out fun g hg => hk g (World.ownsRow.lt h.out g hg).2 (by have := (World.ownsRow.lt h.out g hg).1; omega)
  len := by rw [ho]; exact h.len
  its := fun i u x h1 h2 => by
    rw [ho] at h2
    have h3 := h.its i u x h1 h2
    exact ownsRow_of_block h3 fun g hg => hk g (World.ownsRow.lt h3 g hg).2 (by have := (World.ownsRow.lt h3 g hg).1; omega)
  fld := hf
  nilF := hn
theorem FdR.keep {C N : Nat} {W W' : World} {u : Value} {fs : List Fd} (h : FdR C W u fs) (hN : N < C) (hk : ∀ k, k < W.heap.size → k ≠ N → W'.heap[k]? = W.heap[k]?) : FdR C W' u fs :=
  ownsRow_of_block h fun g hg => hk g (World.ownsRow.lt h g hg).2 (by have := (World.ownsRow.lt h g hg).1; omega)
theorem fdCells_one' (fs : List Fd) : ∀ u ∈ fs.flatMap Fd.cells, u.oneCell' = true := by
  intro u hu
  obtain ⟨a, _, ha⟩ := List.mem_flatMap.1 hu
  unfold Fd.cells at ha
  simp at ha
  rcases ha with rfl | rfl <;> rfl
theorem below_grown_dn {B : Nat} {w X Y w' : World} {row : Option Nat} (hb : Below B w X) (h1 : Y.os = X.os) (h2 : Y.tape = X.tape) (h3 : Y.output = X.output) (h4 : Y.heap = X.heap) (hg : Y.grownBy w' row) (hB : B ≤ X.heap.size) (hr : ∀ k, row = some k → B ≤ k) : Below B w w' := by
  refine Below.grown hb ⟨hg.os.trans h1, hg.tape.trans h2, hg.output.trans h3, by rw [← h4]; exact hg.size, fun k hk hne => ?_⟩ hB hr
  rw [← h4] at hk ⊢
  exact hg.block k hk hne
/-- A field more. -/
theorem ref_end {N : Nat} {w1 w6 w7 w10 w11 : World} {st : Rs} {x : LineD} {ls : List (List UInt8)} {F : Fd} {vo vf vf0 v : Value} {vs : List Value} (hS : RefSt N w6 (st.line x) vo vf vs) (hW : Below N w1 w6) (h7 : Below N w6 w7) (hO7 : ∀ j, j ≠ N → w7.heap[j]? = w6.heap[j]?)
    (hN10 : w10.heap[N]? = some (.cells #[.int .i64 3, .string ⟨(st.line x).raw.toArray⟩, vf0] 111 (0, 0))) (h710 : Below w7.heap.size w7 w10) (hBB : Below w10.heap.size w10 w11)
    (hown : w11.ownsRow w10.heap.size 95 2 v (st.fields.length + 1) ((st.fields ++ [F]).flatMap Fd.cells)) (hF : unfoldF ls = F) (hNl : N < w6.heap.size) :
    RefSt N (w11.setCell ⟨N, 2, none⟩ v) (st.field x ls) vo v vs ∧ Below N w1 (w11.setCell ⟨N, 2, none⟩ v) := by
  have z7 := h7.size
  have z10 := h710.size
  have z11 := hBB.size
  have hN11 := (hBB.block N (by omega)).trans hN10
  have hoth : ∀ j, j < w6.heap.size → j ≠ N → (w11.setCell ⟨N, 2, none⟩ v).heap[j]? = w6.heap[j]? := fun j hj hne =>
    (Below.heap_setCell _ _ _ _ hne).trans ((hBB.block j (by omega)).trans ((h710.block j (by omega)).trans (hO7 j hne)))
  have hne : (st.field x ls).fields ≠ [] := by unfold Rs.field; simp
  refine ⟨hS.write rfl ?_ hoth ?_ (fun e => absurd e hne), ?_⟩
  · have e : nowC (st.field x ls) v = #[.int .i64 3, .string ⟨(st.line x).raw.toArray⟩, v] := by
      unfold nowC nowK
      rw [if_neg hne]; rfl
    rw [e]
    simp [World.setCell, Array.getElem?_modify, hN11]
  · have hf : FdR (N + 1) w11 v (st.fields ++ [F]) := by
      refine own_base ?_ (by omega : N + 1 ≤ w10.heap.size)
      rw [List.length_append]
      exact hown
    have e : (st.field x ls).fields = st.fields ++ [F] := by rw [← hF]; rfl
    rw [e]
    refine ownsRow_of_block hf fun g hg => ?_
    have := (World.ownsRow.lt hf g hg).1
    exact Below.heap_setCell _ _ _ _ (by show g ≠ N; omega)
  · have h1 : Below N w1 w11 := (hW.trans h7).trans ((h710.mono (by omega)).trans (hBB.mono (by omega)))
    exact h1.setCell (p := ⟨N, 2, none⟩) (Nat.le_refl _) _
theorem step_field {st : Rs} {x : LineD} {r : List LineD} (h1 : kindOf x.text ≠ 1) (h4 : kindOf x.text = 4) : st.step x r = st.field x (saidL x r) := by unfold Rs.step; rw [if_neg h1, if_pos h4]; rfl
theorem field_raw (st : Rs) (x : LineD) (ls : List (List UInt8)) : (st.field x ls).raw.length = st.raw.length + (x.text.length + 1) := by unfold Rs.field; simp
theorem field_fields (st : Rs) (x : LineD) (ls : List (List UInt8)) : (st.field x ls).fields.length = st.fields.length + 1 := by unfold Rs.field; simp
theorem field_recs0 {st : Rs} (x : LineD) (ls : List (List UInt8)) (h : st.fields = []) : (st.field x ls).records = st.records + 1 := by unfold Rs.field; simp [h]
theorem field_recs1 {st : Rs} (x : LineD) (ls : List (List UInt8)) (h : st.fields ≠ []) : (st.field x ls).records = st.records := by unfold Rs.field; simp [h]
/-- An append of nothing, at a step of a drawn region. -/
theorem step_append_none {P : Program} {w : World} {ops : Array Oper} {o : Oper} {a : Act} {K : Act → World → Prop} {Q : Exit → Act → World → Prop} {E : Prop} (hgd : o.guard = none) (s x : Operand) (t : TypeId)
    (ho : o.op = .call { callee := .builtin .append, args := #[s, x], argTypes := #[t, t] })
    (base : Nat) (e : TypeId) (i : TypeInfo) (size : Nat) (ht : P.underlying t = some (.slice e)) (hi : P.info? e = some i)
    (v : Value) (n : Nat) (xs : List Value) (hs : a.eval s = v) (hown : w.ownsRow base e size v n xs) (hx : a.eval x = .slice none 0 0)
    (h : K (a.put o.dst v) w) : if Region.wanted o (yielded ops a.tmps) = true then Oper.wp P o a w K Q else E := by
  have hw : Region.wanted o (yielded ops a.tmps) = true := by simp [Region.wanted, hgd]
  rw [if_pos hw]
  have hrun := run_append_owned_none (P := P) (w := w) base t o.type e i size ht hi v n xs hown
  unfold Oper.wp
  simp [execOp, ho, resolve, invoke, builtin, hs, hx, hrun, Result.andThen]
  exact h
end Go.Proofs.YtjbnjlkoipkpoaaGreatDoor.B
