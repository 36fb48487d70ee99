/- The plain law of words: a text cut at commas, each piece trimmed. Words, walked: links.Words, stanzakeepref30.Words. The reference's Words, walked: stanzakeepref30.Words. -/
import Derived.Test.YtjbnjlkoipkpoaaGreatDoorBPlain
import Derived.Lib.Split
import Derived.Lib.Replace
import Derived.Lib.SlTrimSet
import Derived.Test.YtjbnjlkoipkpoaaGreatDoorTTable
import Derived.Shelf.Strings.SlTrimAscii
namespace Go.Proofs.YtjbnjlkoipkpoaaGreatDoor.T

/-- A text cut at its commas. -/
def splitC : List UInt8 → List (List UInt8)
  | [] => [[]]
  | c :: l => if c = 44 then [] :: splitC l else match splitC l with
    | [] => [[c]]
    | h :: r => (c :: h) :: r
theorem splitC_comma (l : List UInt8) : splitC (44 :: l) = [] :: splitC l := by rw [splitC, if_pos rfl]
theorem splitC_other {c : UInt8} (hc : c ≠ 44) {l h : List UInt8} {r : List (List UInt8)} (hl : splitC l = h :: r) : splitC (c :: l) = (c :: h) :: r := by rw [splitC, if_neg hc, hl]
theorem splitC_piece : ∀ (p r : List UInt8), (∀ c ∈ p, c ≠ 44) → splitC (p ++ 44 :: r) = p :: splitC r
  | [], r, _ => splitC_comma r
  | c :: p, r, h => splitC_other (h c (by simp)) (splitC_piece p r fun d hd => h d (by simp [hd]))
theorem splitC_last : ∀ (p : List UInt8), (∀ c ∈ p, c ≠ 44) → splitC p = [p]
  | [], _ => rfl
  | c :: p, h => splitC_other (h c (by simp)) (splitC_last p fun d hd => h d (by simp [hd]))
theorem splitK_splitC : ∀ l : List UInt8, Lib.splitK [44] 0 (Lib.count l [44]) l = splitC l
  | [] => by rw [Lib.count_one]; rfl
  | x :: l => by
    have ih := splitK_splitC l
    by_cases hx : x = 44
    · subst hx
      have hi : Lib.index (44 :: l) [44] = ((0 : Nat) : Int) := by rw [Lib.index_one]; rfl
      have hne : ¬ ((((0 : Nat) : Int) == -1) = true) := by decide
      rw [Lib.count_cons_eq, Nat.add_comm, Lib.splitK, hi, if_neg hne, splitC_comma, ← ih]
      rfl
    · rw [Lib.count_cons_ne _ _ _ hx]
      rcases hc : Lib.count l [44] with _ | k
      · rw [hc] at ih
        have e : splitC l = [l] := ih.symm
        rw [splitC_other hx e]; rfl
      · obtain ⟨i, hi⟩ := Lib.index_of_count (s := l) (old := [44]) (by omega)
        have hi2 : Lib.index (x :: l) [44] = ((i + 1 : Nat) : Int) := by
          rw [Lib.index_one] at hi ⊢
          rw [Lib.indexByte, if_neg (by simpa using hx), if_neg (by rw [hi]; simp), hi]
          omega
        have n1 : ¬ ((((i : Nat) : Int) == -1) = true) := by rw [beq_iff_eq]; omega
        have n2 : ¬ ((((i + 1 : Nat) : Int) == -1) = true) := by rw [beq_iff_eq]; omega
        rw [hc, Lib.splitK, hi, if_neg n1] at ih
        rw [Lib.splitK, hi2, if_neg n2, splitC_other hx ih.symm]
        rfl
/-- A piece's word, if it has one. -/
def wordOf (p : List UInt8) : List (List UInt8) := if Lib.trimS p [32, 9] = [] then [] else [Lib.trimS p [32, 9]]
def wordsL (v : List UInt8) : List (List UInt8) := (splitC v).flatMap wordOf
theorem wordsL_piece (p r : List UInt8) (h : ∀ c ∈ p, c ≠ 44) : wordsL (p ++ 44 :: r) = wordOf p ++ wordsL r := by unfold wordsL; rw [splitC_piece p r h]; rfl
theorem wordsL_last (p : List UInt8) (h : ∀ c ∈ p, c ≠ 44) : wordsL p = wordOf p := by unfold wordsL; rw [splitC_last p h]; simp
def blk (c : UInt8) : Bool := [32, 9].contains c
theorem blk_iff (c : UInt8) : blk c = (c == 32 || c == 9) := by
  unfold blk
  simp only [List.contains, List.elem]
  cases (c == 32) <;> cases (c == 9) <;> rfl
/-- A piece of a text, trimmed by its two ends. -/
theorem trim_ab (l : List UInt8) (fr i a b : Nat) (h1 : fr ≤ a) (h2 : a ≤ b) (h3 : b ≤ i) (h4 : i ≤ l.length) (k1 : ∀ j c, fr ≤ j → j < a → l[j]? = some c → blk c = true) (k2 : ∀ j c, b ≤ j → j < i → l[j]? = some c → blk c = true)
    (k3 : ∀ c, a < b → l[a]? = some c → blk c = false) (k4 : ∀ c, a < b → l[b - 1]? = some c → blk c = false) : Lib.trimS ((l.take i).drop fr) [32, 9] = (l.take b).drop a := by
  have gt : ∀ (j : Nat) (c : UInt8), ((l.take i).drop fr)[j]? = some c → l[fr + j]? = some c ∧ fr + j < i := fun j c h => by
    rw [List.getElem?_drop, List.getElem?_take] at h
    split at h
    · exact ⟨h, by assumption⟩
    · cases h
  by_cases hab : a = b
  · subst hab
    have hall : ∀ (j : Nat) c, ((l.take i).drop fr)[j]? = some c → blk c = true := fun j c h => by
      obtain ⟨g1, g2⟩ := gt j c h
      by_cases e : fr + j < a
      · exact k1 _ c (by omega) e g1
      · exact k2 _ c (by omega) g2 g1
    have e1 := Lib.trimRightS_take ((l.take i).drop fr) [32, 9] 0 (Nat.zero_le _) (fun j c _ h => hall j c h) (fun c h => absurd h (Nat.lt_irrefl 0))
    unfold Lib.trimS
    rw [e1, List.take_zero, Lib.trimLeftS_nil, List.drop_take]
    simp
  · have hl : ((l.take i).drop fr).length = i - fr := by rw [List.length_drop, List.length_take]; omega
    have e1 := Lib.trimRightS_take ((l.take i).drop fr) [32, 9] (b - fr) (by omega) (fun j c hj h => by
      obtain ⟨g1, g2⟩ := gt j c h
      exact k2 _ c (by omega) g2 g1) (fun c _ h => by
      obtain ⟨g1, _⟩ := gt _ c h
      rw [show fr + (b - fr - 1) = b - 1 by omega] at g1
      exact k4 c (by omega) g1)
    unfold Lib.trimS
    rw [e1]
    have e2 : ((l.take i).drop fr).take (b - fr) = (l.take b).drop fr := by
      rw [List.drop_take, List.drop_take, List.take_take, Nat.min_eq_left (by omega)]
    rw [e2]
    have gt2 : ∀ (j : Nat) (c : UInt8), ((l.take b).drop fr)[j]? = some c → l[fr + j]? = some c ∧ fr + j < b := fun j c h => by
      rw [List.getElem?_drop, List.getElem?_take] at h
      split at h
      · exact ⟨h, by assumption⟩
      · cases h
    rw [Lib.trimLeftS_drop ((l.take b).drop fr) [32, 9] (a - fr) (by rw [List.length_drop, List.length_take]; omega) (fun j c hj h => by
      obtain ⟨g1, _⟩ := gt2 j c h
      exact k1 _ c (by omega) (by omega) g1) (fun c h => by
      obtain ⟨g1, _⟩ := gt2 _ c h
      rw [show fr + (a - fr) = a by omega] at g1
      exact k3 c (by omega) g1)]
    rw [List.drop_drop]
    congr 1
    omega
theorem word_ab {l : List UInt8} {fr i a b : Nat} (h : Lib.trimS ((l.take i).drop fr) [32, 9] = (l.take b).drop a) (hb : b ≤ l.length) : wordOf ((l.take i).drop fr) = if a < b then [(l.take b).drop a] else [] := by
  unfold wordOf
  rw [h]
  have hl : ((l.take b).drop a).length = b - a := by rw [List.length_drop, List.length_take]; omega
  by_cases e : a < b
  · rw [if_neg (fun k => by rw [k] at hl; simp at hl; omega), if_pos e]
  · rw [if_pos (List.eq_nil_of_length_eq_zero (by omega)), if_neg e]
theorem piece_comma {l : List UInt8} {fr i : Nat} (h1 : fr ≤ i) (hi : l[i]? = some 44) (hn : ∀ j, fr ≤ j → j < i → l[j]? ≠ some 44) : wordsL (l.drop fr) = wordOf ((l.take i).drop fr) ++ wordsL (l.drop (i + 1)) := by
  have hl := (List.getElem?_eq_some_iff.1 hi).1
  have e : l.drop fr = (l.take i).drop fr ++ 44 :: l.drop (i + 1) := by
    have e1 : l = l.take i ++ l.drop i := (List.take_append_drop i l).symm
    have e2 : l.drop i = 44 :: l.drop (i + 1) := by
      rw [List.drop_eq_getElem_cons hl, (List.getElem?_eq_some_iff.1 hi).2]
    conv => lhs; rw [e1, List.drop_append_of_le_length (by rw [List.length_take]; omega), e2]
  rw [e]
  refine wordsL_piece _ _ fun c hc e => ?_
  obtain ⟨j, hj⟩ := List.mem_iff_getElem?.1 hc
  rw [List.getElem?_drop, List.getElem?_take] at hj
  split at hj
  · subst e; exact hn _ (by omega) (by assumption) hj
  · cases hj
theorem piece_end {l : List UInt8} {fr : Nat} (hn : ∀ j, fr ≤ j → j < l.length → l[j]? ≠ some 44) : wordsL (l.drop fr) = wordOf ((l.take l.length).drop fr) := by
  rw [List.take_length]
  refine wordsL_last _ fun c hc e => ?_
  obtain ⟨j, hj⟩ := List.mem_iff_getElem?.1 hc
  rw [List.getElem?_drop] at hj
  subst e
  exact hn _ (by omega) (List.getElem?_eq_some_iff.1 hj).1 hj
theorem splitC_len : ∀ l : List UInt8, (splitC l).length ≤ l.length + 1
  | [] => by simp [splitC]
  | c :: l => by
    have ih := splitC_len l
    unfold splitC
    split
    · simp; omega
    · split <;> simp_all <;> omega
theorem splitC_part : ∀ {l p : List UInt8}, p ∈ splitC l → p.length ≤ l.length
  | [], p, h => by
    have : p = [] := by simpa [splitC] using h
    subst this; simp
  | c :: l, p, h => by
    by_cases hc : c = 44
    · subst hc
      rw [splitC_comma] at h
      rcases List.mem_cons.1 h with rfl | h
      · simp
      · have := splitC_part h
        simp; omega
    · cases hl : splitC l with
      | nil =>
        rw [splitC, if_neg hc, hl] at h
        have : p = [c] := by simpa using h
        subst this; simp
      | cons a r =>
        rw [splitC_other hc hl] at h
        rcases List.mem_cons.1 h with rfl | h
        · have := splitC_part (l := l) (p := a) (by rw [hl]; simp)
          simp; omega
        · have := splitC_part (l := l) (p := p) (by rw [hl]; simp [h])
          simp; omega
theorem flat_len {ps : List (List UInt8)} : (ps.flatMap wordOf).length ≤ ps.length := by
  induction ps with
  | nil => simp
  | cons p r ih =>
    rw [List.flatMap_cons, List.length_append, List.length_cons]
    have : (wordOf p).length ≤ 1 := by unfold wordOf; split <;> simp
    omega
theorem wordsL_len (l : List UInt8) : (wordsL l).length ≤ l.length + 1 := Nat.le_trans flat_len (splitC_len l)
end Go.Proofs.YtjbnjlkoipkpoaaGreatDoor.T

namespace Go.Proofs.YtjbnjlkoipkpoaaGreatDoor.T
open Go.RowKit Go.Shelf
open Go.Proofs.YtjbnjlkoipkpoaaGreatDoor.B

theorem splitC_count : ∀ l : List UInt8, (splitC l).length = Lib.count l [44] + 1
  | [] => by rw [Lib.count_one]; rfl
  | x :: l => by
    have ih := splitC_count l
    by_cases hx : x = 44
    · subst hx
      rw [splitC_comma, Lib.count_cons_eq, List.length_cons, ih]
      omega
    · rw [Lib.count_cons_ne _ _ _ hx, ← ih]
      cases hl : splitC l with
      | nil => rw [hl] at ih; simp at ih
      | cons h r => rw [splitC_other hx hl]; simp
def bytesOf (p : List UInt8) : ByteArray := ⟨p.toArray⟩
def wordsB (v : List UInt8) : List ByteArray := (wordsL v).map bytesOf
theorem take_word {xs : List (List UInt8)} {k : Nat} {p : List UInt8} (h : xs[k]? = some p) : (xs.take (k + 1)).flatMap wordOf = (xs.take k).flatMap wordOf ++ wordOf p := by
  rw [List.take_add_one, h]; simp
theorem StrRow.low {B B' : Nat} {w : World} {v : Value} {ws : List ByteArray} (h : StrRow B w v ws) (hB : B' ≤ B) : StrRow B' w v ws := by
  refine ⟨h.1, ?_⟩
  rcases h.2 with h0 | ⟨g, cap, cur, hv, hB2, hr⟩
  · exact .inl h0
  · exact .inr ⟨g, cap, cur, hv, by omega, hr⟩
def WdRel (N : Nat) (w1 : World) (xs : List (List UInt8)) (v i : Value) (wr : World) : Prop :=
  ∃ k : Nat, i = .int .i64 k ∧ k ≤ xs.length ∧ Hid (StrRow N wr v (((xs.take k).flatMap wordOf).map bytesOf)) ∧ Hid (Below N w1 wr)
set_option maxRecDepth 100000 in
set_option maxHeartbeats 3200000 in
theorem words_any (s : ByteArray) (w : World) (hs : s.size ≤ 1000000) (hr : Ready w) :
    Calls Tryz.prog 19 #[.string s] w fun e w' => ∃ u, e = .returned u ∧ StrRow w.heap.size w' u (wordsB s.data.toList) ∧ Below w.heap.size w w' := by
  obtain ⟨i0, hi0, hz0, hz1, hz2⟩ := info_parts infoS
  obtain ⟨m, hm⟩ := hr
  have SP := Tryz.strings_Split s ⟨#[44]⟩ m w (by omega) hm (by decide)
  have hsd := Lib.splitB_data ⟨#[44]⟩ 0 (Lib.countB s ⟨#[44]⟩) s
  have hcb : Lib.countB s ⟨#[44]⟩ = Lib.count s.data.toList [44] := rfl
  rw [hcb] at SP hsd
  rw [show (⟨#[44]⟩ : ByteArray).data.toList = [44] from rfl, splitK_splitC] at hsd
  have hcl := splitC_count s.data.toList
  have hsl := splitC_len s.data.toList
  rw [size_len] at hsl
  obtain ⟨ps, hps⟩ : ∃ ps, Lib.splitB ⟨#[44]⟩ 0 (Lib.count s.data.toList [44]) s = ps := ⟨_, rfl⟩
  rw [hps] at SP hsd
  rw [← hcl] at SP
  have hpl : ps.length = (splitC s.data.toList).length := by rw [← hsd, List.length_map]
  rw [← hpl] at SP hsl
  have hE1 := heap_alloc_new w (.cells (ps.map Value.string).toArray 9)
  have hb1 := below_grow1 w (.cells (ps.map Value.string).toArray 9)
  obtain ⟨w1, hw1⟩ : ∃ w1, w.alloc (.cells (ps.map Value.string).toArray 9) = w1 := ⟨_, rfl⟩
  rw [hw1] at SP hE1 hb1
  have HSP := Lib.hid SP
  have HSD := Lib.hid hsd
  have HB1 := Lib.hid hb1
  have hplz : ∀ (k : Nat) (p : ByteArray), ps[k]? = some p → p.size ≤ 1000000 := fun k p hp => by
    have h1 : (splitC s.data.toList)[k]? = some p.data.toList := by rw [← hsd, List.getElem?_map, hp]; rfl
    have := splitC_part (List.mem_of_getElem? h1)
    rw [size_len, size_len] at this
    omega
  have HPZ := Lib.hid hplz
  have hcel : ∀ (k : Nat) (p : ByteArray), ps[k]? = some p → w1.cell? ⟨w.heap.size, k, none⟩ = some (.string p) := fun k p hp => by
    rw [B.cell_of_row _ _ k _ _ hE1]
    simp [hp]
  have HCE := Lib.hid hcel
  have hEl := (Array.getElem?_eq_some_iff.1 hE1).1
  clear SP hsd hps hb1 hE1 hplz hcel hm hcb hcl
  go_enter Tryz.func19, Tryz.ntmps19
  go_wp2_with fail
  refine HSP.out.mono ?_
  rintro e w' ⟨rfl, rfl⟩
  clear HSP
  obtain ⟨N, hN⟩ : ∃ N, w'.heap.size = N := ⟨_, rfl⟩
  have HN := Lib.hid hN
  have hwN : w.heap.size < N := by omega
  clear hN hEl
  go_wp2
  go_loopw [3, 9] (fun v i W => WdRel N w' (splitC s.data.toList) v i W) (fun _ i _ => ps.length - (intOf i).toNat)
  case atStart => exact ⟨0, rfl, Nat.zero_le _, Lib.hid (StrRow.nil _ _), Lib.hid (Below.refl _ _)⟩
  case round =>
    obtain ⟨k, rfl, hk, hO, hW⟩ := hrel
    have hzr : N ≤ wr.heap.size := by have := hW.out.size; have := HN.out; omega
    by_cases hkl : k < ps.length
    · obtain ⟨p, hp⟩ : ∃ p, ps[k]? = some p := ⟨_, List.getElem?_eq_getElem hkl⟩
      have c0 := (hW.out.cell (p := ⟨w.heap.size, k, none⟩) hwN).trans (HCE.out k p hp)
      have hpz := HPZ.out k p hp
      have hpc : (splitC s.data.toList)[k]? = some p.data.toList := by rw [← HSD.out, List.getElem?_map, hp]; rfl
      have HTK := Lib.hid (take_word hpc)
      have TR := Any.strings_Trim_laid Tryz.lays160 (by kernel_rfl) p ⟨#[32, 9]⟩ wr (by omega) (by decide) (ascii_of_all (by decide))
      obtain ⟨tv, htv⟩ : ∃ tv : ByteArray, (⟨(Lib.trimS p.data.toList [32, 9]).toArray⟩ : ByteArray) = tv := ⟨_, rfl⟩
      have htl : Lib.trimS p.data.toList [32, 9] = tv.data.toList := by rw [← htv]
      have TR := Lib.hid (show Calls Tryz.prog 59 #[.string p, .string ⟨#[32, 9]⟩] wr fun e w' => e = .returned (.string tv) ∧ Below wr.heap.size wr w' from htv ▸ TR)
      have hO3 : StrRow N wr u3 _ := hO.out
      have hfl : (((splitC s.data.toList).take k).flatMap wordOf).length ≤ 1000001 := by
        have := flat_len (ps := (splitC s.data.toList).take k)
        rw [List.length_take] at this
        omega
      have hbl : ((((splitC s.data.toList).take k).flatMap wordOf).map bytesOf).length ≤ 1000001 := by rw [List.length_map]; exact hfl
      have HX : Hid ((((splitC s.data.toList).take (k + 1)).flatMap wordOf).map bytesOf = (((splitC s.data.toList).take k).flatMap wordOf).map bytesOf ++ (wordOf p.data.toList).map bytesOf) := Lib.hid (by rw [HTK.out, List.map_append])
      obtain ⟨ws, hws⟩ : ∃ ws, (((splitC s.data.toList).take k).flatMap wordOf).map bytesOf = ws := ⟨_, rfl⟩
      rw [hws] at hO3 hbl HX
      obtain ⟨vo, vc, hvs⟩ := hO3.shape
      subst hvs
      have HO3 := Lib.hid hO3
      have HTL := Lib.hid htl
      clear hp hpc htv htl hO hO3 hws hfl HTK
      go_wp2_with fail
      refine TR.out.mono ?_
      rintro e w2 ⟨rfl, hb2⟩
      have HB2 := Lib.hid (hW.out.trans (hb2.mono hzr))
      have HO4 := Lib.hid (HO3.out.below hb2 (Nat.le_refl _))
      have hnz : N ≤ w2.heap.size := Nat.le_trans hzr hb2.size
      clear hb2 HO3 TR hW
      by_cases he : tv.data.toList = []
      · have h1 : tv.toList = [] := by rw [Lib.toList_data]; exact he
        have h2 : tv.toList.isEmpty = true := by rw [h1]; rfl
        have h3 : (!tv.toList.isEmpty) = false := by rw [h2]; rfl
        have hwo : wordOf p.data.toList = [] := by unfold wordOf; rw [HTL.out, if_pos he]
        have HX2 := HX.out
        rw [hwo, List.map_nil, List.append_nil] at HX2
        have HX3 := Lib.hid HX2
        have H1 := Lib.hid h1
        clear he HX2 h1
        go_wp2
        refine ⟨⟨k + 1, by go_num, by omega, ?_, HB2⟩, by simp [intOf]; omega⟩
        rw [HX3.out]; exact HO4
      · have h1 : ¬ tv.toList = [] := by rw [Lib.toList_data]; exact he
        have h2 : tv.toList.isEmpty = false := by
          rw [Lib.toList_data]
          cases hh : tv.data.toList with
          | nil => exact absurd hh he
          | cons a b => rfl
        have h3 : (!tv.toList.isEmpty) = true := by rw [h2]; rfl
        have hwo : wordOf p.data.toList = [tv.data.toList] := by unfold wordOf; rw [HTL.out, if_neg he]
        have HX2 := HX.out
        rw [hwo] at HX2
        have HX3 : Hid (_ = ws ++ [tv]) := Lib.hid HX2
        have H1 := Lib.hid h1
        have HO := Lib.hid (World.ownsRow.alloc HO4.out (.cells #[.string tv] 9))
        clear he HX2 h1 hwo
        go_wp2_with (at_builtin; refine wpList_append_lies _ rfl _ _ _ rfl N 9 i0 _ 1 16 Tryz.underlying39 hi0 hz0 hz1 hz2 rfl (by omega) (.slice vo ws.length vc) ws.length (strVals ws) rfl HO.out ⟨w2.heap.size, 0, none⟩ 1 1 [.string tv] rfl rfl (World.news_of_block (cs := #[.string tv]) (heap_alloc_new w2 _)) (by simp [Value.oneCell']) (by omega) (by unfold maxLen; omega) (by omega) (by simp; omega) _ rfl ?_; refine Hid.out ?_)
        refine Lib.hid ?_
        intro gg cap w8 hown8 hgrow _ _
        have hb0 := HB2.out.alloc hnz (.cells #[.string tv] 9)
        have HB8 := Lib.hid (hb0.grown hgrow (by simp; omega) (fun q hq => (World.ownsRow.lt HO4.out q hq).1))
        have HN8 := Lib.hid (StrRow.snoc hown8)
        clear hown8 hgrow hb0
        go_wp2
        refine ⟨⟨k + 1, by go_num, by omega, ?_, HB8⟩, by simp [intOf]; omega⟩
        rw [HX3.out]; exact HN8
    · have hO4 : StrRow N wr _ _ := hO.out
      rw [List.take_of_length_le (by omega)] at hO4
      have HO4 := Lib.hid (StrRow.low hO4 (Nat.le_of_lt hwN))
      clear hO4 hO
      go_wp2
      go_ret
      exact ⟨_, rfl, HO4.out, HB1.out.trans (hW.out.mono (Nat.le_of_lt hwN))⟩
end Go.Proofs.YtjbnjlkoipkpoaaGreatDoor.T

namespace Go.Proofs.YtjbnjlkoipkpoaaGreatDoor.T
open Go.RowKit Go.Shelf
open Go.Proofs.YtjbnjlkoipkpoaaGreatDoor.B

theorem gets {s : ByteArray} {k : Nat} (h : k < s.size) : s.data.toList[k]? = some s[k] := by
  have hk : k < s.data.toList.length := by rw [size_len]; exact h
  rw [List.getElem?_eq_getElem hk]; rfl
theorem sub_data (s : ByteArray) (a b : Nat) : (s.extract a b).data.toList = (s.data.toList.take b).drop a := by
  rw [ByteArray.data_extract, Array.toList_extract, List.extract, List.drop_take]
/-- Where the reference's Words stands: the pieces ahead of fr are done, and there is no comma from there to i. -/
def RwAt (l : List UInt8) (fr i : Nat) (ps : List (List UInt8)) : Prop :=
  fr ≤ i ∧ i ≤ l.length + 1 ∧ (i = l.length + 1 → fr = i) ∧ (∀ j, fr ≤ j → j < i → l[j]? ≠ some 44) ∧ ps.length ≤ i ∧ (fr ≤ l.length → wordsL l = ps ++ wordsL (l.drop fr)) ∧ (fr = l.length + 1 → wordsL l = ps)
theorem RwAt.start (l : List UInt8) : RwAt l 0 0 [] := ⟨Nat.le_refl _, by omega, by omega, fun j _ h => absurd h (Nat.not_lt_zero j), Nat.le_refl _, fun _ => by simp, by omega⟩
theorem RwAt.step {l : List UInt8} {fr i : Nat} {ps : List (List UInt8)} (h : RwAt l fr i ps) (hi : i < l.length) (hc : l[i]? ≠ some 44) : RwAt l fr (i + 1) ps := by
  obtain ⟨a, b, c, d, e, f, g⟩ := h
  refine ⟨by omega, by omega, by omega, fun j h1 h2 => ?_, by omega, f, g⟩
  by_cases e1 : j = i
  · subst e1; exact hc
  · exact d j h1 (by omega)
theorem RwAt.cut {l : List UInt8} {fr i a b : Nat} {ps : List (List UInt8)} (h : RwAt l fr i ps) (hi : i ≤ l.length) (hc : i < l.length → l[i]? = some 44) (h1 : fr ≤ a) (h2 : a ≤ b) (h3 : b ≤ i) (k1 : ∀ j c, fr ≤ j → j < a → l[j]? = some c → blk c = true) (k2 : ∀ j c, b ≤ j → j < i → l[j]? = some c → blk c = true)
    (k3 : ∀ c, a < b → l[a]? = some c → blk c = false) (k4 : ∀ c, a < b → l[b - 1]? = some c → blk c = false) : RwAt l (i + 1) (i + 1) (ps ++ if a < b then [(l.take b).drop a] else []) := by
  obtain ⟨A, B, C, D, E, F, G⟩ := h
  have T := word_ab (trim_ab l fr i a b h1 h2 h3 hi k1 k2 k3 k4) (by omega)
  refine ⟨Nat.le_refl _, by omega, fun _ => rfl, fun j h5 h6 => absurd h5 (by omega), ?_, fun h5 => ?_, fun h5 => ?_⟩
  · rw [List.length_append]; split <;> simp <;> omega
  · rw [F (by omega), piece_comma A (hc (by omega)) D, T, List.append_assoc]
  · have : i = l.length := by omega
    subst this
    rw [F (by omega), piece_end D, T]
def RwRel (s : ByteArray) (N : Nat) (w1 : World) (v f i : Value) (wr : World) : Prop :=
  ∃ (fr k : Nat) (ps : List (List UInt8)), f = .int .i64 fr ∧ i = .int .i64 k ∧ k ≤ s.size + 1 ∧ Hid (RwAt s.data.toList fr k ps) ∧ Hid (StrRow N wr v (ps.map bytesOf)) ∧ Hid (Below N w1 wr)
theorem byte_blk {c : UInt8} : blk c = true ↔ (c.toNat : Int) = 32 ∨ (c.toNat : Int) = 9 := by
  rw [blk_iff]
  simp only [Bool.or_eq_true, beq_iff_eq, ← UInt8.toNat_inj]
  simp
  omega
set_option maxRecDepth 100000 in
set_option maxHeartbeats 3200000 in
theorem refWords_any (s : ByteArray) (w : World) (hs : s.size ≤ 1000000) :
    Calls Tryz.prog 20 #[.string s] w fun e w' => ∃ u, e = .returned u ∧ StrRow w.heap.size w' u (wordsB s.data.toList) ∧ Below w.heap.size w w' := by
  obtain ⟨i0, hi0, hz0, hz1, hz2⟩ := info_parts infoS
  have hsl := size_len s
  obtain ⟨N, hN⟩ : ∃ N, w.heap.size = N := ⟨_, rfl⟩
  rw [hN]
  have HN := Lib.hid hN
  have HSL := Lib.hid hsl
  clear hN hsl
  go_enter Tryz.func20, Tryz.ntmps20
  go_wp2
  go_loopw [3, 4, 5] (fun v f i W => RwRel s N w v f i W) (fun _ _ i _ => s.size + 1 - (intOf i).toNat)
  case atStart => exact ⟨0, 0, [], rfl, rfl, by omega, Lib.hid (RwAt.start _), Lib.hid (StrRow.nil _ _), Lib.hid (Below.refl _ _)⟩
  case round =>
    obtain ⟨fr, i, ps, rfl, rfl, hi, hA, hO, hW⟩ := hrel
    have hzr : N ≤ wr.heap.size := by have := hW.out.size; have := HN.out; omega
    by_cases hil : i ≤ s.size
    · by_cases hcm : ∃ h : i < s.size, s[i].toNat ≠ 44
      · obtain ⟨hlt, hc⟩ := hcm
        have hcb : ((s[i].toNat : Int) == 44) = false := by rw [beq_eq_false_iff_ne]; omega
        have hcb2 : ((s[i].toNat : Int) != 44) = true := by rw [bne_iff_ne]; omega
        have HA2 := Lib.hid (hA.out.step (by have := HSL.out; omega) (by rw [gets hlt]; intro e; injection e with e; rw [e] at hc; exact hc rfl))
        clear hA
        go_wp2
        exact ⟨⟨fr, i + 1, ps, rfl, by go_num, by omega, HA2, hO, hW⟩, by simp [intOf]; omega⟩
      · have key : ¬ i < s.size ∨ ∃ h : i < s.size, ((s[i].toNat : Int) != 44) = false := by
          by_cases h : i < s.size
          · refine .inr ⟨h, ?_⟩
            by_cases h2 : s[i].toNat = 44
            · rw [h2]; rfl
            · exact absurd ⟨h, h2⟩ hcm
          · exact .inl h
        have HC : Hid (i < s.size → s.data.toList[i]? = some 44) := Lib.hid fun h => by
          rw [gets h]
          by_cases h2 : s[i].toNat = 44
          · exact congrArg some (UInt8.toNat_inj.1 h2)
          · exact absurd ⟨h, h2⟩ hcm
        have hfr : fr ≤ i := hA.out.1
        clear hcm
        obtain ⟨vo, vc, hvs⟩ := hO.out.shape
        subst hvs
        have hpl : (ps.map bytesOf).length ≤ 1000001 := by rw [List.length_map]; have := hA.out.2.2.2.2.1; omega
        obtain ⟨ws, hws⟩ : ∃ ws, ps.map bytesOf = ws := ⟨_, rfl⟩
        rw [hws] at hO hpl
        rw [hws]
        have HWS := Lib.hid hws
        clear hws
        rcases key with hie | ⟨hlt, hcb⟩
        all_goals
          go_wp2
          go_loop [6] (fun v => ∃ a : Nat, v = .int .i64 a ∧ fr ≤ a ∧ a ≤ i ∧ Hid (∀ j c, fr ≤ j → j < a → s.data.toList[j]? = some c → blk c = true)) (fun v => i - (intOf v).toNat)
          case atStart => exact ⟨fr, rfl, Nat.le_refl _, hfr, Lib.hid fun j c h1 h2 => absurd h2 (by omega)⟩
          case round =>
            obtain ⟨a, rfl, ha1, ha2, hB⟩ := hrel
            by_cases hbk : ∃ h : a < s.size, a < i ∧ blk s[a] = true
            · obtain ⟨hal, hai, hbl⟩ := hbk
              have HB2 : Hid (∀ j c, fr ≤ j → j < a + 1 → s.data.toList[j]? = some c → blk c = true) := Lib.hid fun j c h1 h2 h3 => by
                by_cases e : j = a
                · subst e
                  rw [gets hal] at h3
                  injection h3 with h3
                  rw [← h3]; exact hbl
                · exact hB.out j c h1 (by omega) h3
              have hbi := byte_blk.1 hbl
              clear hB hbl
              rcases hbi with h32 | h9
              · have e32 : ((s[a].toNat : Int) == 32) = true := by rw [beq_iff_eq]; exact h32
                clear h32
                go_wp2
                exact ⟨⟨a + 1, by go_num, by omega, by omega, HB2⟩, by simp [intOf]; omega⟩
              · have e32 : ((s[a].toNat : Int) == 32) = false := by rw [beq_eq_false_iff_ne]; omega
                have e9 : ((s[a].toNat : Int) == 9) = true := by rw [beq_iff_eq]; exact h9
                clear h9
                go_wp2
                exact ⟨⟨a + 1, by go_num, by omega, by omega, HB2⟩, by simp [intOf]; omega⟩
            · have K3 : Hid (∀ c, a < i → s.data.toList[a]? = some c → blk c = false) := Lib.hid fun c h1 h2 => by
                rw [gets (by omega)] at h2
                injection h2 with h2
                rw [← h2]
                by_cases h : blk (s[a]'(by omega)) = true
                · exact absurd ⟨by omega, h1, h⟩ hbk
                · simpa using h
              have hai : ¬ a < i ∨ ∃ h : a < s.size, a < i ∧ ((s[a].toNat : Int) == 32) = false ∧ ((s[a].toNat : Int) == 9) = false := by
                by_cases e : ¬ a < i
                · exact .inl e
                · refine .inr ⟨by omega, by omega, ?_, ?_⟩
                  all_goals
                    rw [beq_eq_false_iff_ne]
                    intro h
                    exact hbk ⟨by omega, by omega, byte_blk.2 (by first | exact .inl h | exact .inr h)⟩
              clear hbk
              rcases hai with hae | ⟨hal, hai, e32, e9⟩
              all_goals
                go_wp2
                go_loop [7] (fun v => ∃ b : Nat, v = .int .i64 b ∧ a ≤ b ∧ b ≤ i ∧ Hid (∀ j c, b ≤ j → j < i → s.data.toList[j]? = some c → blk c = true)) (fun v => (intOf v).toNat)
                case atStart => exact ⟨i, rfl, ha2, Nat.le_refl _, Lib.hid fun j c h1 h2 => absurd h2 (by omega)⟩
                case round =>
                  obtain ⟨b, rfl, hb1, hb2, hC⟩ := hrel
                  by_cases hbk : ∃ h : b - 1 < s.size, a < b ∧ blk s[b - 1] = true
                  · obtain ⟨hal, hai2, hbl⟩ := hbk
                    try (exfalso; omega)
                    all_goals
                      obtain ⟨q, rfl⟩ : ∃ q, b = q + 1 := ⟨b - 1, by omega⟩
                      have hal2 : q < s.size := by omega
                      have hbl2 : blk s[q] = true := hbl
                      have HC2 : Hid (∀ j c, q ≤ j → j < i → s.data.toList[j]? = some c → blk c = true) := Lib.hid fun j c h1 h2 h3 => by
                        by_cases e : j = q
                        · subst e
                          rw [gets hal2] at h3
                          injection h3 with h3
                          rw [← h3]; exact hbl2
                        · exact hC.out j c (by omega) h2 h3
                      have hbi := byte_blk.1 hbl2
                      clear hC hbl hbl2 hal
                      have w1 : IntKind.i64.wrap (((q + 1 : Nat) : Int) - 1) = (q : Int) := by rw [IntWalk.i64_in _ (by omega)]; omega
                      rcases hbi with h32 | h9
                      · have f32 : ((s[q].toNat : Int) == 32) = true := by rw [beq_iff_eq]; exact h32
                        clear h32
                        go_wp2
                        exact ⟨⟨q, by go_num, by omega, by omega, HC2⟩, by simp [intOf]⟩
                      · have f32 : ((s[q].toNat : Int) == 32) = false := by rw [beq_eq_false_iff_ne]; omega
                        have f9 : ((s[q].toNat : Int) == 9) = true := by rw [beq_iff_eq]; exact h9
                        clear h9
                        go_wp2
                        exact ⟨⟨q, by go_num, by omega, by omega, HC2⟩, by simp [intOf]⟩
                  · have K4 : Hid (∀ c, a < b → s.data.toList[b - 1]? = some c → blk c = false) := Lib.hid fun c h1 h2 => by
                      rw [gets (by omega)] at h2
                      injection h2 with h2
                      rw [← h2]
                      by_cases h : blk (s[b - 1]'(by omega)) = true
                      · exact absurd ⟨by omega, h1, h⟩ hbk
                      · simpa using h
                    by_cases hab : a < b
                    · try (exfalso; omega)
                      all_goals
                        have HA2 := Lib.hid (hA.out.cut (by have := HSL.out; omega) (by rw [HSL.out]; exact HC.out) ha1 hb1 hb2 hB.out hC.out (by first | exact K3.out | (intro c h; exact K3.out c (by omega))) K4.out)
                        obtain ⟨q, rfl⟩ : ∃ q, b = q + 1 := ⟨b - 1, by omega⟩
                        have hal2 : q < s.size := by omega
                        have f32 : ((s[q].toNat : Int) == 32) = false := by
                          rw [beq_eq_false_iff_ne]; intro h
                          exact hbk ⟨hal2, hab, byte_blk.2 (.inl h)⟩
                        have f9 : ((s[q].toNat : Int) == 9) = false := by
                          rw [beq_eq_false_iff_ne]; intro h
                          exact hbk ⟨hal2, hab, byte_blk.2 (.inr h)⟩
                        clear hbk hC hB
                        have w1 : IntKind.i64.wrap (((q + 1 : Nat) : Int) - 1) = (q : Int) := by rw [IntWalk.i64_in _ (by omega)]; omega
                        have hsli : ∀ W : World, (Instr.slice 9 (.string s) (some (.int .i64 (a : Int))) (some (.int .i64 ((q : Int) + 1))) none).run Tryz.prog W = .ok (.string (s.extract a (q + 1))) W := fun W => by
                          rw [run_slice_string W 9 s .i64 .i64 (a : Int) ((q : Int) + 1) Tryz.underlying9 (by omega) (by omega) (by omega)]
                          rw [show ((q : Int) + 1).toNat = q + 1 by omega, show ((a : Int)).toNat = a by omega]
                        have hsd := sub_data s a (q + 1)
                        obtain ⟨tv, htv⟩ : ∃ tv, s.extract a (q + 1) = tv := ⟨_, rfl⟩
                        rw [htv] at hsli hsd
                        have HB := Lib.hid (show bytesOf ((s.data.toList.take (q + 1)).drop a) = tv by rw [← hsd]; rfl)
                        have HO4 := Lib.hid (World.ownsRow.alloc hO.out (.cells #[.string tv] 9))
                        clear hsd htv
                        go_wp2_with (at_builtin; refine wpList_append_lies _ rfl _ _ _ rfl N 9 i0 _ 1 16 Tryz.underlying39 hi0 hz0 hz1 hz2 rfl (by omega) (.slice vo ws.length vc) ws.length (strVals ws) rfl HO4.out ⟨wr.heap.size, 0, none⟩ 1 1 [.string tv] rfl rfl (World.news_of_block (cs := #[.string tv]) (heap_alloc_new wr _)) (by simp [Value.oneCell']) (by omega) (by unfold maxLen; omega) (by omega) (by simp; omega) _ rfl ?_; refine Hid.out ?_)
                        refine Lib.hid ?_
                        intro gg cap w8 hown8 hgrow _ _
                        have hb0 := hW.out.alloc hzr (.cells #[.string tv] 9)
                        have HB8 := Lib.hid (hb0.grown hgrow (by simp; omega) (fun q hq => (World.ownsRow.lt hO.out q hq).1))
                        have HN8 := Lib.hid (StrRow.snoc hown8)
                        clear hown8 hgrow hb0
                        go_wp2
                        refine ⟨⟨i + 1, i + 1, _, rfl, by go_num, by omega, HA2, Lib.hid ?_, HB8⟩, by simp [intOf]; omega⟩
                        rw [if_pos hab, List.map_append, List.map_cons, List.map_nil, HB.out, HWS.out]
                        exact HN8.out
                    · have HA2 := Lib.hid (hA.out.cut (by have := HSL.out; omega) (by rw [HSL.out]; exact HC.out) ha1 hb1 hb2 hB.out hC.out (by first | exact K3.out | (intro c h; exact K3.out c (by omega))) K4.out)
                      clear hbk hC hB
                      go_wp2
                      refine ⟨⟨i + 1, i + 1, _, rfl, by go_num, by omega, HA2, Lib.hid ?_, hW⟩, by simp [intOf]; omega⟩
                      rw [if_neg hab, List.append_nil, HWS.out]
                      exact hO.out
    · have HF : Hid (fr = s.size + 1) := Lib.hid (by have := HSL.out; have h := hA.out.2.2.1; omega)
      have HX : Hid (wordsL s.data.toList = ps) := Lib.hid (hA.out.2.2.2.2.2.2 (by have := HF.out; have := HSL.out; omega))
      have HO := hO
      clear hA hO
      go_wp2
      go_ret
      refine ⟨_, rfl, ?_, hW.out⟩
      unfold wordsB
      rw [HX.out]
      exact HO.out
end Go.Proofs.YtjbnjlkoipkpoaaGreatDoor.T
