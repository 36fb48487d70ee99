/- A stanza's cell and row: table.values, .Cell, .row. -/
import Derived.Test.YtboiaoaephimhaaDoorTRows
namespace Go.Proofs.YtboiaoaephimhaaDoor.T
open Go.RowKit Go.Shelf
open Go.Proofs.YtboiaoaephimhaaDoor.B

theorem infoS : (Tryd.prog.info? 9).map (fun i => (i.zero, i.size, i.bytes)) = some (some (.string ⟨#[]⟩), 1, 16) := by kernel_rfl
abbrev Fld := B.Fd
abbrev fdc : Fld → List Value := B.Fd.cells
/-- Fields lie in memory below block B. -/
def FieldsAt (B : Nat) (w : World) (v : Value) (fs : List Fld) : Prop :=
  ∃ (ao : Option Addr) (cp : Nat), v = .slice ao fs.length cp ∧ ∀ (k : Nat) (f : Fld), fs[k]? = some f → ∃ g, ao = some ⟨g, 0, none⟩ ∧ g < B ∧ w.cell? ⟨g, k * 2, none⟩ = some (.string ⟨f.key.toArray⟩) ∧ w.cell? ⟨g, k * 2 + 1, none⟩ = some (.string ⟨f.val.toArray⟩)
theorem FieldsAt.below {B C : Nat} {w w' : World} {v : Value} {fs : List Fld} (h : FieldsAt B w v fs) (hb : Below C w w') (hB : B ≤ C) : FieldsAt B w' v fs :=
  let ⟨ao, cp, h1, h2⟩ := h
  ⟨ao, cp, h1, fun k s hk => let ⟨g, h3, h4, h5, h6⟩ := h2 k s hk; ⟨g, h3, h4, (hb.cell (p := ⟨g, _, none⟩) (by show g < C; omega)).trans h5, (hb.cell (p := ⟨g, _, none⟩) (by show g < C; omega)).trans h6⟩⟩
theorem FieldsAt.up {B C : Nat} {w : World} {v : Value} {fs : List Fld} (h : FieldsAt B w v fs) (hB : B ≤ C) : FieldsAt C w v fs :=
  let ⟨ao, cp, h1, h2⟩ := h
  ⟨ao, cp, h1, fun k s hk => let ⟨g, h3, h4, h5⟩ := h2 k s hk; ⟨g, h3, by omega, h5⟩⟩
theorem fdCells_get : ∀ (fs : List Fld) (k : Nat) (f : Fld), fs[k]? = some f → (fs.flatMap fdc)[k * 2]? = some (.string ⟨f.key.toArray⟩) ∧ (fs.flatMap fdc)[k * 2 + 1]? = some (.string ⟨f.val.toArray⟩)
  | [], k, f, h => by simp at h
  | y :: r, 0, f, h => by simp at h; subst h; exact ⟨rfl, rfl⟩
  | y :: r, k + 1, f, h => by
    obtain ⟨h1, h2⟩ := fdCells_get r k f (by simpa using h)
    have e1 : (k + 1) * 2 = k * 2 + 1 + 1 := by omega
    rw [e1]
    have e : (y :: r).flatMap fdc = .string ⟨y.key.toArray⟩ :: .string ⟨y.val.toArray⟩ :: r.flatMap fdc := rfl
    rw [e]
    exact ⟨by simpa using h1, by simpa using h2⟩
theorem FieldsAt.row {B : Nat} {w : World} {v : Value} {fs : List Fld} (h : w.ownsRow B 100 2 v fs.length (fs.flatMap fdc)) : FieldsAt w.heap.size w v fs := by
  rcases h.2 with ⟨h0, h1⟩ | ⟨g, cap, cur, hv, hb, hg, -⟩
  · refine ⟨none, 0, ?_, fun k f hk => ?_⟩
    · rw [h1, h0]
    · have := (List.getElem?_eq_some_iff.1 hk).1; omega
  · refine ⟨_, cap, hv, fun k f hk => ⟨g, rfl, (Array.getElem?_eq_some_iff.1 hg).1, ?_⟩⟩
    obtain ⟨h3, h4⟩ := fdCells_get fs k f hk
    have e1 := h.cells (g := g) (by rw [hv]; rfl) _ _ h3
    have e2 := h.cells (g := g) (by rw [hv]; rfl) _ _ h4
    rw [addrO] at e1 e2
    exact ⟨e1, e2⟩
def strVals (ss : List ByteArray) : List Value := ss.map Value.string
theorem strVals_one (ss : List ByteArray) : ∀ u ∈ strVals ss, u.oneCell' = true := by
  intro u hu
  obtain ⟨n, _, rfl⟩ := List.mem_map.1 hu
  rfl
/-- Texts in a row of their own, at B or beyond. -/
def StrRow (B : Nat) (w : World) (v : Value) (ss : List ByteArray) : Prop := w.ownsRow B 9 1 v ss.length (strVals ss)
theorem StrRow.shape {B : Nat} {w : World} {v : Value} {ss : List ByteArray} (h : StrRow B w v ss) : ∃ vo vc, v = .slice vo ss.length vc := by
  rcases h.2 with ⟨h0, h1⟩ | ⟨g, cap, cur, hv, _⟩
  · exact ⟨none, 0, by rw [h0, h1]⟩
  · exact ⟨_, _, hv⟩
theorem StrRow.nil (B : Nat) (w : World) : StrRow B w (.slice none 0 0) [] := World.ownsRow_nil _ _ _ _
theorem StrRow.below {B C : Nat} {w w' : World} {v : Value} {ss : List ByteArray} (h : StrRow B w v ss) (hb : Below C w w') (hC : w.heap.size ≤ C) : StrRow B w' v ss :=
  ownsRow_of_block h fun g hg => hb.block g (by have := (World.ownsRow.lt h g hg).2; omega)
theorem StrRow.at_ {B : Nat} {w : World} {v : Value} {ss : List ByteArray} (h : StrRow B w v ss) : StrsAt w.heap.size w v ss := by
  rcases h.2 with ⟨h0, h1⟩ | ⟨g, cap, cur, hv, hb, hg, -⟩
  · refine ⟨none, 0, ?_, fun k f hk => ?_⟩
    · rw [h1, h0]
    · have := (List.getElem?_eq_some_iff.1 hk).1; omega
  · refine ⟨_, cap, hv, fun k s hk => ⟨_, rfl, (Array.getElem?_eq_some_iff.1 hg).1, ?_⟩⟩
    exact World.ownsRow.cells h (g := g) (by rw [hv]; rfl) k (.string s) (by simp [strVals, hk])
theorem StrRow.snoc {B gg cap : Nat} {w : World} {ss : List ByteArray} {s : ByteArray} (h : w.ownsRow B 9 1 (.slice (some ⟨gg, 0, none⟩) (ss.length + 1) cap) (ss.length + 1) (strVals ss ++ [.string s])) : StrRow B w (.slice (some ⟨gg, 0, none⟩) (ss.length + 1) cap) (ss ++ [s]) := by
  have e1 : strVals (ss ++ [s]) = strVals ss ++ [.string s] := by simp [strVals]
  unfold StrRow
  rw [e1, List.length_append]
  exact h
/-- A key's values. -/
def valsOf (key : List UInt8) (fs : List Fld) : List ByteArray := (fs.filter fun f => f.key == key).map fun f => ⟨f.val.toArray⟩
theorem valsOf_snoc (key : List UInt8) (fs : List Fld) (f : Fld) : valsOf key (fs ++ [f]) = valsOf key fs ++ (if f.key = key then [⟨f.val.toArray⟩] else []) := by
  unfold valsOf
  rw [List.filter_append, List.map_append]
  congr 1
  by_cases h : f.key = key <;> simp [h]
theorem valsOf_len (key : List UInt8) (fs : List Fld) : (valsOf key fs).length ≤ fs.length := by unfold valsOf; rw [List.length_map]; exact List.length_filter_le _ _
theorem toList_inj {a b : ByteArray} (h : a.toList = b.toList) : a = b := by
  rw [Lib.toList_data, Lib.toList_data] at h
  exact ByteArray.ext (Array.ext' h)
def VRel (w : World) (f : Nat → List ByteArray) (m : Nat) (v : Value) (i : Value) (wr : World) : Prop :=
  ∃ k : Nat, i = .int .i64 k ∧ k ≤ m ∧ Hid (StrRow w.heap.size wr v (f k)) ∧ Hid (Below w.heap.size w wr)
set_option maxRecDepth 20000 in
set_option maxHeartbeats 3200000 in
theorem values_any (s : ByteArray) (v : Value) (fs : List Fld) (w : World) (h : FieldsAt w.heap.size w v fs) (hn : fs.length ≤ 1000000) :
    Calls Tryd.prog 34 #[.string s, v] w fun e w' => ∃ u, e = .returned u ∧ StrRow w.heap.size w' u (valsOf s.data.toList fs) ∧ Below w.heap.size w w' := by
  obtain ⟨i0, hi0, hz0, hz1, hz2⟩ := info_parts infoS
  obtain ⟨ao, cp, rfl, hc⟩ := h
  have HC := Lib.hid hc
  clear hc
  have HK := Lib.hid (show ∀ l : List UInt8, (l = s.data.toList) ↔ ((⟨l.toArray⟩ : ByteArray) = s) from fun l => ⟨fun e => by rw [e], fun e => by rw [← e]⟩)
  obtain ⟨key, hkey⟩ : ∃ key, s.data.toList = key := ⟨_, rfl⟩
  rw [hkey] at HK ⊢
  clear hkey
  go_enter Tryd.func34, Tryd.ntmps34
  go_wp2
  go_loopw [5, 10] (fun v i wr => VRel w (fun k => valsOf key (fs.take k)) fs.length v i wr) (fun _ i _ => fs.length - (intOf i).toNat)
  case atStart => exact ⟨0, rfl, Nat.zero_le _, Lib.hid (StrRow.nil _ _), Lib.hid (Below.refl _ _)⟩
  case round =>
    obtain ⟨k, rfl, hk, hN, hW⟩ := hrel
    by_cases hlt : k < fs.length
    · obtain ⟨f, hf⟩ : ∃ f, fs[k]? = some f := ⟨_, List.getElem?_eq_getElem hlt⟩
      obtain ⟨g, rfl, hg, h1, h2⟩ := HC.out k f hf
      have c1 := (hW.out.cell (p := ⟨g, k * 2, none⟩) hg).trans h1
      have c2 := (hW.out.cell (p := ⟨g, k * 2 + 1, none⟩) hg).trans h2
      have hzr := hW.out.size
      have et : fs.take (k + 1) = fs.take k ++ [f] := by rw [List.take_add_one, hf]; rfl
      have E1 := Lib.hid (show valsOf key (fs.take (k + 1)) = _ by rw [et, valsOf_snoc])
      have hN3 : StrRow w.heap.size wr _ (valsOf key (fs.take k)) := hN.out
      have hvl := valsOf_len key (fs.take k)
      rw [List.length_take] at hvl
      obtain ⟨ss, hss⟩ : ∃ ss, valsOf key (fs.take k) = ss := ⟨_, rfl⟩
      rw [hss] at hN3 hvl E1
      obtain ⟨vo, vc, hvs⟩ := hN3.shape
      subst hvs
      have HN3 := Lib.hid hN3
      clear h1 h2 hf et hN3 hN hss
      obtain ⟨fk, fv⟩ := f
      simp only at c1 c2 E1
      obtain ⟨tv, htv⟩ : ∃ tv : ByteArray, (⟨fv.toArray⟩ : ByteArray) = tv := ⟨_, rfl⟩
      rw [htv] at c2 E1
      clear htv
      have HK1 := Lib.hid (HK.out fk)
      obtain ⟨tk, htk⟩ : ∃ tk : ByteArray, (⟨fk.toArray⟩ : ByteArray) = tk := ⟨_, rfl⟩
      rw [htk] at c1 HK1
      clear htk
      by_cases hfk : tk = s
      · subst hfk
        have E2 := E1.out
        rw [if_pos (HK1.out.2 rfl)] at E2
        have E3 := Lib.hid E2
        clear E1 E2
        have HO := Lib.hid (World.ownsRow.alloc (World.ownsRow.alloc HN3.out (.cells #[.string tk, .string tv] 100)) (.cells #[.string tv] 9))
        go_wp2_with (at_builtin; refine wpList_append_lies _ rfl _ _ _ rfl w.heap.size 9 i0 _ 1 16 Tryd.underlying24 hi0 hz0 hz1 hz2 rfl (by omega) (.slice vo ss.length vc) ss.length (strVals ss) rfl HO.out ⟨wr.heap.size + 1, 0, none⟩ 1 1 [.string tv] rfl rfl (World.news_of_block (cs := #[.string tv]) (by have := heap_alloc_new (wr.alloc (.cells #[.string tk, .string tv] 100)) (.cells #[.string tv] 9); simpa using this)) (by simp [Value.oneCell']) (by omega) (by unfold maxLen; omega) (by omega) (by simp; omega) _ rfl ?_; refine Hid.out ?_)
        refine Lib.hid ?_
        intro gg cap w8 hown8 hgrow hat hlt8
        have hb0 := ((hW.out.alloc hzr (.cells #[.string tk, .string tv] 100)).alloc (by simp; omega) (.cells #[.string tv] 9))
        have HB8 := Lib.hid (hb0.grown hgrow hb0.size (fun q hq => (World.ownsRow.lt HN3.out q hq).1))
        have HN8 := Lib.hid (StrRow.snoc hown8)
        clear hown8 hgrow hat hb0
        go_wp2
        refine ⟨⟨k + 1, by go_num, by omega, ?_, HB8⟩, by simp [intOf]; omega⟩
        show Hid (StrRow _ _ _ (valsOf key (fs.take (k + 1))))
        rw [E3.out]
        exact HN8
      · have E2 := E1.out
        rw [if_neg (fun e => hfk (HK1.out.1 e)), List.append_nil] at E2
        have E3 := Lib.hid E2
        have hne : (tk.toList == s.toList) = false := by rw [beq_eq_false_iff_ne]; exact fun e => hfk (toList_inj e)
        have HFK := Lib.hid hfk
        clear E1 E2 hfk
        go_wp2
        refine ⟨⟨k + 1, by go_num, by omega, ?_, Lib.hid (hW.out.alloc hzr _)⟩, by simp [intOf]; omega⟩
        show Hid (StrRow _ _ _ (valsOf key (fs.take (k + 1))))
        rw [E3.out]
        exact Lib.hid (World.ownsRow.alloc HN3.out _)
    · have hN4 : StrRow w.heap.size wr _ (valsOf key (fs.take k)) := hN.out
      rw [List.take_of_length_le (by omega)] at hN4
      have HN4 := Lib.hid hN4
      clear hN4 hN
      go_wp2
      go_ret
      exact ⟨_, rfl, HN4.out, hW.out⟩
end Go.Proofs.YtboiaoaephimhaaDoor.T
