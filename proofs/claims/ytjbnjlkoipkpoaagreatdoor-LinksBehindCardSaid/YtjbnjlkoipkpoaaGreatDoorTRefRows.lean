/- The reference's cell: stanzakeepref25.Cell. The reference's list of a text: stanzakeepref07.Of. The reference's stanzas of a list: stanzakeepref07.Stanzas. The reference's rows: stanzakeepref25.Rows. -/
import Derived.Test.YtjbnjlkoipkpoaaGreatDoorTRow
import Derived.Test.YtjbnjlkoipkpoaaGreatDoorTRefLines
import Derived.Test.YtjbnjlkoipkpoaaGreatDoorTRefParse
import Derived.Test.YtjbnjlkoipkpoaaGreatDoorBAll
import Derived.Test.YtjbnjlkoipkpoaaGreatDoorBLists
import Derived.Test.YtjbnjlkoipkpoaaGreatDoorTTable
import Derived.Test.YtjbnjlkoipkpoaaGreatDoorTRefSt
import Derived.Deep.RegionHeld3
namespace Go.Proofs.YtjbnjlkoipkpoaaGreatDoor.T
open Go.RowKit Go.Shelf
open Go.Proofs.YtjbnjlkoipkpoaaGreatDoor.B

def joinTo (key : List UInt8) (fs : List Fld) : List UInt8 := swap (Lib.join ((valsOf key fs).map (·.data.toList)) [59, 32])
def hasKey (key : List UInt8) (fs : List Fld) : Bool := !(valsOf key fs).isEmpty
theorem swap_app (a b : List UInt8) : swap (a ++ b) = swap a ++ swap b := by simp [swap]
theorem joinTail_snoc (sep x : List UInt8) : ∀ r : List (List UInt8), Lib.joinTail sep (r ++ [x]) = Lib.joinTail sep r ++ (sep ++ x)
  | [] => by simp [Lib.joinTail]
  | y :: r => by
    have ih := joinTail_snoc sep x r
    simp only [Lib.joinTail] at ih ⊢
    simp [List.append_assoc]
theorem join_snoc (sep x : List UInt8) (r : List (List UInt8)) (h : r ≠ []) : Lib.join (r ++ [x]) sep = Lib.join r sep ++ (sep ++ x) := by
  cases r with
  | nil => exact absurd rfl h
  | cons y r =>
    rw [List.cons_append, Lib.join_cons, Lib.join_cons, joinTail_snoc, List.append_assoc]
theorem joinTo_ne {key : List UInt8} {fs : List Fld} {f : Fld} (h : f.key ≠ key) : joinTo key (fs ++ [f]) = joinTo key fs ∧ hasKey key (fs ++ [f]) = hasKey key fs := by
  unfold joinTo hasKey
  rw [valsOf_snoc, if_neg h, List.append_nil]
  exact ⟨rfl, rfl⟩
theorem hasKey_eq {key : List UInt8} {fs : List Fld} {f : Fld} (h : f.key = key) : hasKey key (fs ++ [f]) = true := by
  unfold hasKey
  rw [valsOf_snoc, if_pos h]
  simp
theorem joinTo_first {key : List UInt8} {fs : List Fld} {f : Fld} (h : f.key = key) (h0 : hasKey key fs = false) : joinTo key (fs ++ [f]) = joinTo key fs ++ swap f.val := by
  unfold hasKey at h0
  have h1 : valsOf key fs = [] := by simpa using h0
  unfold joinTo
  rw [valsOf_snoc, if_pos h, h1]
  simp [Lib.join_one, Lib.join_nil, swap]
theorem joinTo_next {key : List UInt8} {fs : List Fld} {f : Fld} (h : f.key = key) (h0 : hasKey key fs = true) : joinTo key (fs ++ [f]) = (joinTo key fs ++ [59, 32]) ++ swap f.val := by
  unfold hasKey at h0
  have h1 : (valsOf key fs).map (fun s : ByteArray => s.data.toList) ≠ [] := by
    intro e
    have e1 : valsOf key fs = [] := by simpa using e
    rw [e1] at h0; simp at h0
  unfold joinTo
  rw [valsOf_snoc, if_pos h, List.map_append, List.map_cons, List.map_nil, join_snoc _ _ _ h1, swap_app, swap_app, List.append_assoc]
  rfl
theorem cellL_has (key : List UInt8) (fs : List Fld) : cellL key fs = if hasKey key fs = true then joinTo key fs else [45] := by
  unfold cellL hasKey joinTo
  cases h : valsOf key fs with
  | nil => simp
  | cons a b => simp
theorem fine_take {fs : List Fld} (h : FsFine fs) (k : Nat) : FsFine (fs.take k) := ⟨by rw [List.length_take]; have := h.1; omega, fun f hf => h.2 f (List.mem_of_mem_take hf)⟩
theorem joinTo_len {key : List UInt8} {fs : List Fld} (h : FsFine fs) : (joinTo key fs).length ≤ 40080 := by
  have h1 := cellL_len (key := key) h
  rw [cellL_has] at h1
  split at h1
  · exact h1
  · rename_i h2
    have h3 : valsOf key fs = [] := by unfold hasKey at h2; simpa using h2
    unfold joinTo
    rw [h3]
    simp [Lib.join_nil, swap]
theorem swap_take_succ {l : List UInt8} {j : Nat} {c : UInt8} (h : l[j]? = some c) : swap (l.take (j + 1)) = swap (l.take j) ++ [swapB c] := by
  rw [List.take_add_one, h, swap_app]; rfl
theorem extract_one (s : ByteArray) (j : Nat) (c : UInt8) (h : s.data.toList[j]? = some c) : (s.extract j (j + 1)).data.toList = [c] := by
  have h1 := (List.getElem?_eq_some_iff.1 h).1
  rw [Lib.extract_data]
  rw [show j + 1 - j = 1 by omega, List.drop_eq_getElem_cons h1]
  rw [List.getElem?_eq_getElem h1] at h
  injection h with h
  rw [h]; rfl
set_option maxRecDepth 20000 in
set_option maxHeartbeats 6400000 in
theorem refCell_any (s : ByteArray) (v : Value) (fs : List Fld) (w : World) (h : FieldsAt w.heap.size w v fs) (hf : FsFine fs) :
    Calls Tryz.prog 32 #[.string s, v] w fun e w' => e = .returned (.string ⟨(cellL s.data.toList fs).toArray⟩) ∧ w = w' := by
  obtain ⟨ao, cp, rfl, hc⟩ := h
  have HC := Lib.hid hc
  have HK := Lib.hid (show ∀ l : List UInt8, (l = s.data.toList) ↔ ((⟨l.toArray⟩ : ByteArray) = s) from fun l => ⟨fun e => by rw [e], fun e => by rw [← e]⟩)
  obtain ⟨key, hkey⟩ : ∃ key, s.data.toList = key := ⟨_, rfl⟩
  rw [hkey] at HK ⊢
  have HCL := Lib.hid (cellL_has key fs)
  have HF := Lib.hid hf
  have h40 := hf.1
  clear hc hkey hf
  go_enter Tryz.func32, Tryz.ntmps32
  go_wp2
  go_loop [5, 6, 7] (fun o a i => ∃ (k : Nat) (x : ByteArray), i = .int .i64 k ∧ k ≤ fs.length ∧ o = .string x ∧ a = .bool (hasKey key (fs.take k)) ∧ Hid (x.data.toList = joinTo key (fs.take k))) (fun _ _ i => fs.length - (intOf i).toNat)
  case atStart => exact ⟨0, ⟨#[]⟩, rfl, Nat.zero_le _, rfl, rfl, Lib.hid rfl⟩
  case round =>
    obtain ⟨k, x, rfl, hk, rfl, rfl, hx⟩ := hrel
    have hxs : x.size ≤ 40080 := ba_le hx.out (joinTo_len (fine_take HF.out k))
    by_cases hlt : k < fs.length
    · obtain ⟨f, hf⟩ : ∃ f, fs[k]? = some f := ⟨_, List.getElem?_eq_getElem hlt⟩
      obtain ⟨g, rfl, hg, h1, h2⟩ := HC.out k f hf
      have et : fs.take (k + 1) = fs.take k ++ [f] := by rw [List.take_add_one, hf]; rfl
      have hv := HF.out.2 f (List.mem_of_getElem? hf)
      have hjl : (joinTo key (fs.take (k + 1))).length ≤ 40080 := joinTo_len (fine_take HF.out (k + 1))
      by_cases hke : f.key = key
      · have he : (⟨f.key.toArray⟩ : ByteArray) = s := (HK.out _).1 hke
        rw [he] at h1
        obtain ⟨tv, htv⟩ : ∃ tv : ByteArray, (⟨f.val.toArray⟩ : ByteArray) = tv := ⟨_, rfl⟩
        have htd : tv.data.toList = f.val := by rw [← htv]
        rw [htv] at h2
        have htl : tv.size ≤ 1000 := by rw [Lib.size_eq, htd]; exact hv
        have HTD := Lib.hid htd
        have hh1 := hasKey_eq (fs := fs.take k) hke
        rw [← et] at hh1
        have HH1 := Lib.hid hh1
        obtain ⟨b, hb⟩ : ∃ b, hasKey key (fs.take k) = b := ⟨_, rfl⟩
        have HJ : Hid (joinTo key (fs.take (k + 1)) = (if b = true then x.data.toList ++ [59, 32] else x.data.toList) ++ swap f.val) := Lib.hid (by
          rw [et, hx.out]
          cases b with
          | true => rw [joinTo_next hke hb]; rfl
          | false => rw [joinTo_first hke hb]; rfl)
        rw [hb]
        clear hf et hke he htv htd hh1 hb hjl hv
        cases b with
        | true =>
          have HJ' : Hid (joinTo key (fs.take (k + 1)) = (x.data.toList ++ [59, 32]) ++ swap f.val) := HJ
          clear HJ
          have hx1 : Hid ((x ++ ⟨#[59, 32]⟩).data.toList = (x.data.toList ++ [59, 32]) ++ swap (tv.data.toList.take 0)) := Lib.hid (by rw [append_dl']; simp [swap])
          go_wp2
          go_loop [5, 8] (fun o i => ∃ (j : Nat) (y : ByteArray), i = .int .i64 j ∧ j ≤ tv.size ∧ o = .string y ∧ y.size ≤ 50000 + j ∧ Hid (y.data.toList = (x.data.toList ++ [59, 32]) ++ swap (tv.data.toList.take j))) (fun _ i => tv.size - (intOf i).toNat)
          case atStart => exact ⟨0, _, rfl, Nat.zero_le _, rfl, by rw [ba_size_append]; have e2 : (⟨#[59, 32]⟩ : ByteArray).size = 2 := rfl; omega, hx1⟩
          case round =>
            obtain ⟨j, y, rfl, hj, rfl, hys, hy⟩ := hrel
            by_cases hjl : j < tv.size
            · obtain ⟨c, hc⟩ : ∃ c, tv.data.toList[j]? = some c := ⟨_, List.getElem?_eq_getElem (by rw [← Lib.size_eq]; exact hjl)⟩
              have hcc : tv[j] = c := by
                have := (List.getElem?_eq_some_iff.1 hc).2
                rw [← this]; rfl
              have HS := Lib.hid (swap_take_succ hc)
              have HE := Lib.hid (extract_one tv j c hc)
              by_cases hnl : c = 10
              · subst hnl
                clear hc
                go_wp2
                go_round
                case rel =>
                  refine ⟨j + 1, _, by go_num, by omega, rfl, ?_, Lib.hid ?_⟩
                  · rw [ba_size_append]; have e2 : (⟨#[47]⟩ : ByteArray).size = 1 := rfl; omega
                  · rw [append_dl', hy.out, HS.out, List.append_assoc]; rfl
                case measure => simp [intOf]; omega
              · have hnb : ((c.toNat : Int) == 10) = false := by
                  rw [beq_eq_false_iff_ne]
                  intro e
                  exact hnl (UInt8.toNat_inj.1 (by have e2 : (10 : UInt8).toNat = 10 := rfl; omega))
                have HC2 : Hid (swapB c = c) := Lib.hid (if_neg hnl)
                have hsli : ∀ W : World, (Instr.slice 9 (.string tv) (some (.int .i64 (j : Int))) (some (.int .i64 ((j : Int) + 1))) none).run Tryz.prog W = .ok (.string (tv.extract j (j + 1))) W := fun W => by
                  rw [run_slice_string W 9 tv .i64 .i64 (j : Int) ((j : Int) + 1) Tryz.underlying9 (by omega) (by omega) (by omega)]
                  rw [show ((j : Int)).toNat = j by omega, show ((j : Int) + 1).toNat = j + 1 by omega]
                clear hc hnl
                go_wp2
                go_round
                case rel =>
                  refine ⟨j + 1, _, by go_num, by omega, rfl, ?_, Lib.hid ?_⟩
                  · rw [ba_size_append, Lib.size_eq (tv.extract j (j + 1)), HE.out]; simp; omega
                  · rw [append_dl', hy.out, HS.out, HE.out, HC2.out, List.append_assoc]
                case measure => simp [intOf]; omega
            · have hje : j = tv.size := by omega
              subst hje
              have hy2 := hy.out
              rw [List.take_of_length_le (by rw [← Lib.size_eq]; exact Nat.le_refl _), HTD.out] at hy2
              have HY := Lib.hid hy2
              clear hy2 hy
              go_wp2
              go_round
              case rel => exact ⟨k + 1, _, by go_num, by omega, rfl, by rw [HH1.out], Lib.hid (by rw [HY.out, HJ'.out])⟩
              case measure => simp [intOf]; omega
        | false =>
          have HJ' : Hid (joinTo key (fs.take (k + 1)) = x.data.toList ++ swap f.val) := HJ
          clear HJ
          have hx1 : Hid (x.data.toList = x.data.toList ++ swap (tv.data.toList.take 0)) := Lib.hid (by simp [swap])
          go_wp2
          go_loop [5, 8] (fun o i => ∃ (j : Nat) (y : ByteArray), i = .int .i64 j ∧ j ≤ tv.size ∧ o = .string y ∧ y.size ≤ 50000 + j ∧ Hid (y.data.toList = x.data.toList ++ swap (tv.data.toList.take j))) (fun _ i => tv.size - (intOf i).toNat)
          case atStart => exact ⟨0, _, rfl, Nat.zero_le _, rfl, by omega, hx1⟩
          case round =>
            obtain ⟨j, y, rfl, hj, rfl, hys, hy⟩ := hrel
            by_cases hjl : j < tv.size
            · obtain ⟨c, hc⟩ : ∃ c, tv.data.toList[j]? = some c := ⟨_, List.getElem?_eq_getElem (by rw [← Lib.size_eq]; exact hjl)⟩
              have hcc : tv[j] = c := by
                have := (List.getElem?_eq_some_iff.1 hc).2
                rw [← this]; rfl
              have HS := Lib.hid (swap_take_succ hc)
              have HE := Lib.hid (extract_one tv j c hc)
              by_cases hnl : c = 10
              · subst hnl
                clear hc
                go_wp2
                go_round
                case rel =>
                  refine ⟨j + 1, _, by go_num, by omega, rfl, ?_, Lib.hid ?_⟩
                  · rw [ba_size_append]; have e2 : (⟨#[47]⟩ : ByteArray).size = 1 := rfl; omega
                  · rw [append_dl', hy.out, HS.out, List.append_assoc]; rfl
                case measure => simp [intOf]; omega
              · have hnb : ((c.toNat : Int) == 10) = false := by
                  rw [beq_eq_false_iff_ne]
                  intro e
                  exact hnl (UInt8.toNat_inj.1 (by have e2 : (10 : UInt8).toNat = 10 := rfl; omega))
                have HC2 : Hid (swapB c = c) := Lib.hid (if_neg hnl)
                have hsli : ∀ W : World, (Instr.slice 9 (.string tv) (some (.int .i64 (j : Int))) (some (.int .i64 ((j : Int) + 1))) none).run Tryz.prog W = .ok (.string (tv.extract j (j + 1))) W := fun W => by
                  rw [run_slice_string W 9 tv .i64 .i64 (j : Int) ((j : Int) + 1) Tryz.underlying9 (by omega) (by omega) (by omega)]
                  rw [show ((j : Int)).toNat = j by omega, show ((j : Int) + 1).toNat = j + 1 by omega]
                clear hc hnl
                go_wp2
                go_round
                case rel =>
                  refine ⟨j + 1, _, by go_num, by omega, rfl, ?_, Lib.hid ?_⟩
                  · rw [ba_size_append, Lib.size_eq (tv.extract j (j + 1)), HE.out]; simp; omega
                  · rw [append_dl', hy.out, HS.out, HE.out, HC2.out, List.append_assoc]
                case measure => simp [intOf]; omega
            · have hje : j = tv.size := by omega
              subst hje
              have hy2 := hy.out
              rw [List.take_of_length_le (by rw [← Lib.size_eq]; exact Nat.le_refl _), HTD.out] at hy2
              have HY := Lib.hid hy2
              clear hy2 hy
              go_wp2
              go_round
              case rel => exact ⟨k + 1, _, by go_num, by omega, rfl, by rw [HH1.out], Lib.hid (by rw [HY.out, HJ'.out])⟩
              case measure => simp [intOf]; omega
      · have hne : ((⟨f.key.toArray⟩ : ByteArray).toList == s.toList) = false := by
          rw [beq_eq_false_iff_ne]
          intro e
          exact hke ((HK.out _).2 (toList_inj e))
        obtain ⟨kb, hkb⟩ : ∃ kb : ByteArray, (⟨f.key.toArray⟩ : ByteArray) = kb := ⟨_, rfl⟩
        rw [hkb] at h1 hne
        obtain ⟨j1, j2⟩ := joinTo_ne (fs := fs.take k) hke
        rw [← et] at j1 j2
        have HJ1 := Lib.hid j1
        have HJ2 := Lib.hid j2
        clear hf et hke hkb j1 j2 hjl hv
        go_wp2
        go_round
        case rel => exact ⟨k + 1, _, by go_num, by omega, rfl, by rw [HJ2.out], Lib.hid (by rw [HJ1.out]; exact hx.out)⟩
        case measure => simp [intOf]; omega
    · have hk' : fs.take k = fs := List.take_of_length_le (by omega)
      rw [hk'] at hx ⊢
      obtain ⟨b, hb⟩ : ∃ b, hasKey key fs = b := ⟨_, rfl⟩
      have HCL2 := HCL.out
      rw [hb] at HCL2 ⊢
      have HCL3 := Lib.hid HCL2
      clear hk' HCL2 hb
      cases b with
      | true =>
        go_wp2
        go_ret
        refine ⟨?_, rfl⟩
        have e : cellL key fs = joinTo key fs := HCL3.out
        rw [e, ← hx.out]
        rfl
      | false =>
        go_wp2
        go_ret
        refine ⟨?_, rfl⟩
        have e : cellL key fs = [45] := HCL3.out
        rw [e]
        rfl
end Go.Proofs.YtjbnjlkoipkpoaaGreatDoor.T

namespace Go.Proofs.YtjbnjlkoipkpoaaGreatDoor.B
open Go.RowKit Go.Shelf
open Go.Proofs.YtjbnjlkoipkpoaaGreatDoor.T

/-- The reference's list is a value; its entries lie at C or beyond. -/
def RList (C : Nat) (w : World) (v : Value) (es : List (It × Nat)) (next : Nat) : Prop :=
  ∃ ve vs, v = .agg #[ve, .int .i64 next] ∧ w.ownsRow C 117 4 ve es.length (entCells es vs) ∧ vs.length = es.length ∧ ∀ (i : Nat) (u : Value) (e : It × Nat), vs[i]? = some u → es[i]? = some e → FdR C w u e.1.fields
def ROfPost (t : List UInt8) (w : World) (e : Ending) (w' : World) : Prop :=
  if (parse t).err = 0 then ∃ v, e = .returned (.tuple #[v, .int .i64 (-9), .int .i64 0]) ∧ RList w.heap.size w' v (numberFrom 1 (parse t).st.items) (1 + recsOf (parse t).st.items) ∧ Below w.heap.size w w'
  else ∃ (i : Int) (n : Nat), e = .returned (.tuple #[.agg #[.slice none 0 0, .int .i64 0], .int .i64 i, .int .i64 n]) ∧ n ≠ 0 ∧ n ≤ 100 ∧ Below w.heap.size w w'
theorem infoREn : (Tryz.prog.info? 117).map (fun i => (i.zero, i.size, i.bytes)) = some (some (.agg #[.int .i64 0, .string ⟨#[]⟩, .slice none 0 0, .int .i64 0]), 4, 56) := by kernel_rfl
/-- The list under way in block N. -/
structure RMaking (N : Nat) (w : World) (xs : List It) (vs : List Value) (k : Nat) (ve : Value) : Prop where
  blk : w.heap[N]? = some (.cells #[ve, .int .i64 (1 + recsOf (xs.take k) : Nat)] 26 (0, 0))
  row : w.ownsRow (N + 1) 117 4 ve k (entCells ((numberFrom 1 xs).take k) (vs.take k))
theorem rmaking_end {N gg cap : Nat} {ws wE w8 : World} {xs : List It} {vs : List Value} {k r2 : Nat} {x : It} {u : Value} {id : Nat} {lo : Option Addr} {lc : Nat} {c1 : Value} (hE : Below ws.heap.size ws wE) (hN : ws.heap[N]? = some (.cells #[.slice lo k lc, c1] 26 (0, 0)))
    (hown0 : wE.ownsRow (N + 1) 117 4 (.slice lo k lc) k (entCells ((numberFrom 1 xs).take k) (vs.take k)))
    (hown : w8.ownsRow (N + 1) 117 4 (.slice (some ⟨gg, 0, none⟩) (k + 1) cap) (k + 1) (entCells ((numberFrom 1 xs).take k) (vs.take k) ++ entC (x, id) u)) (hg : wE.grownBy w8 (Value.slice lo k lc).ownBlock)
    (hlk : (vs.take k).length = ((numberFrom 1 xs).take k).length) (he : (numberFrom 1 xs)[k]? = some (x, id)) (hu : vs[k]? = some u) (hr : recsOf (xs.take (k + 1)) = r2) (hc1 : c1 = .int .i64 (1 + r2 : Nat)) :
    RMaking N (w8.setCell ⟨N, 0, none⟩ (.slice (some ⟨gg, 0, none⟩) (k + 1) cap)) xs vs (k + 1) (.slice (some ⟨gg, 0, none⟩) (k + 1) cap) := by
  have hNl := (Array.getElem?_eq_some_iff.1 hN).1
  have h8 : w8.heap[N]? = some (.cells #[.slice lo k lc, c1] 26 (0, 0)) := by
    refine (hg.block N (Nat.lt_of_lt_of_le hNl hE.size) fun e => ?_).trans ((hE.block N hNl).trans hN)
    have := (World.ownsRow.lt hown0 N e.symm).1
    omega
  refine ⟨?_, ?_⟩
  · rw [hr, ← hc1]
    simp [World.setCell, Array.getElem?_modify, h8]
  · have e1 : (numberFrom 1 xs).take (k + 1) = (numberFrom 1 xs).take k ++ [(x, id)] := by rw [List.take_add_one, he]; rfl
    have e2 : vs.take (k + 1) = vs.take k ++ [u] := by rw [List.take_add_one, hu]; rfl
    rw [e1, e2, entCells_snoc hlk]
    refine ownsRow_of_block hown fun g hg => ?_
    have := (World.ownsRow.lt hown g hg).1
    exact Below.heap_setCell _ _ _ _ (by show g ≠ N; omega)
theorem rown_same {N k : Nat} {wr ws : World} {v : Value} {xs : List Value} (h : wr.ownsRow (N + 1) 117 4 v k xs) (hs : ∀ j, j ≠ N → ws.heap[j]? = wr.heap[j]?) : ws.ownsRow (N + 1) 117 4 v k xs :=
  ownsRow_of_block h fun g hg => hs g (by have := (World.ownsRow.lt h g hg).1; omega)
def ROfRel (N : Nat) (w1 : World) (xs : List It) (vs : List Value) (i : Value) (wr : World) : Prop :=
  ∃ (k : Nat) (ve : Value), i = .int .i64 k ∧ k ≤ xs.length ∧ Hid (RMaking N wr xs vs k ve) ∧ Hid (Below N w1 wr) ∧ N < wr.heap.size
set_option maxRecDepth 100000 in
set_option maxHeartbeats 3200000 in
theorem refOf_ok (s : ByteArray) (hs : s.size ≤ 60000) (w : World) (he : (parse s.data.toList).err = 0) :
    Calls Tryz.prog 24 #[.string s] w fun e w' => ∃ v, e = .returned (.tuple #[v, .int .i64 (-9), .int .i64 0]) ∧ RList w.heap.size w' v (numberFrom 1 (parse s.data.toList).st.items) (1 + recsOf (parse s.data.toList).st.items) ∧ Below w.heap.size w w' := by
  obtain ⟨i0, hi0, hz0, hz1, hz2⟩ := info_parts infoREn
  have P1 : Hid (∀ w0, Calls Tryz.prog 61 #[.string s] w0 fun e w' => ∃ v vs, e = .returned (.tuple #[v, .int .i64 (-9), .int .i64 0]) ∧ ItemsR w0.heap.size w' v (parse s.data.toList).st.items vs ∧ Below w0.heap.size w0 w') := Lib.hid fun w0 => (refParse_any s hs w0).mono fun e w' h => by
    unfold RefPost at h
    rwa [if_pos he] at h
  have hxl := items_bound (s := s.data.toList) (by rw [size_len]; exact hs)
  clear he
  generalize (parse s.data.toList).st.items = xs at *
  go_enter Tryz.func24, Tryz.ntmps24
  go_wp2_with fail
  refine (P1.out _).mono ?_
  rintro e w1 ⟨v, vs, rfl, ⟨hrow, hlv, hits⟩, b1⟩
  obtain ⟨ao, ca, hv⟩ := own_shape hrow
  subst hv
  have hwz : (w.alloc (.cells #[.slice none 0 0, .int .i64 0] 26)).heap.size = w.heap.size + 1 := by simp
  have hz1w : w.heap.size < w1.heap.size := by have := b1.size; omega
  have HBW := Lib.hid ((below_grow1 w (.cells #[.slice none 0 0, .int .i64 0] 26)).trans (b1.mono (by omega)))
  have hres : w1.heap[w.heap.size]? = some (.cells #[.slice none 0 0, .int .i64 0] 26 (0, 0)) := (b1.block _ (by omega)).trans (heap_alloc_new w _)
  have HRES := Lib.hid hres
  have HROW := Lib.hid hrow
  have HITS := Lib.hid hits
  obtain ⟨N, hN⟩ : ∃ N, w1.heap.size = N := ⟨_, rfl⟩
  have M0 : Hid (RMaking N (w1.alloc (.cells #[.slice none 0 0, .int .i64 1] 26)) xs vs 0 (.slice none 0 0)) := Lib.hid ⟨by rw [← hN]; exact heap_alloc_new w1 _, World.ownsRow_nil _ _ _ _⟩
  have B1 := Lib.hid (hN ▸ below_grow1 w1 (.cells #[.slice none 0 0, .int .i64 1] 26))
  have HNN := Lib.hid hN
  have hNz : N < (w1.alloc (.cells #[.slice none 0 0, .int .i64 1] 26)).heap.size := by simp; omega
  have HNZ := Lib.hid hNz
  clear hrow hits b1 P1 hres hwz hNz
  go_wp2
  try rw [hN]
  clear hN
  go_loopw [9] (fun i W => ROfRel N w1 xs vs i W) (fun i _ => xs.length - (intOf i).toNat)
  case atStart => exact ⟨0, _, rfl, Nat.zero_le _, M0, B1, HNZ.out⟩
  case round =>
    clear M0 B1 HNZ
    obtain ⟨k, ve, rfl, hk, hM, hW, hNz⟩ := hrel
    by_cases hlt : k < xs.length
    · obtain ⟨x, hx⟩ : ∃ x, xs[k]? = some x := ⟨_, List.getElem?_eq_getElem hlt⟩
      obtain ⟨u, hu⟩ : ∃ u, vs[k]? = some u := ⟨_, List.getElem?_eq_getElem (by rw [hlv]; exact hlt)⟩
      have hlk : ((numberFrom 1 xs).take k).length = k := by rw [List.length_take, number_len]; omega
      have hlk' : (vs.take k).length = ((numberFrom 1 xs).take k).length := by rw [hlk, List.length_take]; omega
      obtain ⟨lo, lc, hve⟩ := own_shape hM.out.row
      subst hve
      have hnum := Lib.hid (number_get 1 k xs x hx)
      obtain ⟨g1, g2, g3⟩ := icell_get xs vs k x u hx hu
      obtain ⟨g, hg, hao⟩ : ∃ g, (Value.slice ao xs.length ca).ownBlock = some g ∧ ao = some ⟨g, 0, none⟩ := by
        rcases HROW.out.2 with ⟨-, h0⟩ | ⟨g, cp', cur, hz, -⟩
        · omega
        · injection hz with z1 z2 z3
          exact ⟨g, by rw [z1]; rfl, z1⟩
      have hgl := (World.ownsRow.lt HROW.out g hg).2
      have hgN : g < N := by rw [← HNN.out]; exact hgl
      have hgr : g < wr.heap.size := by omega
      have e1 := HROW.out.cells hg _ _ g1
      have e2 := HROW.out.cells hg _ _ g2
      have e3 := HROW.out.cells hg _ _ g3
      rw [addr0] at e1 e2 e3
      have e1 := (hW.out.cell (p := ⟨g, k * 3, none⟩) hgN).trans e1
      have e2 := (hW.out.cell (p := ⟨g, k * 3 + 1, none⟩) hgN).trans e2
      have e3 := (hW.out.cell (p := ⟨g, k * 3 + 2, none⟩) hgN).trans e3
      subst hao
      obtain ⟨uo, uc, hus⟩ := (HITS.out k u x hu hx).shape
      subst hus
      obtain ⟨tb, htb⟩ : ∃ tb : ByteArray, (⟨x.raw.toArray⟩ : ByteArray) = tb := ⟨_, rfl⟩
      rw [htb] at e2
      have HTB := Lib.hid htb
      have HX := Lib.hid hx
      have HU := Lib.hid hu
      have hrl := recs_le (xs.take k)
      rw [List.length_take] at hrl
      have c0 : wr.cell? ⟨N, 0, none⟩ = some (.slice lo k lc) := cell_of_row _ N 0 _ _ hM.out.blk
      have c1 : wr.cell? ⟨N, 1, none⟩ = some (.int .i64 (1 + recsOf (xs.take k) : Nat)) := cell_of_row _ N 1 _ _ hM.out.blk
      have f0 : wr.frozen? ⟨N, 0, none⟩ = false := frozen_of_row _ N 0 _ _ hM.out.blk
      have f1 : wr.frozen? ⟨N, 1, none⟩ = false := frozen_of_row _ N 1 _ _ hM.out.blk
      generalize hr0 : recsOf (xs.take k) = r at *
      have hr := Lib.hid hr0
      clear g1 g2 g3 htb hx hu hr0 hg
      by_cases hkd0 : x.kind = 3
      · have hkb : ((x.kind : Int) == 3) = true := by simp [hkd0]
        have hkd := Lib.hid hkd0
        clear hkd0
        have hoth : ∀ j, j ≠ N → (wr.setCell ⟨N, 1, none⟩ (.int .i64 (1 + (r : Int) + 1))).heap[j]? = wr.heap[j]? := fun j hj => Below.heap_setCell _ _ _ _ hj
        have hwsz : (wr.setCell ⟨N, 1, none⟩ (.int .i64 (1 + (r : Int) + 1))).heap.size = wr.heap.size := World.size_setCell _ _ _
        have hsN : (wr.setCell ⟨N, 1, none⟩ (.int .i64 (1 + (r : Int) + 1))).heap[N]? = some (.cells #[.slice lo k lc, .int .i64 (1 + (r : Int) + 1)] 26 (0, 0)) := by
          have := hM.out.blk
          simp [World.setCell, Array.getElem?_modify, this]
        have hbs : Below N wr (wr.setCell ⟨N, 1, none⟩ (.int .i64 (1 + (r : Int) + 1))) := (Below.refl _ _).setCell (p := ⟨N, 1, none⟩) (Nat.le_refl _) _
        have hown0 : (((wr.setCell ⟨N, 1, none⟩ (.int .i64 (1 + (r : Int) + 1))).alloc (.cells #[.int .i64 x.kind, .string tb, .slice uo x.fields.length uc, .int .i64 (1 + (r : Int))] 117)).alloc (.cells #[.int .i64 x.kind, .string tb, .slice uo x.fields.length uc, .int .i64 (1 + (r : Int))] 117)).ownsRow (N + 1) 117 4 (.slice lo k lc) k (entCells ((numberFrom 1 xs).take k) (vs.take k)) := World.ownsRow.alloc (World.ownsRow.alloc (rown_same hM.out.row hoth) _) _
        have hbE : Below (wr.setCell ⟨N, 1, none⟩ (.int .i64 (1 + (r : Int) + 1))).heap.size (wr.setCell ⟨N, 1, none⟩ (.int .i64 (1 + (r : Int) + 1))) (((wr.setCell ⟨N, 1, none⟩ (.int .i64 (1 + (r : Int) + 1))).alloc (.cells #[.int .i64 x.kind, .string tb, .slice uo x.fields.length uc, .int .i64 (1 + (r : Int))] 117)).alloc (.cells #[.int .i64 x.kind, .string tb, .slice uo x.fields.length uc, .int .i64 (1 + (r : Int))] 117)) := (below_grow1 _ _).alloc (by simp) _
        have HNE : Hid (∀ j x', (#[.int .i64 x.kind, .string tb, .slice uo x.fields.length uc, .int .i64 (1 + (r : Int))] : Array Value).toList[j]? = some x' → (((wr.setCell ⟨N, 1, none⟩ (.int .i64 (1 + (r : Int) + 1))).alloc (.cells #[.int .i64 x.kind, .string tb, .slice uo x.fields.length uc, .int .i64 (1 + (r : Int))] 117)).alloc (.cells #[.int .i64 x.kind, .string tb, .slice uo x.fields.length uc, .int .i64 (1 + (r : Int))] 117)).cell? ((⟨wr.heap.size + 1, 0, none⟩ : Addr).add j) = some x') := Lib.hid (by
          have h := World.news_of_block (w := ((wr.setCell ⟨N, 1, none⟩ (.int .i64 (1 + (r : Int) + 1))).alloc (.cells #[.int .i64 x.kind, .string tb, .slice uo x.fields.length uc, .int .i64 (1 + (r : Int))] 117)).alloc (.cells #[.int .i64 x.kind, .string tb, .slice uo x.fields.length uc, .int .i64 (1 + (r : Int))] 117)) (cs := #[.int .i64 x.kind, .string tb, .slice uo x.fields.length uc, .int .i64 (1 + (r : Int))]) (heap_alloc_new ((wr.setCell ⟨N, 1, none⟩ (.int .i64 (1 + (r : Int) + 1))).alloc (.cells #[.int .i64 x.kind, .string tb, .slice uo x.fields.length uc, .int .i64 (1 + (r : Int))] 117)) _)
          rwa [show ((wr.setCell ⟨N, 1, none⟩ (.int .i64 (1 + (r : Int) + 1))).alloc (.cells #[.int .i64 x.kind, .string tb, .slice uo x.fields.length uc, .int .i64 (1 + (r : Int))] 117)).heap.size = wr.heap.size + 1 from by simp [hwsz]] at h)
        have HOW := Lib.hid hown0
        have HBE := Lib.hid hbE
        have HOTH := Lib.hid hoth
        have HSN := Lib.hid hsN
        have hobw : ∀ q, (Value.slice lo k lc).ownBlock = some q → N + 1 ≤ q := fun q hq => (World.ownsRow.lt hM.out.row q hq).1
        have HOB := Lib.hid hobw
        have HWSZ := Lib.hid hwsz
        have HBS := Lib.hid hbs
        clear hown0 hbE hoth hsN hobw hwsz hbs
        go_wp2_with (at_builtin; refine wpList_append_lies _ rfl _ _ _ rfl (N + 1) 117 i0 _ 4 56 Tryz.underlying24 hi0 hz0 hz1 hz2 rfl (by omega) (.slice lo k lc) k (entCells ((numberFrom 1 xs).take k) (vs.take k)) rfl HOW.out ⟨wr.heap.size + 1, 0, none⟩ 1 1 [.int .i64 x.kind, .string tb, .slice uo x.fields.length uc, .int .i64 (1 + (r : Int))] rfl rfl HNE.out (by simp [Value.oneCell']) (by omega) (by unfold maxLen; omega) (by omega) (by simp; omega) _ rfl ?_; refine Hid.out ?_)
        refine Lib.hid ?_
        intro gg cap w8 hown8 hgrow hat hlt8
        have hNE : N < (((wr.setCell ⟨N, 1, none⟩ (.int .i64 (1 + (r : Int) + 1))).alloc (.cells #[.int .i64 x.kind, .string tb, .slice uo x.fields.length uc, .int .i64 (1 + (r : Int))] 117)).alloc (.cells #[.int .i64 x.kind, .string tb, .slice uo x.fields.length uc, .int .i64 (1 + (r : Int))] 117)).heap.size := by have := HWSZ.out; simp; omega
        have hNsz : N < (wr.setCell ⟨N, 1, none⟩ (.int .i64 (1 + (r : Int) + 1))).heap.size := (Array.getElem?_eq_some_iff.1 HSN.out).1
        have q0 : w8.cell? ⟨N, 0, none⟩ = some (.slice lo k lc) := (hgrow.cell_far ⟨N, 0, none⟩ hNE (fun e => by have h : N + 1 ≤ N := HOB.out N e.symm; omega)).trans ((HBE.out.cell (p := ⟨N, 0, none⟩) hNsz).trans (cell_of_row _ N 0 _ _ HSN.out))
        have z0 : w8.frozen? ⟨N, 0, none⟩ = false := (hgrow.frozen_far ⟨N, 0, none⟩ hNE (fun e => by have h : N + 1 ≤ N := HOB.out N e.symm; omega)).trans ((HBE.out.frozen (p := ⟨N, 0, none⟩) hNsz).trans (frozen_of_row _ N 0 _ _ HSN.out))
        have HEND := Lib.hid (rmaking_end (x := x) (id := 1 + r) (u := .slice uo x.fields.length uc) HBE.out HSN.out HOW.out (by rw [← HTB.out] at hown8; exact hown8) hgrow hlk' (by rw [hnum.out]; simp [hkd.out]) HU.out (r2 := r + 1) (by rw [List.take_add_one, HX.out]; show recsOf (xs.take k ++ [x]) = _; rw [recs_snoc, hr.out]; simp [hkd.out]) (by simp; omega))
        have HB8 : Hid (Below N w1 (w8.setCell ⟨N, 0, none⟩ (.slice (some ⟨gg, 0, none⟩) (k + 1) cap))) := Lib.hid ((((hW.out.trans HBS.out).trans (HBE.out.mono (by omega))).grown hgrow (by omega) (fun q hq => by have := HOB.out q hq; omega)).setCell (p := ⟨N, 0, none⟩) (Nat.le_refl _) _)
        have hz8 : N < w8.heap.size := Nat.lt_of_lt_of_le hNE hgrow.size
        clear hown8 hgrow hat
        go_wp2
        refine ⟨⟨k + 1, _, by go_num, by omega, HEND, HB8, by simp [World.setCell]; omega⟩, by simp [intOf]; omega⟩
      · have hkb : ((x.kind : Int) == 3) = false := by simp; omega
        have hkd := Lib.hid hkd0
        clear hkd0
        have hoth : ∀ j, j ≠ N → wr.heap[j]? = wr.heap[j]? := fun j _ => rfl
        have hwsz : wr.heap.size = wr.heap.size := rfl
        have hsN : wr.heap[N]? = some (.cells #[.slice lo k lc, .int .i64 (1 + r : Nat)] 26 (0, 0)) := by
          have := hM.out.blk
          rwa [hr.out] at this
        have hbs : Below N wr wr := Below.refl _ _
        have hown0 : (((wr).alloc (.cells #[.int .i64 x.kind, .string tb, .slice uo x.fields.length uc, .int .i64 0] 117)).alloc (.cells #[.int .i64 x.kind, .string tb, .slice uo x.fields.length uc, .int .i64 0] 117)).ownsRow (N + 1) 117 4 (.slice lo k lc) k (entCells ((numberFrom 1 xs).take k) (vs.take k)) := World.ownsRow.alloc (World.ownsRow.alloc (rown_same hM.out.row hoth) _) _
        have hbE : Below (wr).heap.size (wr) (((wr).alloc (.cells #[.int .i64 x.kind, .string tb, .slice uo x.fields.length uc, .int .i64 0] 117)).alloc (.cells #[.int .i64 x.kind, .string tb, .slice uo x.fields.length uc, .int .i64 0] 117)) := (below_grow1 _ _).alloc (by simp) _
        have HNE : Hid (∀ j x', (#[.int .i64 x.kind, .string tb, .slice uo x.fields.length uc, .int .i64 0] : Array Value).toList[j]? = some x' → (((wr).alloc (.cells #[.int .i64 x.kind, .string tb, .slice uo x.fields.length uc, .int .i64 0] 117)).alloc (.cells #[.int .i64 x.kind, .string tb, .slice uo x.fields.length uc, .int .i64 0] 117)).cell? ((⟨wr.heap.size + 1, 0, none⟩ : Addr).add j) = some x') := Lib.hid (by
          have h := World.news_of_block (w := ((wr).alloc (.cells #[.int .i64 x.kind, .string tb, .slice uo x.fields.length uc, .int .i64 0] 117)).alloc (.cells #[.int .i64 x.kind, .string tb, .slice uo x.fields.length uc, .int .i64 0] 117)) (cs := #[.int .i64 x.kind, .string tb, .slice uo x.fields.length uc, .int .i64 0]) (heap_alloc_new ((wr).alloc (.cells #[.int .i64 x.kind, .string tb, .slice uo x.fields.length uc, .int .i64 0] 117)) _)
          rwa [show ((wr).alloc (.cells #[.int .i64 x.kind, .string tb, .slice uo x.fields.length uc, .int .i64 0] 117)).heap.size = wr.heap.size + 1 from by simp] at h)
        have HOW := Lib.hid hown0
        have HBE := Lib.hid hbE
        have HOTH := Lib.hid hoth
        have HSN := Lib.hid hsN
        have hobw : ∀ q, (Value.slice lo k lc).ownBlock = some q → N + 1 ≤ q := fun q hq => (World.ownsRow.lt hM.out.row q hq).1
        have HOB := Lib.hid hobw
        have HWSZ := Lib.hid hwsz
        have HBS := Lib.hid hbs
        clear hown0 hbE hoth hsN hobw hwsz hbs
        go_wp2_with (at_builtin; refine wpList_append_lies _ rfl _ _ _ rfl (N + 1) 117 i0 _ 4 56 Tryz.underlying24 hi0 hz0 hz1 hz2 rfl (by omega) (.slice lo k lc) k (entCells ((numberFrom 1 xs).take k) (vs.take k)) rfl HOW.out ⟨wr.heap.size + 1, 0, none⟩ 1 1 [.int .i64 x.kind, .string tb, .slice uo x.fields.length uc, .int .i64 0] rfl rfl HNE.out (by simp [Value.oneCell']) (by omega) (by unfold maxLen; omega) (by omega) (by simp; omega) _ rfl ?_; refine Hid.out ?_)
        refine Lib.hid ?_
        intro gg cap w8 hown8 hgrow hat hlt8
        have hNE : N < (((wr).alloc (.cells #[.int .i64 x.kind, .string tb, .slice uo x.fields.length uc, .int .i64 0] 117)).alloc (.cells #[.int .i64 x.kind, .string tb, .slice uo x.fields.length uc, .int .i64 0] 117)).heap.size := by have := HWSZ.out; simp; omega
        have hNsz : N < (wr).heap.size := (Array.getElem?_eq_some_iff.1 HSN.out).1
        have q0 : w8.cell? ⟨N, 0, none⟩ = some (.slice lo k lc) := (hgrow.cell_far ⟨N, 0, none⟩ hNE (fun e => by have h : N + 1 ≤ N := HOB.out N e.symm; omega)).trans ((HBE.out.cell (p := ⟨N, 0, none⟩) hNsz).trans (cell_of_row _ N 0 _ _ HSN.out))
        have z0 : w8.frozen? ⟨N, 0, none⟩ = false := (hgrow.frozen_far ⟨N, 0, none⟩ hNE (fun e => by have h : N + 1 ≤ N := HOB.out N e.symm; omega)).trans ((HBE.out.frozen (p := ⟨N, 0, none⟩) hNsz).trans (frozen_of_row _ N 0 _ _ HSN.out))
        have HEND := Lib.hid (rmaking_end (x := x) (id := 0) (u := .slice uo x.fields.length uc) HBE.out HSN.out HOW.out (by rw [← HTB.out] at hown8; exact hown8) hgrow hlk' (by rw [hnum.out]; simp [hkd.out]) HU.out (r2 := r) (by rw [List.take_add_one, HX.out]; show recsOf (xs.take k ++ [x]) = _; rw [recs_snoc, hr.out]; simp [hkd.out]) (by rfl))
        have HB8 : Hid (Below N w1 (w8.setCell ⟨N, 0, none⟩ (.slice (some ⟨gg, 0, none⟩) (k + 1) cap))) := Lib.hid ((((hW.out.trans HBS.out).trans (HBE.out.mono (by omega))).grown hgrow (by omega) (fun q hq => by have := HOB.out q hq; omega)).setCell (p := ⟨N, 0, none⟩) (Nat.le_refl _) _)
        have hz8 : N < w8.heap.size := Nat.lt_of_lt_of_le hNE hgrow.size
        clear hown8 hgrow hat
        go_wp2
        refine ⟨⟨k + 1, _, by go_num, by omega, HEND, HB8, by simp [World.setCell]; omega⟩, by simp [intOf]; omega⟩
    · have hke : k = xs.length := by omega
      subst hke
      obtain ⟨lo, lc, hve⟩ := own_shape hM.out.row
      subst hve
      have hwN : w.heap.size < N := by have := HNN.out; omega
      have hrs : wr.heap[w.heap.size]? = some (.cells #[.slice none 0 0, .int .i64 0] 26 (0, 0)) := (hW.out.block _ hwN).trans HRES.out
      have hrow := hM.out.row
      rw [List.take_of_length_le (by rw [number_len]; omega), List.take_of_length_le (by omega)] at hrow
      have hblk := hM.out.blk
      rw [List.take_of_length_le (Nat.le_refl _)] at hblk
      have c0 : wr.cell? ⟨N, 0, none⟩ = some (.slice lo xs.length lc) := cell_of_row _ N 0 _ _ hblk
      have c1 : wr.cell? ⟨N, 1, none⟩ = some (.int .i64 (1 + recsOf xs : Nat)) := cell_of_row _ N 1 _ _ hblk
      have r0 : wr.cell? ⟨w.heap.size, 0, none⟩ = some (.slice none 0 0) := cell_of_row _ _ 0 _ _ hrs
      have r1 : wr.cell? ⟨w.heap.size, 1, none⟩ = some (.int .i64 0) := cell_of_row _ _ 1 _ _ hrs
      have s0 : wr.frozen? ⟨w.heap.size, 0, none⟩ = false := frozen_of_row _ _ 0 _ _ hrs
      have s1 : wr.frozen? ⟨w.heap.size, 1, none⟩ = false := frozen_of_row _ _ 1 _ _ hrs
      have HR2 := Lib.hid hrow
      have HRS := Lib.hid hrs
      clear hM hrow hblk hrs
      have hblk : ((wr.setCell ⟨w.heap.size, 0, none⟩ (.slice lo xs.length lc)).setCell ⟨w.heap.size, 1, none⟩ (.int .i64 (1 + (recsOf xs : Int)))).heap[w.heap.size]? = some (.cells #[.slice lo xs.length lc, .int .i64 (1 + (recsOf xs : Int))] 26 (0, 0)) := by
        have h0 := HRS.out
        simp [World.setCell, Array.getElem?_modify, h0]
      have q0 := cell_of_row _ _ 0 _ _ hblk
      have q1 := cell_of_row _ _ 1 _ _ hblk
      have hoth : ∀ j, j ≠ w.heap.size → ((wr.setCell ⟨w.heap.size, 0, none⟩ (.slice lo xs.length lc)).setCell ⟨w.heap.size, 1, none⟩ (.int .i64 (1 + (recsOf xs : Int)))).heap[j]? = wr.heap[j]? := fun j hj => (Below.heap_setCell _ _ _ _ hj).trans (Below.heap_setCell _ _ _ _ hj)
      have HOTH := Lib.hid hoth
      clear hblk hoth
      go_wp2
      refine bodyPost_ret (v := .tuple #[.agg #[.slice lo xs.length lc, .int .i64 (1 + (recsOf xs : Int))], .int .i64 (-9), .int .i64 0]) (by simp [results, Tryz.results24, go_sem, q0, q1]) rfl ?_
      refine ⟨_, rfl, ⟨.slice lo xs.length lc, vs, by simp, ?_, by rw [hlv, number_len], ?_⟩, ?_⟩
      · rw [number_len]
        refine own_base (ownsRow_of_block HR2.out fun g hg => HOTH.out g ?_) (by omega)
        have := (World.ownsRow.lt HR2.out g hg).1
        omega
      · intro i u e hu he
        have hil := (List.getElem?_eq_some_iff.1 hu).1
        obtain ⟨x, hx⟩ : ∃ x, xs[i]? = some x := ⟨_, List.getElem?_eq_getElem (by omega)⟩
        rw [number_get 1 i xs x hx] at he
        injection he with he
        rw [← he]
        have hf := HITS.out i u x hu hx
        refine own_base (ownsRow_of_block hf fun g hg => ?_) (by simp)
        have h2 := World.ownsRow.lt hf g hg
        have h3 : (w.alloc (.cells #[.slice none 0 0, .int .i64 0] 26)).heap.size = w.heap.size + 1 := by simp
        have h4 := HNN.out
        exact (HOTH.out g (by omega)).trans (hW.out.block g (by omega))
      · exact ((HBW.out.trans (hW.out.mono (by omega))).setCell (p := ⟨w.heap.size, 0, none⟩) (Nat.le_refl _) _).setCell (p := ⟨w.heap.size, 1, none⟩) (Nat.le_refl _) _
theorem refOf_no (s : ByteArray) (hs : s.size ≤ 60000) (w : World) (he : (parse s.data.toList).err ≠ 0) :
    Calls Tryz.prog 24 #[.string s] w fun e w' => ∃ (i : Int) (n : Nat), e = .returned (.tuple #[.agg #[.slice none 0 0, .int .i64 0], .int .i64 i, .int .i64 n]) ∧ n ≠ 0 ∧ n ≤ 100 ∧ Below w.heap.size w w' := by
  have P1 : Hid (∀ w0, Calls Tryz.prog 61 #[.string s] w0 fun e w' => ∃ (i : Int) (n : Nat), e = .returned (.tuple #[.slice none 0 0, .int .i64 i, .int .i64 n]) ∧ n ≠ 0 ∧ n ≤ 100 ∧ Below w0.heap.size w0 w') := Lib.hid fun w0 => (refParse_any s hs w0).mono fun e w' h => by
    unfold RefPost at h
    rwa [if_neg he] at h
  clear he
  go_enter Tryz.func24, Tryz.ntmps24
  go_wp2_with fail
  refine (P1.out _).mono ?_
  rintro e w1 ⟨i, n, rfl, hn, hn2, b1⟩
  have hne : ((n : Int) != 0) = true := by rw [bne_iff_ne]; omega
  have hres : w1.heap[w.heap.size]? = some (.cells #[.slice none 0 0, .int .i64 0] 26 (0, 0)) := (b1.block _ (by simp)).trans (heap_alloc_new w _)
  have HB := Lib.hid (((below_grow1 w (.cells #[.slice none 0 0, .int .i64 0] 26)).trans (b1.mono (by simp))))
  have HRES := Lib.hid hres
  have r0 : w1.cell? ⟨w.heap.size, 0, none⟩ = some (.slice none 0 0) := cell_of_row _ _ 0 _ _ hres
  have r1 : w1.cell? ⟨w.heap.size, 1, none⟩ = some (.int .i64 0) := cell_of_row _ _ 1 _ _ hres
  have s0 : w1.frozen? ⟨w.heap.size, 0, none⟩ = false := frozen_of_row _ _ 0 _ _ hres
  have s1 : w1.frozen? ⟨w.heap.size, 1, none⟩ = false := frozen_of_row _ _ 1 _ _ hres
  have hblk : ((w1.setCell ⟨w.heap.size, 0, none⟩ (.slice none 0 0)).setCell ⟨w.heap.size, 1, none⟩ (.int .i64 0)).heap[w.heap.size]? = some (.cells #[.slice none 0 0, .int .i64 0] 26 (0, 0)) := by
    simp [World.setCell, Array.getElem?_modify, hres]
  have q0 := cell_of_row _ _ 0 _ _ hblk
  have q1 := cell_of_row _ _ 1 _ _ hblk
  clear hres b1 hblk
  go_wp2
  refine bodyPost_ret (v := .tuple #[.agg #[.slice none 0 0, .int .i64 0], .int .i64 i, .int .i64 n]) (by simp [results, Tryz.results24, go_sem, q0, q1]) rfl ?_
  exact ⟨i, n, rfl, hn, hn2, (HB.out.setCell (p := ⟨w.heap.size, 0, none⟩) (Nat.le_refl _) _).setCell (p := ⟨w.heap.size, 1, none⟩) (Nat.le_refl _) _⟩
end Go.Proofs.YtjbnjlkoipkpoaaGreatDoor.B

namespace Go.Proofs.YtjbnjlkoipkpoaaGreatDoor.B
open Go.RowKit Go.Shelf
open Go.Proofs.YtjbnjlkoipkpoaaGreatDoor.T

/-- Entries that are read only, below B. -/
def EntsAt (B : Nat) (w : World) (v : Value) (es : List (It × Nat)) : Prop :=
  ∃ (ao : Option Addr) (cp : Nat), v = .slice ao es.length cp ∧ ∀ (k : Nat) (e : It × Nat), es[k]? = some e → ∃ g u, ao = some ⟨g, 0, none⟩ ∧ g < B ∧ w.cell? ⟨g, k * 4 + 2, none⟩ = some u ∧ w.cell? ⟨g, k * 4 + 3, none⟩ = some (.int .i64 e.2) ∧ FieldsAt B w u e.1.fields
theorem EntsAt.below {B C : Nat} {w w' : World} {v : Value} {es : List (It × Nat)} (h : EntsAt B w v es) (hb : Below C w w') (hB : B ≤ C) : EntsAt B w' v es :=
  let ⟨ao, cp, h1, h2⟩ := h
  ⟨ao, cp, h1, fun k e hk => let ⟨g, u, h3, h4, h5, h6, h7⟩ := h2 k e hk; ⟨g, u, h3, h4, (hb.cell (p := ⟨g, _, none⟩) (by show g < C; omega)).trans h5, (hb.cell (p := ⟨g, _, none⟩) (by show g < C; omega)).trans h6, h7.below hb hB⟩⟩
theorem EntsAt.up {B C : Nat} {w : World} {v : Value} {es : List (It × Nat)} (h : EntsAt B w v es) (hB : B ≤ C) : EntsAt C w v es :=
  let ⟨ao, cp, h1, h2⟩ := h
  ⟨ao, cp, h1, fun k e hk => let ⟨g, u, h3, h4, h5, h6, h7⟩ := h2 k e hk; ⟨g, u, h3, by omega, h5, h6, h7.up hB⟩⟩
/-- Stanzas that are read only, below B. -/
def StsAt (B : Nat) (w : World) (v : Value) (ss : List St) : Prop :=
  ∃ (ao : Option Addr) (cp : Nat), v = .slice ao ss.length cp ∧ ∀ (k : Nat) (x : St), ss[k]? = some x → ∃ g u, ao = some ⟨g, 0, none⟩ ∧ g < B ∧ w.cell? ⟨g, k * 2, none⟩ = some (.int .i64 x.1) ∧ w.cell? ⟨g, k * 2 + 1, none⟩ = some u ∧ FieldsAt B w u x.2
theorem StsAt.below {B C : Nat} {w w' : World} {v : Value} {ss : List St} (h : StsAt B w v ss) (hb : Below C w w') (hB : B ≤ C) : StsAt B w' v ss :=
  let ⟨ao, cp, h1, h2⟩ := h
  ⟨ao, cp, h1, fun k e hk => let ⟨g, u, h3, h4, h5, h6, h7⟩ := h2 k e hk; ⟨g, u, h3, h4, (hb.cell (p := ⟨g, _, none⟩) (by show g < C; omega)).trans h5, (hb.cell (p := ⟨g, _, none⟩) (by show g < C; omega)).trans h6, h7.below hb hB⟩⟩
theorem StsAt.up {B C : Nat} {w : World} {v : Value} {ss : List St} (h : StsAt B w v ss) (hB : B ≤ C) : StsAt C w v ss :=
  let ⟨ao, cp, h1, h2⟩ := h
  ⟨ao, cp, h1, fun k e hk => let ⟨g, u, h3, h4, h5, h6, h7⟩ := h2 k e hk; ⟨g, u, h3, by omega, h5, h6, h7.up hB⟩⟩
def stsOf (es : List (It × Nat)) : List St := (es.filter fun e => decide (0 < e.2)).map fun e => (e.2, e.1.fields)
theorem stsOf_yes {es : List (It × Nat)} {e : It × Nat} (h : 0 < e.2) : stsOf (es ++ [e]) = stsOf es ++ [(e.2, e.1.fields)] := by unfold stsOf; simp [h]
theorem stsOf_no {es : List (It × Nat)} {e : It × Nat} (h : ¬ 0 < e.2) : stsOf (es ++ [e]) = stsOf es := by unfold stsOf; simp [h]
theorem stsOf_len (es : List (It × Nat)) : (stsOf es).length ≤ es.length := by unfold stsOf; rw [List.length_map]; exact List.length_filter_le _ _
structure StsOwn (B C : Nat) (w : World) (v : Value) (ss : List St) (us : List Value) : Prop where
  row : w.ownsRow B 61 2 v ss.length (stCells ss us)
  len : us.length = ss.length
  its : ∀ (i : Nat) (u : Value) (x : St), us[i]? = some u → ss[i]? = some x → FieldsAt C w u x.2
theorem StsOwn.at_ {B C : Nat} {w : World} {v : Value} {ss : List St} {us : List Value} (h : StsOwn B C w v ss us) (hC : C ≤ w.heap.size) : StsAt w.heap.size w v ss := by
  obtain ⟨ao, cp, hv⟩ := own_shape h.row
  refine ⟨ao, cp, hv, fun k x hk => ?_⟩
  have hkl := (List.getElem?_eq_some_iff.1 hk).1
  obtain ⟨u, hu⟩ : ∃ u, us[k]? = some u := ⟨_, List.getElem?_eq_getElem (by rw [h.len]; exact hkl)⟩
  obtain ⟨g1, g2⟩ := stCells_get ss us k x u hk hu
  obtain ⟨g, cap, hv2, hB, hg⟩ := World.ownsRow.form h.row (by omega)
  have hob : v.ownBlock = some g := by rw [hv2]; rfl
  have e1 := World.ownsRow.cells h.row hob _ _ g1
  have e2 := World.ownsRow.cells h.row hob _ _ g2
  rw [addrO] at e1 e2
  rw [hv2] at hv
  injection hv with h1 _ _
  exact ⟨g, u, h1.symm, hg, e1, e2, (h.its k u x hu hk).up hC⟩
theorem infoSt : (Tryz.prog.info? 61).map (fun i => (i.zero, i.size, i.bytes)) = some (some (.agg #[.int .i64 0, .slice none 0 0]), 2, 32) := by kernel_rfl
theorem StsOwn.push {B C id : Nat} {w w' : World} {v v' u : Value} {ss : List St} {us : List Value} {f : List Fld} (h : StsOwn B C w v ss us) (hu : FieldsAt C w u f) (hrow : w'.ownsRow B 61 2 v' (ss.length + 1) (stCells ss us ++ [.int .i64 id, u])) (hb : Below C w w') : StsOwn B C w' v' (ss ++ [(id, f)]) (us ++ [u]) := by
  refine ⟨?_, by simp [h.len], fun i y x h1 h2 => ?_⟩
  · rw [List.length_append, stCells_snoc h.len]; exact hrow
  · have hl := h.len
    by_cases hi : i < ss.length
    · rw [List.getElem?_append_left (by omega)] at h1
      rw [List.getElem?_append_left hi] at h2
      exact (h.its i y x h1 h2).below hb (Nat.le_refl _)
    · have h3 := (List.getElem?_eq_some_iff.1 h2).1
      rw [List.length_append] at h3
      have hi2 : i = ss.length := by simp at h3; omega
      subst hi2
      rw [← hl] at h1
      simp at h1 h2
      rw [← h1, ← h2]
      exact hu.below hb (Nat.le_refl _)
def StsRel (C : Nat) (w1 : World) (es : List (It × Nat)) (v i : Value) (wr : World) : Prop :=
  ∃ (k : Nat) (us : List Value), i = .int .i64 k ∧ k ≤ es.length ∧ Hid (StsOwn w1.heap.size C wr v (stsOf (es.take k)) us) ∧ Hid (Below w1.heap.size w1 wr)
set_option maxRecDepth 100000 in
set_option maxHeartbeats 6400000 in
theorem refStanzas_any (ve : Value) (next : Int) (es : List (It × Nat)) (w : World) (C : Nat) (hC : C ≤ w.heap.size) (h : EntsAt C w ve es) (hlen : es.length ≤ 1000000) :
    Calls Tryz.prog 53 #[.agg #[ve, .int .i64 next]] w fun e w' => ∃ u us, e = .returned u ∧ StsOwn w.heap.size C w' u (stsOf es) us ∧ Below w.heap.size w w' := by
  obtain ⟨i0, hi0, hz0, hz1, hz2⟩ := info_parts infoSt
  obtain ⟨ao, cp, rfl, hc⟩ := h
  have HC := Lib.hid hc
  clear hc
  obtain ⟨w1, hw1⟩ : ∃ w1, w.alloc (.cells #[.slice ao es.length cp, .int .i64 next] 26) = w1 := ⟨_, rfl⟩
  have hb1 : Below w.heap.size w w1 := hw1 ▸ below_grow1 w _
  have hE1 : w1.heap[w.heap.size]? = some (.cells #[.slice ao es.length cp, .int .i64 next] 26 (0, 0)) := hw1 ▸ heap_alloc_new w _
  have hz1w : w1.heap.size = w.heap.size + 1 := by rw [← hw1]; simp
  have d1 : w1.cell? ⟨w.heap.size, 0, none⟩ = some (.slice ao es.length cp) := by simp [World.cell?, hE1]
  have HB1 := Lib.hid hb1
  have HW1 := Lib.hid hw1
  clear hE1 hb1 hw1
  go_enter Tryz.func53, Tryz.ntmps53
  go_upto_region 2 with fail
  rw [HW1.out]
  go_wp2
  go_loopw [3, 4] (fun v i W => StsRel C w1 es v i W) (fun _ i _ => es.length - (intOf i).toNat)
  case atStart => exact ⟨0, [], rfl, Nat.zero_le _, Lib.hid ⟨World.ownsRow_nil _ _ _ _, rfl, fun i u x h _ => by simp at h⟩, Lib.hid (Below.refl _ _)⟩
  case round =>
    obtain ⟨k, us, rfl, hk, hS, hW⟩ := hrel
    have hzr := hW.out.size
    have b0 := (hW.out.cell (p := ⟨w.heap.size, 0, none⟩) (by show w.heap.size < w1.heap.size; omega)).trans d1
    by_cases hlt : k < es.length
    · obtain ⟨e, he⟩ : ∃ e, es[k]? = some e := ⟨_, List.getElem?_eq_getElem hlt⟩
      obtain ⟨g, u, rfl, hg, h1, h2, h3⟩ := HC.out k e he
      have HF := Lib.hid h3
      obtain ⟨uo, uc, rfl, -⟩ := h3
      have hgr : g < wr.heap.size := by omega
      have hwr : Below w.heap.size w wr := HB1.out.trans (hW.out.mono (by omega))
      have s1 := (hwr.cell (p := ⟨g, _, none⟩) (by show g < w.heap.size; omega)).trans h1
      have s2 := (hwr.cell (p := ⟨g, _, none⟩) (by show g < w.heap.size; omega)).trans h2
      have HWR := Lib.hid hwr
      have et : es.take (k + 1) = es.take k ++ [e] := by rw [List.take_add_one, he]; rfl
      by_cases hp : 0 < e.2
      · have E1 := Lib.hid (show stsOf (es.take (k + 1)) = _ by rw [et, stsOf_yes hp])
        have hpi : (0 : Int) < (e.2 : Int) := by omega
        have hsl := stsOf_len (es.take k)
        rw [List.length_take] at hsl
        have hS3 := hS.out
        obtain ⟨ss, hss⟩ : ∃ ss, stsOf (es.take k) = ss := ⟨_, rfl⟩
        rw [hss] at hS3 hsl E1
        have hsl2 : ss.length ≤ k := by omega
        obtain ⟨vo, vc, hv⟩ := own_shape hS3.row
        subst hv
        have HS3 := Lib.hid hS3
        have hobw : ∀ q, (Value.slice vo ss.length vc).ownBlock = some q → w1.heap.size ≤ q := fun q hq => (World.ownsRow.lt HS3.out.row q hq).1
        have HOBW := Lib.hid hobw
        have p0 : (wr.alloc (.cells #[.int .i64 e.2, .slice uo e.1.fields.length uc] 61)).cell? ⟨w.heap.size, 0, none⟩ = some (.slice (some ⟨g, 0, none⟩) es.length cp) := ((below_grow1 wr _).cell (p := ⟨w.heap.size, 0, none⟩) (by show w.heap.size < wr.heap.size; omega)).trans b0
        have p1 : (wr.alloc (.cells #[.int .i64 e.2, .slice uo e.1.fields.length uc] 61)).cell? ⟨g, k * 4 + 2, none⟩ = some (.slice uo e.1.fields.length uc) := ((below_grow1 wr _).cell (p := ⟨g, k * 4 + 2, none⟩) hgr).trans s1
        have p2 : (wr.alloc (.cells #[.int .i64 e.2, .slice uo e.1.fields.length uc] 61)).cell? ⟨g, k * 4 + 3, none⟩ = some (.int .i64 e.2) := ((below_grow1 wr _).cell (p := ⟨g, k * 4 + 3, none⟩) hgr).trans s2
        have HOA : Hid ((wr.alloc (.cells #[.int .i64 e.2, .slice uo e.1.fields.length uc] 61)).ownsRow w1.heap.size 61 2 (.slice vo ss.length vc) ss.length (stCells ss us)) := Lib.hid (World.ownsRow.alloc HS3.out.row _)
        have HNA : Hid (∀ j x, [Value.int .i64 e.2, .slice uo e.1.fields.length uc][j]? = some x → (wr.alloc (.cells #[.int .i64 e.2, .slice uo e.1.fields.length uc] 61)).cell? ((⟨wr.heap.size, 0, none⟩ : Addr).add j) = some x) := Lib.hid (World.news_of_block (cs := #[.int .i64 e.2, .slice uo e.1.fields.length uc]) (heap_alloc_new wr _))
        have HBA : Hid (Below wr.heap.size wr (wr.alloc (.cells #[.int .i64 e.2, .slice uo e.1.fields.length uc] 61))) := Lib.hid (below_grow1 wr _)
        have hza : wr.heap.size + 1 = (wr.alloc (.cells #[.int .i64 e.2, .slice uo e.1.fields.length uc] 61)).heap.size := by simp
        have HFR := Lib.hid (HF.out.below HWR.out hC)
        have hul := HS3.out.len
        clear hS hS3 hss et he h1 h2 hwr hobw
        go_wp2
        go_region_held3 (fun W' => W'.cell? ⟨w.heap.size, 0, none⟩ = some (.slice (some ⟨g, 0, none⟩) es.length cp) ∧ W'.cell? ⟨g, k * 4 + 2, none⟩ = some (.slice uo e.1.fields.length uc) ∧ W'.cell? ⟨g, k * 4 + 3, none⟩ = some (.int .i64 e.2)) (first | exact ⟨b0, s1, s2⟩ | exact ⟨p0, p1, p2⟩ | exact ⟨q0, q1, q2⟩)
          (first | (refine step_append_lies _ ?_ (.tmp 19) (.tmp 34) _ ?_ w1.heap.size 61 i0 _ 2 32 Tryz.underlying57 hi0 hz0 hz1 hz2 ?_ ?_ (.slice vo ss.length vc) ss.length (stCells ss us) ?_ ?_ ⟨wr.heap.size, 0, none⟩ 1 1 [.int .i64 e.2, .slice uo e.1.fields.length uc] ?_ ?_ ?_ ?_ ?_ ?_ ?_ ?_ _ rfl ?_; (any_goals (first | exact HOA.out | exact HNA.out | rfl | (simp [Value.oneCell']; done) | (unfold maxLen; omega) | (simp; omega) | omega | skip)); intro gg cap w8 hown8 hgrow hat hlt8; have q0 := (hgrow.cell_far ⟨w.heap.size, 0, none⟩ (by show w.heap.size < (wr.alloc (.cells #[.int .i64 e.2, .slice uo e.1.fields.length uc] 61)).heap.size; omega) (fun e => by have h : w1.heap.size ≤ w.heap.size := HOBW.out _ e.symm; omega)).trans p0; have q1 := (hgrow.cell_far ⟨g, k * 4 + 2, none⟩ (by show g < (wr.alloc (.cells #[.int .i64 e.2, .slice uo e.1.fields.length uc] 61)).heap.size; omega) (fun e => by have h : w1.heap.size ≤ g := HOBW.out _ e.symm; omega)).trans p1; have q2 := (hgrow.cell_far ⟨g, k * 4 + 3, none⟩ (by show g < (wr.alloc (.cells #[.int .i64 e.2, .slice uo e.1.fields.length uc] 61)).heap.size; omega) (fun e => by have h : w1.heap.size ≤ g := HOBW.out _ e.symm; omega)).trans p2; have HB8 : Hid (Below w1.heap.size wr w8) := Lib.hid (by first | exact below_grown_dw (X := wr.alloc (.cells #[.int .i64 e.2, .slice uo e.1.fields.length uc] 61)) hgrow (HBA.out.mono hzr) (by omega) HOBW.out | exact below_grown_w (X := wr.alloc (.cells #[.int .i64 e.2, .slice uo e.1.fields.length uc] 61)) hgrow (HBA.out.mono hzr) (by omega) HOBW.out); have HO8 := Lib.hid hown8; clear hown8 hgrow hat))
        all_goals
          have HS8 := Lib.hid (StsOwn.push HS3.out HFR.out HO8.out (HB8.out.mono (by omega)))
          have HW8 := Lib.hid (hW.out.trans HB8.out)
          go_wp2
          refine ⟨⟨k + 1, us ++ [.slice uo e.1.fields.length uc], by go_num, by omega, ?_, HW8⟩, by simp [intOf]; omega⟩
          rw [E1.out]
          exact HS8
      · have E1 := Lib.hid (show stsOf (es.take (k + 1)) = _ by rw [et, stsOf_no hp])
        have hpi : e.2 = 0 := by omega
        obtain ⟨n, hn⟩ : ∃ n, e.2 = n := ⟨_, rfl⟩
        rw [hn] at s2 hpi
        subst hpi
        clear et he h1 h2 hwr
        go_wp2
        refine ⟨⟨k + 1, us, by go_num, by omega, ?_, hW⟩, by simp [intOf]; omega⟩
        rw [E1.out]
        exact hS
    · have hke : es.take k = es := List.take_of_length_le (by omega)
      rw [hke] at hS
      clear hke
      go_wp2
      go_ret
      exact ⟨_, us, rfl, ⟨own_base hS.out.row (by omega), hS.out.len, hS.out.its⟩, HB1.out.trans (hW.out.mono (by omega))⟩
end Go.Proofs.YtjbnjlkoipkpoaaGreatDoor.B

namespace Go.Proofs.YtjbnjlkoipkpoaaGreatDoor.T
open Go.RowKit Go.Shelf
open Go.Proofs.YtjbnjlkoipkpoaaGreatDoor.B

/-- A reference's list is entries that can be read. -/
theorem ents_of {C : Nat} {w : World} {v : Value} {es : List (It × Nat)} {next : Nat} (h : RList C w v es next) : ∃ ve, v = .agg #[ve, .int .i64 next] ∧ EntsAt w.heap.size w ve es := by
  obtain ⟨ve, vs, rfl, hrow, hl, hits⟩ := h
  refine ⟨ve, rfl, ?_⟩
  obtain ⟨ao, cp, hv⟩ := own_shape hrow
  refine ⟨ao, cp, hv, fun k e he => ?_⟩
  have hkl := (List.getElem?_eq_some_iff.1 he).1
  obtain ⟨u, hu⟩ : ∃ u, vs[k]? = some u := ⟨_, List.getElem?_eq_getElem (by rw [hl]; exact hkl)⟩
  obtain ⟨-, -, g3, g4⟩ := entCells_get es vs k e u he hu
  obtain ⟨g, cap, hv2, hB, hg⟩ := World.ownsRow.form hrow (by omega)
  have hob : ve.ownBlock = some g := by rw [hv2]; rfl
  have e1 := World.ownsRow.cells hrow hob _ _ g3
  have e2 := World.ownsRow.cells hrow hob _ _ g4
  rw [addrO] at e1 e2
  rw [hv2] at hv
  injection hv with h1 _ _
  exact ⟨g, u, h1.symm, hg, e1, e2, FieldsAt.row (hits k u e hu he)⟩
def RowOr (B : Nat) (w : World) (u : Value) (r : List ByteArray) : Prop := StrRow B w u r ∨ StrsAt B w u r
theorem RowOr.below {B : Nat} {w w' : World} {u : Value} {r : List ByteArray} (h : RowOr B w u r) (hb : Below w.heap.size w w') (hB : B ≤ w.heap.size) : RowOr B w' u r :=
  h.elim (fun h => .inl (h.below hb (Nat.le_refl _))) (fun h => .inr (h.below hb hB))
theorem RowOr.at_ {B : Nat} {w : World} {u : Value} {r : List ByteArray} (h : RowOr B w u r) (hB : B ≤ w.heap.size) : StrsAt w.heap.size w u r :=
  h.elim (fun h => h.at_) (fun h => h.up hB)
theorem RowOr.grown {B n : Nat} {w w' : World} {u v : Value} {r : List ByteArray} {us : List Value} (h : RowOr B w u r) (hv : w.ownsRow B 39 1 v n us) (hg : w.grownBy w' v.ownBlock) (hB : B ≤ w.heap.size) : RowOr B w' u r :=
  h.elim (fun h => .inl (strRow_grown h hv hg)) (fun h => .inr (h.below ((Below.refl B w).grown hg hB (fun q hq => (World.ownsRow.lt hv q hq).1)) (Nat.le_refl _)))
/-- Rows of texts in a row of their own, at B or beyond; each of the rows there too, or read only below B. -/
structure RowsMix (B : Nat) (w : World) (v : Value) (rs : List (List ByteArray)) (us : List Value) : Prop where
  row : w.ownsRow B 39 1 v rs.length us
  its : ∀ (k : Nat) (u : Value) (r : List ByteArray), us[k]? = some u → rs[k]? = some r → RowOr B w u r
theorem RowsMix.len {B : Nat} {w : World} {v : Value} {rs : List (List ByteArray)} {us : List Value} (h : RowsMix B w v rs us) : us.length = rs.length := by have := h.row.1; omega
theorem RowsMix.shape {B : Nat} {w : World} {v : Value} {rs : List (List ByteArray)} {us : List Value} (h : RowsMix B w v rs us) : ∃ vo vc, v = .slice vo rs.length vc := own_shape h.row
theorem RowsMix.at_ {B : Nat} {w : World} {v : Value} {rs : List (List ByteArray)} {us : List Value} (h : RowsMix B w v rs us) (hB : B ≤ w.heap.size) : RowsAt w.heap.size w v rs := by
  rcases h.row.2 with ⟨h0, h1⟩ | ⟨g, cap, cur, hv, hb, hg, -⟩
  · refine ⟨none, 0, ?_, fun k f hk => ?_⟩
    · rw [h1, h0]
    · have := (List.getElem?_eq_some_iff.1 hk).1; omega
  · refine ⟨_, cap, hv, fun k r hk => ?_⟩
    obtain ⟨u, hu⟩ : ∃ u, us[k]? = some u := ⟨_, List.getElem?_eq_getElem (by rw [h.len]; exact (List.getElem?_eq_some_iff.1 hk).1)⟩
    exact ⟨_, u, rfl, (Array.getElem?_eq_some_iff.1 hg).1, World.ownsRow.cells h.row (g := g) (by rw [hv]; rfl) k u hu, (h.its k u r hu hk).at_ hB⟩
theorem RowsMix.below {B : Nat} {w w' : World} {v : Value} {rs : List (List ByteArray)} {us : List Value} (h : RowsMix B w v rs us) (hb : Below w.heap.size w w') (hB : B ≤ w.heap.size) : RowsMix B w' v rs us :=
  ⟨ownsRow_of_block h.row fun g hg => hb.block g (World.ownsRow.lt h.row g hg).2, fun k u r h1 h2 => (h.its k u r h1 h2).below hb hB⟩
theorem RowsMix.one {B N : Nat} {w : World} {u : Value} {r : List ByteArray} (h : StrsAt B w u r) (hg : w.heap[N]? = some (.cells #[u] 39 (0, 0))) (hB : B ≤ N) : RowsMix B w (.slice (some ⟨N, 0, none⟩) 1 1) [r] [u] := by
  refine ⟨⟨rfl, .inr ⟨N, 1, #[u], rfl, hB, hg, Nat.le_refl _, by unfold maxLen; omega, rfl, rfl⟩⟩, fun k x y h1 h2 => ?_⟩
  cases k with
  | zero => simp at h1 h2; rw [← h1, ← h2]; exact .inr h
  | succ k => simp at h1
theorem RowsMix.snoc {B gg cap : Nat} {w w8 : World} {v u : Value} {rs : List (List ByteArray)} {us : List Value} {r : List ByteArray} (h : RowsMix B w v rs us) (hu : StrRow B w u r) (hB : B ≤ w.heap.size)
    (hown : w8.ownsRow B 39 1 (.slice (some ⟨gg, 0, none⟩) (rs.length + 1) cap) (rs.length + 1) (us ++ [u])) (hg : w.grownBy w8 v.ownBlock) :
    RowsMix B w8 (.slice (some ⟨gg, 0, none⟩) (rs.length + 1) cap) (rs ++ [r]) (us ++ [u]) := by
  refine ⟨by rw [List.length_append]; exact hown, fun k x y h1 h2 => ?_⟩
  have hl := h.len
  by_cases hk : k < rs.length
  · rw [List.getElem?_append_left (by omega)] at h1
    rw [List.getElem?_append_left hk] at h2
    exact (h.its k x y h1 h2).grown h.row hg hB
  · have h3 := (List.getElem?_eq_some_iff.1 h2).1
    rw [List.length_append] at h3
    have hk2 : k = rs.length := by simp at h3; omega
    subst hk2
    rw [← hl] at h1
    simp at h1 h2
    rw [← h1, ← h2]
    exact .inl (strRow_grown hu h.row hg)
def RRRel (B : Nat) (w w2 : World) (ks : List ByteArray) (ss : List St) (v i : Value) (wr : World) : Prop :=
  ∃ (k : Nat) (us : List Value), i = .int .i64 k ∧ k ≤ ss.length ∧ Hid (RowsMix B wr v (rowsOf ks (ss.take k)) us) ∧ Hid (Below B w wr) ∧ Hid (Below B w2 wr) ∧ Hid (Lib.OthersKept 39 none w2 wr) ∧ w2.heap.size ≤ wr.heap.size
set_option maxRecDepth 100000 in
set_option maxHeartbeats 6400000 in
theorem refRows_any (ve : Value) (next : Int) (es : List (It × Nat)) (vk : Value) (ks : List ByteArray) (w : World) (h : EntsAt w.heap.size w ve es) (hlen : es.length ≤ 1000000) (hk : StrsAt w.heap.size w vk ks) (hn : ks.length ≤ 1000) (hfine : ∀ x ∈ stsOf es, FsFine x.2) :
    Calls Tryz.prog 25 #[.agg #[ve, .int .i64 next], vk] w fun e w' => ∃ u us, e = .returned u ∧ RowsMix w.heap.size w' u (rowsOf ks (stsOf es)) us ∧ Below w.heap.size w w' := by
  obtain ⟨i0, hi0, hz0, hz1, hz2⟩ := info_parts infoR
  obtain ⟨j0, hj0, jz0, jz1, jz2⟩ := info_parts infoS
  have HK := Lib.hid hk
  have HFI := Lib.hid hfine
  have hsl := Nat.le_trans (stsOf_len es) hlen
  have HSS : Hid (∀ w', Below w.heap.size w w' → Calls Tryz.prog 53 #[.agg #[ve, .int .i64 next]] w' fun e w2 => ∃ u us, e = .returned u ∧ StsOwn w'.heap.size w.heap.size w2 u (stsOf es) us ∧ Below w'.heap.size w' w2) := Lib.hid fun w' hb => refStanzas_any ve next es w' w.heap.size hb.size (h.below hb (Nat.le_refl _)) hlen
  obtain ⟨eo, ec, hve, -⟩ := h
  subst hve
  obtain ⟨ao, cp, hvk, -⟩ := hk
  subst hvk
  clear hfine hlen
  generalize stsOf es = ss at *
  go_enter Tryz.func25, Tryz.ntmps25
  obtain ⟨B, hBB⟩ : ∃ B, w.heap.size = B := ⟨_, rfl⟩
  rw [hBB] at HK HSS
  obtain ⟨wa, hwa⟩ : ∃ wa, (w.alloc (.cells #[.slice eo es.length ec, .int .i64 next] 26)).alloc (.cells #[.slice ao ks.length cp] 39) = wa := ⟨_, rfl⟩
  have hba : Below B w wa := by rw [← hwa, ← hBB]; exact (below_grow1 w _).alloc (by simp) _
  have hga : wa.heap[B + 1]? = some (.cells #[.slice ao ks.length cp] 39 (0, 0)) := by
    rw [← hwa, ← hBB]
    have := heap_alloc_new (w.alloc (.cells #[.slice eo es.length ec, .int .i64 next] 26)) (.cells #[.slice ao ks.length cp] 39)
    simpa using this
  have hza : wa.heap.size = B + 2 := by rw [← hwa, ← hBB]; simp
  have HBA := Lib.hid hba
  have HGA := Lib.hid hga
  have HWA := Lib.hid hwa
  have ST := Lib.hid (HSS.out wa hba)
  clear hba hga hwa HSS
  go_wp2_with fail
  rw [HWA.out]
  refine ST.out.mono ?_
  rintro e w2 ⟨u, us, rfl, hS, hb2⟩
  have hzw2 := hb2.size
  have hO2 : RowsMix B w2 (.slice (some ⟨B + 1, 0, none⟩) 1 1) [ks] [.slice ao ks.length cp] := RowsMix.one ((HK.out.below HBA.out (Nat.le_refl _)).below hb2 (by omega)) ((hb2.block _ (by omega)).trans HGA.out) (by omega)
  have hB2 := HBA.out.trans (hb2.mono (by omega))
  obtain ⟨so, sc, hsv⟩ := own_shape hS.row
  subst hsv
  have HO2 := Lib.hid hO2
  have HB2 := Lib.hid hB2
  have HSA := Lib.hid hS
  have HOK := Lib.hid (Lib.OthersKept.refl 39 none w2)
  clear hO2 hB2 hS hb2 ST HBA HGA HWA
  go_wp2
  go_loopw [5, 7] (fun v i wr => RRRel B w w2 ks ss v i wr) (fun _ i _ => ss.length - (intOf i).toNat)
  case atStart => exact ⟨0, _, rfl, Nat.zero_le _, HO2, HB2, Lib.hid (Below.refl _ _), HOK, Nat.le_refl _⟩
  case round =>
    clear HO2 HB2 HOK
    obtain ⟨k, ys, rfl, hk, hO, hW, hW2, hOK, hzw⟩ := hrel
    by_cases hlt : k < ss.length
    · obtain ⟨x, hx⟩ : ∃ x, ss[k]? = some x := ⟨_, List.getElem?_eq_getElem hlt⟩
      have hul := HSA.out.len
      obtain ⟨f, hf⟩ : ∃ f, us[k]? = some f := ⟨_, List.getElem?_eq_getElem (by omega)⟩
      obtain ⟨-, g2⟩ := stCells_get ss us k x f hx hf
      have hrow := row_others HSA.out.row hOK.out (by decide)
      have hfa : FieldsAt B wr f x.2 := (HSA.out.its k f x hf hx).below hW2.out (Nat.le_refl _)
      obtain ⟨g, hg, hao⟩ : ∃ g, (Value.slice so ss.length sc).ownBlock = some g ∧ so = some ⟨g, 0, none⟩ := by
        rcases hrow.2 with ⟨-, h0⟩ | ⟨g, cp', cur, hz, -⟩
        · omega
        · injection hz with z1 z2 z3
          exact ⟨g, by rw [z1]; rfl, z1⟩
      have e2 := hrow.cells hg _ _ g2
      have hgl := (hrow.lt g hg).2
      rw [addrO] at e2
      subst hao
      obtain ⟨fo, fc, hfv, -⟩ := id hfa
      subst hfv
      have HX : Hid (rowsOf ks (ss.take (k + 1)) = rowsOf ks (ss.take k) ++ [rowL ks x.2]) := Lib.hid (by rw [List.take_add_one, hx]; exact rowsOf_snoc ks _ x)
      have hrl : (rowsOf ks (ss.take k)).length = k + 1 := by rw [rowsOf_len, List.length_take]; omega
      have hfx := HFI.out x (List.mem_of_getElem? hx)
      have hzr : B ≤ wr.heap.size := by omega
      have hO3 : RowsMix B wr u5 (rowsOf ks (ss.take k)) ys := hO.out
      obtain ⟨rs, hrs⟩ : ∃ rs, rowsOf ks (ss.take k) = rs := ⟨_, rfl⟩
      rw [hrs] at hO3 HX hrl
      obtain ⟨vo, vc, hvs⟩ := hO3.shape
      subst hvs
      have HO4 := Lib.hid hO3
      have HFA := Lib.hid hfa
      obtain ⟨xi, xf⟩ := x
      simp only at HX HFA hfx e2
      have hrl2 : rs.length ≤ 1000001 := by omega
      have HRL := Lib.hid hrl
      have RC := Lib.hid (fun (s : ByteArray) (W' : World) (hb : Below wr.heap.size wr W') => refCell_any s _ xf W' ((HFA.out.below hb hzr).up (Nat.le_trans hzr hb.size)) hfx)
      clear hO hO3 hrow hfa g2 hx hf hg hrs hrl hfx
      go_wp2
      obtain ⟨wo, hwo⟩ : ∃ wo, wo = wr := ⟨_, rfl⟩
      subst hwo
      go_loopw [8, 9] (fun v i wr => VRel wo (fun j => rowL (ks.take j) xf) ks.length v i wr) (fun _ i _ => ks.length - (intOf i).toNat)
      case atStart => exact ⟨0, rfl, Nat.zero_le _, Lib.hid (StrRow.nil _ _), Lib.hid (Below.refl _ _)⟩
      case round =>
        obtain ⟨j, rfl, hj, hN, hQ⟩ := hrel
        have hzq := hQ.out.size
        by_cases hjl : j < ks.length
        · obtain ⟨s, hs⟩ : ∃ s, ks[j]? = some s := ⟨_, List.getElem?_eq_getElem hjl⟩
          obtain ⟨ao', cp', hv', hK'⟩ := HK.out
          injection hv' with hv1 hv2 hv3
          subst hv1
          clear hv2 hv3
          obtain ⟨a, rfl, ha, h1⟩ := hK' j s hs
          have c1 : wr.cell? (a.add j) = some (.string s) := ((hW.out.trans (hQ.out.mono hzr)).cell (p := a.add j) (by rw [add_block]; exact ha)).trans h1
          have c2 : wr.cell? ⟨g, k * 2 + 1, none⟩ = some (.slice fo xf.length fc) := (hQ.out.cell (p := ⟨g, k * 2 + 1, none⟩) hgl).trans e2
          have et : ks.take (j + 1) = ks.take j ++ [s] := by rw [List.take_add_one, hs]; rfl
          have E1 := Lib.hid (show rowL (ks.take (j + 1)) xf = _ by rw [et, rowL_snoc])
          have hN3 : StrRow wo.heap.size wr _ (rowL (ks.take j) xf) := hN.out
          have hvl := rowL_len (ks.take j) xf
          rw [List.length_take] at hvl
          obtain ⟨zs, hzs⟩ : ∃ zs, rowL (ks.take j) xf = zs := ⟨_, rfl⟩
          rw [hzs] at hN3 hvl E1
          have hvl2 : zs.length ≤ j := by omega
          have C := RC.out s
          obtain ⟨qo, qc, hqs⟩ := hN3.shape
          subst hqs
          have HN3 := Lib.hid hN3
          obtain ⟨tv, htv⟩ : ∃ tv : ByteArray, cellB xf s = tv := ⟨_, rfl⟩
          have htv2 : (⟨(cellL s.data.toList xf).toArray⟩ : ByteArray) = tv := htv
          rw [htv2] at C
          rw [htv] at E1
          have C3 := Lib.hid C
          have hobw : ∀ q, (Value.slice qo zs.length qc).ownBlock = some q → wo.heap.size ≤ q := fun q hq => (World.ownsRow.lt HN3.out q hq).1
          have HOBW := Lib.hid hobw
          have habq : a.block < wr.heap.size := by omega
          have p1 : (wr.alloc (.cells #[.string tv] 9)).cell? (a.add j) = some (.string s) := ((below_grow1 wr _).cell (p := a.add j) (by rw [add_block]; exact habq)).trans c1
          have p2 : (wr.alloc (.cells #[.string tv] 9)).cell? ⟨g, k * 2 + 1, none⟩ = some (.slice fo xf.length fc) := ((below_grow1 wr _).cell (p := ⟨g, k * 2 + 1, none⟩) (by show g < wr.heap.size; omega)).trans c2
          have HOA : Hid ((wr.alloc (.cells #[.string tv] 9)).ownsRow wo.heap.size 9 1 (.slice qo zs.length qc) zs.length (strVals zs)) := Lib.hid (World.ownsRow.alloc HN3.out _)
          have HNA : Hid (∀ j x, [Value.string tv][j]? = some x → (wr.alloc (.cells #[.string tv] 9)).cell? ((⟨wr.heap.size, 0, none⟩ : Addr).add j) = some x) := Lib.hid (World.news_of_block (cs := #[.string tv]) (heap_alloc_new wr _))
          have HBQ : Hid (Below wr.heap.size wr (wr.alloc (.cells #[.string tv] 9))) := Lib.hid (below_grow1 wr _)
          have hzqa : wr.heap.size + 1 = (wr.alloc (.cells #[.string tv] 9)).heap.size := by simp
          have HQD : Hid (Below wo.heap.size wo wr.drew) := Lib.hid hQ.out.drew
          clear h1 hs et hN3 hN hzs hvl C htv htv2 hobw hK' RC
          go_wp2
          go_region_held3 (fun W' => W'.cell? (a.add j) = some (.string s) ∧ W'.cell? ⟨g, k * 2 + 1, none⟩ = some (.slice fo xf.length fc)) (first | exact ⟨c1, c2⟩ | exact ⟨p1, p2⟩ | exact ⟨q1, q2⟩)
            (first
              | (go_at_call 32; refine (C3.out _ HQD.out).mono ?_; rintro e w' ⟨rfl, rfl⟩)
              | (refine step_append_lies _ ?_ (.tmp 26) (.tmp 37) _ ?_ wo.heap.size 9 j0 _ 1 16 Tryz.underlying39 hj0 jz0 jz1 jz2 ?_ ?_ (.slice qo zs.length qc) zs.length (strVals zs) ?_ ?_ ⟨wr.heap.size, 0, none⟩ 1 1 [.string tv] ?_ ?_ ?_ ?_ ?_ ?_ ?_ ?_ _ rfl ?_; (any_goals (first | exact HOA.out | exact HNA.out | rfl | (simp [Value.oneCell']; done) | (unfold maxLen; omega) | (simp; omega) | omega | skip)); intro gg cap w8 hown8 hgrow hat hlt8; have q1 := (hgrow.cell_far (a.add j) (by rw [add_block]; show a.block < (wr.alloc (.cells #[.string tv] 9)).heap.size; omega) (fun e => by rw [add_block] at e; have h : wo.heap.size ≤ a.block := HOBW.out _ e.symm; omega)).trans p1; have q2 := (hgrow.cell_far ⟨g, k * 2 + 1, none⟩ (by show g < (wr.alloc (.cells #[.string tv] 9)).heap.size; omega) (fun e => by have h : wo.heap.size ≤ g := HOBW.out _ e.symm; omega)).trans p2; have HB8 : Hid (Below wo.heap.size wr w8) := Lib.hid (by first | exact below_grown_dw (X := wr.alloc (.cells #[.string tv] 9)) hgrow (HBQ.out.mono hzq) (by omega) HOBW.out | exact below_grown_w (X := wr.alloc (.cells #[.string tv] 9)) hgrow (HBQ.out.mono hzq) (by omega) HOBW.out); have HO8 := Lib.hid hown8; clear hown8 hgrow hat))
          all_goals
            have HN8 := Lib.hid (StrRow.snoc HO8.out)
            have HW8 := Lib.hid (hQ.out.trans HB8.out)
            go_wp2
            refine ⟨⟨j + 1, by go_num, by omega, ?_, HW8⟩, by simp [intOf]; omega⟩
            show Hid (StrRow _ _ _ (rowL (ks.take (j + 1)) xf))
            rw [E1.out]
            exact HN8
        · have hN4 : StrRow wo.heap.size wr u8 (rowL (ks.take j) xf) := hN.out
          rw [List.take_of_length_le (by omega)] at hN4
          have hU1 : StrRow B wr u8 (rowL ks xf) := by
            refine ⟨hN4.1, ?_⟩
            rcases hN4.2 with h0 | ⟨g, cap, cur, hv, hB, hr⟩
            · exact .inl h0
            · exact .inr ⟨g, cap, cur, hv, by omega, hr⟩
          have hu1 := RowsOwn.cell1 hU1
          obtain ⟨ro, rc, hus⟩ := hU1.shape
          subst hus
          have hO5 := HO4.out.below hQ.out hzr
          have HO := Lib.hid (World.ownsRow.alloc hO5.row (.cells #[.slice ro (rowL ks xf).length rc] 39))
          have HU1 := Lib.hid hU1
          have HO5 := Lib.hid hO5
          have HB5 := Lib.hid (hW.out.trans (hQ.out.mono hzr))
          have HB52 := Lib.hid (hW2.out.trans (hQ.out.mono hzr))
          have HK5 := Lib.hid (hOK.out.trans (others_below hQ.out))
          have hz5 : B ≤ wr.heap.size := by omega
          clear hN hN4 hU1 hO5 HO4
          go_wp2_with (at_builtin; refine wpList_append_lies _ rfl _ _ _ rfl B 39 i0 _ 1 24 Tryz.underlying49 hi0 hz0 hz1 hz2 rfl (by omega) (.slice vo rs.length vc) rs.length ys rfl HO.out ⟨wr.heap.size, 0, none⟩ 1 1 [.slice ro (rowL ks xf).length rc] rfl rfl (World.news_of_block (cs := #[.slice ro (rowL ks xf).length rc]) (heap_alloc_new wr _)) (fun y hy => by rw [List.mem_singleton.1 hy]; exact hu1) (by omega) (by unfold maxLen; omega) (by omega) (by simp; omega) _ rfl ?_; refine Hid.out ?_)
          refine Lib.hid ?_
          intro gg cap w8 hown8 hgrow hat hlt8
          have hb6 := below_grow1 wr (.cells #[.slice ro (rowL ks xf).length rc] 39)
          have hO6 := HO5.out.below hb6 hz5
          have hU6 : StrRow B (wr.alloc (.cells #[.slice ro (rowL ks xf).length rc] 39)) (.slice ro (rowL ks xf).length rc) (rowL ks xf) := HU1.out.below hb6 (Nat.le_refl _)
          have HN8 := Lib.hid (hO6.snoc hU6 (Nat.le_trans hz5 hb6.size) hown8 hgrow)
          have hB6 := HB5.out.trans (hb6.mono hz5)
          have hB62 := HB52.out.trans (hb6.mono hz5)
          have HB8 := Lib.hid (hB6.grown hgrow (Nat.le_trans hz5 hb6.size) (fun q hq => (World.ownsRow.lt HO5.out.row q hq).1))
          have HB82 := Lib.hid (hB62.grown hgrow (Nat.le_trans hz5 hb6.size) (fun q hq => (World.ownsRow.lt HO5.out.row q hq).1))
          have HK8 := Lib.hid ((HK5.out.trans (others_below hb6)).trans (others_grown hO6.row hgrow))
          have hz8 := hgrow.size
          have hz9 := hb6.size
          clear hown8 hgrow hat hb6 hO6 hU6 hB6 hB62
          go_wp2
          refine ⟨⟨k + 1, ys ++ [.slice ro (rowL ks xf).length rc], by go_num, by omega, ?_, HB8, HB82, HK8, by omega⟩, by simp [intOf]; omega⟩
          rw [HX.out]
          exact HN8
    · have hO4 : RowsMix B wr _ (rowsOf ks (ss.take k)) ys := hO.out
      rw [List.take_of_length_le (by omega)] at hO4
      have HO4 := Lib.hid hO4
      clear hO4 hO
      go_wp2
      go_ret
      exact ⟨_, _, rfl, hBB ▸ HO4.out, hBB ▸ hW.out⟩
end Go.Proofs.YtjbnjlkoipkpoaaGreatDoor.T
