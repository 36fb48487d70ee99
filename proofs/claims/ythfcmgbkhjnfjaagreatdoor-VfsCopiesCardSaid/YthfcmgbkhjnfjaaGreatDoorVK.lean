/- The reference's answers about a file: Read, Sure. The reference's answer about what is sure of a file: Sure. What the program says is sure of a file: Sure. The keys of a map, sorted: maps.Keys and slices.Sorted, by the library's contracts. The names that are seen, rising: Names. The reference's SyncDir. -/
import Derived.Test.YthfcmgbkhjnfjaaGreatDoorVJ
import Derived.Test.YthfcmgbkhjnfjaaGreatDoorKeys
import Derived.Sort.KeysCollected
import Derived.Sort.Walk0
import Derived.Test.YthfcmgbkhjnfjaaGreatDoorPWith
namespace Go.Proofs.YthfcmgbkhjnfjaaGreatDoor
open Go.RowKit Go.Maps

theorem err_cases (k : Nat) (h : k ≠ 0) : ((k : Int) == 0) = false := by simp; omega
/-- A file that a question has found. -/
theorem RAt.found {w : World} {D : Dk} {R : RL} (h : RAt w D R) (ok : D.Ok) {s : ByteArray} (h0 : D.fileN s = 0) : ∃ F p, D.files[D.idx s]? = some F ∧ R.fs[D.idx s]? = some p ∧ D.idx s < D.files.length := by
  have hn : D.askedN [s] = 0 := by
    by_cases ha : D.askedN [s] = 0
    · exact ha
    · unfold Dk.fileN at h0
      rw [if_neg ha] at h0
      exact absurd h0 ha
  have hhas : Maps.has D.dirOf (nameK s) = true := by
    unfold Dk.fileN at h0
    rw [if_pos hn] at h0
    cases hq : Maps.has D.dirOf (nameK s) with
    | true => rfl
    | false => rw [hq] at h0; cases h0
  rw [h.seen, findL_has] at hhas
  obtain ⟨i, hi⟩ := Option.isSome_iff_exists.1 hhas
  have hidx : D.idx s = i := by unfold Dk.idx; rw [h.seen, findL_at hi]; simp
  have hlt : i < D.files.length := playL_pts D.waits h.pts ok.waits (s, i) (findL_mem hi)
  rw [hidx]
  exact ⟨_, _, List.getElem?_eq_getElem hlt, List.getElem?_eq_getElem (by rw [h.len]; exact hlt), hlt⟩
/-- What a reading gives. -/
def Dk.rtext (D : Dk) (s : ByteArray) : ByteArray := if D.readN s = 0 then D.text s else ⟨#[]⟩
theorem rtext_ok {D : Dk} {s : ByteArray} (h : D.readN s = 0) : D.rtext s = D.text s := if_pos h
theorem rtext_no {D : Dk} {s : ByteArray} (h : D.readN s ≠ 0) : D.rtext s = ⟨#[]⟩ := if_neg h
set_option maxRecDepth 20000 in
set_option maxHeartbeats 3200000 in
theorem read_ref (s : ByteArray) (hs : s.size ≤ 1000000) (D : Dk) (R : RL) (w : World) (h : RAt w D R) (ok : D.Ok) (fo so wo ao : Option Addr) (fn fc sn sc wn wc an ac : Nat) (hsh : RSh R fo so wo ao fn fc sn sc wn wc an ac) :
    Calls Tryz.prog 37 #[dval D fo so wo ao fn fc sn sc wn wc an ac, .string s] w fun e w' => e = .returned (.tuple #[.string (D.rtext s), .int .i64 (D.readN s : Nat)]) ∧ Below w.heap.size w w' := by
  have AK := Lib.hid (fun W (hb : Below w.heap.size w W) => asked_ref s hs D R W (h.below hb) ok)
  rw [hsh.f, hsh.s, hsh.w, hsh.a] at AK
  obtain ⟨fo', fc', hvf, hfc⟩ := files_cells h.ff
  rw [hsh.f] at hvf
  injection hvf with q1 q2 q3
  subst q1 q3
  have hlen := h.len
  rw [hlen] at q2
  subst q2
  have HFC := Lib.hid hfc
  have HRA := Lib.hid h
  have HOK := Lib.hid ok
  obtain ⟨W0, hW0⟩ : ∃ W0, w.alloc (.cells #[.int .i64 D.room, .slice fo D.files.length fc, .slice so sn sc, .slice wo wn wc, .int .i64 D.units, .int .i64 D.left, .bool D.armed, .bool D.gone, .slice ao an ac] 37) = W0 := ⟨_, rfl⟩
  have hb0 : Below w.heap.size w W0 := by rw [← hW0]; exact (Below.refl _ _).alloc (Nat.le_refl _) _
  have HB0 := Lib.hid hb0
  have g0 : W0.heap[w.heap.size]? = some (.cells #[.int .i64 D.room, .slice fo D.files.length fc, .slice so sn sc, .slice wo wn wc, .int .i64 D.units, .int .i64 D.left, .bool D.armed, .bool D.gone, .slice ao an ac] 37 (0, 0)) := by rw [← hW0]; exact heap_alloc_new w _
  have HG0 := Lib.hid g0
  obtain ⟨⟨q0, q1, q2, q3, q4, q5, q6, q7, q8⟩, -, hsz⟩ := disk_cells g0
  clear hfc h ok g0 hb0 hsh hlen
  cases hgo : D.gone with
  | true =>
    have hk : Hid (D.readN s = 3) := Lib.hid (by unfold Dk.readN; rw [if_pos hgo])
    rw [hgo] at q7 AK hW0
    clear AK
    unfold dval
    rw [hgo]
    go_enter Tryz.func37, Tryz.ntmps37
    go_wp2_with fail
    go_ret2
    exact ⟨by rw [rtext_no (by rw [hk.out]; simp), hk.out]; rfl, HB0.out⟩
  | false =>
    have hk : Hid (D.readN s = D.fileN s) := Lib.hid (by unfold Dk.readN; rw [if_neg (by rw [hgo]; simp)])
    rw [hgo] at q7 AK hW0
    unfold dval
    rw [hgo]
    go_enter Tryz.func37, Tryz.ntmps37
    go_wp2_with fail
    refine (AK.out W0 HB0.out).mono ?_
    rintro e w1 ⟨i, rfl, hi, hb1⟩
    have HB1 := Lib.hid (HB0.out.trans (hb1.mono HB0.out.size))
    by_cases h0 : D.fileN s = 0
    · have hki : Hid (D.readN s = 0) := Lib.hid (by rw [hk.out, h0])
      obtain ⟨F, p, hF, hp, hlt⟩ := HRA.out.found HOK.out h0
      have hii := hi h0
      subst hii
      obtain ⟨gf, rfl, hgfl, hcf⟩ := HFC.out _ p hp
      obtain ⟨d0, d1⟩ := hcf w1 (HB1.out.block gf hgfl)
      have p1 := keepc hb1 q1
      have hltz : (D.idx s : Int) < (D.files.length : Int) := by omega
      have SN := Lib.hid (fseen_ref HRA.out HOK.out hF hp w1 HB1.out)
      have HT : Hid (D.text s = F.seen) := Lib.hid (by unfold Dk.text; rw [hF])
      rw [h0]
      clear hi hb1 hcf hF hp q0 q1 q2 q3 q4 q5 q6 q7 q8 AK h0
      go_wp2_with fail
      refine SN.out.mono ?_
      rintro e w2 ⟨rfl, hb2⟩
      have HB2 := Lib.hid (HB1.out.trans (hb2.mono HB1.out.size))
      clear hb2
      go_wp2_with fail
      go_ret2
      exact ⟨by rw [rtext_ok hki.out, hki.out, HT.out]; rfl, HB2.out⟩
    · have hne : Hid (D.readN s ≠ 0) := Lib.hid (by rw [hk.out]; exact h0)
      obtain ⟨kk, hkk⟩ : ∃ kk, D.fileN s = kk := ⟨_, rfl⟩
      rw [hkk] at h0 ⊢
      have HKK : Hid (D.readN s = kk) := Lib.hid (by rw [hk.out, hkk])
      have hq : ((kk : Int) == 0) = false := err_cases kk h0
      clear hkk hi hb1 AK
      go_wp2_with fail
      go_ret2
      exact ⟨by rw [rtext_no hne.out, HKK.out]; rfl, HB1.out⟩
end Go.Proofs.YthfcmgbkhjnfjaaGreatDoor

namespace Go.Proofs.YthfcmgbkhjnfjaaGreatDoor
open Go.RowKit Go.Maps

/-- What is sure of a name's file. -/
def Dk.sureT (D : Dk) (s : ByteArray) : ByteArray := if Maps.has D.dir (nameK s) then (match D.dir.atKey (nameK s) (.lit (.int .i64 0)) with
  | .lit (.int _ i) => (match D.files[i.toNat]? with
    | some F => F.sure
    | none => ⟨#[]⟩)
  | _ => ⟨#[]⟩) else ⟨#[]⟩
theorem sureT_no {D : Dk} {s : ByteArray} (h : Maps.has D.dir (nameK s) = false) : D.sureT s = ⟨#[]⟩ := by unfold Dk.sureT; rw [if_neg (by rw [h]; simp)]
theorem sureT_ok {D : Dk} {s : ByteArray} {i : Nat} {F : Fl} (h : Maps.has D.dir (nameK s) = true) (ha : D.dir.atKey (nameK s) (.lit (.int .i64 0)) = .lit (.int .i64 i)) (hF : D.files[i]? = some F) : D.sureT s = F.sure := by
  unfold Dk.sureT
  rw [if_pos h, ha]
  simp [hF]
set_option maxRecDepth 20000 in
set_option maxHeartbeats 3200000 in
theorem sure_ref (s : ByteArray) (D : Dk) (R : RL) (w : World) (h : RAt w D R) (ok : D.Ok) (fo so wo ao : Option Addr) (fn fc sn sc wn wc an ac : Nat) (hsh : RSh R fo so wo ao fn fc sn sc wn wc an ac) :
    Calls Tryz.prog 39 #[dval D fo so wo ao fn fc sn sc wn wc an ac, .string s] w fun e w' => e = .returned (.tuple #[.string (D.sureT s), .bool (Maps.has D.dir (nameK s))]) ∧ Below w.heap.size w w' := by
  obtain ⟨fo', fc', hvf, hfc⟩ := files_cells h.ff
  rw [hsh.f] at hvf
  injection hvf with q1 q2 q3
  subst q1 q3
  have hlen := h.len
  rw [hlen] at q2
  subst q2
  have HFC := Lib.hid hfc
  have HRA := Lib.hid h
  have hls := h.ls_few ok
  have HSS := Lib.hid h.ss
  rw [hsh.s] at HSS
  have hhas : Maps.has D.dir (nameK s) = (findL R.ls s).isSome := by rw [h.dir, findL_has]
  obtain ⟨W0, hW0⟩ : ∃ W0, w.alloc (.cells #[.int .i64 D.room, .slice fo D.files.length fc, .slice so sn sc, .slice wo wn wc, .int .i64 D.units, .int .i64 D.left, .bool D.armed, .bool D.gone, .slice ao an ac] 37) = W0 := ⟨_, rfl⟩
  have hb0 : Below w.heap.size w W0 := by rw [← hW0]; exact (Below.refl _ _).alloc (Nat.le_refl _) _
  have HB0 := Lib.hid hb0
  have g0 : W0.heap[w.heap.size]? = some (.cells #[.int .i64 D.room, .slice fo D.files.length fc, .slice so sn sc, .slice wo wn wc, .int .i64 D.units, .int .i64 D.left, .bool D.armed, .bool D.gone, .slice ao an ac] 37 (0, 0)) := by rw [← hW0]; exact heap_alloc_new w _
  obtain ⟨⟨q0, q1, q2, q3, q4, q5, q6, q7, q8⟩, -, hsz⟩ := disk_cells g0
  have FI := Lib.hid (find_ref s (.slice so sn sc) R.ls W0 (own0_below HSS.out hb0) (by omega))
  clear hfc h ok g0 hb0 hsh hlen
  cases hf : findL R.ls s with
  | none =>
    have hz : Maps.has D.dir (nameK s) = false := by rw [hhas, hf]; rfl
    have HT := Lib.hid (sureT_no hz)
    have hv : findI R.ls s = -1 := by unfold findI; rw [hf]
    rw [hv] at FI
    rw [hz]
    clear hv hf hz hhas
    go_enter Tryz.func39, Tryz.ntmps39
    go_wp2_with fail
    refine FI.out.mono ?_
    rintro e w1 ⟨rfl, rfl⟩
    go_wp2_with fail
    go_ret2
    exact ⟨by rw [HT.out]; rfl, HB0.out⟩
  | some i =>
    have hz : Maps.has D.dir (nameK s) = true := by rw [hhas, hf]; rfl
    have hlt : i < D.files.length := HRA.out.pts (s, i) (findL_mem hf)
    obtain ⟨F, hF⟩ : ∃ F, D.files[i]? = some F := ⟨_, List.getElem?_eq_getElem hlt⟩
    obtain ⟨p, hp⟩ : ∃ p, R.fs[i]? = some p := ⟨_, List.getElem?_eq_getElem (by rw [HRA.out.len]; exact hlt)⟩
    have HT : Hid (D.sureT s = F.sure) := Lib.hid (sureT_ok hz (by rw [HRA.out.dir]; exact findL_at hf _) hF)
    have hps := (HRA.out.fb i F p hF hp).1
    obtain ⟨gf, rfl, hgfl, hcf⟩ := HFC.out _ p hp
    obtain ⟨d0, d1⟩ := hcf W0 (HB0.out.block gf hgfl)
    rw [hps] at d0
    have hltz : (i : Int) < (D.files.length : Int) := by omega
    have hv : findI R.ls s = (i : Int) := by unfold findI; rw [hf]
    rw [hv] at FI
    rw [hz]
    clear hv hf hz hhas hcf hF hp hps d1
    go_enter Tryz.func39, Tryz.ntmps39
    go_wp2_with fail
    refine FI.out.mono ?_
    rintro e w1 ⟨rfl, rfl⟩
    go_wp2_with fail
    go_ret2
    exact ⟨by rw [HT.out]; rfl, HB0.out⟩
end Go.Proofs.YthfcmgbkhjnfjaaGreatDoor

namespace Go.Proofs.YthfcmgbkhjnfjaaGreatDoor
open Go.RowKit Go.Maps

set_option maxRecDepth 20000 in
set_option maxHeartbeats 3200000 in
theorem sure_any (s : ByteArray) (hs : s.size ≤ 1000) (w : World) (ρ : Col) (b : Nat) (D : Dk) (L : Lay) (h : DiskAt w ρ b D L) (ok : D.Ok) :
    Calls Tryz.prog 14 #[.pointer (some ⟨b, 0, none⟩), .string s] w fun e w' => e = .returned (.tuple #[.string (D.sureT s), .bool (Maps.has D.dir (nameK s))]) ∧ Below w.heap.size w w' := by
  have kt := Lib.hid (WideMaps.keyOf_string_mk (P := Tryz.prog) (k := 9) Tryz.underlying9 (s := s) (by unfold maxLen; omega))
  obtain ⟨c0, c1, c2, c3, c4, c5, c6, c7, c8, -, -, -, -, -, -, -, -⟩ := h.cells
  have H3 : Hid (w.ownsMap Tryz.prog 9 RI L.mb (Maps.size D.dir) D.dir) := Lib.hid h.map.1
  cases hh : Maps.has D.dir (nameK s) with
  | false =>
    have HH := Lib.hid hh
    have HT := Lib.hid (sureT_no hh)
    clear h ok hh
    go_enter Tryz.func14, Tryz.ntmps14
    go_wp2_with (at_lookup; refine wpList_lookup_own_ok_int _ rfl _ _ 64 rfl 9 3 .i64 keyed Tryz.underlying64 Tryz.underlying3 (zeroI _) _ _ _ rfl H3.out _ _ rfl kt.out ?_; intro c hat hwc; rw [show Maps.has D.dir (.string s.data.toList) = false from HH.out]; clear hat hwc)
    go_ret2
    exact ⟨by rw [HT.out]; rfl, Below.refl _ _⟩
  | true =>
    obtain ⟨i, hi, hz⟩ := ok.points _ hh
    obtain ⟨F, hF⟩ : ∃ F, D.files[i]? = some F := ⟨_, List.getElem?_eq_getElem hi⟩
    obtain ⟨f, hf⟩ : ∃ f, L.fs[i]? = some f := ⟨_, List.getElem?_eq_getElem (by rw [h.len]; exact hi)⟩
    have HH := Lib.hid hh
    have HI := Lib.hid hz
    have HT : Hid (D.sureT s = F.sure) := Lib.hid (sureT_ok hh (hz _) hF)
    obtain ⟨fb, fv⟩ := f
    have hfile := (h.files i _ F hf hF).1.1
    have k0 : w.cell? ⟨fb, 0, none⟩ = some (.string F.sure) := by simp [World.cell?, hfile]
    have hl := h.len
    obtain ⟨g, c, hvf, -, hg⟩ := h.rowF.1.form (by omega)
    have hcell := h.rowF.1.cells (g := g) (by rw [hvf]; rfl) i _ (by rw [List.getElem?_map, hf]; rfl)
    rw [add_at] at hcell
    simp only at hcell
    rw [hvf] at c5
    have hiz : (i : Int) < (D.files.length : Int) := by omega
    clear h ok hh hz hi hF hf hfile hl hvf
    go_enter Tryz.func14, Tryz.ntmps14
    go_wp2_with (at_lookup; refine wpList_lookup_own_ok_int _ rfl _ _ 64 rfl 9 3 .i64 keyed Tryz.underlying64 Tryz.underlying3 (zeroI _) _ _ _ rfl H3.out _ _ rfl kt.out ?_; intro c hat hwc; rw [show Maps.has D.dir (.string s.data.toList) = true from HH.out]; rw [show D.dir.atKey (.string s.data.toList) (.lit (.int .i64 0)) = .lit (.int .i64 i) from HI.out _] at hat; cases hat; clear hwc)
    go_ret2
    exact ⟨by rw [HT.out]; rfl, Below.refl _ _⟩
end Go.Proofs.YthfcmgbkhjnfjaaGreatDoor

namespace Go.Proofs.YthfcmgbkhjnfjaaGreatDoor
open Go.RowKit Go.Maps Go.Sort Go.Shelf

theorem sortsS (m : Nat) : AnyZ.SortsIn Tryz.prog Tryz.sortedS_ren Fence.wide m :=
  ⟨fun blk off cap ss W hH hblk hsz => callsIn_wide.2 (AnyM.slices_Sort_string Tryz.sortS blk off cap ss W hH hblk hsz),
   fun p cap W => callsIn_wide.2 (AnyM.slices_Sort_string_none Tryz.sortS p cap W)⟩
theorem keysS_any (mb : Option Nat) (W : World) : Calls Tryz.prog 56 #[.map mb] W fun e w' => e = .returned (.func (.func 76) #[] #[.pointer (some ⟨W.heap.size, 0, none⟩)]) ∧ w' = W.alloc (.cells #[.map mb] 64) :=
  (callsIn_wide (n := 5)).1 (AnyZ.keys_in Tryz.keysS Fence.wide 5 trivial rfl mb W)
set_option maxHeartbeats 1000000 in
theorem sortedS_any {H : Type} (b nn : Nat) (D0 : DataW H) (R : Value → Option (DataW H × List MemPlace)) (w : World) (hown : w.ownsMap Tryz.prog 9 R b nn D0) (hmax : Maps.size D0 ≤ maxLen) (hbytes : Maps.size D0 * 16 ≤ 140737488355328) :
    Calls Tryz.prog 55 #[.func (.func 76) #[] #[.pointer (some ⟨w.heap.size, 0, none⟩)]] (w.alloc (.cells #[.map (some b)] 64)) fun e w' => ∃ (v : Value) (ss : List (List UInt8)), e = .returned v ∧ ss.Perm (strKeys D0) ∧
      w'.ownsRow (w.alloc (.cells #[.map (some b)] 64)).heap.size 9 1 v ss.length ((ss.mergeSort (fun x y => decide (x ≤ y))).map encStr) ∧ Below (w.alloc (.cells #[.map (some b)] 64)).heap.size (w.alloc (.cells #[.map (some b)] 64)) w' := by
  have hbl := hown.lt
  have hseq : SeqGives Fence.wide 2 Tryz.prog 76 #[.pointer (some ⟨w.heap.size, 0, none⟩)] encStr (fun ss => ss.Perm (strKeys D0)) (Maps.size D0) (w.alloc (.cells #[.map (some b)] 64)) :=
    AnyZ.keys_gives (ρ := Tryz.keysS_ren) { Tryz.keysS with } Fence.wide _ trivial rfl (by omega) w.heap.size b nn D0 _ (by simp) (by simp) (by
      obtain ⟨es, clock, hb, Ft, hs, hD⟩ := hown
      exact ⟨es, clock, (Below.heap_alloc _ _ b hbl).trans hb, Ft, hs, hD⟩)
  have c := AnyZ.sorted_in Tryz.sortedS Fence.wide 5 trivial trivial trivial trivial rfl (by omega) (sortsS _) (enters_of Tryz.func75 (by kernel_rfl) rfl) 76 #[.pointer (some ⟨w.heap.size, 0, none⟩)] trivial (enters_of Tryz.func76 (by kernel_rfl) rfl) _ _ hmax hbytes _ hseq
  exact ((callsIn_wide (n := 5)).1 c).mono fun _ _ ⟨v, ss, h1, h2, h3, _, h5⟩ => ⟨v, ss, h1, h2, h3, h5⟩
end Go.Proofs.YthfcmgbkhjnfjaaGreatDoor

namespace Go.Proofs.YthfcmgbkhjnfjaaGreatDoor
open Go.RowKit Go.Maps Go.Sort Go.Shelf

theorem strKeys_dirD (l : List Ent) : strKeys (dirD l) = l.map fun e => e.1.data.toList := by
  show (l.map encE).map (fun p => strOf p.1) = _
  rw [List.map_map]
  rfl
theorem names_sorted {l : List Ent} (hc : Maps.Canon (dirD l)) {ss : List (List UInt8)} (hp : ss.Perm (strKeys (dirD l))) : ss.mergeSort leB = l.map fun e => e.1.data.toList := by
  rw [mergeSort_of_perm hp, strKeys_dirD]
  have tr : ∀ a b c : List UInt8, leB a b = true → leB b c = true → leB a c = true := fun a b c h1 h2 => by simp only [leB, decide_eq_true_eq] at *; exact List.le_trans h1 h2
  have tot : ∀ a b : List UInt8, (leB a b || leB b a) = true := fun a b => by simp only [leB, Bool.or_eq_true, decide_eq_true_eq]; exact List.le_total a b
  refine List.Perm.eq_of_pairwise (le := fun a b => leB a b = true) (fun a b _ _ h1 h2 => ?_) (List.pairwise_mergeSort tr tot _) ?_ (List.mergeSort_perm _ leB)
  · simp only [leB, decide_eq_true_eq] at h1 h2
    exact List.le_antisymm h1 h2
  · obtain ⟨es, he, hs, -⟩ := hc
    unfold dirD at he
    injection he with he
    subst he
    rw [List.pairwise_map] at hs ⊢
    refine hs.imp fun {a b} hab => ?_
    have hab : bytesBefore a.1.data.toList b.1.data.toList = true := hab
    rw [← less_before, Go.Proofs.bytesLess_eq] at hab
    simp only [leB, decide_eq_true_eq]
    exact List.le_of_lt (of_decide_eq_true hab)
/-- Names in a row: the list's, in its order. -/
def NamesRow (w : World) (v : Value) (l : List Ent) : Prop := w.ownsRow 0 9 1 v l.length (l.map fun e => .string e.1)
theorem encStr_name (l : List Ent) : (l.map fun e => e.1.data.toList).map encStr = l.map fun e => Value.string e.1 := by
  rw [List.map_map]
  refine List.map_congr_left fun e _ => ?_
  show Value.string ⟨e.1.data.toList.toArray⟩ = _
  rw [Array.toArray_toList]
set_option maxRecDepth 20000 in
set_option maxHeartbeats 3200000 in
theorem names_any (w : World) (ρ : Col) (b : Nat) (D : Dk) (L : Lay) (h : DiskAt w ρ b D L) (ok : D.Ok) (l : List Ent) (hl : D.dirOf = dirD l) (hn : l.length ≤ 10000000) :
    Calls Tryz.prog 23 #[.pointer (some ⟨b, 0, none⟩)] w fun e w' => ∃ v, e = .returned v ∧ NamesRow w' v l ∧ Below w.heap.size w w' := by
  have DA := Lib.hid (dir_any w ρ b D L h (by have := ok.names; omega) (by have := ok.many; omega) ok.fits)
  rw [hl] at DA
  have hsz := dirD_size l
  clear h ok hl
  go_enter Tryz.func23, Tryz.ntmps23
  go_wp2_with fail
  refine DA.out.mono ?_
  rintro e w1 ⟨rfl, hm, hb1⟩
  have HM := Lib.hid hm
  have HC : Hid (Maps.Canon (dirD l)) := Lib.hid (World.ownsMap.canon hm keyed)
  have HB1 := Lib.hid hb1
  have SO := Lib.hid (sortedS_any w.heap.size _ (dirD l) RI w1 hm (by rw [hsz]; unfold maxLen; omega) (by rw [hsz]; omega))
  clear hm hb1
  go_wp2_with fail
  refine (keysS_any (some w.heap.size) w1).mono ?_
  rintro e w2 ⟨rfl, rfl⟩
  go_wp2_with fail
  refine SO.out.mono ?_
  rintro e w3 ⟨v, ss, rfl, hp, hown, hb3⟩
  have HS := Lib.hid (names_sorted HC.out hp)
  have HL : Hid (ss.length = l.length) := Lib.hid (by rw [hp.length_eq, strKeys_dirD, List.length_map])
  have HO : Hid (NamesRow w3 v l) := Lib.hid (by
    have := own_to0 hown
    rw [HS.out, encStr_name, HL.out] at this
    exact this)
  have HB3 : Hid (Below w.heap.size w w3) := Lib.hid ((HB1.out.alloc HB1.out.size _).trans (hb3.mono (by have := HB1.out.size; simp; omega)))
  clear hown hb3 hp
  go_wp2_with fail
  go_ret
  exact ⟨_, rfl, HO.out, HB3.out⟩
end Go.Proofs.YthfcmgbkhjnfjaaGreatDoor

namespace Go.Proofs.YthfcmgbkhjnfjaaGreatDoor
open Go.RowKit Go.Maps

/-- A method of the reference's disk ended: the disk that stands as D', an error's number. -/
def RefPost (D' : Dk) (k : Nat) (w : World) (e : Ending) (w' : World) : Prop := ∃ v, e = .returned (.tuple #[v, .int .i64 k]) ∧ IsR w' v D' ∧ Below w.heap.size w w'
/-- A disk's cells, for a walk that stores into them. -/
theorem box9 {w : World} {N : Nat} {x0 x1 x2 x3 x4 x5 x6 x7 x8 : Value} (h : w.heap[N]? = some (.cells #[x0, x1, x2, x3, x4, x5, x6, x7, x8] 37 (0, 0))) :
    (w.cell? ⟨N, 0, none⟩ = some x0 ∧ w.cell? ⟨N, 1, none⟩ = some x1 ∧ w.cell? ⟨N, 2, none⟩ = some x2 ∧ w.cell? ⟨N, 3, none⟩ = some x3 ∧ w.cell? ⟨N, 4, none⟩ = some x4 ∧ w.cell? ⟨N, 5, none⟩ = some x5 ∧ w.cell? ⟨N, 6, none⟩ = some x6 ∧ w.cell? ⟨N, 7, none⟩ = some x7 ∧ w.cell? ⟨N, 8, none⟩ = some x8) ∧
    (w.frozen? ⟨N, 0, none⟩ = false ∧ w.frozen? ⟨N, 1, none⟩ = false ∧ w.frozen? ⟨N, 2, none⟩ = false ∧ w.frozen? ⟨N, 3, none⟩ = false ∧ w.frozen? ⟨N, 4, none⟩ = false ∧ w.frozen? ⟨N, 5, none⟩ = false ∧ w.frozen? ⟨N, 6, none⟩ = false ∧ w.frozen? ⟨N, 7, none⟩ = false ∧ w.frozen? ⟨N, 8, none⟩ = false) := by
  obtain ⟨h1, h2, -⟩ := disk_cells h
  exact ⟨h1, h2 0, h2 1, h2 2, h2 3, h2 4, h2 5, h2 6, h2 7, h2 8⟩
set_option maxRecDepth 20000 in
set_option maxHeartbeats 3200000 in
theorem syncDir_gone (D : Dk) (R : RL) (w : World) (h : RAt w D R) (fo so wo ao : Option Addr) (fn fc sn sc wn wk an ac : Nat) (hsh : RSh R fo so wo ao fn fc sn sc wn wk an ac) (hg : D.gone = true) :
    Calls Tryz.prog 35 #[dval D fo so wo ao fn fc sn sc wn wk an ac] w (RefPost D 3 w) := by
  have HR : Hid (∀ w', Below w.heap.size w w' → IsR w' (.agg #[.int .i64 D.room, .slice fo fn fc, .slice so sn sc, .slice wo wn wk, .int .i64 D.units, .int .i64 D.left, .bool D.armed, .bool true, .slice ao an ac]) D) := Lib.hid fun w' hb => ⟨R, by rw [hsh.val, ← hg], h.below hb⟩
  unfold dval
  rw [hg]
  clear h hsh
  go_enter Tryz.func35, Tryz.ntmps35
  go_wp2_with fail
  refine bodyPost_ret (v := .tuple #[.agg #[.int .i64 D.room, .slice fo fn fc, .slice so sn sc, .slice wo wn wk, .int .i64 D.units, .int .i64 D.left, .bool D.armed, .bool true, .slice ao an ac], .int .i64 3]) (by simp [results, Tryz.results35, go_sem]) rfl ⟨_, rfl, HR.out _ ?_, ?_⟩
  all_goals
    repeat first | with_reducible exact Below.refl _ _ | with_reducible refine Below.drew ?_ | with_reducible refine Below.alloc ?_ (by simp <;> omega) _ | with_reducible refine Below.setCell ?_ (by simp <;> omega) _
end Go.Proofs.YthfcmgbkhjnfjaaGreatDoor
