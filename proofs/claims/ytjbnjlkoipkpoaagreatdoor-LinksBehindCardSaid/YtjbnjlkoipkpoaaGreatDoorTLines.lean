/- A row's line: table.line. The rows' lines: table.Lines. -/
import Derived.Test.YtjbnjlkoipkpoaaGreatDoorTRows
import Derived.Deep.RegionHeld3
import Derived.Deep.DrawnRows
import Derived.Lib.OthersKept
namespace Go.Proofs.YtjbnjlkoipkpoaaGreatDoor.T
open Go.RowKit Go.Shelf
open Go.Proofs.YtjbnjlkoipkpoaaGreatDoor.B
attribute [local go_sem ↓] Go.wp_at_zero Go.wp_at_succ

/-- What is written of cell k. -/
def piece (ws : List Nat) (r : List ByteArray) (k : Nat) : List UInt8 :=
  match r[k]? with
  | none => []
  | some s => s.data.toList ++ (if k + 1 < r.length then List.replicate (ws.getD k 0 - s.size + 2) 32 else [])
theorem piece_some (ws : List Nat) (r : List ByteArray) (k : Nat) (s : ByteArray) (h : r[k]? = some s) : piece ws r k = s.data.toList ++ (if k + 1 < r.length then List.replicate (ws.getD k 0 - s.size + 2) 32 else []) := by unfold piece; rw [h]
def lineTo (ws : List Nat) (r : List ByteArray) (j : Nat) : List UInt8 := (List.range j).flatMap (piece ws r)
theorem lineTo_succ (ws : List Nat) (r : List ByteArray) (j : Nat) : lineTo ws r (j + 1) = lineTo ws r j ++ piece ws r j := by unfold lineTo; rw [List.range_succ, List.flatMap_append]; simp
def lineL (ws : List Nat) (r : List ByteArray) : List UInt8 := lineTo ws r r.length ++ [10]
/-- The widths fit a row. -/
structure RowFit (ws : List Nat) (r : List ByteArray) : Prop where
  len : r.length ≤ 100
  at_ : ∀ (k : Nat) (s : ByteArray), r[k]? = some s → ∃ n : Nat, ws[k]? = some n ∧ s.size ≤ n ∧ n ≤ 100000
theorem lineTo_len {ws : List Nat} {r : List ByteArray} (h : RowFit ws r) : ∀ j, (lineTo ws r j).length ≤ j * 200002
  | 0 => by simp [lineTo]
  | j + 1 => by
    rw [lineTo_succ, List.length_append]
    have h1 := lineTo_len h j
    have h2 : (piece ws r j).length ≤ 200002 := by
      unfold piece
      cases hr : r[j]? with
      | none => simp
      | some s =>
        obtain ⟨n, h3, h4, h5⟩ := h.at_ j s hr
        have h6 : ws.getD j 0 = n := by simp [h3]
        simp only [List.length_append, h6]
        have h7 : s.data.toList.length = s.size := size_len s
        split
        · rw [List.length_replicate]; omega
        · simp; omega
    omega
theorem lineL_len {ws : List Nat} {r : List ByteArray} (h : RowFit ws r) : (lineL ws r).length ≤ 20000201 := by
  unfold lineL
  rw [List.length_append]
  have h1 := lineTo_len h r.length
  have := h.len
  simp; omega
theorem isb_below {B b : Nat} {bs : List Value} {w w' : World} (h : Lib.IsBuilder 187 5 B b bs w) (hb : Below w.heap.size w w') : Lib.IsBuilder 187 5 B b bs w' := by
  have key : ∀ p, Lib.BuilderAt 187 5 B b p bs w → Lib.BuilderAt 187 5 B b p bs w' := by
    rintro p ⟨h1, v, h2, h3, h4⟩
    exact ⟨h1, v, (hb.block b (Array.getElem?_eq_some_iff.1 h2).1).trans h2, ownsRow_of_block h3 fun g hg => hb.block g (h3.lt g hg).2, h4⟩
  exact h.imp (key _) (key _)
theorem isb_drew {B b : Nat} {bs : List Value} {w : World} (h : Lib.IsBuilder 187 5 B b bs w) : Lib.IsBuilder 187 5 B b bs w.drew := h
theorem _root_.Go.Lib.BuilderAt.toIs {T e : TypeId} {B b : Nat} {bs : List Value} {w : World} (h : Lib.BuilderAt T e B b (.pointer (some ⟨b, 0, none⟩)) bs w) : Lib.IsBuilder T e B b bs w := .inr h
theorem WriteString_any (B b : Nat) (bs : List Value) (s : ByteArray) (w : World) (h : Lib.IsBuilder 187 5 B b bs w) (hlen : bs.length + s.size ≤ 140737488355328) (hBw : B ≤ w.heap.size) :
    Calls Tryz.prog 112 #[.pointer (some ⟨b, 0, none⟩), .string s] w fun e w' => e = .returned (.tuple #[.int .i64 s.size, .nilIface]) ∧ (Lib.BuilderAt 187 5 B b (.pointer (some ⟨b, 0, none⟩)) (bs ++ Lib.strCells s) w' ∧ Below B w w') :=
  Any.Builder_WriteString { Tryz.lays156 with } Tryz.Builder_Extra_156 B b bs s w h hlen hBw
theorem repeat_any (c : Nat) (w : World) (hc : c ≤ 100000) :
    Calls Tryz.prog 154 #[.string ⟨#[32]⟩, .int .i64 c] w fun e w' => e = .returned (.string ⟨(List.replicate c 32).toArray⟩) ∧ Below w.heap.size w w' := by
  refine (Tryz.strings_Repeat ⟨#[32]⟩ c w (by omega) (by show 1 * c ≤ _; omega)).mono ?_
  intro e w' h
  have e1 : Lib.repeatL [(32 : UInt8)] c = List.replicate c 32 := by
    clear h hc
    induction c with
    | zero => rfl
    | succ n ih => simp [Lib.repeatL, List.replicate_succ, ih]
  have e2 : Lib.repeatL (⟨#[32]⟩ : ByteArray).data.toList c = List.replicate c 32 := e1
  rw [e2] at h
  exact h
theorem repeat_w (c : Nat) (w : World) (hc : c ≤ 100000) :
    Calls Tryz.prog 154 #[.string ((⟨#[32, 32]⟩ : ByteArray).extract 0 1), .int .i64 (IntKind.i64.wrap c)] w fun e w' => e = .returned (.string ⟨(List.replicate c 32).toArray⟩) ∧ Below w.heap.size w w' := by
  rw [show (⟨#[32, 32]⟩ : ByteArray).extract 0 1 = ⟨#[32]⟩ by decide, show IntKind.i64.wrap (c : Int) = (c : Int) from IntWalk.i64_in _ (by omega)]
  exact repeat_any c w hc
theorem byteCells_app (a b : List UInt8) : Lib.byteCells (a ++ b) = Lib.byteCells a ++ Lib.byteCells b := by simp [Lib.byteCells]
theorem strCells_eq (s : ByteArray) : Lib.strCells s = Lib.byteCells s.data.toList := rfl
theorem strCells_len (s : ByteArray) : (Lib.strCells s).length = s.size := by rw [strCells_eq, Lib.size_eq]; simp [Lib.byteCells]
theorem append_dl' (a b : ByteArray) : (a ++ b).data.toList = a.data.toList ++ b.data.toList := by simp
theorem ba_size_append (a b : ByteArray) : (a ++ b).size = a.size + b.size := by rw [Lib.size_eq, append_dl', List.length_append, ← Lib.size_eq, ← Lib.size_eq]
theorem byteCells_len (a : List UInt8) : (Lib.byteCells a).length = a.length := by simp [Lib.byteCells]
set_option maxRecDepth 20000 in
set_option maxHeartbeats 3200000 in
theorem line_any (v u : Value) (r : List ByteArray) (ws : List Nat) (w : World) (hv : StrsAt w.heap.size w v r) (hu : IntsAt w.heap.size w u ws) (hf : RowFit ws r) :
    Calls Tryz.prog 113 #[v, u] w fun e w' => e = .returned (.string ⟨(lineL ws r).toArray⟩) ∧ Below w.heap.size w w' := by
  obtain ⟨ao, cp, rfl, hA⟩ := hv
  obtain ⟨bo, bp, rfl, hB⟩ := hu
  have HA := Lib.hid hA
  have HB := Lib.hid hB
  have HF := Lib.hid hf
  have hrl := hf.len
  clear hA hB hf
  go_enter Tryz.func113, Tryz.ntmps113
  obtain ⟨B, hBB⟩ : ∃ B, w.heap.size = B := ⟨_, rfl⟩
  have hI0 : Lib.IsBuilder 187 5 B B (Lib.byteCells (lineTo ws r 0)) (w.alloc (.cells #[.pointer none, .slice none 0 0] 187)) := by
    refine .inl ⟨Nat.le_refl _, .slice none 0 0, by rw [← hBB]; exact heap_alloc_new w _, World.ownsRow_nil _ _ _ _, by simp [Value.ownBlock]⟩
  have HI0 := Lib.hid hI0
  have HW0 := Lib.hid (hBB ▸ below_grow1 w (.cells #[.pointer none, .slice none 0 0] 187) : Below B w _)
  clear hI0
  go_wp2
  try rw [hBB]
  go_loopw [10] (fun i wr => ∃ k : Nat, i = .int .i64 k ∧ k ≤ r.length ∧ Hid (Lib.IsBuilder 187 5 B B (Lib.byteCells (lineTo ws r k)) wr) ∧ Hid (Below B w wr)) (fun i _ => r.length - (intOf i).toNat)
  case atStart => exact ⟨0, rfl, Nat.zero_le _, HI0, HW0⟩
  case round =>
    clear HI0 HW0
    obtain ⟨k, rfl, hk, hI, hW⟩ := hrel
    by_cases hlt : k < r.length
    · obtain ⟨s, hs⟩ : ∃ s, r[k]? = some s := ⟨_, List.getElem?_eq_getElem hlt⟩
      obtain ⟨a, rfl, ha, hc⟩ := HA.out k s hs
      obtain ⟨n, hn, hn1, hn2⟩ := HF.out.at_ k s hs
      obtain ⟨b, rfl, hb, hd⟩ := HB.out k n hn
      rw [hBB] at ha hb
      have hc1 := (hW.out.cell (p := a.add k) (by rw [add_block]; exact ha)).trans hc
      have hd0 := (hW.out.cell (p := b.add k) (by rw [add_block]; exact hb)).trans hd
      have hll := lineTo_len HF.out k
      have hwl := (List.getElem?_eq_some_iff.1 hn).1
      have hgd : ws.getD k 0 = n := by simp [hn]
      have hPi := Lib.hid (piece_some ws r k s hs)
      rw [hgd] at hPi
      have hSu := Lib.hid (lineTo_succ ws r k)
      have WS := Lib.hid (WriteString_any B B _ s wr hI.out (by rw [byteCells_len]; omega) (by have := hW.out.size; omega))
      clear hs hn hc hd hgd
      by_cases hlast : k + 1 < r.length
      · have hsub : ((n : Int) - (s.size : Int)) = ((n - s.size : Nat) : Int) := by omega
        go_wp2_with (go_at_call 112; refine WS.out.mono ?_; rintro e w1 ⟨rfl, hb1, hb2⟩; have hd1 := (hb2.cell (p := b.add k) (by rw [add_block]; exact hb)).trans hd0)
        have hb1B := hb1.toIs
        have RP := Lib.hid (fun w => repeat_any (n - s.size) w (by omega))
        obtain ⟨rs, hrs⟩ : ∃ rs : ByteArray, (⟨(List.replicate (n - s.size) 32).toArray⟩ : ByteArray) = rs := ⟨_, rfl⟩
        have RP := Lib.hid (fun w => hrs ▸ repeat_w (n - s.size) w (by omega))
        have hrsz : rs.size ≤ 100000 := by rw [← hrs, Lib.size_eq]; simp; omega
        have hrd : rs.data.toList = List.replicate (n - s.size) 32 := by rw [← hrs]
        have HRD := Lib.hid hrd
        clear hrs hrd
        have hbw1 : b.block < w1.heap.size := by have := hb2.size; have := hW.out.size; omega
        have WS2 := Lib.hid (fun (w2 : World) (hb3 : Below w1.drew.heap.size w1.drew w2) => WriteString_any B B _ (rs ++ ⟨#[32, 32]⟩) w2 (isb_below (isb_drew hb1B) hb3) (by rw [List.length_append, byteCells_len, strCells_len, ba_size_append]; have e2 : (⟨#[32, 32]⟩ : ByteArray).size = 2 := rfl; omega) (by have := hb3.size; have := hb2.size; have := hW.out.size; simp at *; omega))
        go_region_with (first | (go_at_call 154; refine (RP.out _).mono ?_; rintro e w2 ⟨rfl, hb3⟩; have hd2 := (hb3.cell (p := b.add k) (by rw [add_block]; exact hbw1)).trans hd1) | (go_at_call 112; refine (WS2.out _ hb3).mono ?_; rintro e w3 ⟨rfl, hb4, hb5⟩; have hd3 := (hb5.cell (p := b.add k) (by rw [add_block]; exact hb)).trans hd2))
        go_wp2
        have hb6 : Lib.byteCells (lineTo ws r k) ++ Lib.strCells s ++ Lib.strCells (rs ++ ⟨#[32, 32]⟩) = Lib.byteCells (lineTo ws r (k + 1)) := by
          have e2 := hPi.out
          rw [if_pos hlast, ← List.replicate_append_replicate, ← HRD.out] at e2
          rw [hSu.out, e2, byteCells_app, byteCells_app, byteCells_app, List.append_assoc]
          have e3 : Lib.strCells (rs ++ ⟨#[32, 32]⟩) = Lib.byteCells rs.data.toList ++ Lib.byteCells (List.replicate 2 32) := by
            rw [strCells_eq, append_dl', byteCells_app]; rfl
          rw [e3, strCells_eq]
        rw [hb6] at hb4
        exact ⟨⟨k + 1, by go_num, by omega, Lib.hid hb4.toIs, Lib.hid (hW.out.trans (hb2.trans (Below.trans (b := w1.drew) ⟨rfl, rfl, rfl, Nat.le_refl _, fun _ _ => rfl⟩ (Below.trans (Below.mono hb3 (by have := hb2.size; have := hW.out.size; show B ≤ w1.heap.size; omega)) hb5))))⟩, by simp [intOf]; omega⟩
      · go_wp2_with (go_at_call 112; refine WS.out.mono ?_; rintro e w1 ⟨rfl, hb1, hb2⟩)
        have hb6 : Lib.byteCells (lineTo ws r k) ++ Lib.strCells s = Lib.byteCells (lineTo ws r (k + 1)) := by
          have e2 := hPi.out
          rw [if_neg hlast, List.append_nil] at e2
          rw [hSu.out, e2, byteCells_app, strCells_eq]
        rw [hb6] at hb1
        exact ⟨⟨k + 1, by go_num, by omega, Lib.hid hb1.toIs, Lib.hid (hW.out.trans hb2)⟩, by simp [intOf]; omega⟩
    · have hk' : k = r.length := by omega
      subst hk'
      obtain ⟨l, hl⟩ : ∃ l, lineTo ws r r.length = l := ⟨_, rfl⟩
      have hll := lineTo_len HF.out r.length
      have S := Lib.hid (Tryz.Builder_String_any B B (lineTo ws r r.length) wr hI.out (by have := hW.out.size; omega))
      have HL := Lib.hid (show lineL ws r = lineTo ws r r.length ++ [10] from rfl)
      rw [hl] at S HL hll
      have hls : (⟨l.toArray⟩ : ByteArray).size ≤ 20000200 := by rw [Lib.size_eq]; simp; omega
      obtain ⟨ls, hls2⟩ : ∃ ls : ByteArray, (⟨l.toArray⟩ : ByteArray) = ls := ⟨_, rfl⟩
      rw [hls2] at S hls
      have HLS := Lib.hid hls2
      clear hI hls2 hl
      go_wp2_with fail
      refine S.out.mono ?_
      rintro e w1 ⟨rfl, hb⟩
      go_wp2
      go_ret
      refine ⟨?_, ?_⟩
      · rw [HL.out]
        show Ending.returned (Value.string (ls ++ ⟨#[10]⟩)) = _
        rw [← HLS.out]
        exact congrArg (fun x => Ending.returned (Value.string x)) (by apply ByteArray.ext; simp)
      · rw [hBB]; exact hW.out.trans hb
end Go.Proofs.YtjbnjlkoipkpoaaGreatDoor.T

namespace Go.Proofs.YtjbnjlkoipkpoaaGreatDoor.T
open Go.RowKit Go.Shelf
open Go.Proofs.YtjbnjlkoipkpoaaGreatDoor.B

theorem NumsAt.ints {B : Nat} {w : World} {v : Value} {ws : List Nat} (h : NumsAt B w v ws) : IntsAt w.heap.size w v ws := by
  rcases h.2 with ⟨h0, h1⟩ | ⟨g, cap, cur, hv, hb, hg, -⟩
  · refine ⟨none, 0, ?_, fun k f hk => ?_⟩
    · rw [h1, h0]
    · have := (List.getElem?_eq_some_iff.1 hk).1; omega
  · refine ⟨_, cap, hv, fun k n hk => ⟨_, rfl, (Array.getElem?_eq_some_iff.1 hg).1, ?_⟩⟩
    exact World.ownsRow.cells h (g := g) (by rw [hv]; rfl) k (.int .i64 n) (by simp [nums, hk])
theorem isbF_block {B b : Nat} {bs : List Value} {w : World} (h : Lib.IsBuilderF 187 5 B b bs w) : ∃ p v, w.heap[b]? = some (.cells #[p, v] 187 (0, 0)) ∧ w.ownsRowF B 5 1 v bs.length bs := by
  rcases h with ⟨_, v, h2, h3, _⟩ | ⟨_, v, h2, h3, _⟩
  · exact ⟨_, v, h2, h3⟩
  · exact ⟨_, v, h2, h3⟩
/-- The widths' row stays where a builder is written. -/
theorem NumsAt.kept {B b : Nat} {bs : List Value} {w w' : World} {v : Value} {ws : List Nat} (h : NumsAt B w v ws) (hb : Lib.IsBuilderF 187 5 B b bs w) (hk : Lib.OthersKept 5 (some b) w w') : NumsAt B w' v ws := by
  refine ownsRow_of_block h fun g hg => ?_
  rcases h.2 with ⟨h0, _⟩ | ⟨g', cap, cur, hv, _, hg', _⟩
  · rw [h0] at hg; simp [Value.ownBlock] at hg
  · rw [hv] at hg
    have e : g' = g := by simpa [Value.ownBlock] using hg
    subst e
    obtain ⟨p, u, h1, -⟩ := isbF_block hb
    refine (hk g' _ hg' (fun e => ?_) fun c fz e => ?_).trans hg'.symm
    · cases e
      rw [h1] at hg'
      injection hg' with e1
      injection e1 with _ e2
      exact absurd e2 (by decide)
    · injection e with _ e2
      exact absurd e2 (by decide)
theorem NumsAt.below {B : Nat} {w w' : World} {v : Value} {ws : List Nat} (h : NumsAt B w v ws) (hb : Below w.heap.size w w') : NumsAt B w' v ws :=
  ownsRow_of_block h fun g hg => hb.block g (World.ownsRow.lt h g hg).2
theorem isbF_below {B b : Nat} {bs : List Value} {w w' : World} (h : Lib.IsBuilderF 187 5 B b bs w) (hb : Below w.heap.size w w') : Lib.IsBuilderF 187 5 B b bs w' := by
  have key : ∀ p, Lib.BuilderAtF 187 5 B b p bs w → Lib.BuilderAtF 187 5 B b p bs w' := by
    rintro p ⟨h1, v, h2, ⟨h3, h4⟩, h5⟩
    refine ⟨h1, v, (hb.block b (Array.getElem?_eq_some_iff.1 h2).1).trans h2, ⟨h3, ?_⟩, h5⟩
    rcases h4 with h4 | ⟨g, cap, cur, fr, hv, hB, hg, hr⟩
    · exact .inl h4
    · exact .inr ⟨g, cap, cur, fr, hv, hB, (hb.block g (Array.getElem?_eq_some_iff.1 hg).1).trans hg, hr⟩
  exact h.imp (key _) (key _)
theorem _root_.Go.Lib.BuilderAtF.toIs {T e : TypeId} {B b : Nat} {bs : List Value} {w : World} (h : Lib.BuilderAtF T e B b (.pointer (some ⟨b, 0, none⟩)) bs w) : Lib.IsBuilderF T e B b bs w := .inr h
theorem WriteString_k (B b : Nat) (bs : List Value) (s : ByteArray) (w : World) (h : Lib.IsBuilderF 187 5 B b bs w) (hlen : bs.length + s.size ≤ 140737488355328) (hBw : B ≤ w.heap.size) :
    Calls Tryz.prog 112 #[.pointer (some ⟨b, 0, none⟩), .string s] w fun e w' => e = .returned (.tuple #[.int .i64 s.size, .nilIface]) ∧ (Lib.BuilderAtF 187 5 B b (.pointer (some ⟨b, 0, none⟩)) (bs ++ Lib.strCells s) w' ∧ Below B w w' ∧ Lib.OthersKept 5 (some b) w w') :=
  Any.Builder_WriteString_k { Tryz.lays156 with } Tryz.Builder_Extra_156 B b bs s w h hlen hBw
/-! ### The rows' lines -/
def linesL (rs : List (List ByteArray)) : List UInt8 := rs.flatMap (lineL (widths rs))
def linesTo (ws : List Nat) (rs : List (List ByteArray)) : List UInt8 := rs.flatMap (lineL ws)
theorem linesTo_snoc (ws : List Nat) (rs : List (List ByteArray)) (r : List ByteArray) : linesTo ws (rs ++ [r]) = linesTo ws rs ++ lineL ws r := by simp [linesTo]
/-- Rows that are looked at. -/
structure RowsFine (rs : List (List ByteArray)) : Prop where
  many : rs.length ≤ 1000
  cols : ∀ r ∈ rs, r.length ≤ 100
  cells : ∀ r ∈ rs, ∀ s ∈ r, s.size ≤ 100000
theorem colMax_ge {rs : List (List ByteArray)} {r : List ByteArray} {i : Nat} (h : r ∈ rs) : lenAt r i ≤ colMax rs i := by
  induction rs with
  | nil => simp at h
  | cons x t ih =>
    show lenAt r i ≤ max (lenAt x i) (colMax t i)
    rcases List.mem_cons.1 h with rfl | h
    · omega
    · have := ih h; omega
theorem colMax_le {rs : List (List ByteArray)} {i n : Nat} (h : ∀ r ∈ rs, lenAt r i ≤ n) : colMax rs i ≤ n := by
  induction rs with
  | nil => exact Nat.zero_le _
  | cons x t ih =>
    show max (lenAt x i) (colMax t i) ≤ n
    have h1 := h x (by simp)
    have h2 := ih fun r hr => h r (by simp [hr])
    omega
theorem most_ge {rs : List (List ByteArray)} {r : List ByteArray} (h : r ∈ rs) : r.length ≤ most rs := by
  induction rs with
  | nil => simp at h
  | cons x t ih =>
    show r.length ≤ max x.length (most t)
    rcases List.mem_cons.1 h with rfl | h
    · omega
    · have := ih h; omega
theorem lenAt_le {r : List ByteArray} {i n : Nat} (h : ∀ s ∈ r, s.size ≤ n) : lenAt r i ≤ n := by
  unfold lenAt
  cases hs : r[i]? with
  | none => exact Nat.zero_le _
  | some s => exact h s (List.mem_of_getElem? hs)
theorem RowsFine.fit {rs : List (List ByteArray)} (h : RowsFine rs) {r : List ByteArray} (hr : r ∈ rs) : RowFit (widths rs) r := by
  refine ⟨h.cols r hr, fun k s hs => ?_⟩
  have h1 := (List.getElem?_eq_some_iff.1 hs).1
  have h2 := most_ge hr
  refine ⟨colMax rs k, widths_get rs k (by omega), ?_, colMax_le fun x hx => lenAt_le (h.cells x hx)⟩
  have := colMax_ge (i := k) hr
  simpa [lenAt, hs] using this
theorem linesTo_len {ws : List Nat} {rs : List (List ByteArray)} (h : ∀ r ∈ rs, RowFit ws r) : (linesTo ws rs).length ≤ rs.length * 20000201 := by
  induction rs with
  | nil => simp [linesTo]
  | cons x t ih =>
    have h1 := lineL_len (h x (by simp))
    have h2 := ih fun r hr => h r (by simp [hr])
    unfold linesTo at h2 ⊢
    simp only [List.flatMap_cons, List.length_append, List.length_cons]
    omega
set_option maxRecDepth 20000 in
set_option maxHeartbeats 3200000 in
theorem lines_any (v : Value) (rs : List (List ByteArray)) (w : World) (h : RowsAt w.heap.size w v rs) (hf : RowsFine rs) :
    Calls Tryz.prog 65 #[v] w fun e w' => e = .returned (.string ⟨(linesL rs).toArray⟩) ∧ Below w.heap.size w w' := by
  have H0 := Lib.hid h
  obtain ⟨ao, cp, rfl, hc⟩ := h
  have HC := Lib.hid hc
  have HF := Lib.hid (fun (r : List ByteArray) (hr : r ∈ rs) => hf.fit hr)
  have hmany := hf.many
  have HCO := Lib.hid hf.cols
  obtain ⟨ws, hws⟩ : ∃ ws, widths rs = ws := ⟨_, rfl⟩
  have HLL := Lib.hid (show linesL rs = linesTo (widths rs) rs from rfl)
  have HWD := Lib.hid (fun (w' : World) (hb : Below w.heap.size w w') => widths_any _ rs w' ((H0.out.below hb (Nat.le_refl _)).up hb.size) (by omega) (fun r hr => Nat.le_trans (HCO.out r hr) (by omega)))
  rw [hws] at HF HLL HWD
  clear hc hws hf H0
  go_enter Tryz.func65, Tryz.ntmps65
  obtain ⟨B, hBB⟩ : ∃ B, w.heap.size = B := ⟨_, rfl⟩
  have hI0 : Lib.IsBuilderF 187 5 B B (Lib.byteCells (linesTo ws (rs.take 0))) (w.alloc (.cells #[.pointer none, .slice none 0 0] 187)) := by
    refine .inl (Lib.BuilderAtF.of ⟨Nat.le_refl _, .slice none 0 0, by rw [← hBB]; exact heap_alloc_new w _, World.ownsRow_nil _ _ _ _, by simp [Value.ownBlock]⟩)
  have hW0 : Below B w (w.alloc (.cells #[.pointer none, .slice none 0 0] 187)) := hBB ▸ below_grow1 w _
  have hz0 : B + 1 ≤ (w.alloc (.cells #[.pointer none, .slice none 0 0] 187)).heap.size := by rw [← hBB]; simp
  have WDc := Lib.hid (HWD.out _ (hBB ▸ hW0))
  obtain ⟨w0, hw0⟩ : ∃ w0, w.alloc (.cells #[.pointer none, .slice none 0 0] 187) = w0 := ⟨_, rfl⟩
  rw [hw0] at hI0 hW0 WDc hz0
  have HI0 := Lib.hid hI0
  have HW0 := Lib.hid hW0
  clear hI0 hW0
  go_wp2_with fail
  refine WDc.out.mono ?_
  rintro e w1 ⟨u, rfl, hN, hb⟩
  obtain ⟨uo, uc, hus⟩ := hN.shape
  subst hus
  have HI1 := Lib.hid (isbF_below HI0.out hb)
  have HW1 := Lib.hid (HW0.out.trans (hb.mono (by omega)))
  have HN1 : Hid (NumsAt B w1 (.slice uo ws.length uc) ws) := Lib.hid (by
    refine ⟨hN.1, ?_⟩
    rcases hN.2 with h0 | ⟨g, cap, cur, hv, hB, hr⟩
    · exact .inl h0
    · exact .inr ⟨g, cap, cur, hv, by omega, hr⟩)
  clear HI0 HW0 hN hb WDc hw0 hz0
  go_wp2
  try rw [hBB]
  go_loopw [11] (fun i wr => ∃ k : Nat, i = .int .i64 k ∧ k ≤ rs.length ∧ Hid (Lib.IsBuilderF 187 5 B B (Lib.byteCells (linesTo ws (rs.take k))) wr) ∧ Hid (NumsAt B wr (.slice uo ws.length uc) ws) ∧ Hid (Below B w wr)) (fun i _ => rs.length - (intOf i).toNat)
  case atStart => exact ⟨0, rfl, Nat.zero_le _, HI1, HN1, HW1⟩
  case round =>
    clear HI1 HN1 HW1
    obtain ⟨k, rfl, hk, hI, hN, hW⟩ := hrel
    have hzr : B ≤ wr.heap.size := hBB ▸ hW.out.size
    by_cases hlt : k < rs.length
    · obtain ⟨r, hr⟩ : ∃ r, rs[k]? = some r := ⟨_, List.getElem?_eq_getElem hlt⟩
      obtain ⟨a, vr, rfl, ha, h1, h2⟩ := HC.out k r hr
      rw [hBB] at ha h2
      have c1 := (hW.out.cell (p := a.add k) (by rw [add_block]; exact ha)).trans h1
      have hrm := List.mem_of_getElem? hr
      have hfit := HF.out r hrm
      have L := Lib.hid (line_any vr _ r ws wr ((h2.below hW.out (Nat.le_refl _)).up hzr) hN.out.ints hfit)
      have hll := lineL_len hfit
      have hlt2 := linesTo_len (ws := ws) (rs := rs.take k) (fun x hx => HF.out x (List.mem_of_mem_take hx))
      rw [List.length_take] at hlt2
      have et : rs.take (k + 1) = rs.take k ++ [r] := by rw [List.take_add_one, hr]; rfl
      have E1 := Lib.hid (show linesTo ws (rs.take (k + 1)) = _ by rw [et, linesTo_snoc])
      obtain ⟨ro, rc, hvr, -⟩ := h2
      subst hvr
      obtain ⟨l, hl⟩ : ∃ l, lineL ws r = l := ⟨_, rfl⟩
      rw [hl] at L E1 hll
      obtain ⟨s, hs⟩ : ∃ s : ByteArray, (⟨l.toArray⟩ : ByteArray) = s := ⟨_, rfl⟩
      have hsl : s.data.toList = l := by rw [← hs]
      have hss : s.size ≤ 20000201 := by rw [Lib.size_eq, hsl]; exact hll
      rw [hs] at L
      rw [← hsl] at E1
      clear h1 hr hrm hfit et hl hs hsl hll
      go_wp2_with fail
      refine L.out.mono ?_
      rintro e w2 ⟨rfl, hb⟩
      have hI2 := isbF_below hI.out hb
      have hN2 := hN.out.below hb
      have hz2 := hb.size
      have HW2 := Lib.hid (hW.out.trans (hb.mono hzr))
      have WS := Lib.hid (WriteString_k B B _ s w2 hI2 (by rw [byteCells_len]; omega) (by omega))
      have HI2 := Lib.hid hI2
      have HN2 := Lib.hid hN2
      clear hb hI2 hN2 L
      go_wp2_with fail
      refine WS.out.mono ?_
      rintro e w3 ⟨rfl, hb4, hb5, hb6⟩
      have hN3 := HN2.out.kept HI2.out hb6
      have hb7 : Lib.byteCells (linesTo ws (rs.take k)) ++ Lib.strCells s = Lib.byteCells (linesTo ws (rs.take (k + 1))) := by
        rw [E1.out, byteCells_app, strCells_eq]
      rw [hb7] at hb4
      have HI3 := Lib.hid hb4.toIs
      have HN3 := Lib.hid hN3
      have HW3 := Lib.hid (HW2.out.trans hb5)
      clear hb4 hb5 hb6 hN3 hb7 WS
      go_wp2
      exact ⟨⟨k + 1, by go_num, by omega, HI3, HN3, HW3⟩, by simp [intOf]; omega⟩
    · have hk' : k = rs.length := by omega
      subst hk'
      have hI' := hI.out
      rw [List.take_length] at hI'
      have HL2 := HLL.out
      obtain ⟨l, hl⟩ : ∃ l, linesTo ws rs = l := ⟨_, rfl⟩
      rw [hl] at hI' HL2
      have HL3 := Lib.hid HL2
      have S := Lib.hid (Tryz.Builder_String_any_k B B l wr hI' (by omega))
      clear hI hI' hl HL2 HLL
      go_wp2_with fail
      refine S.out.mono ?_
      rintro e w1 ⟨rfl, -, hb, -⟩
      go_wp2
      go_ret
      exact ⟨by rw [HL3.out]; rfl, by rw [hBB]; exact hW.out.trans hb⟩
end Go.Proofs.YtjbnjlkoipkpoaaGreatDoor.T
