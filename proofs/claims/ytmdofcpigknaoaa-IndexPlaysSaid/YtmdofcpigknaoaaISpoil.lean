/- stanzakeepnum.Copies (fields in a row of their own) and Spoil (they are written over). -/
import Derived.Test.YtmdofcpigknaoaaIAsks
namespace Go.Proofs.Ytmdofcpigknaoaa.I
open Go Go.Maps Go.Proofs Go.RowKit Go.Sort Go.Shelf

/-- Fields in a row of their own. -/
def CopyO (fs : List Fld) (w : World) (e : Ending) (w' : World) : Prop :=
  ∃ v, e = .returned v ∧ w'.ownsRow w.heap.size 45 2 v fs.length (fs.flatMap fdc) ∧ Below w.heap.size w w'
set_option maxRecDepth 100000 in
set_option maxHeartbeats 1600000 in
theorem copiesO_some (v : Value) (fs : List Fld) (w : World) (h : FldsAt w v fs) (h0 : fs ≠ []) (hn1 : fs.length ≤ 1000000) :
    Calls Try.prog 10 #[v] w (CopyO fs w) := by
  obtain ⟨i0, hi0, hz0, hz1, hz2⟩ := info_parts infoF
  obtain ⟨g, o, c, rfl, hc⟩ := h.cells h0
  have hcl : ∀ j u, (fs.flatMap fdc)[j]? = some u → g < w.heap.size := fun j u hu => by have h1 := hc j u hu; rw [addr_add] at h1; exact World.block_lt_of_cell? _ _ h1
  have hlen := Lib.hid (fdc_len fs)
  have HC := Lib.hid hc
  have HL := Lib.hid hcl
  have H1 := Lib.hid (fdc_one fs)
  have hpos : 0 < fs.length := by cases fs with | nil => exact absurd rfl h0 | cons f r => simp
  clear hc hcl h h0
  go_enter Try.func10, Try.ntmps10
  have hm := World.ownsRow_made (base := w.heap.size) (e := 45) (size := 2) w #[] 0 (Nat.le_refl _) (Nat.zero_le _) rfl
  have hb1 : Below w.heap.size w (w.alloc (.cells #[] 45)) := (Below.refl _ _).alloc (Nat.le_refl _) _
  have HM := Lib.hid hm
  have HB1 := Lib.hid hb1
  clear hm hb1
  go_wp2_with (at_builtin; refine wpList_append_lies _ rfl _ _ _ rfl w.heap.size 45 i0 _ 2 32 Try.underlying30 hi0 hz0 hz1 hz2 rfl (by omega) (.slice (some ⟨w.heap.size, 0, none⟩) 0 0) 0 [] rfl HM.out ⟨g, o, none⟩ fs.length c (fs.flatMap fdc) rfl hlen.out (fun j u hu => by rw [HB1.out.cell (p := Addr.add ⟨g, o, none⟩ j) (by rw [addr_add]; exact HL.out j u hu)]; exact HC.out j u hu) H1.out hpos (by unfold maxLen; omega) (by omega) (by simp) _ rfl ?_; refine Hid.out ?_)
  refine Lib.hid ?_
  intro gg cap w1 hown1 hgrow hat hlt
  have hown1 := Lib.hid hown1
  have hgrow := Lib.hid hgrow
  have hat := Lib.hid hat
  go_wp2_with fail
  go_ret
  have hr : w1.ownsRow w.heap.size 45 2 (.slice (some ⟨gg, 0, none⟩) fs.length cap) fs.length (fs.flatMap fdc) := by simpa using hown1.out
  exact ⟨_, by simp [go_sem], hr, HB1.out.grown hgrow.out HB1.out.size (fun k hk => by cases hk; exact Nat.le_refl _)⟩
set_option maxRecDepth 100000 in
set_option maxHeartbeats 1600000 in
theorem copiesO_any (v : Value) (fs : List Fld) (w : World) (h : FldsAt w v fs) (hn1 : fs.length ≤ 1000000) :
    Calls Try.prog 10 #[v] w (CopyO fs w) := by
  by_cases h0 : fs = []
  · subst h0
    obtain ⟨ao, cp, rfl, -, -⟩ := h
    obtain ⟨i0, hi0, hz0, hz1, hz2⟩ := info_parts infoF
    have hm := World.ownsRow_made (base := w.heap.size) (e := 45) (size := 2) w #[] 0 (Nat.le_refl _) (Nat.zero_le _) rfl
    obtain ⟨w1, hw1⟩ : ∃ w1, w.alloc (.cells #[] 45) = w1 := ⟨_, rfl⟩
    have hb1 : Below w.heap.size w w1 := by rw [← hw1]; exact below_grow1 w _
    have hsrc : Src Try.prog i0.size 30 (.slice ao 0 cp) 0 [] w1 := by
      cases ao with
      | none => exact Src.ofNil _ Try.underlying30 cp
      | some a => exact Src.ofSlice _ Try.underlying30 a 0 cp [] (by simp) (fun j u hu => by simp at hu) (fun u hu => by simp at hu)
    have happ : ∀ ty, (Builtin.append_ #[30, 30] ty #[.slice (some ⟨w.heap.size, 0, none⟩) 0 0, .slice ao 0 cp]).run Try.prog w1 = .ok (.slice (some ⟨w.heap.size, 0, none⟩) 0 0) w1 := fun ty => run_append_nothing w1 _ _ ty _ i0 Try.underlying30 hi0 _ 0 0 (Nat.le_refl _) _ hsrc
    rw [← hw1] at happ
    rw [← hw1] at hb1
    have HM := Lib.hid hm
    have HB := Lib.hid hb1
    have HAP := Lib.hid happ
    clear hw1 hb1 hsrc hi0 hz0 hz1 hz2 happ hm
    go_enter Try.func10, Try.ntmps10
    go_wp2_with (at_builtin; refine wpList_append_eq rfl _ _ _ rfl rfl rfl HAP.out ?_; refine Hid.out ?_)
    refine Lib.hid ?_
    go_wp2_with fail
    go_ret
    exact ⟨_, by simp [go_sem], HM.out, HB.out⟩
  · exact copiesO_some v fs w h h0 hn1
theorem set_blk {W : World} {g o : Nat} {x : Value} {cu : Array Value} {T : TypeId} (h : W.heap[g]? = some (.cells cu T (0, 0))) : ∃ cu' : Array Value, (W.setCell ⟨g, o, none⟩ x).heap[g]? = some (.cells cu' T (0, 0)) ∧ cu'.size = cu.size := by
  obtain ⟨hlt, hk⟩ := Array.getElem?_eq_some_iff.1 h
  show ∃ cu' : Array Value, (W.heap.modify g _)[g]? = _ ∧ _
  rw [Array.getElem?_eq_getElem (by rw [Array.size_modify]; exact hlt), Array.getElem_modify_self, hk]
  exact ⟨_, rfl, by simp⟩
theorem upd_set {own : Nat → Prop} {w W : World} {g o : Nat} {x : Value} (h : Upd own w W) (hg : own g) : Upd own w (W.setCell ⟨g, o, none⟩ x) :=
  ⟨h.os, h.tape, h.output, by simpa using h.size, fun b h1 h2 => (Below.heap_setCell _ _ _ _ (fun e => h2 (by rw [e]; exact hg))).trans (h.block b h1 h2)⟩
def SPR (g n cap : Nat) (w : World) (i : Value) (wr : World) : Prop :=
  ∃ k : Nat, i = .int .i64 k ∧ k ≤ n ∧ Hid (∃ cur : Array Value, wr.heap[g]? = some (.cells cur 45 (0, 0)) ∧ cur.size = cap * 2) ∧ Hid (Upd (fun b => b = g) w wr)
set_option maxRecDepth 100000 in
set_option maxHeartbeats 1600000 in
/-- Fields of their own memory are written over: nothing else changes. -/
theorem spoil_any (base : Nat) (v : Value) (n : Nat) (xs : List Value) (w : World) (h : w.ownsRow base 45 2 v n xs) (hn : n ≤ 1000000) :
    Calls Try.prog 15 #[v] w fun e w' => e = .returned (.tuple #[]) ∧ Upd (fun b => v.ownBlock = some b) w w' := by
  rcases h.2 with ⟨rfl, h0⟩ | ⟨g, cap, cur, rfl, hb, hg, h1, h2, h3, -⟩
  · go_enter Try.func15, Try.ntmps15
    go_wp2_with fail
    refine wp_loop_rounds 1 ?_
    rw [rounds_succ]
    go_wp2_with fail
    go_end0
    exact ⟨rfl, Upd.refl _ _⟩
  · have hgl : g < w.heap.size := (Array.getElem?_eq_some_iff.1 hg).1
    have HG : Hid (∃ cur : Array Value, w.heap[g]? = some (.cells cur 45 (0, 0)) ∧ cur.size = cap * 2) := Lib.hid ⟨cur, hg, h3⟩
    clear hg hb h3 h h2
    go_enter Try.func15, Try.ntmps15
    go_wp2_with fail
    go_loopw [5] (fun i W => SPR g n cap w i W) (fun i _ => n - (iOf i).toNat)
    case atStart => exact ⟨0, rfl, Nat.zero_le _, HG, Lib.hid (Upd.refl _ _)⟩
    case round =>
      obtain ⟨k, rfl, hk, hC, hU⟩ := hrel
      by_cases hlt : k < n
      · obtain ⟨cu, hcu, hcz⟩ := hC.out
        have c0 : wr.cell? ⟨g, k * 2, none⟩ = some cu[k * 2]! := by
          have : k * 2 < cu.size := by omega
          simp [World.cell?, hcu, this]
        have c1 : wr.cell? ⟨g, k * 2 + 1, none⟩ = some cu[k * 2 + 1]! := by
          have : k * 2 + 1 < cu.size := by omega
          simp [World.cell?, hcu, this]
        have f0 : wr.frozen? ⟨g, k * 2, none⟩ = false := by simp [World.frozen?, hcu]
        have f1 : wr.frozen? ⟨g, k * 2 + 1, none⟩ = false := by simp [World.frozen?, hcu]
        have hgr : g < wr.heap.size := (Array.getElem?_eq_some_iff.1 hcu).1
        go_wp2_with fail
        obtain ⟨cu2, hcu2, hz2⟩ := set_blk (o := k * 2) (x := .string { data := #[115, 112, 111, 105, 108, 116] }) hcu
        obtain ⟨cu3, hcu3, hz3⟩ := set_blk (o := k * 2 + 1) (x := .string { data := #[115, 112, 111, 105, 108, 116] }) hcu2
        exact ⟨⟨k + 1, by go_num, by omega, Lib.hid ⟨cu3, hcu3, by omega⟩, Lib.hid (upd_set (upd_set hU.out rfl) rfl)⟩, by simp [iOf]; omega⟩
      · go_wp2_with fail
        go_end0
        refine ⟨rfl, hU.out.os, hU.out.tape, hU.out.output, hU.out.size, fun b h1 h2 => hU.out.block b h1 fun e => h2 ?_⟩
        subst e
        rfl
end Go.Proofs.Ytmdofcpigknaoaa.I
