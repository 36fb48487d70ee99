/- The plain law of the reference's Crash. A name gives its file to another name: Rename. A name is taken away: Remove. A file is cut: Cut. A file is cut: Cut. -/
import Derived.Test.YthfcmgbkhjnfjaaGreatDoorVL
import Derived.Test.YthfcmgbkhjnfjaaGreatDoorCrash
namespace Go.Proofs.YthfcmgbkhjnfjaaGreatDoor
open Go.RowKit Go.Maps

/-- The files behind a crash: their cells. -/
def crashFs (fs : List Fl) (ds : List Int) : List (ByteArray × Value) := fs.mapIdx fun i F => (F.behind (unitsAt ds i), .slice none 0 0)
theorem crashFs_len (fs : List Fl) (ds : List Int) : (crashFs fs ds).length = fs.length := by unfold crashFs; simp
theorem crashFs_get {fs : List Fl} {ds : List Int} {k : Nat} {F : Fl} (h : fs[k]? = some F) : (crashFs fs ds)[k]? = some (F.behind (unitsAt ds k), .slice none 0 0) := by unfold crashFs; simp [h]
theorem crashFs_succ {fs : List Fl} {ds : List Int} {k : Nat} {F : Fl} (h : fs[k]? = some F) : (crashFs fs ds).take (k + 1) = (crashFs fs ds).take k ++ [(F.behind (unitsAt ds k), .slice none 0 0)] := by
  rw [List.take_add_one, crashFs_get h]
  rfl
/-- What the reference asks for: a number below 0 keeps nothing. -/
theorem behind_units {F : Fl} (h : ∀ x ∈ F.waits, x.cut = true → 0 ≤ x.place) (ds : List Int) (k : Nat) (n : Int) (hn : n = match ds[k]? with | some d => d | none => 0) : bitsOn F.sure (F.bits.take n.toNat) = F.behind (unitsAt ds k) := by
  rw [Fl.behind_bits h]
  congr 1
  unfold unitsAt
  subst hn
  cases ds[k]? with
  | none => rfl
  | some d => show ((d.toNat : Nat) : Int) = max 0 d; omega
theorem RAt.crash {w wz : World} {D : Dk} {R : RL} (h : RAt w D R) (ok : D.Ok) (dir : Int) (ds : List Int) {us vf : Value} (hE : EntsAt wz us (playL R.ls (D.waits.take (cutN D dir)))) (hF : FilesAt wz vf (crashFs D.files ds)) (hA : ActsAt wz R.va D.acts) :
    RAt wz (D.crash dir ds) ⟨vf, us, .slice none 0 0, R.va, crashFs D.files ds, playL R.ls (D.waits.take (cutN D dir))⟩ where
  ff := hF
  len := by show (crashFs D.files ds).length = (crashFiles D.files ds D.files.length).length; rw [crashFs_len, crash_len]
  fb := by
    intro i F p hi hp
    have hi : (crashFiles D.files ds D.files.length)[i]? = some F := hi
    have hp : (crashFs D.files ds)[i]? = some p := hp
    unfold crashFiles at hi
    unfold crashFs at hp
    simp only [List.getElem?_mapIdx] at hi hp
    cases hg : D.files[i]? with
    | none => rw [hg] at hi; cases hi
    | some G =>
      rw [hg] at hi hp
      have hlt := (List.getElem?_eq_some_iff.1 hg).1
      simp only [Option.map_some, if_pos hlt] at hi hp
      injection hi with hi
      injection hp with hp
      subst hi hp
      exact ⟨rfl, World.ownsRow_nil _ _ _ _⟩
  ss := hE
  dir := by show play D.dir (D.waits.take (cutN D dir)) = _; rw [h.dir, playL_play _ h.null]
  null := playL_null _ h.null
  ww := World.ownsRow_nil _ _ _ _
  aa := hA
  pts := by
    show ∀ e ∈ playL R.ls (D.waits.take (cutN D dir)), e.2 < (crashFiles D.files ds D.files.length).length
    rw [crash_len]
    exact playL_pts _ h.pts fun m hm => ok.waits m (List.mem_of_mem_take hm)
theorem cutN_end {D : Dk} {dir : Int} {k : Nat} (h1 : k ≤ D.waits.length) (h2 : (k : Int) ≤ max 0 dir) (h3 : (decide (k < D.waits.length) && decide ((k : Int) < dir)) = false) : k = cutN D dir := by
  unfold cutN
  rcases Nat.lt_or_ge k D.waits.length with h | h
  · rw [decide_eq_true h, Bool.true_and] at h3
    have := of_decide_eq_false h3
    omega
  · omega
abbrev oBox (D : Dk) (f s : Value) (ao : Option Addr) (an ac : Nat) : Obj := .cells #[.int .i64 D.room, f, s, .slice none 0 0, .int .i64 D.units, .int .i64 D.left, .bool false, .bool false, .slice ao an ac] 37 (0, 0)
/-- Where the first loop stands. -/
def RC1 (w : World) (N : Nat) (D : Dk) (R : RL) (d : Array Value) (ao : Option Addr) (an ac : Nat) (dir : Int) (gg : Nat) (v8 : Value) (wr : World) : Prop :=
  ∃ (k : Nat) (uo : Option Addr) (un uc : Nat), v8 = .int .i64 k ∧ D.waits.length - k ≤ gg ∧ k ≤ D.waits.length ∧ (k : Int) ≤ max 0 dir ∧ Hid (Bx w N d wr ∧ wr.heap[N + 1 + 1]? = some (oBox D (.slice none 0 0) (.slice uo un uc) ao an ac) ∧ EntsAt wr (.slice uo un uc) (playL R.ls (D.waits.take k)))
/-- Where the second loop stands: from the world wx on. -/
def RC2 (wx : World) (N : Nat) (D : Dk) (s : Value) (ao : Option Addr) (an ac : Nat) (ds : List Int) (gg : Nat) (v9 : Value) (wr : World) : Prop :=
  ∃ (k : Nat) (fo : Option Addr) (fn fc : Nat), v9 = .int .i64 k ∧ D.files.length - k ≤ gg ∧ k ≤ D.files.length ∧ Hid (Below (N + 1 + 1) wx wr ∧ (∀ g, g < wx.heap.size → g ≠ N + 1 + 1 → wr.heap[g]? = wx.heap[g]?) ∧ wr.heap[N + 1 + 1]? = some (oBox D (.slice fo fn fc) s ao an ac) ∧ wr.ownsRow wx.heap.size 86 2 (.slice fo fn fc) k (((crashFs D.files ds).take k).flatMap filC))
/-- The file's row with one file more. -/
theorem file_push {W : World} {B : Nat} {fo : Option Addr} {fn fc : Nat} {fs : List (ByteArray × Value)} {n : Nat} (ho : W.ownsRow B 86 2 (.slice fo fn fc) n (fs.flatMap filC)) (hB : B ≤ W.heap.size) (hn : n ≤ 10000000) (s : ByteArray) : ∃ fo' fn' fc' w1,
    Hid ((Builtin.append_ #[32, 32] 32 #[.slice fo fn fc, .slice (some ⟨W.heap.size, 0, none⟩) 1 1]).run Tryz.prog (W.alloc (.cells #[.string s, .slice none 0 0] 86)) = .ok (.slice fo' fn' fc') w1) ∧
    Hid (Below B W w1 ∧ w1.ownsRow B 86 2 (.slice fo' fn' fc') (n + 1) ((fs ++ [(s, Value.slice none 0 0)]).flatMap filC)) := by
  obtain ⟨i0, hi0, hz0, hz1, hz2⟩ := info_parts infoRFile
  have bE : Below B W (W.alloc (.cells #[.string s, .slice none 0 0] 86)) := (Below.refl _ _).alloc hB _
  have hown : (W.alloc (.cells #[.string s, .slice none 0 0] 86)).ownsRow B 86 2 (.slice fo fn fc) n (fs.flatMap filC) :=
    ownsRow_of_block ho fun g hg => ((Below.refl W.heap.size W).alloc (Nat.le_refl _) (.cells #[.string s, .slice none 0 0] 86)).block g (ho.lt g hg).2
  obtain ⟨v1, w1, r1, o1, b1⟩ := push_run Tryz.underlying32 hi0 hz0 hz1 hz2 rfl (by omega) (W.alloc (.cells #[.string s, .slice none 0 0] 86)) B W.heap.size (.slice fo fn fc) n (fs.flatMap filC) (filC (s, .slice none 0 0)) hown (heap_alloc_new W _) rfl (by intro u hu; simp [filC] at hu; rcases hu with rfl | rfl <;> rfl) (by omega) (by omega) (by have := bE.size; omega)
  obtain ⟨fo', fc', rfl⟩ := own_shape0 o1
  refine ⟨fo', _, fc', w1, Lib.hid r1, Lib.hid ⟨bE.trans b1, ?_⟩⟩
  rw [List.flatMap_append, flatMap_one]
  exact o1
theorem own_box2 {W W' : World} {e T : TypeId} {size n x : Nat} {v : Value} {xs : List Value} {cs : Array Value} (h : W.ownsRow 0 e size v n xs) (hx : W.heap[x]? = some (.cells cs T (0, 0))) (hT : T ≠ e) (hk : ∀ g, g < W.heap.size → g ≠ x → W'.heap[g]? = W.heap[g]?) : W'.ownsRow 0 e size v n xs :=
  ownsRow_of_block h fun g hg => hk g (h.lt g hg).2 fun e' => by
    subst e'
    rcases h.2 with ⟨h1, -⟩ | ⟨g', c', cur, h1, h2, h3, -⟩
    · rw [h1] at hg; cases hg
    · rw [h1] at hg
      injection hg with hg
      subst hg
      rw [hx] at h3
      injection h3 with h3
      injection h3 with _ h3
      exact hT h3
theorem Bx.keep2 {w : World} {N : Nat} {d : Array Value} {W W' : World} (h : Bx w N d W) (hb : Below (N + 1 + 1) W W') : Bx w N d W' := h.keepM (Nat.lt_succ_self _) hb
/-- A file more in the new disk's row. -/
theorem crash_more {wx W w1 : World} {N : Nat} {D : Dk} {s : Value} {ao : Option Addr} {an ac : Nat} {ds : List Int} {k : Nat} {fo fo' : Option Addr} {fn fc fn' fc' : Nat} {F : Fl} (hF : D.files[k]? = some F) (hN : N + 1 + 1 < wx.heap.size)
    (h1 : Below (N + 1 + 1) wx W) (h2 : ∀ g, g < wx.heap.size → g ≠ N + 1 + 1 → W.heap[g]? = wx.heap[g]?) (h3 : W.heap[N + 1 + 1]? = some (oBox D (.slice fo fn fc) s ao an ac))
    (hb : Below wx.heap.size W w1) (ho : w1.ownsRow wx.heap.size 86 2 (.slice fo' fn' fc') (k + 1) (((crashFs D.files ds).take k ++ [(F.behind (unitsAt ds k), Value.slice none 0 0)]).flatMap filC)) :
    Below (N + 1 + 1) wx (w1.setCell ⟨N + 1 + 1, 1, none⟩ (.slice fo' fn' fc')) ∧ (∀ g, g < wx.heap.size → g ≠ N + 1 + 1 → (w1.setCell ⟨N + 1 + 1, 1, none⟩ (.slice fo' fn' fc')).heap[g]? = wx.heap[g]?) ∧
      (w1.setCell ⟨N + 1 + 1, 1, none⟩ (.slice fo' fn' fc')).heap[N + 1 + 1]? = some (oBox D (.slice fo' fn' fc') s ao an ac) ∧ (w1.setCell ⟨N + 1 + 1, 1, none⟩ (.slice fo' fn' fc')).ownsRow wx.heap.size 86 2 (.slice fo' fn' fc') (k + 1) (((crashFs D.files ds).take (k + 1)).flatMap filC) := by
  refine ⟨(h1.trans (hb.mono (Nat.le_of_lt hN))).setCell (Nat.le_refl _) _, fun g hg hne => ?_, set_one (i := 1) ((hb.block _ hN).trans h3) _ rfl, ?_⟩
  · exact (Below.heap_setCell _ _ _ _ hne).trans ((hb.block g hg).trans (h2 g hg hne))
  · rw [crashFs_succ hF]
    exact ownsRow_setCell_below ho hN _
/-- A name more: the new row is stored. -/
theorem move_more {w W w1 : World} {N : Nat} {d : Array Value} {D : Dk} {s0 v : Value} {ao : Option Addr} {an ac : Nat} {l : List Ent} (hx : Bx w N d W) (hbox : W.heap[N + 1 + 1]? = some (oBox D (.slice none 0 0) s0 ao an ac)) (hv : EntsAt w1 v l) (hb : Below W.heap.size W w1) :
    ∃ vo vn vc, v = .slice vo vn vc ∧ Hid (Bx w N d (w1.setCell ⟨N + 1 + 1, 2, none⟩ (.slice vo vn vc)) ∧ (w1.setCell ⟨N + 1 + 1, 2, none⟩ (.slice vo vn vc)).heap[N + 1 + 1]? = some (oBox D (.slice none 0 0) (.slice vo vn vc) ao an ac) ∧ EntsAt (w1.setCell ⟨N + 1 + 1, 2, none⟩ (.slice vo vn vc)) (.slice vo vn vc) l) ∧ w1.cell? ⟨N + 1 + 1, 2, none⟩ = some s0 ∧ w1.frozen? ⟨N + 1 + 1, 2, none⟩ = false := by
  obtain ⟨vo, vc, hv2⟩ := own_shape0 hv
  subst hv2
  have hbx := (hb.block (N + 1 + 1) (heap_size_of hbox)).trans hbox
  refine ⟨vo, _, vc, rfl, Lib.hid ⟨(hx.below hb).keep2 ((Below.refl (N + 1 + 1) w1).setCell (p := ⟨N + 1 + 1, 2, none⟩) (Nat.le_refl _) _), set_one (i := 2) hbx _ rfl, own_box hv hbx (by decide) fun g hg => Below.heap_setCell _ _ _ _ hg⟩, by simp [World.cell?, hbx], by simp [World.frozen?, hbx]⟩
theorem bits_place {F : Fl} (h : ∀ x ∈ F.waits, x.cut = true → 0 ≤ x.place) : ∀ b ∈ F.bits, b.cut = true → 0 ≤ b.place := by
  intro b hb hc
  unfold Fl.bits at hb
  obtain ⟨x, hx, hb⟩ := List.mem_flatMap.1 hb
  unfold Wt.bits at hb
  split at hb
  · rename_i hxc
    obtain rfl := List.mem_singleton.1 hb
    exact h x hx hxc
  · obtain ⟨c, -, rfl⟩ := List.mem_map.1 hb
    cases hc
/-- A round of the second loop: the append's run, and what stands behind the store. -/
theorem crash_round {wx W w1 : World} {N : Nat} {D : Dk} {s : Value} {ao : Option Addr} {an ac : Nat} {ds : List Int} {k : Nat} {fo : Option Addr} {fn fc : Nat} {F : Fl} {x : ByteArray} (hF : D.files[k]? = some F) (hx : F.behind (unitsAt ds k) = x) (hN : N + 1 + 1 < wx.heap.size)
    (h : Below (N + 1 + 1) wx W ∧ (∀ g, g < wx.heap.size → g ≠ N + 1 + 1 → W.heap[g]? = wx.heap[g]?) ∧ W.heap[N + 1 + 1]? = some (oBox D (.slice fo fn fc) s ao an ac) ∧ W.ownsRow wx.heap.size 86 2 (.slice fo fn fc) k (((crashFs D.files ds).take k).flatMap filC))
    (hk : k ≤ 1000000) (hb : Below W.heap.size W w1) :
    ∃ w2 fo' fn' fc', Hid ((Builtin.append_ #[32, 32] 32 #[.slice fo fn fc, .slice (some ⟨w1.heap.size, 0, none⟩) 1 1]).run Tryz.prog (w1.alloc (.cells #[.string x, .slice none 0 0] 86)) = .ok (.slice fo' fn' fc') w2) ∧
      Hid (Below (N + 1 + 1) wx (w2.setCell ⟨N + 1 + 1, 1, none⟩ (.slice fo' fn' fc')) ∧ (∀ g, g < wx.heap.size → g ≠ N + 1 + 1 → (w2.setCell ⟨N + 1 + 1, 1, none⟩ (.slice fo' fn' fc')).heap[g]? = wx.heap[g]?) ∧
      (w2.setCell ⟨N + 1 + 1, 1, none⟩ (.slice fo' fn' fc')).heap[N + 1 + 1]? = some (oBox D (.slice fo' fn' fc') s ao an ac) ∧ (w2.setCell ⟨N + 1 + 1, 1, none⟩ (.slice fo' fn' fc')).ownsRow wx.heap.size 86 2 (.slice fo' fn' fc') (k + 1) (((crashFs D.files ds).take (k + 1)).flatMap filC)) ∧
      w1.cell? ⟨N + 1 + 1, 1, none⟩ = some (.slice fo fn fc) ∧ w2.cell? ⟨N + 1 + 1, 1, none⟩ = some (.slice fo fn fc) ∧ w2.frozen? ⟨N + 1 + 1, 1, none⟩ = false ∧ N + 1 + 1 < w1.heap.size := by
  obtain ⟨h1, h2, h3, h4⟩ := h
  have hW : wx.heap.size ≤ W.heap.size := h1.size
  have h4' := ownsRow_of_block (w' := w1) h4 fun g hg => hb.block g (h4.lt g hg).2
  obtain ⟨fo', fn', fc', w2, R1, HO⟩ := file_push h4' (Nat.le_trans hW hb.size) (by omega) x
  have hb2 : Below wx.heap.size W w2 := (hb.mono hW).trans HO.out.1
  have o1 := (hb.block _ (heap_size_of h3)).trans h3
  have o2 := (hb2.block _ hN).trans h3
  refine ⟨w2, fo', fn', fc', R1, Lib.hid (crash_more hF hN h1 h2 h3 hb2 (by rw [hx]; exact HO.out.2)), by simp [World.cell?, o1], by simp [World.cell?, o2], by simp [World.frozen?, o2], heap_size_of o1⟩
/-- A method that answers a disk alone. -/
def RefV (D' : Dk) (w : World) (e : Ending) (w' : World) : Prop := ∃ S : Sh, e = .returned (dv D' S) ∧ IsD w' D' S ∧ Below w.heap.size w w'
end Go.Proofs.YthfcmgbkhjnfjaaGreatDoor

namespace Go.Proofs.YthfcmgbkhjnfjaaGreatDoor
open Go.RowKit Go.Maps
attribute [local go_sem ↓] Go.wp_at_zero Go.wp_at_succ

/-- The disk behind Rename, and its error. -/
def Dk.renamed (D : Dk) (s t : ByteArray) : Dk := ((if s = t then D.spend 1 else (D.spend 1).moved ⟨t, s, D.idx s⟩)).did ⟨5, s, t, ⟨#[]⟩, 0⟩
def Dk.rename (D : Dk) (s t : ByteArray) : Nat × Dk :=
  if D.askedN [s, t] ≠ 0 then (D.askedN [s, t], D) else if Maps.has D.dirOf (nameK s) = false then (7, D) else
  if D.spent 1 < 1 then (3, D.spend 1) else (0, D.renamed s t)
theorem names_two (w : World) (s t : ByteArray) (hs : s.size ≤ 9223372036854775807) (ht : t.size ≤ 9223372036854775807) : NamesAt (w.alloc (.cells #[.string s, .string t] 9)) (.slice (some ⟨w.heap.size, 0, none⟩) 2 2) [s, t] :=
  ⟨_, _, rfl, by simp, by simpa using ⟨hs, ht⟩, fun k x hx => by
    match k, hx with
    | 0, hx => simp at hx; subst hx; exact ⟨_, 0, rfl, by simp, World.cell?_alloc_new _ _ _ _⟩
    | 1, hx => simp at hx; subst hx; exact ⟨_, 0, rfl, by simp, World.cell?_alloc_new _ _ _ _⟩
    | k + 2, hx => simp at hx⟩
set_option maxHeartbeats 1600000 in
set_option maxRecDepth 20000 in
theorem rename_any (s t : ByteArray) (hs : s.size ≤ 1000) (ht : t.size ≤ 1000) (w : World) (ρ : Col) (b : Nat) (D : Dk) (L : Lay) (h : DiskAt w ρ b D L) (ok : D.Ok) :
    Calls Tryz.prog 19 #[.pointer (some ⟨b, 0, none⟩), .string s, .string t] w fun e w' => e = .returned (errV (D.rename s t).1) ∧ Turned w ρ b (D.rename s t).2 w' := by
  have hb := h.blk.lt
  have c3 := h.cells.c3
  have hB1 : Below w.heap.size w (w.alloc (.cells #[.string s, .string t] 9)) := (Below.refl _ _).alloc (Nat.le_refl _) _
  have A0 := asked_any _ [s, t] _ (names_two w s t (by omega) (by omega)) b D (by simp; omega) ((hB1.cell (p := ⟨b, 3, none⟩) hb).trans c3)
  have HD := Lib.hid h
  have OK := Lib.hid ok
  have HB1 := Lib.hid hB1
  unfold Dk.rename
  by_cases hk0 : D.askedN [s, t] = 0
  · rw [if_neg (by omega)]
    rw [hk0, show errV 0 = .nilIface from rfl] at A0
    have A' := Lib.hid A0
    have kt := Lib.hid (WideMaps.keyOf_string_mk (P := Tryz.prog) (k := 9) Tryz.underlying9 (s := s) (by unfold maxLen; omega))
    have hpts := (play_points D.waits D.dir (h.map.1.tidy keyed) ok.points ok.waits).1
    cases hh : Maps.has D.dirOf (nameK s) with
    | false =>
      rw [if_pos rfl]
      have HH := Lib.hid hh
      clear h ok A0 hk0 hB1 hh hpts c3 hb
      go_enter Tryz.func19, Tryz.ntmps19
      go_wp2_with fail
      refine A'.out.mono ?_
      rintro e w2 ⟨rfl, b2⟩
      have hb2 : Hid (Below w.heap.size w w2) := Lib.hid (HB1.out.trans (b2.mono HB1.out.size))
      clear b2
      have D2 := Lib.hid (dir_any w2 ρ b D L (HD.out.below hb2.out) (by have := OK.out.names; omega) (by have := OK.out.many; omega) OK.out.fits)
      go_wp2_with fail
      refine D2.out.mono ?_
      rintro e w3 ⟨rfl, h3, b3⟩
      have H3 := Lib.hid h3
      have hb3 : Hid (Below w.heap.size w w3) := Lib.hid (hb2.out.trans (b3.mono hb2.out.size))
      clear h3 b3
      go_wp2_with (at_lookup; refine wpList_lookup_own_ok_int _ rfl _ _ 64 rfl 9 3 .i64 keyed Tryz.underlying64 Tryz.underlying3 (zeroI _) _ _ _ rfl H3.out _ _ rfl kt.out ?_; intro c hat hwc; rw [show Maps.has D.dirOf (.string s.data.toList) = false from HH.out]; clear hat hwc)
      go_ret
      exact ⟨rfl, Turned.same ⟨L, HD.out⟩ hb3.out⟩
    | true =>
      rw [if_neg (by simp)]
      obtain ⟨i, hi, hz⟩ := hpts _ hh
      have hidx : D.idx s = i := by unfold Dk.idx Dk.dirOf; rw [hz]; simp
      have HH := Lib.hid hh
      have HI := Lib.hid hz
      have hil : i ≤ 1000000 := by have := ok.lots; omega
      unfold Dk.renamed
      rw [hidx]
      clear h ok A0 hk0 hB1 hh hpts c3 hb hz hidx hi
      by_cases hsp : D.spent 1 < 1
      · rw [if_pos hsp]
        go_enter Tryz.func19, Tryz.ntmps19
        go_wp2_with fail
        refine A'.out.mono ?_
        rintro e w2 ⟨rfl, b2⟩
        have hb2 : Hid (Below w.heap.size w w2) := Lib.hid (HB1.out.trans (b2.mono HB1.out.size))
        clear b2
        have D2 := Lib.hid (dir_any w2 ρ b D L (HD.out.below hb2.out) (by have := OK.out.names; omega) (by have := OK.out.many; omega) OK.out.fits)
        go_wp2_with fail
        refine D2.out.mono ?_
        rintro e w3 ⟨rfl, h3, b3⟩
        have H3 := Lib.hid h3
        have hb3 : Hid (Below w.heap.size w w3) := Lib.hid (hb2.out.trans (b3.mono hb2.out.size))
        clear h3 b3
        have S0 := step_any w3 ρ b D L (HD.out.below hb3.out) OK.out.units0 (by have := OK.out.units1; omega) OK.out.left0 OK.out.left1
        rw [if_pos hsp] at S0
        have S : Hid (Calls Tryz.prog 50 #[.pointer (some ⟨b, 0, none⟩)] w3 fun e w' => e = .returned (.iface 31 (.int .i64 3)) ∧ DiskAt w' ρ b (D.spend 1) L ∧ Kept (Only 0 ρ) w3 w') := Lib.hid S0
        clear S0
        go_wp2_with (at_lookup; refine wpList_lookup_own_ok_int _ rfl _ _ 64 rfl 9 3 .i64 keyed Tryz.underlying64 Tryz.underlying3 (zeroI _) _ _ _ rfl H3.out _ _ rfl kt.out ?_; intro c hat hwc; rw [show Maps.has D.dirOf (.string s.data.toList) = true from HH.out]; rw [show D.dirOf.atKey (.string s.data.toList) (.lit (.int .i64 0)) = .lit (.int .i64 i) from HI.out _] at hat; cases hat; clear hwc)
        refine S.out.mono ?_
        rintro e w4 ⟨rfl, d2, k2⟩
        have D4 := Lib.hid d2
        have K4 := Lib.hid k2
        clear d2 k2
        go_wp2_with fail
        go_ret
        exact ⟨rfl, Turned.of0 hb3.out D4.out K4.out⟩
      · rw [if_neg hsp]
        generalize hD1 : (if s = t then D.spend 1 else (D.spend 1).moved ⟨t, s, i⟩) = D1
        have HD1 := Lib.hid hD1
        clear hD1
        obtain ⟨i0, hi0, hz0, hz1, hz2⟩ := info_parts infoE
        have hmany := OK.out.many
        go_enter Tryz.func19, Tryz.ntmps19
        go_wp2_with fail
        refine A'.out.mono ?_
        rintro e w2 ⟨rfl, b2⟩
        have hb2 : Hid (Below w.heap.size w w2) := Lib.hid (HB1.out.trans (b2.mono HB1.out.size))
        clear b2
        have D2 := Lib.hid (dir_any w2 ρ b D L (HD.out.below hb2.out) (by have := OK.out.names; omega) (by have := OK.out.many; omega) OK.out.fits)
        go_wp2_with fail
        refine D2.out.mono ?_
        rintro e w3 ⟨rfl, h3, b3⟩
        have H3 := Lib.hid h3
        have hb3 : Hid (Below w.heap.size w w3) := Lib.hid (hb2.out.trans (b3.mono hb2.out.size))
        clear h3 b3
        have S0 := step_any w3 ρ b D L (HD.out.below hb3.out) OK.out.units0 (by have := OK.out.units1; omega) OK.out.left0 OK.out.left1
        rw [if_neg (by omega)] at S0
        have S : Hid (Calls Tryz.prog 50 #[.pointer (some ⟨b, 0, none⟩)] w3 fun e w' => e = .returned .nilIface ∧ DiskAt w' ρ b (D.spend 1) L ∧ Kept (Only 0 ρ) w3 w') := Lib.hid S0
        clear S0
        go_wp2_with (at_lookup; refine wpList_lookup_own_ok_int _ rfl _ _ 64 rfl 9 3 .i64 keyed Tryz.underlying64 Tryz.underlying3 (zeroI _) _ _ _ rfl H3.out _ _ rfl kt.out ?_; intro c hat hwc; rw [show Maps.has D.dirOf (.string s.data.toList) = true from HH.out]; rw [show D.dirOf.atKey (.string s.data.toList) (.lit (.int .i64 0)) = .lit (.int .i64 i) from HI.out _] at hat; cases hat; clear hwc)
        refine S.out.mono ?_
        rintro e w4 ⟨rfl, d2, k2⟩
        have D4 := Lib.hid d2
        have KW : Hid (Kept ρ w w4) := Lib.hid ((Kept.below hb3.out).then k2.wide)
        by_cases hst : s = t
        · obtain rfl : D.spend 1 = D1 := by rw [← HD1.out, if_pos hst]
          subst hst
          clear d2 k2 hi0 hz0 hz1 hz2 HD1
          go_wp2_with fail
          refine (did_any ⟨5, s, s, ⟨#[]⟩, 0⟩ _ ρ b _ L D4.out (Nat.le_trans OK.out.acts (by omega))).mono ?_
          rintro e w7 ⟨rfl, T7⟩
          have T7' := Lib.hid (Turned.next (Ext.refl _ _) KW.out T7)
          clear T7
          go_wp2_with fail
          go_ret
          exact ⟨rfl, T7'.out⟩
        · obtain rfl : (D.spend 1).moved ⟨t, s, i⟩ = D1 := by rw [← HD1.out, if_neg hst]
          have hst0 : ¬ s.toList = t.toList := fun e => hst (ByteArray.ext (Array.toList_inj.mp (by rw [← Lib.toList_data, ← Lib.toList_data]; exact e)))
          have hst' : (s.toList == t.toList) = false := by simpa using hst0
          obtain ⟨fo, fc, hvf⟩ := d2.rowF.shape
          have hb := d2.blk.lt
          have c7 := d2.cells.c7
          have f7 := d2.cells.f7
          have hown := d2.rowW.1
          have hmany2 : (D.spend 1).waits.length ≤ 1000000 := hmany
          have hne : L.vw.ownBlock ≠ some b := fun e => by have := d2.rowW.2 b e; rw [d2.blk.2] at this; cases this
          clear d2 k2 hvf fo fc HD1
          go_wp2_with (at_builtin; refine wpList_append_lies _ rfl _ _ _ rfl 0 95 i0 _ 3 40 Tryz.underlying68 hi0 hz0 hz1 hz2 rfl (by omega) L.vw (D.spend 1).waits.length ((D.spend 1).waits.flatMap En.cells) rfl (hown.alloc _) ⟨w4.heap.size, 0, none⟩ 1 1 (En.cells ⟨t, s, i⟩) rfl rfl (World.news_of_block (cs := (En.cells ⟨t, s, i⟩).toArray) (t := 95) (fr := (0, 0)) (heap_alloc_new w4 _)) (by simp [En.cells, Value.oneCell']) (by omega) (by unfold maxLen; omega) (by omega) (by simp) (w4.heap.size + 1) (by simp) ?_; intro gg cap w5 hown1 hgrow hat hlt; refine Hid.out ?_)
          refine Lib.hid ?_
          have hbel : Below w4.heap.size w4 (w4.alloc (.cells (En.cells ⟨t, s, i⟩).toArray 95)) := (Below.refl _ _).alloc (Nat.le_refl _) _
          have g7 : w5.frozen? ⟨b, 7, none⟩ = false := (hgrow.frozen_far _ (by simp; omega) (Ne.symm hne)).trans ((hbel.frozen (p := ⟨b, 7, none⟩) hb).trans f7)
          have k7 : w5.cell? ⟨b, 7, none⟩ = some L.vw := (hgrow.cell_far _ (by simp; omega) (Ne.symm hne)).trans ((hbel.cell (p := ⟨b, 7, none⟩) hb).trans c7)
          have T3 := turned_waits (x := ⟨t, s, i⟩) D4.out hbel hown1 hgrow (by rcases hat with hat | hat; exact .inl hat; exact .inr (by rw [hat]; simp)) hlt
          have T3' := Lib.hid T3
          clear T3 hown1 hgrow hat hlt c7 f7 hown hne hmany2 hi0 hz0 hz1 hz2 hbel
          go_wp2_with fail
          obtain ⟨ρ5, ⟨L5, d5⟩, e5, k5⟩ := T3'.out
          refine (did_any ⟨5, s, t, ⟨#[]⟩, 0⟩ _ ρ5 b _ L5 d5 (Nat.le_trans OK.out.acts (by omega))).mono ?_
          rintro e w7 ⟨rfl, T7⟩
          have T7' := Lib.hid (Turned.next (Ext.refl _ _) KW.out (Turned.next e5 k5 T7))
          clear T7 d5 e5 k5 T3'
          go_wp2_with fail
          go_ret
          exact ⟨rfl, T7'.out⟩
  · rw [if_pos hk0]
    rw [errV_pos hk0] at A0
    have A' := Lib.hid A0
    have EV := Lib.hid (errV_pos hk0)
    clear A0 h ok hk0 hB1 c3 hb
    go_enter Tryz.func19, Tryz.ntmps19
    go_wp2_with fail
    refine A'.out.mono ?_
    rintro e w2 ⟨rfl, b2⟩
    have hb2 : Hid (Below w.heap.size w w2) := Lib.hid (HB1.out.trans (b2.mono HB1.out.size))
    clear b2
    go_wp2_with fail
    go_ret
    exact ⟨by rw [EV.out]; rfl, Turned.same ⟨L, HD.out⟩ hb2.out⟩
end Go.Proofs.YthfcmgbkhjnfjaaGreatDoor

namespace Go.Proofs.YthfcmgbkhjnfjaaGreatDoor
open Go.RowKit Go.Maps
attribute [local go_sem ↓] Go.wp_at_zero Go.wp_at_succ

def Dk.remove (D : Dk) (s : ByteArray) : Nat × Dk :=
  if D.fileN s ≠ 0 then (D.fileN s, D) else if D.spent 1 < 1 then (3, D.spend 1) else (0, ((D.spend 1).moved ⟨⟨#[]⟩, s, 0⟩).did ⟨6, s, ⟨#[]⟩, ⟨#[]⟩, 0⟩)
set_option maxHeartbeats 1600000 in
set_option maxRecDepth 20000 in
theorem remove_any (s : ByteArray) (hs : s.size ≤ 1000) (w : World) (ρ : Col) (b : Nat) (D : Dk) (L : Lay) (h : DiskAt w ρ b D L) (ok : D.Ok) :
    Calls Tryz.prog 20 #[.pointer (some ⟨b, 0, none⟩), .string s] w fun e w' => e = .returned (errV (D.remove s).1) ∧ Turned w ρ b (D.remove s).2 w' := by
  have HD := Lib.hid h
  have OK := Lib.hid ok
  by_cases h0 : D.fileN s = 0
  · obtain ⟨h1, h2, f, F, h3, h4, h5⟩ := file_found' h ok h0
    have C := Lib.hid (file_ok s hs w ρ b D L h ok h1 h2 _ h5 f h3)
    by_cases hsp : D.spent 1 < 1
    · have hr : Hid (D.remove s = (3, D.spend 1)) := Lib.hid (by unfold Dk.remove; rw [if_neg (by omega), if_pos hsp])
      rw [hr.out]
      clear h ok h0 h1 h2 h3 h4 h5
      go_enter Tryz.func20, Tryz.ntmps20
      go_wp2_with fail
      refine C.out.mono ?_
      rintro e w1 ⟨rfl, b1⟩
      have B1 := Lib.hid b1
      have S0 := step_any w1 ρ b D L (HD.out.below b1) OK.out.units0 (by have := OK.out.units1; omega) OK.out.left0 OK.out.left1
      rw [if_pos hsp] at S0
      have S : Hid (Calls Tryz.prog 50 #[.pointer (some ⟨b, 0, none⟩)] w1 fun e w' => e = .returned (.iface 31 (.int .i64 3)) ∧ DiskAt w' ρ b (D.spend 1) L ∧ Kept (Only 0 ρ) w1 w') := Lib.hid S0
      clear b1 S0
      go_wp2_with fail
      refine S.out.mono ?_
      rintro e w2 ⟨rfl, d2, k2⟩
      have D2 := Lib.hid d2
      have K2 := Lib.hid k2
      clear d2 k2
      go_wp2_with fail
      go_ret
      exact ⟨rfl, Turned.of0 B1.out D2.out K2.out⟩
    · have hr : Hid (D.remove s = (0, ((D.spend 1).moved ⟨⟨#[]⟩, s, 0⟩).did ⟨6, s, ⟨#[]⟩, ⟨#[]⟩, 0⟩)) := Lib.hid (by unfold Dk.remove; rw [if_neg (by omega), if_neg hsp])
      rw [hr.out]
      obtain ⟨i0, hi0, hz0, hz1, hz2⟩ := info_parts infoE
      have hmany := OK.out.many
      clear h ok h0 h1 h2 h3 h4 h5
      go_enter Tryz.func20, Tryz.ntmps20
      go_wp2_with fail
      refine C.out.mono ?_
      rintro e w1 ⟨rfl, b1⟩
      have B1 := Lib.hid b1
      have S0 := step_any w1 ρ b D L (HD.out.below b1) OK.out.units0 (by have := OK.out.units1; omega) OK.out.left0 OK.out.left1
      rw [if_neg (by omega)] at S0
      have S : Hid (Calls Tryz.prog 50 #[.pointer (some ⟨b, 0, none⟩)] w1 fun e w' => e = .returned .nilIface ∧ DiskAt w' ρ b (D.spend 1) L ∧ Kept (Only 0 ρ) w1 w') := Lib.hid S0
      clear b1 S0
      go_wp2_with fail
      refine S.out.mono ?_
      rintro e w4 ⟨rfl, d2, k2⟩
      have D4 := Lib.hid d2
      have KW : Hid (Kept ρ w w4) := Lib.hid ((Kept.below B1.out).then k2.wide)
      have hb := d2.blk.lt
      have c7 := d2.cells.c7
      have f7 := d2.cells.f7
      have hown := d2.rowW.1
      have hmany2 : (D.spend 1).waits.length ≤ 1000000 := hmany
      have hne : L.vw.ownBlock ≠ some b := fun e => by have := d2.rowW.2 b e; rw [d2.blk.2] at this; cases this
      clear d2 k2
      go_wp2_with (at_builtin; refine wpList_append_lies _ rfl _ _ _ rfl 0 95 i0 _ 3 40 Tryz.underlying68 hi0 hz0 hz1 hz2 rfl (by omega) L.vw (D.spend 1).waits.length ((D.spend 1).waits.flatMap En.cells) rfl (hown.alloc _) ⟨w4.heap.size, 0, none⟩ 1 1 (En.cells ⟨⟨#[]⟩, s, 0⟩) rfl rfl (World.news_of_block (cs := (En.cells ⟨⟨#[]⟩, s, 0⟩).toArray) (t := 95) (fr := (0, 0)) (heap_alloc_new w4 _)) (by simp [En.cells, Value.oneCell']) (by omega) (by unfold maxLen; omega) (by omega) (by simp) (w4.heap.size + 1) (by simp) ?_; intro gg cap w5 hown1 hgrow hat hlt; refine Hid.out ?_)
      refine Lib.hid ?_
      have hbel : Below w4.heap.size w4 (w4.alloc (.cells (En.cells ⟨⟨#[]⟩, s, 0⟩).toArray 95)) := (Below.refl _ _).alloc (Nat.le_refl _) _
      have g7 : w5.frozen? ⟨b, 7, none⟩ = false := (hgrow.frozen_far _ (by simp; omega) (Ne.symm hne)).trans ((hbel.frozen (p := ⟨b, 7, none⟩) hb).trans f7)
      have k7 : w5.cell? ⟨b, 7, none⟩ = some L.vw := (hgrow.cell_far _ (by simp; omega) (Ne.symm hne)).trans ((hbel.cell (p := ⟨b, 7, none⟩) hb).trans c7)
      have T3 := turned_waits (x := ⟨⟨#[]⟩, s, 0⟩) D4.out hbel hown1 hgrow (by rcases hat with hat | hat; exact .inl hat; exact .inr (by rw [hat]; simp)) hlt
      have T3' := Lib.hid T3
      clear T3 hown1 hgrow hat hlt c7 f7 hown hne hmany2 hi0 hz0 hz1 hz2 hbel
      go_wp2_with fail
      obtain ⟨ρ5, ⟨L5, d5⟩, e5, k5⟩ := T3'.out
      refine (did_any ⟨6, s, ⟨#[]⟩, ⟨#[]⟩, 0⟩ _ ρ5 b _ L5 d5 (Nat.le_trans OK.out.acts (by omega))).mono ?_
      rintro e w7 ⟨rfl, T7⟩
      have T7' := Lib.hid (Turned.next (Ext.refl _ _) KW.out (Turned.next e5 k5 T7))
      clear T7 d5 e5 k5 T3'
      go_wp2_with fail
      go_ret
      exact ⟨rfl, T7'.out⟩
  · have C0 := file_err s hs w ρ b D L h ok h0
    rw [errV_pos h0] at C0
    have C := Lib.hid C0
    have hr : Hid (D.remove s = (D.fileN s, D)) := Lib.hid (by unfold Dk.remove; rw [if_pos h0])
    rw [hr.out]
    have EV := Lib.hid (errV_pos h0)
    clear h ok h0 C0
    go_enter Tryz.func20, Tryz.ntmps20
    go_wp2_with fail
    refine C.out.mono ?_
    rintro e w1 ⟨rfl, b1⟩
    have B1 := Lib.hid b1
    clear b1
    go_wp2_with fail
    go_ret
    exact ⟨by rw [EV.out]; rfl, Turned.same ⟨L, HD.out⟩ B1.out⟩
end Go.Proofs.YthfcmgbkhjnfjaaGreatDoor

namespace Go.Proofs.YthfcmgbkhjnfjaaGreatDoor
open Go.RowKit Go.Maps
attribute [local go_sem ↓] Go.wp_at_zero Go.wp_at_succ

def Dk.cutFile (D : Dk) (s : ByteArray) (n : Int) : Nat × Dk :=
  if D.fileN s ≠ 0 then (D.fileN s, D) else if n < 0 ∨ (D.text s).size < n then (1, D) else
  if D.spent 1 < 1 then (3, D.spend 1) else (0, ((D.spend 1).setFile (D.idx s) ((D.fileAt s).push ⟨⟨#[]⟩, n, true⟩)).did ⟨3, s, ⟨#[]⟩, ⟨#[]⟩, n⟩)
set_option maxHeartbeats 1600000 in
set_option maxRecDepth 20000 in
theorem cut_any (s : ByteArray) (hs : s.size ≤ 1000) (n : Int) (w : World) (ρ : Col) (b : Nat) (D : Dk) (L : Lay) (h : DiskAt w ρ b D L) (ok : D.Ok) :
    Calls Tryz.prog 17 #[.pointer (some ⟨b, 0, none⟩), .string s, .int .i64 n] w fun e w' => e = .returned (errV (D.cutFile s n).1) ∧ Turned w ρ b (D.cutFile s n).2 w' := by
  have HD := Lib.hid h
  have OK := Lib.hid ok
  by_cases h0 : D.fileN s = 0
  · obtain ⟨h1, h2, f, F, h3, h4, h5⟩ := file_found' h ok h0
    have C := Lib.hid (file_ok s hs w ρ b D L h ok h1 h2 _ h5 f h3)
    have hFok := ok.files F (List.mem_of_getElem? h4)
    have htx : D.text s = F.seen := by unfold Dk.text; rw [h4]
    have hFA : D.fileAt s = F := by unfold Dk.fileAt; rw [List.getD_eq_getElem?_getD, h4]; rfl
    have hsz : F.seen.size ≤ 10000000 := Nat.le_trans (F.behind_size (-1)) hFok.mass
    have H3 := Lib.hid h3
    have H4 := Lib.hid h4
    have HF := Lib.hid hFok
    by_cases hneg : n < 0
    · have hr : Hid (D.cutFile s n = (1, D)) := Lib.hid (by unfold Dk.cutFile; rw [if_neg (by omega), if_pos (.inl hneg)])
      rw [hr.out]
      clear h ok h0 h1 h2 h3 h4 h5 hFok htx hFA
      go_enter Tryz.func17, Tryz.ntmps17
      go_wp2_with fail
      refine C.out.mono ?_
      rintro e w1 ⟨rfl, b1⟩
      have B1 := Lib.hid b1
      clear b1
      go_wp2_with fail
      go_ret
      exact ⟨rfl, Turned.same ⟨L, HD.out⟩ B1.out⟩
    · by_cases hbig : (F.seen.size : Int) < n
      · have hr : Hid (D.cutFile s n = (1, D)) := Lib.hid (by unfold Dk.cutFile; rw [if_neg (by omega), if_pos (.inr (by rw [htx]; exact hbig))])
        rw [hr.out]
        clear h ok h0 h1 h2 h3 h4 h5 hFok htx hFA
        go_enter Tryz.func17, Tryz.ntmps17
        go_wp2_with fail
        refine C.out.mono ?_
        rintro e w1 ⟨rfl, b1⟩
        have B1 := Lib.hid b1
        have R2 := Lib.hid (seen_any w1 ρ _ f F ((HD.out.below b1).files _ f F H3.out H4.out) HF.out)
        clear b1
        go_wp2_with fail
        refine R2.out.mono ?_
        rintro e w2 ⟨rfl, b2⟩
        have B2 : Hid (Below w.heap.size w w2) := Lib.hid (B1.out.trans (b2.mono B1.out.size))
        clear b2
        go_wp2_with fail
        go_ret
        exact ⟨rfl, Turned.same ⟨L, HD.out⟩ B2.out⟩
      · have hin : ¬ (n < 0 ∨ ((D.text s).size : Int) < n) := by rw [htx]; omega
        have hn0 : 0 ≤ n := by omega
        have hn1 : n ≤ F.seen.size := by omega
        by_cases hsp : D.spent 1 < 1
        · have hr : Hid (D.cutFile s n = (3, D.spend 1)) := Lib.hid (by unfold Dk.cutFile; rw [if_neg (by omega), if_neg hin, if_pos hsp])
          rw [hr.out]
          clear h ok h0 h1 h2 h3 h4 h5 hFok htx hFA hin hneg hbig
          go_enter Tryz.func17, Tryz.ntmps17
          go_wp2_with fail
          refine C.out.mono ?_
          rintro e w1 ⟨rfl, b1⟩
          have B1 := Lib.hid b1
          have R2 := Lib.hid (seen_any w1 ρ _ f F ((HD.out.below b1).files _ f F H3.out H4.out) HF.out)
          clear b1
          go_wp2_with fail
          refine R2.out.mono ?_
          rintro e w2 ⟨rfl, b2⟩
          have B2 : Hid (Below w.heap.size w w2) := Lib.hid (B1.out.trans (b2.mono B1.out.size))
          clear b2
          have S0 := step_any w2 ρ b D L (HD.out.below B2.out) OK.out.units0 (by have := OK.out.units1; omega) OK.out.left0 OK.out.left1
          rw [if_pos hsp] at S0
          have S : Hid (Calls Tryz.prog 50 #[.pointer (some ⟨b, 0, none⟩)] w2 fun e w' => e = .returned (.iface 31 (.int .i64 3)) ∧ DiskAt w' ρ b (D.spend 1) L ∧ Kept (Only 0 ρ) w2 w') := Lib.hid S0
          clear S0
          go_wp2_with fail
          refine S.out.mono ?_
          rintro e w3 ⟨rfl, d2, k2⟩
          have D2 := Lib.hid d2
          have K2 := Lib.hid k2
          clear d2 k2
          go_wp2_with fail
          go_ret
          exact ⟨rfl, Turned.of0 B2.out D2.out K2.out⟩
        · have hr : Hid (D.cutFile s n = (0, ((D.spend 1).setFile (D.idx s) (F.push ⟨⟨#[]⟩, n, true⟩)).did ⟨3, s, ⟨#[]⟩, ⟨#[]⟩, n⟩)) := Lib.hid (by unfold Dk.cutFile; rw [if_neg (by omega), if_neg hin, if_neg hsp, hFA])
          rw [hr.out]
          obtain ⟨i0, hi0, hz0, hz1, hz2⟩ := info_parts infoW
          have hwm : F.waits.length ≤ 10000000 := hFok.many
          clear h ok h0 h1 h2 h3 h4 h5 hFok htx hFA hin hneg hbig
          go_enter Tryz.func17, Tryz.ntmps17
          go_wp2_with fail
          refine C.out.mono ?_
          rintro e w1 ⟨rfl, b1⟩
          have B1 := Lib.hid b1
          have R2 := Lib.hid (seen_any w1 ρ _ f F ((HD.out.below b1).files _ f F H3.out H4.out) HF.out)
          clear b1
          go_wp2_with fail
          refine R2.out.mono ?_
          rintro e w2 ⟨rfl, b2⟩
          have B2 : Hid (Below w.heap.size w w2) := Lib.hid (B1.out.trans (b2.mono B1.out.size))
          clear b2
          have S0 := step_any w2 ρ b D L (HD.out.below B2.out) OK.out.units0 (by have := OK.out.units1; omega) OK.out.left0 OK.out.left1
          rw [if_neg (by omega)] at S0
          have S : Hid (Calls Tryz.prog 50 #[.pointer (some ⟨b, 0, none⟩)] w2 fun e w' => e = .returned .nilIface ∧ DiskAt w' ρ b (D.spend 1) L ∧ Kept (Only 0 ρ) w2 w') := Lib.hid S0
          clear S0
          go_wp2_with fail
          refine S.out.mono ?_
          rintro e w3 ⟨rfl, d3, k3⟩
          have D3 := Lib.hid d3
          have KW : Hid (Kept ρ w w3) := Lib.hid ((Kept.below B2.out).then k3.wide)
          have fa := d3.files _ f F H3.out H4.out
          have hfl := fa.1.lt
          obtain ⟨-, c1, -, f1⟩ := fa.cells
          have hown := fa.2.1
          have hne : f.2.ownBlock ≠ some f.1 := fun e => by have := fa.2.2 f.1 e; rw [fa.1.2] at this; simp at this
          clear d3 k3 fa
          go_wp2_with (at_builtin; refine wpList_append_lies _ rfl _ _ _ rfl 0 103 i0 _ 3 32 Tryz.underlying98 hi0 hz0 hz1 hz2 rfl (by omega) f.2 F.waits.length (F.waits.flatMap Wt.cells) rfl (hown.alloc _) ⟨w3.heap.size, 0, none⟩ 1 1 (Wt.cells ⟨⟨#[]⟩, n, true⟩) rfl rfl (World.news_of_block (cs := (Wt.cells ⟨⟨#[]⟩, n, true⟩).toArray) (t := 103) (fr := (0, 0)) (heap_alloc_new w3 _)) (by simp [Wt.cells, Value.oneCell']) (by omega) (by unfold maxLen; omega) (by omega) (by simp) (w3.heap.size + 1) (by simp) ?_; intro gg cap w5 hown1 hgrow hat hlt; refine Hid.out ?_)
          refine Lib.hid ?_
          have hbel : Below w3.heap.size w3 (w3.alloc (.cells (Wt.cells ⟨⟨#[]⟩, n, true⟩).toArray 103)) := (Below.refl _ _).alloc (Nat.le_refl _) _
          have g1 : w5.frozen? ⟨f.1, 1, none⟩ = false := (hgrow.frozen_far _ (by simp; omega) (Ne.symm hne)).trans ((hbel.frozen (p := ⟨f.1, 1, none⟩) hfl).trans f1)
          have k1 : w5.cell? ⟨f.1, 1, none⟩ = some f.2 := (hgrow.cell_far _ (by simp; omega) (Ne.symm hne)).trans ((hbel.cell (p := ⟨f.1, 1, none⟩) hfl).trans c1)
          have T5 := Lib.hid (turned_push D3.out H3.out H4.out hbel ⟨⟨#[]⟩, n, true⟩ hown1 hgrow (by rcases hat with hat | hat; exact .inl hat; exact .inr (by rw [hat]; simp)) hlt)
          clear hown1 hgrow hat hlt c1 f1 hown hne hi0 hz0 hz1 hz2 hbel
          go_wp2_with fail
          obtain ⟨ρ5, ⟨L5, d5⟩, e5, k5⟩ := T5.out
          refine (did_any ⟨3, s, ⟨#[]⟩, ⟨#[]⟩, n⟩ _ ρ5 b _ L5 d5 (Nat.le_trans OK.out.acts (by omega))).mono ?_
          rintro e w7 ⟨rfl, T7⟩
          have T7' := Lib.hid (Turned.next (Ext.refl _ _) KW.out (Turned.next e5 k5 T7))
          clear T7 d5 e5 k5 T5
          go_wp2_with fail
          go_ret
          exact ⟨rfl, T7'.out⟩
  · have C0 := file_err s hs w ρ b D L h ok h0
    rw [errV_pos h0] at C0
    have C := Lib.hid C0
    have hr : Hid (D.cutFile s n = (D.fileN s, D)) := Lib.hid (by unfold Dk.cutFile; rw [if_pos h0])
    rw [hr.out]
    have EV := Lib.hid (errV_pos h0)
    clear h ok h0 C0
    go_enter Tryz.func17, Tryz.ntmps17
    go_wp2_with fail
    refine C.out.mono ?_
    rintro e w1 ⟨rfl, b1⟩
    have B1 := Lib.hid b1
    clear b1
    go_wp2_with fail
    go_ret
    exact ⟨by rw [EV.out]; rfl, Turned.same ⟨L, HD.out⟩ B1.out⟩
end Go.Proofs.YthfcmgbkhjnfjaaGreatDoor
