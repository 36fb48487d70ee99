/- The index of a list: index.Of. -/
import Derived.Test.YtklbbcemacpimaaGreatDoorIBKeys
import Derived.Test.YtklbbcemacpimaaGreatDoorIAlive
import Derived.Deep.RegionHeld3
namespace Go.Proofs.YtklbbcemacpimaaGreatDoor.I
open Go Go.Maps Go.Proofs Go.RowKit

theorem ins_law (m : Ms) (id : Int) (fs : List Fld) : addAll (cM m) id 1 fs = cM (rIns id fs m) := by
  funext k v i
  rw [addAll_eq, cM_ins]
  by_cases hi : i = id
  · subst hi; rw [if_pos rfl, if_pos rfl]; omega
  · rw [if_neg hi, if_neg (fun e => hi e.symm)]; omega
section
variable {own : Nat → Prop} {w w3 w4 : World} {xb kb sb n n1 : Nat} {id : Int} {vb : Vb} {cb : Cb} {cf : Cf} {sf : Int → Option (Option (Nat × Nat × Nat))} {m : Ms}
/-- Behind a store of a stanza that was not there, whose fields lie in blocks that become the index's. -/
theorem XIn.stored2 (h : XIn own w xb kb sb n vb cb cf sf m) (hdrop : ∀ s ∈ m, s.1 ≠ id) {P : Nat → Prop} {fs : List Fld} {u : Option (Nat × Nat × Nat)} (hP : ∀ b, P b → b < w.heap.size) (hu : FldsIn P w (slEl.enc u) fs) (hst : SMap w3 sb n1 (fun y => if y = id then some u else sf y)) (hg : w.grownBy w3 (some sb)) (hA : AddPost 0 kb n1 (cM (rIns id fs m)) vb cb w3 w4) (hf : Fine (id, fs)) :
    ∃ own', XAt own' w4 xb n1 (rIns id fs m) ∧ Upd own w w4 ∧ (∀ b, own' b → own b ∨ P b ∨ w.heap.size ≤ b) ∧ Kept w w4 := by
  obtain ⟨vb', cb', cf', hI, hL, hU, hO⟩ := hA
  have hK2 : Kept w w3 := keptRow hg h.sbMap
  have hI3 : Ix tys w3 0 kb vb cb cf n := h.ix.keep fun b hb' ho => hg.block b hb' (fun e => h.apart (by injection e with e; rw [← e]; exact ho))
  have hK3 : Kept w3 w4 := hU.kept hI3
  have hz3 := hg.size
  have hz4 := hU.size
  have hsl := h.st.lt
  have hap : ¬ Own kb vb' cb' sb := fun ho => (hO sb ho).elim h.apart fun h' => by omega
  have hU' : Upd own w w4 := by
    have h1 : Upd (fun b => own b ∨ w.heap.size ≤ b) w w3 := (Upd.refl _ w).grown hg (.inl h.os)
    exact (h1.trans (hU.wide fun b hb' => .inl (h.oi b hb'))).narrow
  refine ⟨fun b => own b ∨ P b ∨ (w.heap.size ≤ b ∧ b < w4.heap.size), ⟨kb, sb, vb', cb', cf', fun y => if y = id then some u else sf y, ?_⟩, hU', fun b hb => hb.elim .inl fun h => h.elim (fun h => .inr (.inl h)) fun h => .inr (.inr h.1), hK2.trans hK3⟩
  exact {
      hx := hK3 _ _ _ _ (hK2 _ _ _ _ h.hx)
      ix := hI
      lv := hL
      st := hst.block (hU.block sb (by omega) h.apart)
      no := fun i hi s hs => by
        by_cases e : i = id
        · rw [if_pos e] at hi; cases hi
        · rw [if_neg e] at hi
          rcases mem_ins.1 hs with rfl | hs
          · exact fun e' => e e'.symm
          · exact h.no i hi s hs
      yes := fun i e hi => by
        by_cases e1 : i = id
        · rw [if_pos e1] at hi
          injection hi with hi
          subst hi
          exact ⟨fs, mem_ins.2 (.inl (by rw [e1])), (hK3.fldsIn (hK2.fldsIn hu)).wide fun b hb' => .inr (.inl hb')⟩
        · rw [if_neg e1] at hi
          obtain ⟨fs', h1, h2⟩ := h.yes i e hi
          exact ⟨fs', mem_ins.2 (.inr h1), (hK3.fldsIn (hK2.fldsIn h2)).wide fun b => .inl⟩
      ox := .inl h.ox
      os := .inl h.os
      oi := fun b hb => by
        rcases hO b hb with h1 | h1
        · exact .inl (h.oi b h1)
        · exact .inr (.inr ⟨by omega, hI.lt hb⟩)
      apart := hap
      low := fun b hb' => by
        rcases hb' with h1 | h1 | h1
        · have := h.low b h1; omega
        · have := hP b h1; omega
        · exact h1.2
      rise := rising_ins h.rise hdrop
      fine := fun s hs => by
        rcases mem_ins.1 hs with rfl | hs
        · exact hf
        · exact h.fine s hs }
end
/-! ### A list's stanzas as an index's -/
def toFld (f : B.Fd) : Fld := ⟨f.key, f.val⟩
def toFs (fs : List B.Fd) : List Fld := fs.map toFld
/-- What the index of these stanzas has been told of. -/
def mOf (ss : List B.St) : Ms := ss.foldl (fun m x => rIns x.1 (toFs x.2) m) []
theorem mOf_snoc (ss : List B.St) (x : B.St) : mOf (ss ++ [x]) = rIns x.1 (toFs x.2) (mOf ss) := by simp [mOf]
theorem foldl_ins_mem (s : Int × List Fld) : ∀ (ss : List B.St) (m : Ms), s ∈ ss.foldl (fun m x => rIns x.1 (toFs x.2) m) m ↔ s ∈ m ∨ ∃ x ∈ ss, s = ((x.1 : Int), toFs x.2)
  | [], m => by simp
  | x :: r, m => by
    rw [List.foldl_cons, foldl_ins_mem s r, mem_ins]
    constructor
    · rintro ((h | h) | ⟨y, hy, e⟩)
      · exact .inr ⟨x, by simp, h⟩
      · exact .inl h
      · exact .inr ⟨y, by simp [hy], e⟩
    · rintro (h | ⟨y, hy, e⟩)
      · exact .inl (.inr h)
      · rcases List.mem_cons.1 hy with rfl | hy
        · exact .inl (.inl e)
        · exact .inr ⟨y, hy, e⟩
theorem mOf_mem (ss : List B.St) (s : Int × List Fld) : s ∈ mOf ss ↔ ∃ x ∈ ss, s = ((x.1 : Int), toFs x.2) := by unfold mOf; rw [foldl_ins_mem]; simp
theorem mOf_len (ss : List B.St) : (mOf ss).length = ss.length := by
  have h : ∀ (ss : List B.St) (m : Ms), (ss.foldl (fun m x => rIns x.1 (toFs x.2) m) m).length = m.length + ss.length := by
    intro ss
    induction ss with
    | nil => intro m; simp
    | cons x r ih => intro m; rw [List.foldl_cons, ih, rIns_len, List.length_cons]; omega
  have := h ss []
  unfold mOf
  simpa using this
theorem cells_fdc (fs : List B.Fd) : fs.flatMap B.Fd.cells = (toFs fs).flatMap fdc := by
  unfold toFs
  rw [List.flatMap_map]
  rfl
/-- Stanzas that may be told of. -/
structure Tellable (ss : List B.St) : Prop where
  apart : (ss.map fun x => x.1).Pairwise (· ≠ ·)
  few : ss.length ≤ 2000
  fine : ∀ x ∈ ss, x.2.length ≤ 100 ∧ x.1 ≤ 1000000 ∧ ∀ f ∈ x.2, f.key.length ≤ 1000000 ∧ f.val.length ≤ 1000000
theorem Tellable.ok {ss : List B.St} (h : Tellable ss) {x : B.St} (hx : x ∈ ss) : Fine ((x.1 : Int), toFs x.2) := by
  obtain ⟨h1, h2, h3⟩ := h.fine x hx
  have hm := maxLen_is
  refine ⟨?_, by simp [toFs]; omega, fun f hf => ?_⟩
  · have e1 : IntKind.i64.min = -9223372036854775808 := rfl
    have e2 : IntKind.i64.max = 9223372036854775807 := rfl
    simp [Lit.wf, e1, e2]
    omega
  · obtain ⟨g, hg, rfl⟩ := List.mem_map.1 hf
    have := h3 g hg
    simp [toFld]
    omega
theorem Tellable.new {ss : List B.St} (h : Tellable ss) {k : Nat} {x : B.St} (hx : ss[k]? = some x) : ∀ s ∈ mOf (ss.take k), s.1 ≠ (x.1 : Int) := by
  intro s hs
  obtain ⟨y, hy, rfl⟩ := (mOf_mem _ _).1 hs
  obtain ⟨j, hj⟩ := List.mem_iff_getElem?.1 hy
  have hjk : j < k := by
    have := (List.getElem?_eq_some_iff.1 hj).1
    rw [List.length_take] at this
    omega
  rw [List.getElem?_take, if_pos hjk] at hj
  have hp := List.pairwise_iff_getElem.1 h.apart j k (by have := (List.getElem?_eq_some_iff.1 hj).1; simpa using this) (by have := (List.getElem?_eq_some_iff.1 hx).1; simpa using this) hjk
  have e1 : y.1 = (ss.map fun x => x.1)[j]'(by have := (List.getElem?_eq_some_iff.1 hj).1; simpa using this) := by
    obtain ⟨_, e⟩ := List.getElem?_eq_some_iff.1 hj; simp [e]
  have e2 : x.1 = (ss.map fun x => x.1)[k]'(by have := (List.getElem?_eq_some_iff.1 hx).1; simpa using this) := by
    obtain ⟨_, e⟩ := List.getElem?_eq_some_iff.1 hx; simp [e]
  rw [← e1, ← e2] at hp
  show ¬ ((y.1 : Int) = (x.1 : Int))
  omega
/-- A row of fields, as an element of the index's map. -/
theorem row_enc {w : World} {u : Value} {n : Nat} {xs : List Value} (h : w.ownsRow 0 57 2 u n xs) : ∃ a : Option (Nat × Nat × Nat), u = slEl.enc a ∧ (n = 0 ∨ ∃ g cp, u = .slice (some ⟨g, 0, none⟩) n cp ∧ u.ownBlock = some g) := by
  rcases h.2 with ⟨h0, h1⟩ | ⟨g, cap, cur, hv, -⟩
  · exact ⟨none, h0, .inl h1⟩
  · exact ⟨some (g, n, cap), hv, .inr ⟨g, cap, hv, by rw [hv]; rfl⟩⟩
theorem own_shape {w : World} {base : Nat} {e : TypeId} {size n : Nat} {v : Value} {xs : List Value} (h : w.ownsRow base e size v n xs) : ∃ ao c, v = .slice ao n c := by
  rcases h.2 with ⟨h1, h2⟩ | ⟨g, c, cur, h1, _⟩
  · exact ⟨none, 0, by rw [h1, h2]⟩
  · exact ⟨_, _, h1⟩
theorem own_kept2 {w w' : World} {base : Nat} {e : TypeId} {size : Nat} {v : Value} {n : Nat} {xs : List Value} (h : w.ownsRow base e size v n xs) (hk : Kept w w') : w'.ownsRow base e size v n xs := by
  refine ⟨h.1, ?_⟩
  rcases h.2 with h0 | ⟨g, cap, cur, rfl, hb, hg, r⟩
  · exact .inl h0
  · exact .inr ⟨g, cap, cur, rfl, hb, hk _ _ _ _ hg, r⟩
theorem st_get : ∀ (ss : List B.St) (us : List Value) (k : Nat) (x : B.St) (u : Value), ss[k]? = some x → us[k]? = some u → (B.stCells ss us)[k * 2]? = some (.int .i64 x.1) ∧ (B.stCells ss us)[k * 2 + 1]? = some u
  | [], _, k, x, u, h, _ => by simp at h
  | _ :: _, [], k, x, u, _, h => by simp at h
  | a :: ss, b :: us, 0, x, u, h1, h2 => by simp at h1 h2; subst h1; subst h2; exact ⟨rfl, rfl⟩
  | a :: ss, b :: us, k + 1, x, u, h1, h2 => by
    obtain ⟨g1, g2⟩ := st_get ss us k x u (by simpa using h1) (by simpa using h2)
    have e1 : (k + 1) * 2 = k * 2 + 1 + 1 := by omega
    rw [e1]
    exact ⟨by simpa [B.stCells] using g1, by simpa [B.stCells] using g2⟩
/-- Where the loop stands. -/
def OR (w0 w2 : World) (xb : Nat) (ss : List B.St) (i : Value) (wr : World) : Prop :=
  ∃ (k n : Nat) (own : Nat → Prop), i = .int .i64 k ∧ k ≤ ss.length ∧ n ≤ 400 * k ∧ Hid (XOn w0 own wr xb n (mOf (ss.take k))) ∧ Hid (Kept w2 wr) ∧ Hid (w2.heap.size ≤ wr.heap.size)
/-- What Of leaves, and how much there may be of it. -/
def OfPostN (ss : List B.St) (w : World) (e : Ending) (w' : World) : Prop :=
  ∃ xb n own, e = .returned (.pointer (some ⟨xb, 0, none⟩)) ∧ XOn w own w' xb n (mOf ss) ∧ n ≤ 400 * ss.length
/-- What Of leaves. -/
def OfPost (ss : List B.St) (w : World) (e : Ending) (w' : World) : Prop :=
  ∃ xb n own, e = .returned (.pointer (some ⟨xb, 0, none⟩)) ∧ XOn w own w' xb n (mOf ss) ∧ n ≤ 800000
set_option maxRecDepth 100000 in
set_option maxHeartbeats 6400000 in
theorem of_few (lb : Nat) (ss : List B.St) (w : World) (hT : Tellable ss) (hS : ∀ w', Below w.heap.size w w' → Calls Tryz.prog 27 #[.pointer (some ⟨lb, 0, none⟩)] w' (B.StanzasPost ss w')) :
    Calls Tryz.prog 7 #[.pointer (some ⟨lb, 0, none⟩)] w (OfPostN ss w) := by
  have NE := Lib.hid (new_any w)
  have HT := Lib.hid hT
  have HS := Lib.hid hS
  have hfew := hT.few
  clear hT hS
  go_enter Tryz.func7, Tryz.ntmps7
  go_wp2_with fail
  refine NE.out.mono ?_
  rintro e w1 ⟨xb, own1, rfl, hx1, hb1, ho1⟩
  have ST := Lib.hid (HS.out w1 hb1)
  have X1 : Hid (XOn w own1 w1 xb 0 []) := Lib.hid ⟨hx1, ho1, hb1⟩
  clear NE HS hx1 hb1 ho1
  go_wp2_with fail
  refine ST.out.mono ?_
  rintro e w2 ⟨v, ρ, us, rfl, hst, hlow, hb2⟩
  have X2 := Lib.hid (X1.out.on hb2)
  have hb1 := X1.out.below.size
  have HUL := Lib.hid hst.len
  obtain ⟨so, sc, hv⟩ := own_shape hst.row.1
  subst hv
  have HROW : Hid (∀ (k : Nat) (x : B.St), ss[k]? = some x → ∃ g u, so = some ⟨g, 0, none⟩ ∧ w2.cell? ⟨g, k * 2, none⟩ = some (.int .i64 x.1) ∧ w2.cell? ⟨g, k * 2 + 1, none⟩ = some u ∧ w2.ownsRow 0 57 2 u x.2.length (x.2.flatMap B.Fd.cells) ∧ ∀ b, u.ownBlock = some b → w.heap.size ≤ b ∧ b < w2.heap.size) := Lib.hid fun k x hk => by
    obtain ⟨u, hu⟩ : ∃ u, us[k]? = some u := ⟨_, List.getElem?_eq_getElem (by rw [hst.len]; exact (List.getElem?_eq_some_iff.1 hk).1)⟩
    obtain ⟨c1, c2⟩ := st_get ss us k x u hk hu
    have hr := hst.its k u x hu hk
    rcases hst.row.1.2 with ⟨h0, h1⟩ | ⟨g, cap, cur, hv, hb, hg, -⟩
    · have := (List.getElem?_eq_some_iff.1 hk).1; omega
    · injection hv with q1 q2 q3
      subst q1
      have e1 := hst.row.1.cells (g := g) rfl _ _ c1
      have e2 := hst.row.1.cells (g := g) rfl _ _ c2
      rw [addr_add, Nat.zero_add] at e1 e2
      refine ⟨g, u, rfl, e1, e2, hr.1, fun b hb' => ⟨?_, (World.ownsRow.lt hr.1 b hb').2⟩⟩
      have h1 := hr.2 b hb'
      rcases Nat.lt_or_ge b w1.heap.size with hlt | hge
      · rw [hlow b hlt] at h1; cases h1
      · omega
  clear hst hlow hb2 ST X1 hb1
  go_wp2_with fail
  go_loopw [10] (fun i W => OR w w2 xb ss i W) (fun i _ => ss.length - (iOf i).toNat)
  case atStart => exact ⟨0, 0, own1, rfl, Nat.zero_le _, by omega, X2, Lib.hid (Kept.refl _), Lib.hid (Nat.le_refl _)⟩
  case round =>
    obtain ⟨k, n, own, rfl, hk, hn, hX, hKp, hsz⟩ := hrel
    by_cases hlt : k < ss.length
    · obtain ⟨x, hx⟩ : ∃ x, ss[k]? = some x := ⟨_, List.getElem?_eq_getElem hlt⟩
      obtain ⟨g, u, rfl, e1, e2, hrow, hblk⟩ := HROW.out k x hx
      have c1 := hKp.out.cell e1
      have c2 := hKp.out.cell e2
      have hxm := List.mem_of_getElem? hx
      have hfi := HT.out.ok hxm
      have hnew := HT.out.new hx
      have hfl := (HT.out.fine x hxm).1
      have HET : Hid (mOf (ss.take (k + 1)) = rIns x.1 (toFs x.2) (mOf (ss.take k))) := Lib.hid (by rw [List.take_add_one, hx]; exact mOf_snoc _ _)
      obtain ⟨m, hm⟩ : ∃ m, mOf (ss.take k) = m := ⟨_, rfl⟩
      rw [hm] at hnew HET hX
      have hrow2 : wr.ownsRow 0 57 2 u x.2.length (x.2.flatMap B.Fd.cells) := own_kept2 hrow hKp.out
      obtain ⟨uo, uc, hus⟩ := own_shape hrow2
      subst hus
      obtain ⟨a, ha, hsh⟩ := row_enc hrow2
      rw [cells_fdc] at hrow2
      have hfa : FldsAt wr (.slice uo x.2.length uc) (toFs x.2) := FldsAt.row (by simpa [toFs] using hrow2) (by simp [toFs]; omega)
      obtain ⟨wq, hwq⟩ : ∃ wq, wr.alloc (.cells #[.int .i64 x.1, .slice uo x.2.length uc] 71) = wq := ⟨_, rfl⟩
      have hbq : Below wr.heap.size wr wq := by rw [← hwq]; exact below_grow1 wr _
      have hKq : Kept wr wq := fun b cs T f e => (hbq.block b (Array.getElem?_eq_some_iff.1 e).1).trans e
      have hXq := hX.out.on hbq
      have hfq : FldsIn (fun b => (Value.slice uo x.2.length uc).ownBlock = some b) wq (.slice uo x.2.length uc) (toFs x.2) := ⟨hKq.flds hfa, fun h0 => by
        rcases hsh with h1 | ⟨g2, cp2, h1, h2⟩
        · exact absurd (by simp [toFs, List.length_eq_zero_iff.1 h1]) h0
        · exact ⟨g2, 0, _, cp2, h1, h2⟩⟩
      have hbl : ∀ b, (Value.slice uo x.2.length uc).ownBlock = some b → b < wq.heap.size := fun b hb => by have := (hblk b hb).2; have := hsz.out; have := hbq.size; omega
      have hdr : Below wq.heap.size wq wq.drew := (Below.refl _ _).drew
      have hXd := hXq.on hdr
      have hKd : Kept wq wq.drew := fun b cs T f e => e
      have hfd : FldsIn (fun b => (Value.slice uo x.2.length uc).ownBlock = some b) wq.drew (.slice uo x.2.length uc) (toFs x.2) := hKd.fldsIn hfq
      obtain ⟨kb, sb, vb, cb, cf, sf, hI⟩ := hXd.at_
      have P1 : wq.drew.cell? ⟨xb, 1, none⟩ = some (.map (some sb)) := by simp [World.cell?, hI.hx]
      have hxl : xb < wq.heap.size := (Array.getElem?_eq_some_iff.1 hI.hx).1
      have hmx := maxLen_is
      have hlen : (toFs x.2).length ≤ 100 := by simpa [toFs] using hfl
      obtain ⟨w3, hup, hst3, hg3, hz3⟩ := hI.st.put (int_keyed Tryz.underlying3) Tryz.underlying73 (by omega) mkN_inj mkN_key (keyN tys (x.1 : Int) hfi.id) a
      rw [show slEl.enc a = .slice uo x.2.length uc from ha.symm] at hup
      have hK3 : Kept wq.drew w3 := keptRow hg3 hI.sbMap
      have hI3 : Ix tys w3 0 kb vb cb cf (n + 1) := (hI.ix.keep fun b hb' ho => hg3.block b hb' (fun e => hI.apart (by injection e with e; rw [← e]; exact ho))).more (by omega)
      have AD := Lib.hid (add_any xb kb sb 0 (n + 1) vb cb cf (cM m) (x.1 : Int) 1 (.slice uo x.2.length uc) (toFs x.2) w3 (hK3 _ _ _ _ hI.hx) (Nat.zero_le _) hI3 hI.lv (hK3.flds hfd.1) hfi.small hfi.id (.inl rfl) (fun k v => by rw [cM_zero hnew]; omega) (by omega) (by omega))
      have b5 : wq.heap[wr.heap.size]? = some (.cells #[.int .i64 x.1, Value.slice uo x.2.length uc] 71 (0, 0)) := by rw [← hwq]; exact heap_alloc_new wr _
      have HP3 : w3.cell? ⟨xb, 1, none⟩ = some (.map (some sb)) := by simp [World.cell?, hK3 _ _ _ _ hI.hx]
      have b6 := hK3 _ _ _ _ (hKd _ _ _ _ b5)
      have P5 : wq.drew.cell? ⟨wr.heap.size, 0, none⟩ = some (.int .i64 x.1) ∧ wq.drew.cell? ⟨wr.heap.size, 1, none⟩ = some (.slice uo x.2.length uc) := by constructor <;> simp [World.cell?, hKd _ _ _ _ b5]
      have c5 : w3.cell? ⟨wr.heap.size, 0, none⟩ = some (.int .i64 x.1) := by simp [World.cell?, b6]
      have c6 : w3.cell? ⟨wr.heap.size, 1, none⟩ = some (.slice uo x.2.length uc) := by simp [World.cell?, b6]
      have HF : Hid (∀ w4, AddPost 0 kb (n + 1 + 3 * (toFs x.2).length) (addAll (cM m) (x.1 : Int) 1 (toFs x.2)) vb cb w3 w4 → ∃ own', XOn w own' w4 xb (n + 400) (rIns (x.1 : Int) (toFs x.2) m) ∧ Kept wr w4 ∧ wr.heap.size ≤ w4.heap.size) := Lib.hid fun w4 hA => by
        rw [ins_law] at hA
        have hA' : AddPost 0 kb (n + 400) (cM (rIns (x.1 : Int) (toFs x.2) m)) vb cb w3 w4 := by
          obtain ⟨vb', cb', cf', h1, h2⟩ := hA
          exact ⟨vb', cb', cf', h1.more (by omega), h2⟩
        obtain ⟨own', q1, q2, q3, q4⟩ := hI.stored2 (u := a) hnew hbl (by rw [← ha]; exact hfd) (hst3.more (by omega)) hg3 hA' hfi
        refine ⟨own', ⟨q1, fun b hb => ?_, below_upd q2 hXd.high (Nat.le_refl _) hXd.below⟩, hKq.trans q4, ?_⟩
        · rcases q3 b hb with h | h | h
          · exact hXd.high b h
          · exact (hblk b h).1
          · have := hXd.below.size; omega
        · exact Nat.le_trans hbq.size q2.size
      have HWQ := Lib.hid hwq
      have HHK := Lib.hid hKp.out
      have HHS := hsz.out
      have HUP := hup
      clear hst3 hg3 hz3 hI hXd hXq hfd hfq hbl hK3 hI3 b5 b6 hKd hKq hbq hdr hrow hrow2 hblk hsh hfa hnew hfi hxm hwq hX hKp hsz e1 e2 hx hup hfl hlen ha
      have P3 : w3.cell? ⟨xb, 1, none⟩ = some (.map (some sb)) := HP3
      go_wp2_with fail
      rw [HWQ.out]
      go_region_held3 (fun W' => W'.cell? ⟨xb, 1, none⟩ = some (.map (some sb)) ∧ W'.cell? ⟨wr.heap.size, 0, none⟩ = some (.int .i64 x.1) ∧ W'.cell? ⟨wr.heap.size, 1, none⟩ = some (.slice uo x.2.length uc)) (first | exact ⟨P1, P5.1, P5.2⟩ | exact ⟨P3, c5, c6⟩) (fail)
      all_goals
        go_wp2_with fail
        refine AD.out.mono ?_
        rintro e w4 ⟨rfl, hA⟩
        obtain ⟨own', q1, q2, q3⟩ := HF.out w4 hA
        have HX4 : Hid (XOn w own' w4 xb (n + 400) (mOf (ss.take (k + 1)))) := Lib.hid (by rw [HET.out]; exact q1)
        have HK4 := Lib.hid (HHK.out.trans q2)
        have HS4 : Hid (w2.heap.size ≤ w4.heap.size) := Lib.hid (Nat.le_trans HHS q3)
        clear hA q1 q2 q3
        go_wp2_with fail
        exact ⟨⟨k + 1, n + 400, own', by go_num, by omega, by omega, HX4, HK4, HS4⟩, by simp [iOf]; omega⟩
    · have ht : ss.take k = ss := List.take_of_length_le (by omega)
      have HX : Hid (XOn w own wr xb n (mOf ss)) := Lib.hid (by have := hX.out; rwa [ht] at this)
      clear ht hX
      go_wp2_with fail
      go_ret
      exact ⟨xb, n, own, rfl, HX.out, by omega⟩
theorem of_any (lb : Nat) (ss : List B.St) (w : World) (hT : Tellable ss) (hS : ∀ w', Below w.heap.size w w' → Calls Tryz.prog 27 #[.pointer (some ⟨lb, 0, none⟩)] w' (B.StanzasPost ss w')) :
    Calls Tryz.prog 7 #[.pointer (some ⟨lb, 0, none⟩)] w (OfPost ss w) :=
  (of_few lb ss w hT hS).mono fun _ _ ⟨xb, n, own, h1, h2, h3⟩ => ⟨xb, n, own, h1, h2, by have := hT.few; omega⟩
end Go.Proofs.YtklbbcemacpimaaGreatDoor.I
