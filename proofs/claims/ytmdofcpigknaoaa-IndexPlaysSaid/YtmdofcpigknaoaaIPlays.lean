/- The statement IndexPlays, walked. -/
import Derived.Test.YtmdofcpigknaoaaIAlive
import Derived.Test.YtmdofcpigknaoaaIHeavy
namespace Go.Proofs.Ytmdofcpigknaoaa.I
open Go Go.Maps Go.Proofs Go.RowKit Go.Sort Go.Shelf

theorem MsIn.kept {A : Nat → Prop} {w w' : World} {v : Value} {m : Ms} (h : MsIn A w v m) (hk : Kept w w') : MsIn A w' v m :=
  let ⟨ao, cp, h1, h2⟩ := h
  ⟨ao, cp, h1, fun k s hs => let ⟨g, vf, e, hg, c1, c2, hf⟩ := h2 k s hs
    ⟨g, vf, e, hg, hk.cell c1, hk.cell c2, hk.flds hf.1, hf.2⟩⟩
theorem own_kept {w w' : World} {base : Nat} {e : TypeId} {size : Nat} {v : Value} {n : Nat} {xs : List Value} (h : w.ownsRow base e size v n xs) (hk : Kept w w') : w'.ownsRow base e size v n xs := by
  refine ⟨h.1, ?_⟩
  rcases h.2 with h0 | ⟨g, cap, cur, rfl, hb, hg, r⟩
  · exact .inl h0
  · exact .inr ⟨g, cap, cur, rfl, hb, hk _ _ _ _ hg, r⟩
theorem XOn.more {w0 w : World} {own : Nat → Prop} {xb n n' : Nat} {m : Ms} (h : XOn w0 own w xb n m) (hn : n ≤ n') : XOn w0 own w xb n' m := ⟨h.at_.more hn, h.high, h.below⟩
theorem XOn.low {w0 w : World} {own : Nat → Prop} {xb n : Nat} {m : Ms} (h : XOn w0 own w xb n m) (b : Nat) (hb : own b) : b < w.heap.size := h.at_.low b hb
theorem cells3 {w : World} {b : Nat} {x y z : Value} {T : TypeId} (h : w.heap[b]? = some (.cells #[x, y, z] T (0, 0))) : w.cell? ⟨b, 0, none⟩ = some x ∧ w.cell? ⟨b, 1, none⟩ = some y ∧ w.cell? ⟨b, 2, none⟩ = some z :=
  ⟨by simp [World.cell?, h], by simp [World.cell?, h], by simp [World.cell?, h]⟩
/-- Where the script stands. -/
def PR (w2 : World) (xb : Nat) (es : List Ed) (vm i : Value) (wr : World) : Prop :=
  ∃ (k n : Nat) (own : Nat → Prop) (m : Ms), i = .int .i64 k ∧ k ≤ es.length ∧ n ≤ 7000 * k ∧ m.length ≤ k ∧ Hid (XOn w2 own wr xb n m) ∧ Hid (MsIn (fun b => b < wr.heap.size) wr vm m)
/-- What an operation leaves. -/
def AO (w2 : World) (xb n : Nat) (m : Ms) (Bo : Nat) (o : Obj) (u : Value) (W : World) : Prop :=
  ∃ own, XOn w2 own W xb n m ∧ MsIn (fun b => b < W.heap.size) W u m ∧ W.heap[Bo]? = some o
def TR (w5 : World) (fs : List Fld) (i : Value) (W : World) : Prop := ∃ j : Nat, i = .int .i64 j ∧ j ≤ fs.length ∧ Hid (Below w5.heap.size w5 W)
theorem rPut_len (m : Ms) (id : Int) (fs : List Fld) : (rPut m id fs).length ≤ m.length + 1 := by
  unfold rPut; rw [rIns_len]; have := rDrop_len m id; omega
/-- Behind Drop. -/
theorem ao_drop {w2 wr wa wb : World} {own : Nat → Prop} {xb n : Nat} {m m' : Ms} {Bo : Nat} {cs : Array Value} {T : TypeId} {f : Nat × Nat} {u : Value} {A : Nat → Prop} (hX : XOn w2 own wr xb n m) (hg : wr.heap[Bo]? = some (.cells cs T f)) (hA : ∀ b, A b → b < wr.heap.size)
    (hM : MNew A wr wa u m') (hP : XPost own xb (n + 3000) m' wa wb) : AO w2 xb (n + 7000) m' Bo (.cells cs T f) u wb := by
  obtain ⟨hM, hb⟩ := hM
  obtain ⟨own', h1, h2, h3⟩ := (hX.on hb).step hP
  have hsz := hP
  obtain ⟨_, _, hu, _, _⟩ := hsz
  refine ⟨own', h1.more (by omega), (hM.kept h3).wide fun b hb' => ?_, h3 _ _ _ _ ((hb.block Bo (Array.getElem?_eq_some_iff.1 hg).1).trans hg)⟩
  have h4 := hu.size
  have h5 := hb.size
  rcases hb' with h6 | h6
  · have := hA b h6; omega
  · omega
/-- Behind a Put that puts. -/
theorem ao_put {w2 wr wa wb wc we : World} {own : Nat → Prop} {xb n : Nat} {m m' : Ms} {Bo : Nat} {cs : Array Value} {T : TypeId} {f : Nat × Nat} {u vf : Value} {nn kk : Nat} {xs : List Value} (hX : XOn w2 own wr xb n m) (hg : wr.heap[Bo]? = some (.cells cs T f))
    (hba : Below wr.heap.size wr wa) (hrow : wa.ownsRow wr.heap.size 45 2 vf nn xs) (hP : XPost own xb (n + 7000) m' wa wb) (hM : MNew (fun b => b < wr.heap.size) wb wc u m') (hU : Upd (fun b => vf.ownBlock = some b) (wc.drewN kk) we) : AO w2 xb (n + 7000) m' Bo (.cells cs T f) u we := by
  obtain ⟨hM, hbc⟩ := hM
  obtain ⟨own', h1, h2, h3⟩ := (hX.on hba).step hP
  obtain ⟨_, _, hu, _, _⟩ := hP
  have hs1 := hba.size
  have hs2 := hu.size
  have hs3 := hbc.size
  have hs4 : wc.heap.size ≤ we.heap.size := hU.size
  have hvb : ∀ b, vf.ownBlock = some b → wr.heap.size ≤ b ∧ b < wa.heap.size := fun b hb => World.ownsRow.lt hrow b hb
  have hX5 := h1.on hbc
  have hk : ∀ b, b < wc.heap.size → ¬ (wr.heap.size ≤ b ∧ b < wa.heap.size) → we.heap[b]? = wc.heap[b]? := fun b hb hn => hU.block b hb fun h => hn (hvb b h)
  refine ⟨own', ⟨hX5.at_.keep (fun b hb => hk b (hX5.low b hb) fun hn => ?_) hs4, hX5.high, ?_⟩, (hM.keep fun b hb => hk b ?_ fun hn => ?_).wide fun b hb => ?_, ?_⟩
  · rcases h2 b hb with h6 | h6
    · have := hX.low b h6; omega
    · omega
  · refine below_upd hU (fun b hb => ?_) (Nat.le_refl _) (below_dn hX5.below kk)
    have := (hvb b hb).1
    have := hX.below.size
    omega
  · rcases hb with h6 | h6 <;> omega
  · rcases hb with h6 | h6 <;> omega
  · rcases hb with h6 | h6 <;> omega
  · have hlt := (Array.getElem?_eq_some_iff.1 hg).1
    rw [hk Bo (by omega) (by omega), hbc.block Bo (by omega)]
    exact h3 _ _ _ _ ((hba.block Bo hlt).trans hg)
/-- Behind a Put that puts none. -/
theorem ao_low {w2 wr wa we : World} {own : Nat → Prop} {xb n : Nat} {m : Ms} {Bo : Nat} {cs : Array Value} {T : TypeId} {f : Nat × Nat} {u vf : Value} {nn kk : Nat} {xs : List Value} (hX : XOn w2 own wr xb n m) (hg : wr.heap[Bo]? = some (.cells cs T f))
    (hba : Below wr.heap.size wr wa) (hrow : wa.ownsRow wr.heap.size 45 2 vf nn xs) (hM : MsIn (fun b => b < wr.heap.size) wr u m) (hU : Upd (fun b => vf.ownBlock = some b) (wa.drewN kk) we) : AO w2 xb (n + 7000) m Bo (.cells cs T f) u we := by
  have hs1 := hba.size
  have hs4 : wa.heap.size ≤ we.heap.size := hU.size
  have hk : ∀ b, b < wr.heap.size → we.heap[b]? = wr.heap[b]? := fun b hb => (hU.block b (show b < wa.heap.size by omega) fun h => by have := (World.ownsRow.lt hrow b h).1; omega).trans (hba.block b hb)
  refine ⟨own, ⟨(hX.at_.keep (fun b hb => hk b (hX.low b hb)) (by omega)).more (by omega), hX.high, ?_⟩, (hM.keep hk).wide fun b hb => by omega, (hk Bo (Array.getElem?_eq_some_iff.1 hg).1).trans hg⟩
  refine below_upd hU (fun b hb => ?_) (Nat.le_refl _) (below_dn (hX.on hba).below kk)
  have := (World.ownsRow.lt hrow b hb).1
  have := hX.below.size
  omega
set_option maxRecDepth 100000 in
set_option maxHeartbeats 12800000 in
theorem plays_walk (v : Value) (es : List Ed) (key lo hi : ByteArray) (hk : key.size ≤ 9223372036854775807) (hl : lo.size ≤ 9223372036854775807) (w : World) (hE : EdsAt w v es) :
    Calls Try.prog 3 #[v, .agg #[.string key, .string lo, .string hi]] w fun e w' => e = .returned (.bool true) ∧ Below w.heap.size w w' := by
  have hmx := maxLen_is
  have hlm : lo.size ≤ maxLen := by omega
  have hkm : key.size ≤ maxLen := by omega
  clear hk hl
  obtain ⟨W0, hW0⟩ : ∃ W0, w.alloc (.cells #[.string key, .string lo, .string hi] 24) = W0 := ⟨_, rfl⟩
  have hB0 : Below w.heap.size w W0 := by rw [← hW0]; exact below_grow1 w _
  have g0 : W0.heap[w.heap.size]? = some (.cells #[.string key, .string lo, .string hi] 24 (0, 0)) := by rw [← hW0]; exact heap_alloc_new w _
  obtain ⟨B, hB⟩ : ∃ B, w.heap.size = B := ⟨_, rfl⟩
  rw [hB] at g0
  have HE0 := Lib.hid (hE.below hB0)
  have HB0 := Lib.hid hB0
  have HBE := Lib.hid hB
  have HW0 := Lib.hid hW0
  have HG0 := Lib.hid g0
  obtain ⟨ao, cp, rfl, hem, -⟩ := _root_.id hE
  clear hB0 g0 hW0 hB hE
  go_enter Try.func3, Try.ntmps3
  go_wp2_with fail
  rw [HW0.out]
  rw [HBE.out]
  refine (alive_any W0).mono ?_
  rintro e w1 ⟨rfl, hb1⟩
  have HE1 := Lib.hid (HE0.out.below hb1)
  have HB1 := Lib.hid (HB0.out.trans (hb1.mono HB0.out.size))
  have HG1 : Hid (w1.heap[B]? = some (.cells #[.string key, .string lo, .string hi] 24 (0, 0))) := Lib.hid ((hb1.block B (Array.getElem?_eq_some_iff.1 HG0.out).1).trans HG0.out)
  clear hb1 HE0 HB0 HG0 HW0
  go_wp2_with fail
  refine (heavy_any _ es w1 HE1.out).mono ?_
  rintro e w2 ⟨bh, rfl, hh, hb2⟩
  have HB2 := Lib.hid (HB1.out.trans (hb2.mono HB1.out.size))
  cases bh with
  | true =>
    clear hh hb2
    go_wp2_with fail
    go_ret
    exact ⟨rfl, HB2.out⟩
  | false =>
    obtain ⟨hel, hes⟩ := hh rfl
    have HES := Lib.hid hes
    have HE2 := Lib.hid (HE1.out.below hb2)
    have HG2 : Hid (w2.heap[B]? = some (.cells #[.string key, .string lo, .string hi] 24 (0, 0))) := Lib.hid ((hb2.block B (Array.getElem?_eq_some_iff.1 HG1.out).1).trans HG1.out)
    clear hh hes hb2 HE1 HB1 HG1
    go_wp2_with fail
    refine (new_any w2).mono ?_
    rintro e w3 ⟨xb, own3, rfl, hx3, hb3, ho3⟩
    have X4 : Hid (XOn w2 own3 (w3.alloc (.cells #[] 69)) xb 0 []) := Lib.hid ((XOn.mk hx3 ho3 hb3).on (below_grow1 w3 _))
    clear hx3 hb3 ho3
    go_wp2_with fail
    go_loopw [6, 24] (fun vm i W => PR w2 xb es vm i W) (fun _ i _ => es.length - (iOf i).toNat)
    case atStart => exact ⟨0, 0, own3, [], rfl, Nat.zero_le _, by omega, by simp, X4, Lib.hid (MsIn.nil _ _ _ _)⟩
    case round =>
      obtain ⟨k, n, own, m, rfl, hk, hn, hm, hX, hM⟩ := hrel
      have hb2r := hX.out.below
      have gB := (hb2r.block B (Array.getElem?_eq_some_iff.1 HG2.out).1).trans HG2.out
      clear X4
      by_cases hlt : k < es.length
      · obtain ⟨d, hd⟩ : ∃ d, es[k]? = some d := ⟨_, List.getElem?_eq_getElem hlt⟩
        obtain ⟨ao', cp', hv', -, hcs⟩ := HE2.out
        injection hv' with q1 q2 q3
        subst q1
        clear q2 q3
        obtain ⟨g, o, fo, fc, rfl, d1, d2, d3, hfa, hwf⟩ := hcs k d hd
        have c1 := (hb2r.cell (World.block_lt_of_cell? _ _ d1)).trans d1
        have c2 := (hb2r.cell (World.block_lt_of_cell? _ _ d2)).trans d2
        have c3 := (hb2r.cell (World.block_lt_of_cell? _ _ d3)).trans d3
        clear d1 d2 d3
        obtain ⟨hsl, hsm⟩ := HES.out d (List.mem_of_getElem? hd)
        obtain ⟨kd, id, fs⟩ := d
        simp only at c1 c2 c3 hfa hwf hsl hsm
        obtain ⟨wq, hwq⟩ : ∃ wq, wr.alloc (.cells #[.int .i64 kd, .int .i64 id, .slice fo fs.length fc] 32) = wq := ⟨_, rfl⟩
        have hbq : Below wr.heap.size wr wq := by rw [← hwq]; exact below_grow1 wr _
        have gq : wq.heap[wr.heap.size]? = some (.cells #[.int .i64 kd, .int .i64 id, .slice fo fs.length fc] 32 (0, 0)) := by rw [← hwq]; exact heap_alloc_new wr _
        obtain ⟨Bo, hBo⟩ : ∃ Bo, wr.heap.size = Bo := ⟨_, rfl⟩
        have HXQ := Lib.hid (hX.out.on hbq)
        have HMQ : Hid (MsIn (fun b => b < wq.heap.size) wq u6 m) := Lib.hid ((hM.out.below hbq fun b hb => hb).wide fun b hb => Nat.lt_of_lt_of_le hb hbq.size)
        rw [hBo] at gq
        have HGQ := Lib.hid gq
        have HFQ := Lib.hid ((hfa.below hb2r).below hbq)
        have HF2 : Hid (∀ W, Below w2.heap.size w2 W → FldsAt W (.slice fo fs.length fc) fs) := Lib.hid fun W hb => hfa.below hb
        have HSM : Hid (∀ f ∈ fs, f.key.length ≤ maxLen ∧ f.val.length ≤ maxLen) := Lib.hid fun f hf => by have := hsm f hf; omega
        have HWQ := Lib.hid hwq
        have HBO := Lib.hid hBo
        have HBQ := Lib.hid hbq
        clear hbq gq hfa hM hX hd hcs hsm hwq
        by_cases hkd : kd = 2
        · subst hkd
          have DR := Lib.hid (refDrop_any (fun b => b < wq.heap.size) u6 m id wq (fun b hb => hb) HMQ.out (by omega))
          obtain ⟨mo, mc, hmv, -⟩ := _root_.id HMQ.out
          subst hmv
          go_wp2_with fail
          try rw [HWQ.out]
          try rw [HBO.out]
          refine DR.out.mono ?_
          rintro e wa ⟨u, rfl, hu⟩
          have gA := (hu.2.block Bo (Array.getElem?_eq_some_iff.1 HGQ.out).1).trans HGQ.out
          obtain ⟨y0, y1, y2⟩ := cells3 gA
          obtain ⟨uo, uc, huv, -⟩ := _root_.id hu.1
          subst huv
          have XD := Lib.hid (drop_any own xb n m id wa ((HXQ.out.on hu.2).at_) hwf (by omega))
          have HU := Lib.hid hu
          clear hu DR gA
          go_wp2_with fail
          refine XD.out.mono ?_
          rintro e wb ⟨rfl, hp⟩
          have AOX := Lib.hid (ao_drop HXQ.out HGQ.out (fun b hb => hb) HU.out hp)
          have hdl := drop_less m id
          have hdl2 := rDrop_len m id
          clear hp XD HU
          cases hany : (m.any fun s => s.1 == id) with
          | true =>
            have hI : (rDrop m id).length < m.length := hdl.2 hany
            clear hdl hany
            obtain ⟨own5, hX5, hM5, hg5⟩ := AOX.out
            have hm5 : (rDrop m id).length ≤ k + 1 := by omega
            obtain ⟨M5, hM5e⟩ : ∃ M5, rDrop m id = M5 := ⟨_, rfl⟩
            rw [hM5e] at hX5 hM5 hm5
            try rw [hM5e] at hI
            try rw [hM5e]
            obtain ⟨so5, sc5, hv5, -⟩ := _root_.id hM5
            have gB5 := (hX5.below.block B (Array.getElem?_eq_some_iff.1 HG2.out).1).trans HG2.out
            obtain ⟨z0, z1, z2⟩ := cells3 hg5
            have HX5 := Lib.hid hX5
            have HM5 := Lib.hid hM5
            have HGB5 := Lib.hid gB5
            have HF5 := Lib.hid (HF2.out wb hX5.below)
            have HV5 := Lib.hid hv5
            clear hX5 hM5 gB5 hg5 AOX hM5e hv5
            go_wp2_with fail
            go_loopw [80] (fun i W => TR wb fs i W) (fun i _ => fs.length - (iOf i).toNat)
            case atStart => exact ⟨0, rfl, Nat.zero_le _, Lib.hid (Below.refl _ _)⟩
            case round =>
              obtain ⟨j, rfl, hj, hBJ⟩ := hrel
              have gBJ := (hBJ.out.block B (Array.getElem?_eq_some_iff.1 HGB5.out).1).trans HGB5.out
              obtain ⟨x0, x1, x2⟩ := cells3 gBJ
              have hBl : B < wr.heap.size := (Array.getElem?_eq_some_iff.1 gBJ).1
              by_cases hjl : j < fs.length
              · obtain ⟨f, hf⟩ : ∃ f, fs[j]? = some f := ⟨_, List.getElem?_eq_getElem hjl⟩
                obtain ⟨fo', fc', hfv', -, hfc⟩ := HF5.out.below hBJ.out
                injection hfv' with q1 q2 q3
                subst q1
                clear q2 q3
                obtain ⟨gf, of, rfl, e1, e2⟩ := hfc j f hf
                obtain ⟨hz1, hz2⟩ := HSM.out f (List.mem_of_getElem? hf)
                obtain ⟨tk, htk⟩ : ∃ tk : ByteArray, (⟨f.key.toArray⟩ : ByteArray) = tk := ⟨_, rfl⟩
                obtain ⟨tv, htv⟩ : ∃ tv : ByteArray, (⟨f.val.toArray⟩ : ByteArray) = tv := ⟨_, rfl⟩
                have hyk : tk.size ≤ maxLen := by rw [← htk]; exact hz1
                have hyv : tv.size ≤ maxLen := by rw [← htv]; exact hz2
                rw [htk] at e1
                rw [htv] at e2
                obtain ⟨w6, hw6⟩ : ∃ w6, wr.alloc (.cells #[.string tk, .string tv] 45) = w6 := ⟨_, rfl⟩
                have hb6 : Below wb.heap.size wb w6 := by rw [← hw6]; exact hBJ.out.alloc hBJ.out.size _
                have AK := Lib.hid (asks_any own5 (fun b => b < wb.heap.size) w6 xb (n + 7000) M5 _ tk tv hi (HX5.out.on hb6).at_ (HM5.out.below hb6 fun b hb => hb) (fun b hb => Nat.lt_of_lt_of_le hb hb6.size) (by omega) (by omega) hyk hyv)
                have HB6 := Lib.hid hb6
                have HW6 := Lib.hid hw6
                clear hfc hf htk htv hz1 hz2 hw6 hb6 gBJ
                go_wp2_with fail
                try rw [HW6.out]
                refine AK.out.mono ?_
                rintro e w7 ⟨rfl, h7⟩
                have HB7 := Lib.hid (HB6.out.trans (h7.mono HB6.out.size))
                clear h7 AK
                go_wp2_with fail
                exact ⟨⟨j + 1, by go_num, by omega, HB7⟩, by simp [iOf]; omega⟩
              · have HXE := Lib.hid (HX5.out.on hBJ.out)
                have HME : Hid (MsIn (fun b => b < wr.heap.size) wr _ M5) := Lib.hid ((HM5.out.below hBJ.out fun b hb => hb).wide fun b hb => Nat.lt_of_lt_of_le hb hBJ.out.size)
                clear gBJ
                go_wp2_with fail
                exact ⟨⟨k + 1, n + 7000, own5, M5, by go_num, by omega, by omega, hm5, HXE, HME⟩, by simp [iOf]; omega⟩
          | false =>
            have hI : ¬ (rDrop m id).length < m.length := fun h => by have := hdl.1 h; rw [hany] at this; cases this
            clear hdl hany
            obtain ⟨own5, hX5, hM5, hg5⟩ := AOX.out
            have hm5 : (rDrop m id).length ≤ k + 1 := by omega
            obtain ⟨M5, hM5e⟩ : ∃ M5, rDrop m id = M5 := ⟨_, rfl⟩
            rw [hM5e] at hX5 hM5 hm5
            try rw [hM5e] at hI
            try rw [hM5e]
            obtain ⟨so5, sc5, hv5, -⟩ := _root_.id hM5
            have gB5 := (hX5.below.block B (Array.getElem?_eq_some_iff.1 HG2.out).1).trans HG2.out
            obtain ⟨z0, z1, z2⟩ := cells3 hg5
            have HX5 := Lib.hid hX5
            have HM5 := Lib.hid hM5
            have HGB5 := Lib.hid gB5
            have HF5 := Lib.hid (HF2.out wb hX5.below)
            have HV5 := Lib.hid hv5
            clear hX5 hM5 gB5 hg5 AOX hM5e hv5
            go_wp2_with fail
            go_loopw [80] (fun i W => TR wb fs i W) (fun i _ => fs.length - (iOf i).toNat)
            case atStart => exact ⟨0, rfl, Nat.zero_le _, Lib.hid (Below.refl _ _)⟩
            case round =>
              obtain ⟨j, rfl, hj, hBJ⟩ := hrel
              have gBJ := (hBJ.out.block B (Array.getElem?_eq_some_iff.1 HGB5.out).1).trans HGB5.out
              obtain ⟨x0, x1, x2⟩ := cells3 gBJ
              have hBl : B < wr.heap.size := (Array.getElem?_eq_some_iff.1 gBJ).1
              by_cases hjl : j < fs.length
              · obtain ⟨f, hf⟩ : ∃ f, fs[j]? = some f := ⟨_, List.getElem?_eq_getElem hjl⟩
                obtain ⟨fo', fc', hfv', -, hfc⟩ := HF5.out.below hBJ.out
                injection hfv' with q1 q2 q3
                subst q1
                clear q2 q3
                obtain ⟨gf, of, rfl, e1, e2⟩ := hfc j f hf
                obtain ⟨hz1, hz2⟩ := HSM.out f (List.mem_of_getElem? hf)
                obtain ⟨tk, htk⟩ : ∃ tk : ByteArray, (⟨f.key.toArray⟩ : ByteArray) = tk := ⟨_, rfl⟩
                obtain ⟨tv, htv⟩ : ∃ tv : ByteArray, (⟨f.val.toArray⟩ : ByteArray) = tv := ⟨_, rfl⟩
                have hyk : tk.size ≤ maxLen := by rw [← htk]; exact hz1
                have hyv : tv.size ≤ maxLen := by rw [← htv]; exact hz2
                rw [htk] at e1
                rw [htv] at e2
                obtain ⟨w6, hw6⟩ : ∃ w6, wr.alloc (.cells #[.string tk, .string tv] 45) = w6 := ⟨_, rfl⟩
                have hb6 : Below wb.heap.size wb w6 := by rw [← hw6]; exact hBJ.out.alloc hBJ.out.size _
                have AK := Lib.hid (asks_any own5 (fun b => b < wb.heap.size) w6 xb (n + 7000) M5 _ tk tv hi (HX5.out.on hb6).at_ (HM5.out.below hb6 fun b hb => hb) (fun b hb => Nat.lt_of_lt_of_le hb hb6.size) (by omega) (by omega) hyk hyv)
                have HB6 := Lib.hid hb6
                have HW6 := Lib.hid hw6
                clear hfc hf htk htv hz1 hz2 hw6 hb6 gBJ
                go_wp2_with fail
                try rw [HW6.out]
                refine AK.out.mono ?_
                rintro e w7 ⟨rfl, h7⟩
                have HB7 := Lib.hid (HB6.out.trans (h7.mono HB6.out.size))
                clear h7 AK
                go_wp2_with fail
                exact ⟨⟨j + 1, by go_num, by omega, HB7⟩, by simp [iOf]; omega⟩
              · have HXE := Lib.hid (HX5.out.on hBJ.out)
                have HME : Hid (MsIn (fun b => b < wr.heap.size) wr _ M5) := Lib.hid ((HM5.out.below hBJ.out fun b hb => hb).wide fun b hb => Nat.lt_of_lt_of_le hb hBJ.out.size)
                clear gBJ
                go_wp2_with fail
                exact ⟨⟨k + 1, n + 7000, own5, M5, by go_num, by omega, by omega, hm5, HXE, HME⟩, by simp [iOf]; omega⟩
        · have CP := Lib.hid (copiesO_any _ fs wq HFQ.out (by omega))
          go_wp2_with fail
          try rw [HWQ.out]
          try rw [HBO.out]
          refine CP.out.mono ?_
          rintro e wa ⟨vf, rfl, hrow, hba⟩
          have gA := (hba.block Bo (Array.getElem?_eq_some_iff.1 HGQ.out).1).trans HGQ.out
          obtain ⟨y0, y1, y2⟩ := cells3 gA
          obtain ⟨fo2, fc2, hfv⟩ := own_sh hrow
          subst hfv
          have HROW := Lib.hid hrow
          have HBA := Lib.hid hba
          clear hrow hba CP gA
          by_cases hid : id < 1
          · go_wp2_with fail
            refine (put_low xb id _ wa hid).mono ?_
            rintro e w' ⟨rfl, hw⟩
            subst hw
            go_wp2_with fail
            refine (refPut_no _ _ id w' hid).mono ?_
            rintro e w'' ⟨rfl, hw⟩
            subst hw
            go_wp2_with fail
            refine (num_range w'').mono ?_
            rintro e w5 ⟨rfl, hw⟩
            subst hw
            go_wp2_with fail
            refine (fields_same _ _ fs w'' (FldsAt.row HROW.out (by omega)) (HFQ.out.below HBA.out)).mono ?_
            rintro e w5 ⟨rfl, kk, hw⟩
            subst hw
            go_wp2_with fail
            refine (spoil_any _ _ _ _ (w''.drewN kk) HROW.out (by omega)).mono ?_
            rintro e wb ⟨rfl, hsp⟩
            have AOX := Lib.hid (ao_low HXQ.out HGQ.out HBA.out HROW.out HMQ.out hsp)
            have hdl2 : m.length ≤ m.length := Nat.le_refl _
            clear hsp
            obtain ⟨own5, hX5, hM5, hg5⟩ := AOX.out
            have hm5 : (m).length ≤ k + 1 := by omega
            obtain ⟨M5, hM5e⟩ : ∃ M5, m = M5 := ⟨_, rfl⟩
            rw [hM5e] at hX5 hM5 hm5
            try rw [hM5e] at hI
            try rw [hM5e]
            obtain ⟨so5, sc5, hv5, -⟩ := _root_.id hM5
            have gB5 := (hX5.below.block B (Array.getElem?_eq_some_iff.1 HG2.out).1).trans HG2.out
            obtain ⟨z0, z1, z2⟩ := cells3 hg5
            have HX5 := Lib.hid hX5
            have HM5 := Lib.hid hM5
            have HGB5 := Lib.hid gB5
            have HF5 := Lib.hid (HF2.out wb hX5.below)
            have HV5 := Lib.hid hv5
            clear hX5 hM5 gB5 hg5 AOX hM5e hv5
            go_wp2_with fail
            go_loopw [80] (fun i W => TR wb fs i W) (fun i _ => fs.length - (iOf i).toNat)
            case atStart => exact ⟨0, rfl, Nat.zero_le _, Lib.hid (Below.refl _ _)⟩
            case round =>
              obtain ⟨j, rfl, hj, hBJ⟩ := hrel
              have gBJ := (hBJ.out.block B (Array.getElem?_eq_some_iff.1 HGB5.out).1).trans HGB5.out
              obtain ⟨x0, x1, x2⟩ := cells3 gBJ
              have hBl : B < wr.heap.size := (Array.getElem?_eq_some_iff.1 gBJ).1
              by_cases hjl : j < fs.length
              · obtain ⟨f, hf⟩ : ∃ f, fs[j]? = some f := ⟨_, List.getElem?_eq_getElem hjl⟩
                obtain ⟨fo', fc', hfv', -, hfc⟩ := HF5.out.below hBJ.out
                injection hfv' with q1 q2 q3
                subst q1
                clear q2 q3
                obtain ⟨gf, of, rfl, e1, e2⟩ := hfc j f hf
                obtain ⟨hz1, hz2⟩ := HSM.out f (List.mem_of_getElem? hf)
                obtain ⟨tk, htk⟩ : ∃ tk : ByteArray, (⟨f.key.toArray⟩ : ByteArray) = tk := ⟨_, rfl⟩
                obtain ⟨tv, htv⟩ : ∃ tv : ByteArray, (⟨f.val.toArray⟩ : ByteArray) = tv := ⟨_, rfl⟩
                have hyk : tk.size ≤ maxLen := by rw [← htk]; exact hz1
                have hyv : tv.size ≤ maxLen := by rw [← htv]; exact hz2
                rw [htk] at e1
                rw [htv] at e2
                obtain ⟨w6, hw6⟩ : ∃ w6, wr.alloc (.cells #[.string tk, .string tv] 45) = w6 := ⟨_, rfl⟩
                have hb6 : Below wb.heap.size wb w6 := by rw [← hw6]; exact hBJ.out.alloc hBJ.out.size _
                have AK := Lib.hid (asks_any own5 (fun b => b < wb.heap.size) w6 xb (n + 7000) M5 _ tk tv hi (HX5.out.on hb6).at_ (HM5.out.below hb6 fun b hb => hb) (fun b hb => Nat.lt_of_lt_of_le hb hb6.size) (by omega) (by omega) hyk hyv)
                have HB6 := Lib.hid hb6
                have HW6 := Lib.hid hw6
                clear hfc hf htk htv hz1 hz2 hw6 hb6 gBJ
                go_wp2_with fail
                try rw [HW6.out]
                refine AK.out.mono ?_
                rintro e w7 ⟨rfl, h7⟩
                have HB7 := Lib.hid (HB6.out.trans (h7.mono HB6.out.size))
                clear h7 AK
                go_wp2_with fail
                exact ⟨⟨j + 1, by go_num, by omega, HB7⟩, by simp [iOf]; omega⟩
              · have HXE := Lib.hid (HX5.out.on hBJ.out)
                have HME : Hid (MsIn (fun b => b < wr.heap.size) wr _ M5) := Lib.hid ((HM5.out.below hBJ.out fun b hb => hb).wide fun b hb => Nat.lt_of_lt_of_le hb hBJ.out.size)
                clear gBJ
                go_wp2_with fail
                exact ⟨⟨k + 1, n + 7000, own5, M5, by go_num, by omega, by omega, hm5, HXE, HME⟩, by simp [iOf]; omega⟩
          · have PU := Lib.hid (put_any own xb n m id _ fs wa ((HXQ.out.on HBA.out).at_) (FldsAt.row HROW.out (by omega)) ⟨hwf, by simp only; omega, HSM.out⟩ (by omega) (by omega))
            go_wp2_with fail
            refine PU.out.mono ?_
            rintro e wb ⟨rfl, hp⟩
            obtain ⟨_, hX2, hu2, hlow2, hkp⟩ := _root_.id hp
            have hMB : MsIn (fun b => b < wq.heap.size) wb u6 m := (HMQ.out.below HBA.out fun b hb => hb).kept hkp
            have hFB : FldsIn (fun b => b < wq.heap.size) wb (.slice fo fs.length fc) fs := ⟨hkp.flds (HFQ.out.below HBA.out), HFQ.out.in_.2⟩
            have RP := Lib.hid (refPut_any (fun b => b < wq.heap.size) u6 _ m id fs wb (fun b (hb : b < wq.heap.size) => by have := HBA.out.size; have := hu2.size; omega) hMB (by omega) hFB (by omega))
            have gB2 := hkp _ _ _ _ ((HBA.out.block Bo (Array.getElem?_eq_some_iff.1 HGQ.out).1).trans HGQ.out)
            obtain ⟨y0, y1, y2⟩ := cells3 gB2
            have HRB := Lib.hid (own_kept HROW.out hkp)
            have HFB := Lib.hid hFB.1
            have HP := Lib.hid hp
            have GB2 := Lib.hid gB2
            clear hp hX2 hu2 hlow2 hkp hMB hFB gB2 PU
            go_wp2_with fail
            refine RP.out.mono ?_
            rintro e wc ⟨u, rfl, hu⟩
            have gC := (hu.2.block Bo (Array.getElem?_eq_some_iff.1 GB2.out).1).trans GB2.out
            obtain ⟨y0, y1, y2⟩ := cells3 gC
            have HRC := Lib.hid (own_below HRB.out hu.2)
            have HFC := Lib.hid (HFB.out.below hu.2)
            have HU := Lib.hid hu
            clear hu RP gC HRB HFB GB2
            go_wp2_with fail
            refine (num_none wc).mono ?_
            rintro e w5 ⟨rfl, hw⟩
            subst hw
            go_wp2_with fail
            refine (fields_same _ _ fs wc (FldsAt.row HRC.out (by omega)) HFC.out).mono ?_
            rintro e w5 ⟨rfl, kk, hw⟩
            subst hw
            go_wp2_with fail
            refine (spoil_any _ _ _ _ (wc.drewN kk) HRC.out (by omega)).mono ?_
            rintro e wd ⟨rfl, hsp⟩
            have AOX := Lib.hid (ao_put HXQ.out HGQ.out HBA.out HROW.out HP.out HU.out hsp)
            have hdl2 := rPut_len m id fs
            clear hsp HP HU HRC HFC
            obtain ⟨own5, hX5, hM5, hg5⟩ := AOX.out
            have hm5 : (rPut m id fs).length ≤ k + 1 := by omega
            obtain ⟨M5, hM5e⟩ : ∃ M5, rPut m id fs = M5 := ⟨_, rfl⟩
            rw [hM5e] at hX5 hM5 hm5
            try rw [hM5e] at hI
            try rw [hM5e]
            obtain ⟨so5, sc5, hv5, -⟩ := _root_.id hM5
            have gB5 := (hX5.below.block B (Array.getElem?_eq_some_iff.1 HG2.out).1).trans HG2.out
            obtain ⟨z0, z1, z2⟩ := cells3 hg5
            have HX5 := Lib.hid hX5
            have HM5 := Lib.hid hM5
            have HGB5 := Lib.hid gB5
            have HF5 := Lib.hid (HF2.out wd hX5.below)
            have HV5 := Lib.hid hv5
            clear hX5 hM5 gB5 hg5 AOX hM5e hv5
            go_wp2_with fail
            go_loopw [80] (fun i W => TR wd fs i W) (fun i _ => fs.length - (iOf i).toNat)
            case atStart => exact ⟨0, rfl, Nat.zero_le _, Lib.hid (Below.refl _ _)⟩
            case round =>
              obtain ⟨j, rfl, hj, hBJ⟩ := hrel
              have gBJ := (hBJ.out.block B (Array.getElem?_eq_some_iff.1 HGB5.out).1).trans HGB5.out
              obtain ⟨x0, x1, x2⟩ := cells3 gBJ
              have hBl : B < wr.heap.size := (Array.getElem?_eq_some_iff.1 gBJ).1
              by_cases hjl : j < fs.length
              · obtain ⟨f, hf⟩ : ∃ f, fs[j]? = some f := ⟨_, List.getElem?_eq_getElem hjl⟩
                obtain ⟨fo', fc', hfv', -, hfc⟩ := HF5.out.below hBJ.out
                injection hfv' with q1 q2 q3
                subst q1
                clear q2 q3
                obtain ⟨gf, of, rfl, e1, e2⟩ := hfc j f hf
                obtain ⟨hz1, hz2⟩ := HSM.out f (List.mem_of_getElem? hf)
                obtain ⟨tk, htk⟩ : ∃ tk : ByteArray, (⟨f.key.toArray⟩ : ByteArray) = tk := ⟨_, rfl⟩
                obtain ⟨tv, htv⟩ : ∃ tv : ByteArray, (⟨f.val.toArray⟩ : ByteArray) = tv := ⟨_, rfl⟩
                have hyk : tk.size ≤ maxLen := by rw [← htk]; exact hz1
                have hyv : tv.size ≤ maxLen := by rw [← htv]; exact hz2
                rw [htk] at e1
                rw [htv] at e2
                obtain ⟨w6, hw6⟩ : ∃ w6, wr.alloc (.cells #[.string tk, .string tv] 45) = w6 := ⟨_, rfl⟩
                have hb6 : Below wd.heap.size wd w6 := by rw [← hw6]; exact hBJ.out.alloc hBJ.out.size _
                have AK := Lib.hid (asks_any own5 (fun b => b < wd.heap.size) w6 xb (n + 7000) M5 _ tk tv hi (HX5.out.on hb6).at_ (HM5.out.below hb6 fun b hb => hb) (fun b hb => Nat.lt_of_lt_of_le hb hb6.size) (by omega) (by omega) hyk hyv)
                have HB6 := Lib.hid hb6
                have HW6 := Lib.hid hw6
                clear hfc hf htk htv hz1 hz2 hw6 hb6 gBJ
                go_wp2_with fail
                try rw [HW6.out]
                refine AK.out.mono ?_
                rintro e w7 ⟨rfl, h7⟩
                have HB7 := Lib.hid (HB6.out.trans (h7.mono HB6.out.size))
                clear h7 AK
                go_wp2_with fail
                exact ⟨⟨j + 1, by go_num, by omega, HB7⟩, by simp [iOf]; omega⟩
              · have HXE := Lib.hid (HX5.out.on hBJ.out)
                have HME : Hid (MsIn (fun b => b < wr.heap.size) wr _ M5) := Lib.hid ((HM5.out.below hBJ.out fun b hb => hb).wide fun b hb => Nat.lt_of_lt_of_le hb hBJ.out.size)
                clear gBJ
                go_wp2_with fail
                exact ⟨⟨k + 1, n + 7000, own5, M5, by go_num, by omega, by omega, hm5, HXE, HME⟩, by simp [iOf]; omega⟩
      · have hXX := hX.out
        obtain ⟨x0, x1, x2⟩ := cells3 gB
        have AK := Lib.hid (asks_any own (fun b => b < wr.heap.size) wr xb n m u6 key lo hi hX.out.at_ hM.out (fun b hb => hb) (by omega) (by omega) hkm hlm)
        go_wp2_with fail
        refine AK.out.mono ?_
        rintro e w6 ⟨rfl, h6⟩
        have FB := Lib.hid (HB2.out.trans ((hX.out.on h6).below.mono HB2.out.size))
        go_wp2_with fail
        go_ret
        exact ⟨rfl, FB.out⟩
end Go.Proofs.Ytmdofcpigknaoaa.I
