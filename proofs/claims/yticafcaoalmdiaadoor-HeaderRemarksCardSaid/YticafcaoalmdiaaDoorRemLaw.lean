/- The plain law: a header ahead of a text is a Remark and a Blank more. -/
import Derived.Test.YticafcaoalmdiaaDoorBParse
import Derived.Test.YticafcaoalmdiaaDoorHPlain
namespace Go.Proofs.YticafcaoalmdiaaDoor.R
open Go.RowKit Go.Proofs.YticafcaoalmdiaaDoor.B

/-- The same parser, but for where a field begins, and with items ahead. -/
def Sim (pre : List It) (p p' : Ps) : Prop := ∃ f, p' = { p with from_ := f, items := pre ++ p.items }
def key (x : LineD) : List UInt8 × Bool := (x.text, x.ended)
theorem flush_sim {pre : List It} {p p' : Ps} (h : Sim pre p p') : p'.flush.err = p.flush.err ∧ (p.flush.err = 0 → Sim pre p.flush.st p'.flush.st) := by
  obtain ⟨f, rfl⟩ := h
  unfold Ps.flush
  by_cases h1 : p.lines = []
  · rw [if_pos h1, if_pos h1]; exact ⟨rfl, fun _ => ⟨f, rfl⟩⟩
  · rw [if_neg h1, if_neg h1]
    by_cases h2 : unfoldN p.lines ≠ 0
    · rw [if_pos h2, if_pos h2]; exact ⟨rfl, fun e => absurd e h2⟩
    · rw [if_neg h2, if_neg h2]
      by_cases h3 : p.full = true
      · rw [if_pos h3, if_pos h3]; exact ⟨rfl, fun e => absurd e (by simp)⟩
      · rw [if_neg h3, if_neg h3]; exact ⟨rfl, fun _ => ⟨f, rfl⟩⟩
theorem ended_sim {pre : List It} {p p' : Ps} (h : Sim pre p p') : Sim pre p.ended p'.ended := by
  obtain ⟨f, rfl⟩ := h
  unfold Ps.ended
  by_cases h1 : p.block = []
  · rw [if_pos h1, if_pos h1]; exact ⟨f, rfl⟩
  · rw [if_neg h1, if_neg h1]
    refine ⟨f, ?_⟩
    show ({ lines := p.lines, from_ := f, full := p.full, items := (pre ++ p.items) ++ [p.item], block := [], fields := [], records := _ } : Ps) = _
    rw [List.append_assoc]
theorem fin_sim {pre : List It} {p p' : Ps} (h : Sim pre p p') : p'.fin.err = p.fin.err ∧ (p.fin.err = 0 → Sim pre p.fin.st p'.fin.st) := by
  obtain ⟨h1, h2⟩ := flush_sim h
  unfold Ps.fin
  by_cases he : p.flush.err ≠ 0
  · rw [if_pos he, if_pos (by rw [h1]; exact he)]; exact ⟨h1, fun e => absurd e he⟩
  · rw [if_neg he, if_neg (by rw [h1]; exact he)]; exact ⟨rfl, fun _ => ended_sim (h2 (by simpa using he))⟩
theorem more_sim {pre : List It} {p p' : Ps} (h : Sim pre p p') {x y : LineD} (hk : key x = key y) : Sim pre (p.more x) (p'.more y) := by
  obtain ⟨f, rfl⟩ := h
  have ht : x.text = y.text := congrArg Prod.fst hk
  refine ⟨f, ?_⟩
  unfold Ps.more
  rw [ht]
theorem ahead_sim {pre : List It} {p p' : Ps} (h : Sim pre p p') {x y : LineD} (hk : key x = key y) (kd : Nat) : (p'.aheadOf y kd).err = (p.aheadOf x kd).err ∧ ((p.aheadOf x kd).err = 0 → Sim pre (p.aheadOf x kd).st (p'.aheadOf y kd).st) := by
  have hl : p'.lines = p.lines := by obtain ⟨f, rfl⟩ := h; rfl
  have he : x.ended = y.ended := congrArg Prod.snd hk
  have hm := more_sim h hk
  unfold Ps.aheadOf
  by_cases h3 : kd = 3
  · rw [if_pos h3, if_pos h3, hl]
    by_cases h4 : p.lines = []
    · rw [if_pos h4, if_pos h4]; exact ⟨rfl, fun e => absurd e (by simp)⟩
    · rw [if_neg h4, if_neg h4, he]
      by_cases h5 : y.ended = true
      · rw [if_pos h5, if_pos h5]; exact ⟨rfl, fun _ => hm⟩
      · rw [if_neg h5, if_neg h5]; exact flush_sim hm
  · rw [if_neg h3, if_neg h3]
    by_cases h4 : kd = 1
    · rw [if_pos h4, if_pos h4]; exact fin_sim h
    · rw [if_neg h4, if_neg h4]; exact flush_sim h
theorem taken_sim {pre : List It} {p p' : Ps} (h : Sim pre p p') {x y : LineD} (hk : key x = key y) (kd : Nat) : (p'.taken y kd).err = (p.taken x kd).err ∧ ((p.taken x kd).err = 0 → Sim pre (p.taken x kd).st (p'.taken y kd).st) := by
  obtain ⟨f, rfl⟩ := h
  have ht : x.text = y.text := congrArg Prod.fst hk
  have he : x.ended = y.ended := congrArg Prod.snd hk
  unfold Ps.taken
  rw [he]
  by_cases h1 : kd = 5 ∨ y.ended = false
  · rw [if_pos h1, if_pos h1]; exact ⟨rfl, fun e => absurd e (by simp)⟩
  · rw [if_neg h1, if_neg h1]
    by_cases h2 : kd = 1
    · rw [if_pos h2, if_pos h2]
      refine ⟨rfl, fun _ => ⟨f, ?_⟩⟩
      unfold Ps.blank
      rw [ht]
      show ({ lines := p.lines, from_ := f, full := p.full, items := (pre ++ p.items) ++ [_], block := p.block, fields := p.fields, records := p.records } : Ps) = _
      rw [List.append_assoc]
    · rw [if_neg h2, if_neg h2]
      by_cases h3 : kd = 4
      · rw [if_pos h3, if_pos h3]
        refine ⟨rfl, fun _ => ⟨y.no, ?_⟩⟩
        unfold Ps.kept Ps.begun
        rw [ht]
      · rw [if_neg h3, if_neg h3]
        refine ⟨rfl, fun _ => ⟨f, ?_⟩⟩
        unfold Ps.kept
        rw [ht]
theorem take_sim {pre : List It} {p p' : Ps} (h : Sim pre p p') {x y : LineD} (hk : key x = key y) : (p'.take y).err = (p.take x).err ∧ ((p.take x).err = 0 → Sim pre (p.take x).st (p'.take y).st) := by
  have ht : x.text = y.text := congrArg Prod.fst hk
  obtain ⟨h1, h2⟩ := ahead_sim h hk (kindOf y.text)
  unfold Ps.take
  rw [ht]
  by_cases he : (p.aheadOf x (kindOf y.text)).err ≠ 0
  · rw [if_pos he, if_pos (by rw [h1]; exact he)]; exact ⟨h1, fun e => absurd e he⟩
  · rw [if_neg he, if_neg (by rw [h1]; exact he)]; exact taken_sim (h2 (by simpa using he)) hk _
theorem from_sim {pre : List It} : ∀ {xs ys : List LineD} {p p' : Ps}, Sim pre p p' → xs.map key = ys.map key → (parseFrom p' ys).err = (parseFrom p xs).err ∧ ((parseFrom p xs).err = 0 → Sim pre (parseFrom p xs).st (parseFrom p' ys).st)
  | [], [], p, p', h, _ => ⟨rfl, fun _ => h⟩
  | [], y :: s, p, p', h, hk => by simp at hk
  | x :: r, [], p, p', h, hk => by simp at hk
  | x :: r, y :: s, p, p', h, hk => by
    simp only [List.map_cons, List.cons.injEq] at hk
    obtain ⟨h1, h2⟩ := take_sim h hk.1
    unfold parseFrom
    by_cases he : (p.take x).err ≠ 0
    · rw [if_pos he, if_pos (by rw [h1]; exact he)]; exact ⟨h1, fun e => absurd e he⟩
    · rw [if_neg he, if_neg (by rw [h1]; exact he)]; exact from_sim (h2 (by simpa using he)) hk.2
theorem split_keys : ∀ (f f' size size' no no' : Nat) (l : List UInt8), l.length ≤ f → l.length ≤ f' → (splitFrom size f no l).map key = (splitFrom size' f' no' l).map key
  | 0, f', size, size', no, no', l, h, _ => by
    have : l = [] := List.length_eq_zero_iff.1 (by omega)
    subst this; rw [splitFrom_nil, splitFrom_nil]
  | f + 1, f', size, size', no, no', l, h, h' => by
    by_cases hl : l = []
    · subst hl; rw [splitFrom_nil, splitFrom_nil]
    · obtain ⟨g, e1, e2, e3⟩ := splitFrom_cons size (f + 1) no l hl h
      obtain ⟨g', d1, d2, d3⟩ := splitFrom_cons size' f' no' l hl h'
      have e4 : g = f := by omega
      subst e4
      rw [e3, d3, List.map_cons, List.map_cons]
      have := split_keys g g' size size' (no + 1) (no' + 1) (behind 10 l) e2 d2
      rw [this]
      rfl
/-- The header's two items. -/
def headItems (u : List UInt8) : List It := [⟨2, u ++ [10], []⟩, ⟨1, [10], []⟩]
theorem kind_note {u : List UInt8} (h1 : has 10 u = false) (h2 : ∃ t, u = 35 :: t) : kindOf u = 2 := by
  obtain ⟨t, rfl⟩ := h2
  rw [kindOf_eq, h1]
  have h3 : (35 :: t : List UInt8).all isBlank = false := by simp [isBlank]
  rw [h3]
  rfl
theorem ahead_nl {u r : List UInt8} (h : has 10 u = false) : B.ahead 10 (u ++ 10 :: r) = u ∧ behind 10 (u ++ 10 :: r) = r ∧ has 10 (u ++ 10 :: r) = true := by
  induction u with
  | nil => exact ⟨rfl, rfl, rfl⟩
  | cons c t ih =>
    have hc : (c != 10) = true := by
      unfold has at h
      simp at h
      simpa using fun e => h.1 e.symm
    have ht : has 10 t = false := by
      unfold has at h ⊢
      simp at h
      simpa using h.2
    obtain ⟨e1, e2, e3⟩ := ih ht
    refine ⟨?_, ?_, ?_⟩
    · unfold B.ahead at e1 ⊢
      rw [List.cons_append, List.takeWhile_cons, if_pos hc, e1]
    · unfold behind at e2 ⊢
      rw [List.cons_append, List.dropWhile_cons, if_pos hc, e2]
    · unfold has at e3 ⊢
      rw [List.cons_append, List.contains_cons, e3]; simp
theorem split_head {u t : List UInt8} (h : has 10 u = false) : ∃ (x1 x2 : LineD) (ys : List LineD), splitL (u ++ 10 :: 10 :: t) = x1 :: x2 :: ys ∧ key x1 = (u, true) ∧ key x2 = ([], true) ∧ ys.map key = (splitL t).map key := by
  obtain ⟨a1, a2, a3⟩ := ahead_nl (r := 10 :: t) h
  obtain ⟨b1, b2, b3⟩ := ahead_nl (u := []) (r := t) rfl
  obtain ⟨f1, -, e2, e3⟩ := splitFrom_cons (u ++ 10 :: 10 :: t).length (u ++ 10 :: 10 :: t).length 0 (u ++ 10 :: 10 :: t) (by simp) (Nat.le_refl _)
  rw [a1, a2, a3] at e3
  rw [a2] at e2
  obtain ⟨f2, -, d2, d3⟩ := splitFrom_cons (u ++ 10 :: 10 :: t).length f1 1 (10 :: t) (by simp) e2
  have c1 : B.ahead 10 (10 :: t) = [] := b1
  have c2 : behind 10 (10 :: t) = t := b2
  have c3 : has 10 (10 :: t) = true := b3
  rw [c1, c2, c3] at d3
  rw [c2] at d2
  rw [d3] at e3
  exact ⟨_, _, _, e3, rfl, rfl, split_keys f2 t.length _ t.length 2 0 t d2 (Nat.le_refl _)⟩
theorem head_take {u : List UInt8} (h : has 10 u = false) (h2 : ∃ t, u = 35 :: t) {x1 x2 : LineD} (k1 : key x1 = (u, true)) (k2 : key x2 = ([], true)) (ys : List LineD) :
    ∃ p1, Sim (headItems u) Ps.zero p1 ∧ parseFrom Ps.zero (x1 :: x2 :: ys) = parseFrom p1 ys := by
  obtain ⟨n1, t1, u1, e1⟩ := x1
  obtain ⟨n2, t2, u2, e2⟩ := x2
  simp only [key, Prod.mk.injEq] at k1 k2
  obtain ⟨rfl, rfl⟩ := k1
  obtain ⟨rfl, rfl⟩ := k2
  have hk1 := kind_note h h2
  have hk2 : kindOf [] = 1 := rfl
  have s1 : Ps.zero.take ⟨n1, t1, u1, true⟩ = ⟨0, 0, { Ps.zero with block := [u1] }⟩ := by
    unfold Ps.take
    simp only [hk1]
    rfl
  have s2 : ({ Ps.zero with block := [u1] } : Ps).take ⟨n2, t2, [], true⟩ = ⟨0, 0, { Ps.zero with items := headItems u1 }⟩ := by
    unfold Ps.take
    simp only [hk2]
    unfold headItems
    show (({ Ps.zero with items := [⟨2, Lib.join [u1] [10] ++ [10], []⟩] } : Ps).taken ⟨n2, t2, [], true⟩ 1) = _
    rw [Lib.join_one]
    rfl
  refine ⟨{ Ps.zero with items := headItems u1 }, ⟨0, by show _ = ({ lines := [], from_ := 0, full := false, items := headItems u1 ++ [], block := [], fields := [], records := 0 } : Ps); rw [List.append_nil]; rfl⟩, ?_⟩
  have e1 : parseFrom Ps.zero (⟨n1, t1, u1, true⟩ :: ⟨n2, t2, [], true⟩ :: ys) = parseFrom { Ps.zero with block := [u1] } (⟨n2, t2, [], true⟩ :: ys) := by
    show (if (Ps.zero.take ⟨n1, t1, u1, true⟩).err ≠ 0 then Ps.zero.take ⟨n1, t1, u1, true⟩ else parseFrom (Ps.zero.take ⟨n1, t1, u1, true⟩).st _) = _
    rw [s1, if_neg (by simp)]
  have e2 : parseFrom ({ Ps.zero with block := [u1] } : Ps) (⟨n2, t2, [], true⟩ :: ys) = parseFrom { Ps.zero with items := headItems u1 } ys := by
    show (if (({ Ps.zero with block := [u1] } : Ps).take ⟨n2, t2, [], true⟩).err ≠ 0 then ({ Ps.zero with block := [u1] } : Ps).take ⟨n2, t2, [], true⟩ else parseFrom (({ Ps.zero with block := [u1] } : Ps).take ⟨n2, t2, [], true⟩).st _) = _
    rw [s2, if_neg (by simp)]
  rw [e1, e2]
/-- THE LAW. -/
theorem parse_head {u t : List UInt8} (h : has 10 u = false) (h2 : ∃ r, u = 35 :: r) : (parse (u ++ 10 :: 10 :: t)).err = (parse t).err ∧ ((parse t).err = 0 → (parse (u ++ 10 :: 10 :: t)).st.items = headItems u ++ (parse t).st.items) := by
  obtain ⟨x1, x2, ys, e1, k1, k2, hk⟩ := split_head (t := t) h
  obtain ⟨p1, hs, e2⟩ := head_take h h2 k1 k2 ys
  obtain ⟨f1, f2⟩ := from_sim hs hk.symm
  unfold parse
  rw [e1, e2]
  by_cases he : (parseFrom Ps.zero (splitL t)).err ≠ 0
  · rw [if_pos he, if_pos (by rw [f1]; exact he)]
    exact ⟨f1, fun e => absurd e he⟩
  · rw [if_neg he, if_neg (by rw [f1]; exact he)]
    obtain ⟨g1, g2⟩ := fin_sim (f2 (by simpa using he))
    refine ⟨g1, fun e => ?_⟩
    obtain ⟨f, hf⟩ := g2 e
    rw [hf]
theorem parse_hdr (n : Nat) (t : List UInt8) : (parse (H.hdr n ++ t)).err = (parse t).err ∧ ((parse t).err = 0 → (parse (H.hdr n ++ t)).st.items = headItems (H.mark ++ Lib.decDigits n) ++ (parse t).st.items) := by
  rw [H.hdr_form]
  refine parse_head ?_ ⟨_, rfl⟩
  have := H.head_free n
  unfold has
  simpa using this
end Go.Proofs.YticafcaoalmdiaaDoor.R
