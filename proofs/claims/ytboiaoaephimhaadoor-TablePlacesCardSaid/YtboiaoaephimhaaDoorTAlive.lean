/- The chapter's example, walked: stanzakeeplaw25.alive. -/
import Derived.Test.YtboiaoaephimhaaDoorTTable
import Derived.Test.YtboiaoaephimhaaDoorBLists
namespace Go.Proofs.YtboiaoaephimhaaDoor.T
open Go.RowKit Go.Shelf
open Go.Proofs.YtboiaoaephimhaaDoor.B

def t0 : List UInt8 := [65, 58, 32, 49, 10, 10, 65, 58, 32, 50, 50, 10, 66, 58, 32, 120, 10]
def k0 : List ByteArray := [⟨#[65]⟩, ⟨#[66]⟩]
theorem t0_err : (parse t0).err = 0 := by decide +kernel
theorem t0_lines : linesL (rowsOf k0 (stanzasOf t0)) = [65, 32, 32, 32, 66, 10, 49, 32, 32, 32, 45, 10, 50, 50, 32, 32, 120, 10] := by decide +kernel
theorem k0_good : (k0.any fun s => !goodB s) = false := by decide +kernel
set_option maxRecDepth 20000 in
set_option maxHeartbeats 1600000 in
theorem alive_any (w : World) (hr : Ready w) :
    Calls Tryd.prog 5 #[] w fun e w' => e = .returned (.bool true) ∧ Below w.heap.size w w' := by
  have L := Lib.hid (list_ok ⟨t0.toArray⟩ (by decide) w t0_err)
  have HR := Lib.hid hr
  clear hr
  go_enter Tryd.func5, Tryd.ntmps5
  go_wp2_with fail
  refine L.out.mono ?_
  rintro e w1 ⟨b, rfl, hL, -, hb⟩
  obtain ⟨w2, hw2⟩ : ∃ w2, w1.alloc (.cells #[.string ⟨#[65]⟩, .string ⟨#[66]⟩] 9) = w2 := ⟨_, rfl⟩
  have hb2 : Below w1.heap.size w1 w2 := by rw [← hw2]; exact below_grow1 w1 _
  have hE : w2.heap[w1.heap.size]? = some (.cells #[.string ⟨#[65]⟩, .string ⟨#[66]⟩] 9 (0, 0)) := by rw [← hw2]; exact heap_alloc_new w1 _
  have hlt : w1.heap.size < w2.heap.size := (Array.getElem?_eq_some_iff.1 hE).1
  have hK : StrsAt w2.heap.size w2 (.slice (some ⟨w1.heap.size, 0, none⟩) 2 2) k0 := by
    refine ⟨_, 2, rfl, fun k s hs => ⟨_, rfl, hlt, ?_⟩⟩
    rw [addrO]
    match k, hs with
    | 0, hs => simp [k0] at hs; subst hs; simp [World.cell?, hE]
    | 1, hs => simp [k0] at hs; subst hs; simp [World.cell?, hE]
  have hL2 := hL.below hb2
  have T := Lib.hid (table_ok ⟨b, 0, none⟩ _ k0 (stanzasOf t0) w2 hK (by decide) (by decide) (Nat.le_trans (stanzasOf_few t0) (by omega)) (fun x hx => (stanzasOf_fine hx).1) ((HR.out.stays hb).stays hb2) k0_good (fun w' hb' => stanzas_in (s := ⟨t0.toArray⟩) (hL2.below hb') (by decide)))
  rw [t0_lines] at T
  have HB := Lib.hid (below_cat hb hb2)
  clear hb hb2 hE hlt hK hL hL2 HR L
  go_wp2_with fail
  refine T.out.mono ?_
  rintro e w3 ⟨rfl, hb3⟩
  have HB3 := Lib.hid hb3
  clear hb3 T
  go_wp2
  go_ret
  exact ⟨rfl, below_cat HB.out HB3.out⟩
end Go.Proofs.YtboiaoaephimhaaDoor.T
