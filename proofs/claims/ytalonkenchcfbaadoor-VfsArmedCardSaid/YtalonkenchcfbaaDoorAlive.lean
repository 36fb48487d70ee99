/- The fixed fact of the layer's statements. -/
import Derived.Test.YtalonkenchcfbaaDoorSoloAt
namespace Go.Proofs.YtalonkenchcfbaaDoor
open Go.RowKit Go.Maps

theorem below_cat {a b c : World} (h : Below a.heap.size a b) (k : Below b.heap.size b c) : Below a.heap.size a c := h.trans (k.mono h.size)
set_option maxHeartbeats 1600000 in
set_option maxRecDepth 20000 in
theorem alive_any (w : World) : Calls Tryd.prog 6 #[] w fun e w' => e = .returned (.bool true) ∧ Below w.heap.size w w' := by
  go_enter Tryd.func6, Tryd.ntmps6
  go_wp2_with fail
  refine (new_st 100 (by decide) w).mono ?_
  rintro e w1 ⟨b, rfl, D1, b1⟩
  have D1 := Lib.hid D1
  have b1 := Lib.hid b1
  go_wp2_with fail
  refine (create_st ⟨#[97]⟩ (by decide) (by decide) 100 D1.out).mono ?_
  rintro e w2 ⟨rfl, D2, b2⟩
  clear D1
  have D2 := Lib.hid D2
  have b2 := Lib.hid b2
  rw [show errV 0 = .nilIface from rfl]
  go_wp2_with fail
  refine (syncDir_solo ⟨#[97]⟩ (by decide) (by decide) 100 (by decide) (by decide) D2.out).mono ?_
  rintro e w3 ⟨rfl, D3, b3⟩
  clear D2
  have D3 := Lib.hid D3
  have b3 := Lib.hid b3
  go_wp2_with fail
  refine (write_solo D3.out ⟨#[97, 98]⟩ (by decide) (by decide) (by decide) (by decide) (by decide)).mono ?_
  rintro e w4 ⟨rfl, D4, b4⟩
  clear D3
  have D4 := Lib.hid D4
  have b4 := Lib.hid b4
  go_wp2_with fail
  refine (sync_solo D4.out (by decide) (by decide)).mono ?_
  rintro e w5 ⟨rfl, D5, b5⟩
  clear D4
  have D5 := Lib.hid D5
  have b5 := Lib.hid b5
  go_wp2_with fail
  refine (write_solo D5.out ⟨#[99, 100]⟩ (by decide) (by decide) (by decide) (by decide) (by decide)).mono ?_
  rintro e w6 ⟨rfl, D6, b6⟩
  clear D5
  have D6 := Lib.hid D6
  have b6 := Lib.hid b6
  go_wp2_with fail
  refine (crash_solo D6.out 1 (by decide)).mono ?_
  rintro e w7 ⟨rfl, D7, b7⟩
  clear D6
  have D7 := Lib.hid D7
  have b7 := Lib.hid b7
  go_wp2_with fail
  have hr := read_solo D7.out
  rw [show (⟨(crashText ([] ++ [97, 98]) ([] ++ [97, 98] ++ [99, 100]) 1).toArray⟩ : ByteArray) = ⟨#[97, 98, 99]⟩ from rfl] at hr
  refine hr.mono ?_
  rintro e w8 ⟨rfl, b8⟩
  have b8 := Lib.hid b8
  have D8 := Lib.hid (D7.out.below b8.out)
  clear D7
  go_wp2_with fail
  refine (units_solo D8.out).mono ?_
  rintro e w9 ⟨rfl, rfl⟩
  go_wp2_with fail
  refine (acts_solo D8.out (by decide)).mono ?_
  rintro e w9 ⟨ao, cp, rfl, b9⟩
  have b9 := Lib.hid b9
  go_wp2_with fail
  go_ret
  refine ⟨rfl, ?_⟩
  have z1 := b1.out.size
  exact b1.out.trans (b2.out.trans (b3.out.trans (b4.out.trans (b5.out.trans (b6.out.trans (b7.out.trans ((b8.out.mono (by have := b7.out.size; have := b6.out.size; have := b5.out.size; have := b4.out.size; have := b3.out.size; have := b2.out.size; omega)).trans (b9.out.mono (by have := b8.out.size; have := b7.out.size; have := b6.out.size; have := b5.out.size; have := b4.out.size; have := b3.out.size; have := b2.out.size; omega)))))))))
end Go.Proofs.YtalonkenchcfbaaDoor
