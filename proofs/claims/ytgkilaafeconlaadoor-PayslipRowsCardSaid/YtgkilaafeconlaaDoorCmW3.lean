/- The walks of package commitment: Add, Open. -/
import Derived.Test.YtgkilaafeconlaaDoorCmW2
namespace Go.Proofs.YtgkilaafeconlaaDoor
open Go.RowKit
set_option linter.unusedVariables false
set_option maxHeartbeats 2000000 in
set_option maxRecDepth 100000 in
theorem add_ok (a b : Int) (ha : Hid (elB a = true)) (hb : Hid (elB b = true)) (w : World) : Calls Tryd.prog 27 #[.int .i64 a, .int .i64 b] w fun e w' => e = .returned (.tuple #[.int .i64 (a * b % 2147483579), .int .i64 0]) ∧ Below w.heap.size w w' := by
  obtain ⟨x, hx, hx1, _⟩ := elB_get ha.out
  obtain ⟨y, hy, hy1, _⟩ := elB_get hb.out
  have hx1 : x < 2147483579 := hx1
  have hy1 : y < 2147483579 := hy1
  have hm := mulB (a := a) (b := b) (by omega) (by omega) (by omega) (by omega)
  clear hx hy hx1 hy1
  go_enter Tryd.func27, Tryd.ntmps27
  go_wp2_with fail
  refine (elem_any a true ha _).mono ?_
  rintro e w1 ⟨rfl, hB1⟩
  go_wp2_with fail
  refine (elem_any b true hb _).mono ?_
  rintro e w2 ⟨rfl, hB2⟩
  go_wp2
  go_ret2
  exact ⟨rfl, bgo hB1 hB2⟩
set_option maxHeartbeats 2000000 in
set_option maxRecDepth 100000 in
theorem open_ok (c v b : Int) (r : Bool) (hr : Hid ((commitI v b == c) = r)) (w : World) (hT : GTab w) (hv0 : 0 ≤ v) (hv1 : v < 1073741789) (hb0 : 0 ≤ b) (hb1 : b < 1073741789) :
    Calls Tryd.prog 28 #[.int .i64 c, .int .i64 v, .int .i64 b] w fun e w' => e = .returned (.bool r) ∧ Below w.heap.size w w' := by
  have HT := Lib.hid hT
  clear hT
  obtain ⟨x, hx⟩ : ∃ x, commitI v b = x := ⟨_, rfl⟩
  rw [hx] at hr
  have HX := Lib.hid hx
  clear hx
  go_enter Tryd.func28, Tryd.ntmps28
  go_wp2_with fail
  refine (commit_ok v b _ HT.out hv0 hv1 hb0 hb1).mono ?_
  rw [HX.out]
  rintro e w1 ⟨rfl, hB1⟩
  go_wp2
  go_ret
  exact ⟨by rw [← hr.out]; rfl, hB1⟩
end Go.Proofs.YtgkilaafeconlaaDoor
