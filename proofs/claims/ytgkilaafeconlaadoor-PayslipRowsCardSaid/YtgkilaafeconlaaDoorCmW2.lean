/- The walks of package commitment: Commit, element, Add, Open. -/
import Derived.Test.YtgkilaafeconlaaDoorCmW1
import Derived.Test.YtgkilaafeconlaaDoorGrpMath3
import Derived.Deep.RegionHeld3
import Derived.Lib.LaidTab
namespace Go.Proofs.YtgkilaafeconlaaDoor
open Go.RowKit
set_option linter.unusedVariables false
theorem power_any (b e : Int) (w : World) (hb0 : 0 ≤ b) (hb1 : b < 2147483579) (he0 : 0 ≤ e) (he1 : e ≤ 9223372036854775807) :
    Calls Tryd.prog 50 #[.int .i64 b, .int .i64 e] w fun r w' => r = .returned (.int .i64 (pwI b e)) ∧ Below w.heap.size w w' :=
  power_at b e _ w hb0 hb1 he0 he1 (Lib.hid rfl)
theorem power_v (b e v : Int) (w : World) (hb0 : 0 ≤ b) (hb1 : b < 2147483579) (he0 : 0 ≤ e) (he1 : e ≤ 9223372036854775807) (hv : Hid (pwI b e = v)) :
    Calls Tryd.prog 50 #[.int .i64 b, .int .i64 e] w fun r w' => r = .returned (.int .i64 v) ∧ Below w.heap.size w w' :=
  power_at b e v w hb0 hb1 he0 he1 (Lib.hid hv.out)
/-- The generators lie in the world. -/
def GTab (w : World) : Prop := ∃ t fr, w.heap[0]? = some (.cells #[.int .i64 4, .int .i64 9] t fr)
theorem GTab.go {w w' : World} (h : GTab w) (hb : Below w.heap.size w w') : GTab w' := by
  obtain ⟨t, fr, h'⟩ := h
  exact ⟨t, fr, (hb.block _ (Array.getElem?_eq_some_iff.1 h').1).trans h'⟩
theorem GTab.c0 {w : World} (h : GTab w) : w.cell? ⟨0, 0, none⟩ = some (.int .i64 4) := by
  obtain ⟨t, fr, h⟩ := h
  simp only [World.cell?, h]
  rfl
theorem GTab.c1 {w : World} (h : GTab w) : w.cell? ⟨0, 1, none⟩ = some (.int .i64 9) := by
  obtain ⟨t, fr, h⟩ := h
  simp only [World.cell?, h]
  rfl
theorem GTab.lt {w : World} (h : GTab w) : 0 < w.heap.size := by
  obtain ⟨t, fr, h⟩ := h
  exact (Array.getElem?_eq_some_iff.1 h).1
set_option maxHeartbeats 2000000 in
set_option maxRecDepth 100000 in
theorem commit_ok (v b : Int) (w : World) (hT : GTab w) (hv0 : 0 ≤ v) (hv1 : v < 1073741789) (hb0 : 0 ≤ b) (hb1 : b < 1073741789) :
    Calls Tryd.prog 25 #[.int .i64 v, .int .i64 b] w fun e w' => e = .returned (.tuple #[.int .i64 (commitI v b), .int .i64 0]) ∧ Below w.heap.size w w' := by
  have hc0 := hT.c0
  have hc1 := hT.c1
  have hG0 : GTab w.drew := hT
  have hC : commitI v b = pwI 4 v * pwI 9 b % 2147483579 := rfl
  obtain ⟨x, hx⟩ : ∃ x, pwI 4 v = x := ⟨_, rfl⟩
  obtain ⟨y, hy⟩ : ∃ y, pwI 9 b = y := ⟨_, rfl⟩
  have hxb := pwI_bd 4 v
  have hyb := pwI_bd 9 b
  rw [hx] at hxb
  rw [hy] at hyb
  rw [hx, hy] at hC
  rw [hC]
  have hm := mulB hxb.1 hxb.2 hyb.1 hyb.2
  have HX := Lib.hid hx
  have HY := Lib.hid hy
  clear hx hy hT hC
  go_enter Tryd.func25, Tryd.ntmps25
  go_wp2
  have hwr : IntKind.i64.wrap (x * y) = x * y := IntWalk.i64_in _ (by omega)
  have htm : (x * y).tmod 2147483579 = x * y % 2147483579 := Int.tmod_eq_emod_of_nonneg hm.1
  go_region_held3 (fun w' => w'.cell? ⟨0, 0, none⟩ = some (.int .i64 4) ∧ w'.cell? ⟨0, 1, none⟩ = some (.int .i64 9))
    (go_keep)
    (first
      | (go_at_call 50; (with_reducible refine (power_v 4 v x w.drew (by omega) (by omega) (by omega) (by omega) HX).mono ?_); rintro e wp ⟨rfl, hbp⟩; have hG1 : GTab wp := hG0.go hbp; have hp0 := hG1.c0; have hp1 := hG1.c1)
      | (go_at_call 50; (with_reducible refine (power_v 9 b y w.drew (by omega) (by omega) (by omega) (by omega) HY).mono ?_); rintro e wp ⟨rfl, hbp⟩; have hG1 : GTab wp := hG0.go hbp; have hp0 := hG1.c0; have hp1 := hG1.c1)
      | (go_at_call 50; (with_reducible refine (power_v 4 v x wp (by omega) (by omega) (by omega) (by omega) HX).mono ?_); rintro e wq ⟨rfl, hbq⟩; have hG2 : GTab wq := hG1.go hbq; have hq0 := hG2.c0; have hq1 := hG2.c1)
      | (go_at_call 50; (with_reducible refine (power_v 9 b y wp (by omega) (by omega) (by omega) (by omega) HY).mono ?_); rintro e wq ⟨rfl, hbq⟩; have hG2 : GTab wq := hG1.go hbq; have hq0 := hG2.c0; have hq1 := hG2.c1))
  go_wp2
  go_ret2
  exact ⟨rfl, bgo (below_undrew hbp) hbq⟩
set_option maxHeartbeats 2000000 in
set_option maxRecDepth 100000 in
theorem elem_any (x : Int) (r : Bool) (hr : Hid (elB x = r)) (w : World) : Calls Tryd.prog 51 #[.int .i64 x] w fun e w' => e = .returned (.bool r) ∧ Below w.heap.size w w' := by
  by_cases h1 : 1 ≤ x
  · by_cases h2 : x < 2147483579
    · obtain ⟨v, hv⟩ : ∃ v, pwI x 1073741789 = v := ⟨_, rfl⟩
      have HV := Lib.hid hv
      have hd1 : decide (1 ≤ x) = true := by simpa using h1
      have hd2 : decide (x < 2147483579) = true := by simpa using h2
      have HR : Hid (r = (v == 1)) := by
        refine Lib.hid ?_
        rw [← hr.out]
        unfold elB
        rw [hv, hd1, hd2]
        simp
      clear hv hr
      go_enter Tryd.func51, Tryd.ntmps51
      go_wp2_with fail
      refine (power_v x 1073741789 v _ (by omega) (by omega) (by omega) (by omega) HV).mono ?_
      rintro e w' ⟨rfl, hB⟩
      go_wp2
      go_ret
      exact ⟨by rw [HR.out]; rfl, hB⟩
    · have hd1 : decide (1 ≤ x) = true := by simpa using h1
      have hd2 : decide (x < 2147483579) = false := by simpa using h2
      have hr' : r = false := by
        rw [← hr.out]
        unfold elB
        rw [hd2]
        simp
      subst hr'
      clear hr
      go_enter Tryd.func51, Tryd.ntmps51
      go_wp2
      go_ret
      exact ⟨rfl, Below.refl _ _⟩
  · have hd1 : decide (1 ≤ x) = false := by simpa using h1
    have hr' : r = false := by
      rw [← hr.out]
      unfold elB
      rw [hd1]
      simp
    subst hr'
    clear hr
    go_enter Tryd.func51, Tryd.ntmps51
    go_wp2
    go_ret
    exact ⟨rfl, Below.refl _ _⟩
end Go.Proofs.YtgkilaafeconlaaDoor
