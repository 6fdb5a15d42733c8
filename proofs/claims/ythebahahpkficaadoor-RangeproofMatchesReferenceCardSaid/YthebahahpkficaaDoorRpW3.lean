/- The walks of package rangeproof, third part: divided, element, inField, right. -/
import Derived.Test.YthebahahpkficaaDoorRpW2
namespace Go.Proofs.YthebahahpkficaaDoor
open Go.RowKit
set_option linter.unusedVariables false
set_option maxHeartbeats 2000000 in
set_option maxRecDepth 100000 in
theorem divided_any (c i v : Int) (hv : Hid (divI c i = v)) (hc0 : 0 ≤ c) (hc1 : c < 2147483579) (hi0 : 0 ≤ i) (hi1 : i ≤ 1) (w : World) :
    Calls Tryd.prog 56 #[.int .i64 c, .int .i64 i] w fun e w' => e = .returned (.int .i64 v) ∧ Below w.heap.size w w' := by
  obtain ⟨q, hq⟩ : ∃ q, pwI 4 1073741788 = q := ⟨_, rfl⟩
  have hqb := pwI_bd 4 1073741788
  rw [hq] at hqb
  obtain ⟨y, hy⟩ : ∃ y, pwI q i = y := ⟨_, rfl⟩
  have hyb := pwI_bd q i
  rw [hy] at hyb
  have hm := mulB hc0 hc1 hyb.1 hyb.2
  have hv' : c * y % 2147483579 = v := by rw [← hv.out, ← hy, ← hq]; rfl
  have Hq := Lib.hid hq
  have Hy := Lib.hid hy
  have HV := Lib.hid hv'
  clear hq hy hv hv'
  have hmf : ∀ (fn : Fn) (first cap : Array Value) (w : World), (Instr.makeFunc fn first cap).run Tryd.prog w = .ok (.func fn first cap) w := fun _ _ _ _ => rfl
  go_enter Tryd.func56, Tryd.ntmps56
  go_wp2_with fail
  refine (inGroup_v 4 1073741788 q _ (by omega) (by omega) (by omega) (by omega) Hq).mono ?_
  rintro e w1 ⟨rfl, hB1⟩
  go_wp2_with fail
  refine (inGroup_v q i y _ (by omega) (by omega) (by omega) (by omega) Hy).mono ?_
  rintro e w2 ⟨rfl, hB2⟩
  go_wp2
  go_ret
  exact ⟨by rw [← HV.out]; rfl, bgo hB1 hB2⟩
set_option maxHeartbeats 2000000 in
set_option maxRecDepth 100000 in
theorem relem_any (x : Int) (r : Bool) (hr : Hid (elB x = r)) (w : World) : Calls Tryd.prog 54 #[.int .i64 x] w fun e w' => e = .returned (.bool r) ∧ Below w.heap.size w w' := by
  by_cases h1 : 1 ≤ x
  · by_cases h2 : x < 2147483579
    · obtain ⟨v, hv⟩ : ∃ v, pwI x 1073741789 = v := ⟨_, rfl⟩
      have HV := Lib.hid hv
      have hd1 : decide (1 ≤ x) = true := by simpa using h1
      have hd2 : decide (x < 2147483579) = true := by simpa using h2
      have HR : Hid (r = (v == 1)) := by
        refine Lib.hid ?_
        rw [← hr.out]
        unfold elB
        rw [hv, hd1, hd2]
        simp
      clear hv hr
      go_enter Tryd.func54, Tryd.ntmps54
      go_wp2_with fail
      refine (inGroup_v x 1073741789 v _ (by omega) (by omega) (by omega) (by omega) HV).mono ?_
      rintro e w' ⟨rfl, hB⟩
      go_wp2
      go_ret
      exact ⟨by rw [HR.out]; rfl, hB⟩
    · have hd1 : decide (1 ≤ x) = true := by simpa using h1
      have hd2 : decide (x < 2147483579) = false := by simpa using h2
      have hr' : r = false := by
        rw [← hr.out]
        unfold elB
        rw [hd2]
        simp
      subst hr'
      clear hr
      go_enter Tryd.func54, Tryd.ntmps54
      go_wp2
      go_ret
      exact ⟨rfl, Below.refl _ _⟩
  · have hd1 : decide (1 ≤ x) = false := by simpa using h1
    have hr' : r = false := by
      rw [← hr.out]
      unfold elB
      rw [hd1]
      simp
    subst hr'
    clear hr
    go_enter Tryd.func54, Tryd.ntmps54
    go_wp2
    go_ret
    exact ⟨rfl, Below.refl _ _⟩
theorem inF_any (x : Int) (r : Bool) (hr : Hid (inFB x = r)) (w : World) : Calls Tryd.prog 55 #[.int .i64 x] w fun e w' => e = .returned (.bool r) ∧ w = w' := by
  by_cases h1 : 0 ≤ x
  · have hd1 : decide (0 ≤ x) = true := by simpa using h1
    have HR : Hid (r = decide (x < 1073741789)) := by
      refine Lib.hid ?_
      rw [← hr.out]
      unfold inFB
      rw [hd1]
      simp
    clear hr
    go_enter Tryd.func55, Tryd.ntmps55
    go_wp2
    go_ret
    exact ⟨by rw [HR.out]; rfl, rfl⟩
  · have hd1 : decide (0 ≤ x) = false := by simpa using h1
    have hr' : r = false := by
      rw [← hr.out]
      unfold inFB
      rw [hd1]
      simp
    subst hr'
    clear hr
    go_enter Tryd.func55, Tryd.ntmps55
    go_wp2
    go_ret
    exact ⟨rfl, rfl⟩
end Go.Proofs.YthebahahpkficaaDoor
