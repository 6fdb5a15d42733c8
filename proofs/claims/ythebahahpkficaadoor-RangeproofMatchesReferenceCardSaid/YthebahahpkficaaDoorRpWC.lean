/- The walk of package rangeproof: Extract. -/
import Derived.Test.YthebahahpkficaaDoorRpWB
import Derived.Test.YthebahahpkficaaDoorRpEq
namespace Go.Proofs.YthebahahpkficaaDoor
open Go.RowKit
set_option linter.unusedVariables false
/-- Whether there are two accepted transcripts with the same first messages and different challenges. -/
def twoB (a b : BP) : Bool := rightB a && (rightB b && ((a.c == b.c) && (((a.f0 == b.f0) && (a.f1 == b.f1)) && !((a.e0 == b.e0) && (a.e1 == b.e1)))))
def ansI (z z' e e' : Int) : Int := (z - z') % 1073741789 * fpI ((e - e') % 1073741789) 1073741787 % 1073741789
theorem eqA (a b a' b' : Int) (w : World) : (Op.equalIn 10000 23 (.agg #[.int .i64 a, .int .i64 b]) (.agg #[.int .i64 a', .int .i64 b'])).run Tryd.prog w = .ok ((a == a') && (b == b')) w := eqArr2 9998 a b a' b' w
attribute [local go_sem] eqA
theorem reduce_v (n v : Int) (hv : Hid (n % 1073741789 = v)) (w : World) (h0 : -9223372036854775808 ≤ n) (h1 : n ≤ 9223372036854775807) : Calls Tryd.prog 24 #[.int .i64 n] w fun r w' => r = .returned (.int .i64 v) ∧ w = w' := by
  rw [← hv.out]
  exact reduce_any n w h0 h1
set_option maxHeartbeats 8000000 in
set_option maxRecDepth 100000 in
theorem extract_no (a b : BP) (h : twoB a b = false) (w : World) :
    Calls Tryd.prog 12 #[bpVal a, bpVal b] w fun r w' => r = .returned (.tuple #[.int .i64 0, .int .i64 0, .bool false]) ∧ Below w.heap.size w w' := by
  obtain ⟨c, f0, f1, e0, e1, z0, z1⟩ := a
  obtain ⟨c', f0', f1', e0', e1', z0', z1'⟩ := b
  obtain ⟨w1, hw1⟩ : ∃ w1, w1 = (w.alloc (.cells #[.int .i64 c, .int .i64 f0, .int .i64 f1, .int .i64 e0, .int .i64 e1, .int .i64 z0, .int .i64 z1] 25)).alloc (.cells #[.int .i64 c', .int .i64 f0', .int .i64 f1', .int .i64 e0', .int .i64 e1', .int .i64 z0', .int .i64 z1'] 25) := ⟨_, rfl⟩
  have hB1 : Below w.heap.size w w1 := by rw [hw1]; exact bal (bal (Below.refl _ _) _) _
  have hP1 : BPAt w1 w.heap.size ⟨c, f0, f1, e0, e1, z0, z1⟩ := ⟨_, _, by rw [hw1]; exact (Below.heap_alloc _ _ _ (by simp)).trans (World.alloc_heap_new w _)⟩
  have hQ1 : BPAt w1 (w.heap.size + 1) ⟨c', f0', f1', e0', e1', z0', z1'⟩ := ⟨_, _, by rw [hw1]; have := World.alloc_heap_new (w.alloc (.cells #[.int .i64 c, .int .i64 f0, .int .i64 f1, .int .i64 e0, .int .i64 e1, .int .i64 z0, .int .i64 z1] 25)) (.cells #[.int .i64 c', .int .i64 f0', .int .i64 f1', .int .i64 e0', .int .i64 e1', .int .i64 z0', .int .i64 z1'] 25); rwa [World.size_alloc] at this⟩
  have HW1 := Lib.hid hw1
  clear hw1
  unfold bpVal
  cases h1 : rightB ⟨c, f0, f1, e0, e1, z0, z1⟩ with
  | false =>
    have H1 := Lib.hid h1
    clear h1 h
    go_enter Tryd.func12, Tryd.ntmps12
    go_wp2_with fail
    rw [← HW1.out]
    clear HW1
    refine (right_lit c f0 f1 e0 e1 z0 z1 false H1 w1).mono ?_
    rintro e w2 ⟨rfl, hB2⟩
    go_wp2
    go_ret3
    exact ⟨rfl, bgo hB1 hB2⟩
  | true =>
    have H1 := Lib.hid h1
    cases h2 : rightB ⟨c', f0', f1', e0', e1', z0', z1'⟩ with
    | false =>
      have H2 := Lib.hid h2
      clear h1 h2 h
      go_enter Tryd.func12, Tryd.ntmps12
      go_wp2_with fail
      rw [← HW1.out]
      clear HW1
      refine (right_lit c f0 f1 e0 e1 z0 z1 true H1 w1).mono ?_
      rintro e w2 ⟨rfl, hB2⟩
      have hQ2 := hQ1.go hB2
      have k0 := hQ2.c0
      have k1 := hQ2.c1
      have k2 := hQ2.c2
      have k3 := hQ2.c3
      have k4 := hQ2.c4
      have k5 := hQ2.c5
      have k6 := hQ2.c6
      simp only [] at k0 k1 k2 k3 k4 k5 k6
      go_wp2_with fail
      refine (right_lit c' f0' f1' e0' e1' z0' z1' false H2 w2).mono ?_
      rintro e w3 ⟨rfl, hB3⟩
      clear k0 k1 k2 k3 k4 k5 k6
      go_wp2
      go_ret3
      exact ⟨rfl, bgo hB1 (bgo hB2 hB3)⟩
    | true =>
      have H2 := Lib.hid h2
      have ht : ((c == c') && (((f0 == f0') && (f1 == f1')) && !((e0 == e0') && (e1 == e1')))) = false := by
        unfold twoB at h
        rw [h1, h2] at h
        exact h
      clear h1 h2 h
      cases t1 : (c == c') with
      | false =>
        have t1' : (c != c') = true := by simp [bne, t1]
        clear ht
        go_enter Tryd.func12, Tryd.ntmps12
        go_wp2_with fail
        rw [← HW1.out]
        clear HW1
        refine (right_lit c f0 f1 e0 e1 z0 z1 true H1 w1).mono ?_
        rintro e w2 ⟨rfl, hB2⟩
        have hQ2 := hQ1.go hB2
        have k0 := hQ2.c0
        have k1 := hQ2.c1
        have k2 := hQ2.c2
        have k3 := hQ2.c3
        have k4 := hQ2.c4
        have k5 := hQ2.c5
        have k6 := hQ2.c6
        simp only [] at k0 k1 k2 k3 k4 k5 k6
        go_wp2_with fail
        refine (right_lit c' f0' f1' e0' e1' z0' z1' true H2 w2).mono ?_
        rintro e w3 ⟨rfl, hB3⟩
        clear k0 k1 k2 k3 k4 k5 k6
        have hP3 := (hP1.go hB2).go hB3
        have hQ3 := hQ2.go hB3
        have k0 := hQ3.c0
        have k1 := hQ3.c1
        have k2 := hQ3.c2
        have k3 := hQ3.c3
        have k4 := hQ3.c4
        have k5 := hQ3.c5
        have k6 := hQ3.c6
        simp only [] at k0 k1 k2 k3 k4 k5 k6
        have m0 := hP3.c0
        have m1 := hP3.c1
        have m2 := hP3.c2
        have m3 := hP3.c3
        have m4 := hP3.c4
        have m5 := hP3.c5
        have m6 := hP3.c6
        simp only [] at m0 m1 m2 m3 m4 m5 m6
        go_wp2
        go_ret3
        exact ⟨rfl, bgo hB1 (bgo hB2 hB3)⟩
      | true =>
        have t1' : (c != c') = false := by simp [bne, t1]
        cases t2 : ((f0 == f0') && (f1 == f1')) with
        | false =>
          clear ht
          go_enter Tryd.func12, Tryd.ntmps12
          go_wp2_with fail
          rw [← HW1.out]
          clear HW1
          refine (right_lit c f0 f1 e0 e1 z0 z1 true H1 w1).mono ?_
          rintro e w2 ⟨rfl, hB2⟩
          have hQ2 := hQ1.go hB2
          have k0 := hQ2.c0
          have k1 := hQ2.c1
          have k2 := hQ2.c2
          have k3 := hQ2.c3
          have k4 := hQ2.c4
          have k5 := hQ2.c5
          have k6 := hQ2.c6
          simp only [] at k0 k1 k2 k3 k4 k5 k6
          go_wp2_with fail
          refine (right_lit c' f0' f1' e0' e1' z0' z1' true H2 w2).mono ?_
          rintro e w3 ⟨rfl, hB3⟩
          clear k0 k1 k2 k3 k4 k5 k6
          have hP3 := (hP1.go hB2).go hB3
          have hQ3 := hQ2.go hB3
          have k0 := hQ3.c0
          have k1 := hQ3.c1
          have k2 := hQ3.c2
          have k3 := hQ3.c3
          have k4 := hQ3.c4
          have k5 := hQ3.c5
          have k6 := hQ3.c6
          simp only [] at k0 k1 k2 k3 k4 k5 k6
          have m0 := hP3.c0
          have m1 := hP3.c1
          have m2 := hP3.c2
          have m3 := hP3.c3
          have m4 := hP3.c4
          have m5 := hP3.c5
          have m6 := hP3.c6
          simp only [] at m0 m1 m2 m3 m4 m5 m6
          go_wp2
          go_ret3
          exact ⟨rfl, bgo hB1 (bgo hB2 hB3)⟩
        | true =>
          have t3 : ((e0 == e0') && (e1 == e1')) = true := by
            rw [t1, t2] at ht
            simpa using ht
          clear ht
          go_enter Tryd.func12, Tryd.ntmps12
          go_wp2_with fail
          rw [← HW1.out]
          clear HW1
          refine (right_lit c f0 f1 e0 e1 z0 z1 true H1 w1).mono ?_
          rintro e w2 ⟨rfl, hB2⟩
          have hQ2 := hQ1.go hB2
          have k0 := hQ2.c0
          have k1 := hQ2.c1
          have k2 := hQ2.c2
          have k3 := hQ2.c3
          have k4 := hQ2.c4
          have k5 := hQ2.c5
          have k6 := hQ2.c6
          simp only [] at k0 k1 k2 k3 k4 k5 k6
          go_wp2_with fail
          refine (right_lit c' f0' f1' e0' e1' z0' z1' true H2 w2).mono ?_
          rintro e w3 ⟨rfl, hB3⟩
          clear k0 k1 k2 k3 k4 k5 k6
          have hP3 := (hP1.go hB2).go hB3
          have hQ3 := hQ2.go hB3
          have k0 := hQ3.c0
          have k1 := hQ3.c1
          have k2 := hQ3.c2
          have k3 := hQ3.c3
          have k4 := hQ3.c4
          have k5 := hQ3.c5
          have k6 := hQ3.c6
          simp only [] at k0 k1 k2 k3 k4 k5 k6
          have m0 := hP3.c0
          have m1 := hP3.c1
          have m2 := hP3.c2
          have m3 := hP3.c3
          have m4 := hP3.c4
          have m5 := hP3.c5
          have m6 := hP3.c6
          simp only [] at m0 m1 m2 m3 m4 m5 m6
          go_wp2
          go_ret3
          exact ⟨rfl, bgo hB1 (bgo hB2 hB3)⟩
set_option maxHeartbeats 8000000 in
set_option maxRecDepth 100000 in
theorem extract_yes0 (a b : BP) (h : twoB a b = true) (hi : (a.e0 == b.e0) = false) (w : World) :
    Calls Tryd.prog 12 #[bpVal a, bpVal b] w fun r w' => r = .returned (.tuple #[.int .i64 0, .int .i64 (ansI a.z0 b.z0 a.e0 b.e0), .bool true]) ∧ Below w.heap.size w w' := by
  obtain ⟨c, f0, f1, e0, e1, z0, z1⟩ := a
  obtain ⟨c', f0', f1', e0', e1', z0', z1'⟩ := b
  obtain ⟨w1, hw1⟩ : ∃ w1, w1 = (w.alloc (.cells #[.int .i64 c, .int .i64 f0, .int .i64 f1, .int .i64 e0, .int .i64 e1, .int .i64 z0, .int .i64 z1] 25)).alloc (.cells #[.int .i64 c', .int .i64 f0', .int .i64 f1', .int .i64 e0', .int .i64 e1', .int .i64 z0', .int .i64 z1'] 25) := ⟨_, rfl⟩
  have hB1 : Below w.heap.size w w1 := by rw [hw1]; exact bal (bal (Below.refl _ _) _) _
  have hP1 : BPAt w1 w.heap.size ⟨c, f0, f1, e0, e1, z0, z1⟩ := ⟨_, _, by rw [hw1]; exact (Below.heap_alloc _ _ _ (by simp)).trans (World.alloc_heap_new w _)⟩
  have hQ1 : BPAt w1 (w.heap.size + 1) ⟨c', f0', f1', e0', e1', z0', z1'⟩ := ⟨_, _, by rw [hw1]; have := World.alloc_heap_new (w.alloc (.cells #[.int .i64 c, .int .i64 f0, .int .i64 f1, .int .i64 e0, .int .i64 e1, .int .i64 z0, .int .i64 z1] 25)) (.cells #[.int .i64 c', .int .i64 f0', .int .i64 f1', .int .i64 e0', .int .i64 e1', .int .i64 z0', .int .i64 z1'] 25); rwa [World.size_alloc] at this⟩
  have HW1 := Lib.hid hw1
  clear hw1
  unfold bpVal
  simp only [] at hi
  obtain ⟨h1, h2, t1, t2, t3⟩ : rightB ⟨c, f0, f1, e0, e1, z0, z1⟩ = true ∧ rightB ⟨c', f0', f1', e0', e1', z0', z1'⟩ = true ∧ (c == c') = true ∧ ((f0 == f0') && (f1 == f1')) = true ∧ ((e0 == e0') && (e1 == e1')) = false := by
    unfold twoB at h
    simp only [Bool.and_eq_true, Bool.not_eq_true'] at h
    exact ⟨h.1, h.2.1, h.2.2.1, by simp only [Bool.and_eq_true]; exact h.2.2.2.1, h.2.2.2.2⟩
  have t1' : (c != c') = false := by simp [bne, t1]
  have b1 := (right_parts h1)
  have b2 := (right_parts h2)
  simp only [] at b1 b2
  obtain ⟨_, _, _, p0, p1, p2, p3⟩ := b1
  obtain ⟨_, _, _, q0, q1, q2, q3⟩ := b2
  have H1 := Lib.hid h1
  have H2 := Lib.hid h2
  obtain ⟨de, hde⟩ : ∃ de, (e0 - e0') % 1073741789 = de := ⟨_, rfl⟩
  have hdb : 0 ≤ de ∧ de < 1073741789 := by rw [← hde]; omega
  obtain ⟨iv, hiv⟩ : ∃ iv, fpI de 1073741787 = iv := ⟨_, rfl⟩
  have hib := fpI_bd de 1073741787
  rw [hiv] at hib
  obtain ⟨dz, hdz⟩ : ∃ dz, (z0 - z0') % 1073741789 = dz := ⟨_, rfl⟩
  have hzb : 0 ≤ dz ∧ dz < 1073741789 := by rw [← hdz]; omega
  have hm := mulQ hzb.1 hzb.2 hib.1 hib.2
  have hans : ansI z0 z0' e0 e0' = dz * iv % 1073741789 := by unfold ansI; rw [hde, hiv, hdz]
  simp only []
  rw [hans]
  have HDE := Lib.hid hde
  have HIV := Lib.hid hiv
  have HDZ := Lib.hid hdz
  clear h h1 h2 hde hiv hdz hans
  go_enter Tryd.func12, Tryd.ntmps12
  go_wp2_with fail
  rw [← HW1.out]
  clear HW1
  refine (right_lit c f0 f1 e0 e1 z0 z1 true H1 w1).mono ?_
  rintro e w2 ⟨rfl, hB2⟩
  have hQ2 := hQ1.go hB2
  have k0 := hQ2.c0
  have k1 := hQ2.c1
  have k2 := hQ2.c2
  have k3 := hQ2.c3
  have k4 := hQ2.c4
  have k5 := hQ2.c5
  have k6 := hQ2.c6
  simp only [] at k0 k1 k2 k3 k4 k5 k6
  go_wp2_with fail
  refine (right_lit c' f0' f1' e0' e1' z0' z1' true H2 w2).mono ?_
  rintro e w3 ⟨rfl, hB3⟩
  clear k0 k1 k2 k3 k4 k5 k6
  have hP3 := (hP1.go hB2).go hB3
  have hQ3 := hQ2.go hB3
  have k0 := hQ3.c0
  have k1 := hQ3.c1
  have k2 := hQ3.c2
  have k3 := hQ3.c3
  have k4 := hQ3.c4
  have k5 := hQ3.c5
  have k6 := hQ3.c6
  simp only [] at k0 k1 k2 k3 k4 k5 k6
  have m0 := hP3.c0
  have m1 := hP3.c1
  have m2 := hP3.c2
  have m3 := hP3.c3
  have m4 := hP3.c4
  have m5 := hP3.c5
  have m6 := hP3.c6
  simp only [] at m0 m1 m2 m3 m4 m5 m6
  have hP3d : BPAt w3.drew w.heap.size ⟨c, f0, f1, e0, e1, z0, z1⟩ := hP3
  have hw1 : IntKind.i64.wrap (e0 - e0') = e0 - e0' := IntWalk.i64_in _ (by omega)
  have hw2 : IntKind.i64.wrap (z0 - z0') = z0 - z0' := IntWalk.i64_in _ (by omega)
  have hw3 : IntKind.i64.wrap (dz * iv) = dz * iv := IntWalk.i64_in _ (by omega)
  have htm : (dz * iv).tmod 1073741789 = dz * iv % 1073741789 := Int.tmod_eq_emod_of_nonneg hm.1
  go_wp2_with fail
  go_region_held3 (fun w' => w'.cell? ⟨w.heap.size, 3, none⟩ = some (.int .i64 e0) ∧ w'.cell? ⟨w.heap.size + 1, 3, none⟩ = some (.int .i64 e0'))
    (go_keep)
    (first
      | (go_at_call 24; (with_reducible refine (reduce_v (e0 - e0') de HDE w3.drew (by omega) (by omega)).mono ?_); rintro e wp ⟨rfl, rfl⟩)
      | (go_at_call 31; (with_reducible refine (fieldPow_v de 1073741787 iv w3.drew (by omega) (by omega) (by omega) (by omega) HIV).mono ?_); rintro e wp ⟨rfl, rfl⟩))
  go_wp2_with fail
  go_region_held3 (fun w' => w'.cell? ⟨w.heap.size, 5, none⟩ = some (.int .i64 z0) ∧ w'.cell? ⟨w.heap.size + 1, 5, none⟩ = some (.int .i64 z0'))
    (go_keep)
    (first
      | (go_at_call 24; (with_reducible refine (reduce_v (z0 - z0') dz HDZ w3.drew.drew (by omega) (by omega)).mono ?_); rintro e wp ⟨rfl, rfl⟩))
  clear hw1 hw2 hw3 htm
  go_wp2
  go_ret3
  exact ⟨rfl, (bgo hB1 (bgo hB2 hB3)).drew.drew⟩
set_option maxHeartbeats 8000000 in
set_option maxRecDepth 100000 in
theorem extract_yes1 (a b : BP) (h : twoB a b = true) (hi : (a.e0 == b.e0) = true) (w : World) :
    Calls Tryd.prog 12 #[bpVal a, bpVal b] w fun r w' => r = .returned (.tuple #[.int .i64 1, .int .i64 (ansI a.z1 b.z1 a.e1 b.e1), .bool true]) ∧ Below w.heap.size w w' := by
  obtain ⟨c, f0, f1, e0, e1, z0, z1⟩ := a
  obtain ⟨c', f0', f1', e0', e1', z0', z1'⟩ := b
  obtain ⟨w1, hw1⟩ : ∃ w1, w1 = (w.alloc (.cells #[.int .i64 c, .int .i64 f0, .int .i64 f1, .int .i64 e0, .int .i64 e1, .int .i64 z0, .int .i64 z1] 25)).alloc (.cells #[.int .i64 c', .int .i64 f0', .int .i64 f1', .int .i64 e0', .int .i64 e1', .int .i64 z0', .int .i64 z1'] 25) := ⟨_, rfl⟩
  have hB1 : Below w.heap.size w w1 := by rw [hw1]; exact bal (bal (Below.refl _ _) _) _
  have hP1 : BPAt w1 w.heap.size ⟨c, f0, f1, e0, e1, z0, z1⟩ := ⟨_, _, by rw [hw1]; exact (Below.heap_alloc _ _ _ (by simp)).trans (World.alloc_heap_new w _)⟩
  have hQ1 : BPAt w1 (w.heap.size + 1) ⟨c', f0', f1', e0', e1', z0', z1'⟩ := ⟨_, _, by rw [hw1]; have := World.alloc_heap_new (w.alloc (.cells #[.int .i64 c, .int .i64 f0, .int .i64 f1, .int .i64 e0, .int .i64 e1, .int .i64 z0, .int .i64 z1] 25)) (.cells #[.int .i64 c', .int .i64 f0', .int .i64 f1', .int .i64 e0', .int .i64 e1', .int .i64 z0', .int .i64 z1'] 25); rwa [World.size_alloc] at this⟩
  have HW1 := Lib.hid hw1
  clear hw1
  unfold bpVal
  simp only [] at hi
  obtain ⟨h1, h2, t1, t2, t3⟩ : rightB ⟨c, f0, f1, e0, e1, z0, z1⟩ = true ∧ rightB ⟨c', f0', f1', e0', e1', z0', z1'⟩ = true ∧ (c == c') = true ∧ ((f0 == f0') && (f1 == f1')) = true ∧ ((e0 == e0') && (e1 == e1')) = false := by
    unfold twoB at h
    simp only [Bool.and_eq_true, Bool.not_eq_true'] at h
    exact ⟨h.1, h.2.1, h.2.2.1, by simp only [Bool.and_eq_true]; exact h.2.2.2.1, h.2.2.2.2⟩
  have t1' : (c != c') = false := by simp [bne, t1]
  have t4 : (e1 == e1') = false := by rw [hi, Bool.true_and] at t3; exact t3
  have b1 := (right_parts h1)
  have b2 := (right_parts h2)
  simp only [] at b1 b2
  obtain ⟨_, _, _, p0, p1, p2, p3⟩ := b1
  obtain ⟨_, _, _, q0, q1, q2, q3⟩ := b2
  have H1 := Lib.hid h1
  have H2 := Lib.hid h2
  obtain ⟨de, hde⟩ : ∃ de, (e1 - e1') % 1073741789 = de := ⟨_, rfl⟩
  have hdb : 0 ≤ de ∧ de < 1073741789 := by rw [← hde]; omega
  obtain ⟨iv, hiv⟩ : ∃ iv, fpI de 1073741787 = iv := ⟨_, rfl⟩
  have hib := fpI_bd de 1073741787
  rw [hiv] at hib
  obtain ⟨dz, hdz⟩ : ∃ dz, (z1 - z1') % 1073741789 = dz := ⟨_, rfl⟩
  have hzb : 0 ≤ dz ∧ dz < 1073741789 := by rw [← hdz]; omega
  have hm := mulQ hzb.1 hzb.2 hib.1 hib.2
  have hans : ansI z1 z1' e1 e1' = dz * iv % 1073741789 := by unfold ansI; rw [hde, hiv, hdz]
  simp only []
  rw [hans]
  have HDE := Lib.hid hde
  have HIV := Lib.hid hiv
  have HDZ := Lib.hid hdz
  clear h h1 h2 hde hiv hdz hans
  go_enter Tryd.func12, Tryd.ntmps12
  go_wp2_with fail
  rw [← HW1.out]
  clear HW1
  refine (right_lit c f0 f1 e0 e1 z0 z1 true H1 w1).mono ?_
  rintro e w2 ⟨rfl, hB2⟩
  have hQ2 := hQ1.go hB2
  have k0 := hQ2.c0
  have k1 := hQ2.c1
  have k2 := hQ2.c2
  have k3 := hQ2.c3
  have k4 := hQ2.c4
  have k5 := hQ2.c5
  have k6 := hQ2.c6
  simp only [] at k0 k1 k2 k3 k4 k5 k6
  go_wp2_with fail
  refine (right_lit c' f0' f1' e0' e1' z0' z1' true H2 w2).mono ?_
  rintro e w3 ⟨rfl, hB3⟩
  clear k0 k1 k2 k3 k4 k5 k6
  have hP3 := (hP1.go hB2).go hB3
  have hQ3 := hQ2.go hB3
  have k0 := hQ3.c0
  have k1 := hQ3.c1
  have k2 := hQ3.c2
  have k3 := hQ3.c3
  have k4 := hQ3.c4
  have k5 := hQ3.c5
  have k6 := hQ3.c6
  simp only [] at k0 k1 k2 k3 k4 k5 k6
  have m0 := hP3.c0
  have m1 := hP3.c1
  have m2 := hP3.c2
  have m3 := hP3.c3
  have m4 := hP3.c4
  have m5 := hP3.c5
  have m6 := hP3.c6
  simp only [] at m0 m1 m2 m3 m4 m5 m6
  have hP3d : BPAt w3.drew w.heap.size ⟨c, f0, f1, e0, e1, z0, z1⟩ := hP3
  have hw1 : IntKind.i64.wrap (e1 - e1') = e1 - e1' := IntWalk.i64_in _ (by omega)
  have hw2 : IntKind.i64.wrap (z1 - z1') = z1 - z1' := IntWalk.i64_in _ (by omega)
  have hw3 : IntKind.i64.wrap (dz * iv) = dz * iv := IntWalk.i64_in _ (by omega)
  have htm : (dz * iv).tmod 1073741789 = dz * iv % 1073741789 := Int.tmod_eq_emod_of_nonneg hm.1
  go_wp2_with fail
  go_region_held3 (fun w' => w'.cell? ⟨w.heap.size, 4, none⟩ = some (.int .i64 e1) ∧ w'.cell? ⟨w.heap.size + 1, 4, none⟩ = some (.int .i64 e1'))
    (go_keep)
    (first
      | (go_at_call 24; (with_reducible refine (reduce_v (e1 - e1') de HDE w3.drew (by omega) (by omega)).mono ?_); rintro e wp ⟨rfl, rfl⟩)
      | (go_at_call 31; (with_reducible refine (fieldPow_v de 1073741787 iv w3.drew (by omega) (by omega) (by omega) (by omega) HIV).mono ?_); rintro e wp ⟨rfl, rfl⟩))
  go_wp2_with fail
  go_region_held3 (fun w' => w'.cell? ⟨w.heap.size, 6, none⟩ = some (.int .i64 z1) ∧ w'.cell? ⟨w.heap.size + 1, 6, none⟩ = some (.int .i64 z1'))
    (go_keep)
    (first
      | (go_at_call 24; (with_reducible refine (reduce_v (z1 - z1') dz HDZ w3.drew.drew (by omega) (by omega)).mono ?_); rintro e wp ⟨rfl, rfl⟩))
  clear hw1 hw2 hw3 htm
  go_wp2
  go_ret3
  exact ⟨rfl, (bgo hB1 (bgo hB2 hB3)).drew.drew⟩
end Go.Proofs.YthebahahpkficaaDoor
