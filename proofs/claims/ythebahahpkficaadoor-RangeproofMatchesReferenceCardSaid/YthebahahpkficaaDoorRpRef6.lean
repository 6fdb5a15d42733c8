/- The walks of the reference package 27, sixth part: Extract. -/
import Derived.Test.YthebahahpkficaaDoorRpRef5
namespace Go.Proofs.YthebahahpkficaaDoor
open Go.RowKit
set_option linter.unusedVariables false
attribute [local go_sem] eqA
set_option maxHeartbeats 8000000 in
set_option maxRecDepth 100000 in
theorem rextract_no (a b : BP) (h : twoB a b = false) (w : World) :
    Calls Tryd.prog 13 #[bpVal a, bpVal b] w fun r w' => r = .returned (.tuple #[.int .i64 0, .int .i64 0, .bool false]) ∧ Below w.heap.size w w' := by
  obtain ⟨c, f0, f1, e0, e1, z0, z1⟩ := a
  obtain ⟨c', f0', f1', e0', e1', z0', z1'⟩ := b
  obtain ⟨w1, hw1⟩ : ∃ w1, w1 = (w.alloc (.cells #[.int .i64 c, .int .i64 f0, .int .i64 f1, .int .i64 e0, .int .i64 e1, .int .i64 z0, .int .i64 z1] 25)).alloc (.cells #[.int .i64 c', .int .i64 f0', .int .i64 f1', .int .i64 e0', .int .i64 e1', .int .i64 z0', .int .i64 z1'] 25) := ⟨_, rfl⟩
  have hB1 : Below w.heap.size w w1 := by rw [hw1]; exact bal (bal (Below.refl _ _) _) _
  have hP1 : BPAt w1 w.heap.size ⟨c, f0, f1, e0, e1, z0, z1⟩ := ⟨_, _, by rw [hw1]; exact (Below.heap_alloc _ _ _ (by simp)).trans (World.alloc_heap_new w _)⟩
  have hQ1 : BPAt w1 (w.heap.size + 1) ⟨c', f0', f1', e0', e1', z0', z1'⟩ := ⟨_, _, by rw [hw1]; have := World.alloc_heap_new (w.alloc (.cells #[.int .i64 c, .int .i64 f0, .int .i64 f1, .int .i64 e0, .int .i64 e1, .int .i64 z0, .int .i64 z1] 25)) (.cells #[.int .i64 c', .int .i64 f0', .int .i64 f1', .int .i64 e0', .int .i64 e1', .int .i64 z0', .int .i64 z1'] 25); rwa [World.size_alloc] at this⟩
  have HW1 := Lib.hid hw1
  clear hw1
  unfold bpVal
  cases h1 : rightB ⟨c, f0, f1, e0, e1, z0, z1⟩ with
  | false =>
    have H1 := Lib.hid h1
    clear h1 h
    go_enter Tryd.func13, Tryd.ntmps13
    go_wp2_with fail
    rw [← HW1.out]
    clear HW1
    refine (rright_lit c f0 f1 e0 e1 z0 z1 false H1 w1).mono ?_
    rintro e w2 ⟨rfl, hB2⟩
    go_wp2
    go_ret3
    exact ⟨rfl, bgo hB1 hB2⟩
  | true =>
    have H1 := Lib.hid h1
    cases h2 : rightB ⟨c', f0', f1', e0', e1', z0', z1'⟩ with
    | false =>
      have H2 := Lib.hid h2
      clear h1 h2 h
      go_enter Tryd.func13, Tryd.ntmps13
      go_wp2_with fail
      rw [← HW1.out]
      clear HW1
      refine (rright_lit c f0 f1 e0 e1 z0 z1 true H1 w1).mono ?_
      rintro e w2 ⟨rfl, hB2⟩
      have hQ2 := hQ1.go hB2
      have k0 := hQ2.c0
      have k1 := hQ2.c1
      have k2 := hQ2.c2
      have k3 := hQ2.c3
      have k4 := hQ2.c4
      have k5 := hQ2.c5
      have k6 := hQ2.c6
      simp only [] at k0 k1 k2 k3 k4 k5 k6
      go_wp2_with fail
      refine (rright_lit c' f0' f1' e0' e1' z0' z1' false H2 w2).mono ?_
      rintro e w3 ⟨rfl, hB3⟩
      clear k0 k1 k2 k3 k4 k5 k6
      go_wp2
      go_ret3
      exact ⟨rfl, bgo hB1 (bgo hB2 hB3)⟩
    | true =>
      have H2 := Lib.hid h2
      have ht : ((c == c') && (((f0 == f0') && (f1 == f1')) && !((e0 == e0') && (e1 == e1')))) = false := by
        unfold twoB at h
        rw [h1, h2] at h
        exact h
      clear h1 h2 h
      cases t1 : (c == c') with
      | false =>
        have t1' : (c != c') = true := by simp [bne, t1]
        clear ht
        go_enter Tryd.func13, Tryd.ntmps13
        go_wp2_with fail
        rw [← HW1.out]
        clear HW1
        refine (rright_lit c f0 f1 e0 e1 z0 z1 true H1 w1).mono ?_
        rintro e w2 ⟨rfl, hB2⟩
        have hQ2 := hQ1.go hB2
        have k0 := hQ2.c0
        have k1 := hQ2.c1
        have k2 := hQ2.c2
        have k3 := hQ2.c3
        have k4 := hQ2.c4
        have k5 := hQ2.c5
        have k6 := hQ2.c6
        simp only [] at k0 k1 k2 k3 k4 k5 k6
        go_wp2_with fail
        refine (rright_lit c' f0' f1' e0' e1' z0' z1' true H2 w2).mono ?_
        rintro e w3 ⟨rfl, hB3⟩
        clear k0 k1 k2 k3 k4 k5 k6
        have hP3 := (hP1.go hB2).go hB3
        have hQ3 := hQ2.go hB3
        have k0 := hQ3.c0
        have k1 := hQ3.c1
        have k2 := hQ3.c2
        have k3 := hQ3.c3
        have k4 := hQ3.c4
        have k5 := hQ3.c5
        have k6 := hQ3.c6
        simp only [] at k0 k1 k2 k3 k4 k5 k6
        have m0 := hP3.c0
        have m1 := hP3.c1
        have m2 := hP3.c2
        have m3 := hP3.c3
        have m4 := hP3.c4
        have m5 := hP3.c5
        have m6 := hP3.c6
        simp only [] at m0 m1 m2 m3 m4 m5 m6
        go_wp2
        go_ret3
        exact ⟨rfl, bgo hB1 (bgo hB2 hB3)⟩
      | true =>
        have t1' : (c != c') = false := by simp [bne, t1]
        cases t2 : ((f0 == f0') && (f1 == f1')) with
        | false =>
          clear ht
          go_enter Tryd.func13, Tryd.ntmps13
          go_wp2_with fail
          rw [← HW1.out]
          clear HW1
          refine (rright_lit c f0 f1 e0 e1 z0 z1 true H1 w1).mono ?_
          rintro e w2 ⟨rfl, hB2⟩
          have hQ2 := hQ1.go hB2
          have k0 := hQ2.c0
          have k1 := hQ2.c1
          have k2 := hQ2.c2
          have k3 := hQ2.c3
          have k4 := hQ2.c4
          have k5 := hQ2.c5
          have k6 := hQ2.c6
          simp only [] at k0 k1 k2 k3 k4 k5 k6
          go_wp2_with fail
          refine (rright_lit c' f0' f1' e0' e1' z0' z1' true H2 w2).mono ?_
          rintro e w3 ⟨rfl, hB3⟩
          clear k0 k1 k2 k3 k4 k5 k6
          have hP3 := (hP1.go hB2).go hB3
          have hQ3 := hQ2.go hB3
          have k0 := hQ3.c0
          have k1 := hQ3.c1
          have k2 := hQ3.c2
          have k3 := hQ3.c3
          have k4 := hQ3.c4
          have k5 := hQ3.c5
          have k6 := hQ3.c6
          simp only [] at k0 k1 k2 k3 k4 k5 k6
          have m0 := hP3.c0
          have m1 := hP3.c1
          have m2 := hP3.c2
          have m3 := hP3.c3
          have m4 := hP3.c4
          have m5 := hP3.c5
          have m6 := hP3.c6
          simp only [] at m0 m1 m2 m3 m4 m5 m6
          go_wp2
          go_ret3
          exact ⟨rfl, bgo hB1 (bgo hB2 hB3)⟩
        | true =>
          have t3 : ((e0 == e0') && (e1 == e1')) = true := by
            rw [t1, t2] at ht
            simpa using ht
          clear ht
          go_enter Tryd.func13, Tryd.ntmps13
          go_wp2_with fail
          rw [← HW1.out]
          clear HW1
          refine (rright_lit c f0 f1 e0 e1 z0 z1 true H1 w1).mono ?_
          rintro e w2 ⟨rfl, hB2⟩
          have hQ2 := hQ1.go hB2
          have k0 := hQ2.c0
          have k1 := hQ2.c1
          have k2 := hQ2.c2
          have k3 := hQ2.c3
          have k4 := hQ2.c4
          have k5 := hQ2.c5
          have k6 := hQ2.c6
          simp only [] at k0 k1 k2 k3 k4 k5 k6
          go_wp2_with fail
          refine (rright_lit c' f0' f1' e0' e1' z0' z1' true H2 w2).mono ?_
          rintro e w3 ⟨rfl, hB3⟩
          clear k0 k1 k2 k3 k4 k5 k6
          have hP3 := (hP1.go hB2).go hB3
          have hQ3 := hQ2.go hB3
          have k0 := hQ3.c0
          have k1 := hQ3.c1
          have k2 := hQ3.c2
          have k3 := hQ3.c3
          have k4 := hQ3.c4
          have k5 := hQ3.c5
          have k6 := hQ3.c6
          simp only [] at k0 k1 k2 k3 k4 k5 k6
          have m0 := hP3.c0
          have m1 := hP3.c1
          have m2 := hP3.c2
          have m3 := hP3.c3
          have m4 := hP3.c4
          have m5 := hP3.c5
          have m6 := hP3.c6
          simp only [] at m0 m1 m2 m3 m4 m5 m6
          have hB := bgo hB1 (bgo hB2 hB3)
          have t30 : (e0 == e0') = true := by simp only [Bool.and_eq_true] at t3; exact t3.1
          have t31 : (e1 == e1') = true := by simp only [Bool.and_eq_true] at t3; exact t3.2
          have t40 : (e0 != e0') = false := by simp [bne, t30]
          have t41 : (e1 != e1') = false := by simp [bne, t31]
          clear t3 t30 t31
          go_wp2
          go_loopw [7] (fun i wr => ∃ k : Int, (0 ≤ k ∧ k ≤ 2) ∧ i = .int .i64 k ∧ BPAt wr w.heap.size ⟨c, f0, f1, e0, e1, z0, z1⟩ ∧ BPAt wr (w.heap.size + 1) ⟨c', f0', f1', e0', e1', z0', z1'⟩ ∧ Below w.heap.size w wr) (fun i _ => 2 - (intOf i).toNat)
          case atStart => exact ⟨0, by omega, rfl, hP3, hQ3, hB⟩
          case round =>
            clear hP1 hQ1 hQ2 hP3 hQ3 hB hB1 hB2 hB3
            obtain ⟨k, hk, rfl, hp0, hq0, hb0⟩ := hrel
            rcases (show k = 0 ∨ k = 1 ∨ k = 2 by omega) with rfl | rfl | rfl
            · have n3 := hp0.c3
              have n4 := hp0.c4
              have n5 := hp0.c5
              have n6 := hp0.c6
              have o3 := hq0.c3
              have o4 := hq0.c4
              have o5 := hq0.c5
              have o6 := hq0.c6
              simp only [] at n3 n4 n5 n6 o3 o4 o5 o6
              go_wp2_with fail
              go_quiet (fail)
              obtain ⟨u1, hu1⟩ : ∃ u, u = wr.drewN nq := ⟨_, rfl⟩
              have hp1 : BPAt u1 w.heap.size ⟨c, f0, f1, e0, e1, z0, z1⟩ := by rw [hu1]; exact hp0
              have hq1 : BPAt u1 (w.heap.size + 1) ⟨c', f0', f1', e0', e1', z0', z1'⟩ := by rw [hu1]; exact hq0
              have hb1 : Below w.heap.size w u1 := by rw [hu1]; exact below_drewN hb0 _
              rw [← hu1]
              clear hu1 hp0 hq0 hb0 n3 n4 n5 n6 o3 o4 o5 o6
              go_wp2
              go_roundw
              case rel => exact ⟨1, by omega, rfl, hp1, hq1, hb1⟩
              case measure => simp [intOf]
            · have n3 := hp0.c3
              have n4 := hp0.c4
              have n5 := hp0.c5
              have n6 := hp0.c6
              have o3 := hq0.c3
              have o4 := hq0.c4
              have o5 := hq0.c5
              have o6 := hq0.c6
              simp only [] at n3 n4 n5 n6 o3 o4 o5 o6
              go_wp2_with fail
              go_quiet (fail)
              obtain ⟨u1, hu1⟩ : ∃ u, u = wr.drewN nq := ⟨_, rfl⟩
              have hp1 : BPAt u1 w.heap.size ⟨c, f0, f1, e0, e1, z0, z1⟩ := by rw [hu1]; exact hp0
              have hq1 : BPAt u1 (w.heap.size + 1) ⟨c', f0', f1', e0', e1', z0', z1'⟩ := by rw [hu1]; exact hq0
              have hb1 : Below w.heap.size w u1 := by rw [hu1]; exact below_drewN hb0 _
              rw [← hu1]
              clear hu1 hp0 hq0 hb0 n3 n4 n5 n6 o3 o4 o5 o6
              go_wp2
              go_roundw
              case rel => exact ⟨2, by omega, rfl, hp1, hq1, hb1⟩
              case measure => simp [intOf]
            · go_wp2
              go_ret3
              exact ⟨rfl, hb0⟩
set_option maxHeartbeats 8000000 in
set_option maxRecDepth 100000 in
theorem rextract_yes0 (a b : BP) (h : twoB a b = true) (hi : (a.e0 == b.e0) = false) (w : World) :
    Calls Tryd.prog 13 #[bpVal a, bpVal b] w fun r w' => r = .returned (.tuple #[.int .i64 0, .int .i64 (ansI a.z0 b.z0 a.e0 b.e0), .bool true]) ∧ Below w.heap.size w w' := by
  obtain ⟨c, f0, f1, e0, e1, z0, z1⟩ := a
  obtain ⟨c', f0', f1', e0', e1', z0', z1'⟩ := b
  obtain ⟨w1, hw1⟩ : ∃ w1, w1 = (w.alloc (.cells #[.int .i64 c, .int .i64 f0, .int .i64 f1, .int .i64 e0, .int .i64 e1, .int .i64 z0, .int .i64 z1] 25)).alloc (.cells #[.int .i64 c', .int .i64 f0', .int .i64 f1', .int .i64 e0', .int .i64 e1', .int .i64 z0', .int .i64 z1'] 25) := ⟨_, rfl⟩
  have hB1 : Below w.heap.size w w1 := by rw [hw1]; exact bal (bal (Below.refl _ _) _) _
  have hP1 : BPAt w1 w.heap.size ⟨c, f0, f1, e0, e1, z0, z1⟩ := ⟨_, _, by rw [hw1]; exact (Below.heap_alloc _ _ _ (by simp)).trans (World.alloc_heap_new w _)⟩
  have hQ1 : BPAt w1 (w.heap.size + 1) ⟨c', f0', f1', e0', e1', z0', z1'⟩ := ⟨_, _, by rw [hw1]; have := World.alloc_heap_new (w.alloc (.cells #[.int .i64 c, .int .i64 f0, .int .i64 f1, .int .i64 e0, .int .i64 e1, .int .i64 z0, .int .i64 z1] 25)) (.cells #[.int .i64 c', .int .i64 f0', .int .i64 f1', .int .i64 e0', .int .i64 e1', .int .i64 z0', .int .i64 z1'] 25); rwa [World.size_alloc] at this⟩
  have HW1 := Lib.hid hw1
  clear hw1
  unfold bpVal
  simp only [] at hi
  obtain ⟨h1, h2, t1, t2, t3⟩ : rightB ⟨c, f0, f1, e0, e1, z0, z1⟩ = true ∧ rightB ⟨c', f0', f1', e0', e1', z0', z1'⟩ = true ∧ (c == c') = true ∧ ((f0 == f0') && (f1 == f1')) = true ∧ ((e0 == e0') && (e1 == e1')) = false := by
    unfold twoB at h
    simp only [Bool.and_eq_true, Bool.not_eq_true'] at h
    exact ⟨h.1, h.2.1, h.2.2.1, by simp only [Bool.and_eq_true]; exact h.2.2.2.1, h.2.2.2.2⟩
  have t1' : (c != c') = false := by simp [bne, t1]
  have b1 := (right_parts h1)
  have b2 := (right_parts h2)
  simp only [] at b1 b2
  obtain ⟨_, _, _, p0, p1, p2, p3⟩ := b1
  obtain ⟨_, _, _, q0, q1, q2, q3⟩ := b2
  have H1 := Lib.hid h1
  have H2 := Lib.hid h2
  obtain ⟨de, hde⟩ : ∃ de, (e0 - e0') % 1073741789 = de := ⟨_, rfl⟩
  have hdb : 0 ≤ de ∧ de < 1073741789 := by rw [← hde]; omega
  obtain ⟨iv, hiv⟩ : ∃ iv, fpI de 1073741787 = iv := ⟨_, rfl⟩
  have hib := fpI_bd de 1073741787
  rw [hiv] at hib
  obtain ⟨dz, hdz⟩ : ∃ dz, (z0 - z0') % 1073741789 = dz := ⟨_, rfl⟩
  have hzb : 0 ≤ dz ∧ dz < 1073741789 := by rw [← hdz]; omega
  have hm := mulQ hzb.1 hzb.2 hib.1 hib.2
  have hans : ansI z0 z0' e0 e0' = dz * iv % 1073741789 := by unfold ansI; rw [hde, hiv, hdz]
  simp only []
  rw [hans]
  have hde2 : (e0 + 1073741789 - e0') % 1073741789 = de := by rw [← hde]; omega
  have hdz2 : (z0 + 1073741789 - z0') % 1073741789 = dz := by rw [← hdz]; omega
  have HDE := Lib.hid hde
  have HIV := Lib.hid hiv
  have HDZ := Lib.hid hdz
  clear h h1 h2 hde hiv hdz hans
  go_enter Tryd.func13, Tryd.ntmps13
  go_wp2_with fail
  rw [← HW1.out]
  clear HW1
  refine (rright_lit c f0 f1 e0 e1 z0 z1 true H1 w1).mono ?_
  rintro e w2 ⟨rfl, hB2⟩
  have hQ2 := hQ1.go hB2
  have k0 := hQ2.c0
  have k1 := hQ2.c1
  have k2 := hQ2.c2
  have k3 := hQ2.c3
  have k4 := hQ2.c4
  have k5 := hQ2.c5
  have k6 := hQ2.c6
  simp only [] at k0 k1 k2 k3 k4 k5 k6
  go_wp2_with fail
  refine (rright_lit c' f0' f1' e0' e1' z0' z1' true H2 w2).mono ?_
  rintro e w3 ⟨rfl, hB3⟩
  clear k0 k1 k2 k3 k4 k5 k6
  have hP3 := (hP1.go hB2).go hB3
  have hQ3 := hQ2.go hB3
  have k0 := hQ3.c0
  have k1 := hQ3.c1
  have k2 := hQ3.c2
  have k3 := hQ3.c3
  have k4 := hQ3.c4
  have k5 := hQ3.c5
  have k6 := hQ3.c6
  simp only [] at k0 k1 k2 k3 k4 k5 k6
  have m0 := hP3.c0
  have m1 := hP3.c1
  have m2 := hP3.c2
  have m3 := hP3.c3
  have m4 := hP3.c4
  have m5 := hP3.c5
  have m6 := hP3.c6
  simp only [] at m0 m1 m2 m3 m4 m5 m6
  have hB := bgo hB1 (bgo hB2 hB3)
  have t40 : (e0 != e0') = true := by simp [bne, hi]
  go_wp2
  go_loopw [7] (fun i wr => ∃ k : Int, (0 ≤ k ∧ k ≤ 0) ∧ i = .int .i64 k ∧ BPAt wr w.heap.size ⟨c, f0, f1, e0, e1, z0, z1⟩ ∧ BPAt wr (w.heap.size + 1) ⟨c', f0', f1', e0', e1', z0', z1'⟩ ∧ Below w.heap.size w wr) (fun i _ => 2 - (intOf i).toNat)
  case atStart => exact ⟨0, by omega, rfl, hP3, hQ3, hB⟩
  case round =>
    clear hP1 hQ1 hQ2 hP3 hQ3 hB hB1 hB2 hB3
    obtain ⟨k, hk, rfl, hp0, hq0, hb0⟩ := hrel
    obtain rfl : k = 0 := by omega
    have x1 : IntKind.i64.wrap (z0 + 1073741789) = z0 + 1073741789 := IntWalk.i64_in _ (by omega)
    have x2 : IntKind.i64.wrap (z0 + 1073741789 - z0') = z0 + 1073741789 - z0' := IntWalk.i64_in _ (by omega)
    have x3 : (z0 + 1073741789 - z0').tmod 1073741789 = dz := by rw [Int.tmod_eq_emod_of_nonneg (by omega)]; exact hdz2
    have y1 : IntKind.i64.wrap (e0 + 1073741789) = e0 + 1073741789 := IntWalk.i64_in _ (by omega)
    have y2 : IntKind.i64.wrap (e0 + 1073741789 - e0') = e0 + 1073741789 - e0' := IntWalk.i64_in _ (by omega)
    have y3 : (e0 + 1073741789 - e0').tmod 1073741789 = de := by rw [Int.tmod_eq_emod_of_nonneg (by omega)]; exact hde2
    clear hde2 hdz2
    have n3 := hp0.c3
    have n4 := hp0.c4
    have n5 := hp0.c5
    have n6 := hp0.c6
    have o3 := hq0.c3
    have o4 := hq0.c4
    have o5 := hq0.c5
    have o6 := hq0.c6
    simp only [] at n3 n4 n5 n6 o3 o4 o5 o6
    go_wp2_with fail
    go_quiet (fail)
    obtain ⟨u1, hu1⟩ : ∃ u, u = wr.drewN nq := ⟨_, rfl⟩
    have hp1 : BPAt u1 w.heap.size ⟨c, f0, f1, e0, e1, z0, z1⟩ := by rw [hu1]; exact hp0
    have hq1 : BPAt u1 (w.heap.size + 1) ⟨c', f0', f1', e0', e1', z0', z1'⟩ := by rw [hu1]; exact hq0
    have hb1 : Below w.heap.size w u1 := by rw [hu1]; exact below_drewN hb0 _
    rw [← hu1]
    clear hu1 hp0 hq0 hb0 n3 n4 n5 n6 o3 o4 o5 o6
    have n3 := hp1.c3
    have n4 := hp1.c4
    have n5 := hp1.c5
    have n6 := hp1.c6
    have o3 := hq1.c3
    have o4 := hq1.c4
    have o5 := hq1.c5
    have o6 := hq1.c6
    simp only [] at n3 n4 n5 n6 o3 o4 o5 o6
    go_wp2_with fail
    go_quiet (fail)
    obtain ⟨u2, hu2⟩ : ∃ u, u = u1.drewN nq := ⟨_, rfl⟩
    have hp2 : BPAt u2 w.heap.size ⟨c, f0, f1, e0, e1, z0, z1⟩ := by rw [hu2]; exact hp1
    have hq2 : BPAt u2 (w.heap.size + 1) ⟨c', f0', f1', e0', e1', z0', z1'⟩ := by rw [hu2]; exact hq1
    have hb2 : Below w.heap.size w u2 := by rw [hu2]; exact below_drewN hb1 _
    rw [← hu2]
    clear hu2 hp1 hq1 hb1 n3 n4 n5 n6 o3 o4 o5 o6
    have n3 := hp2.c3
    have n4 := hp2.c4
    have n5 := hp2.c5
    have n6 := hp2.c6
    have o3 := hq2.c3
    have o4 := hq2.c4
    have o5 := hq2.c5
    have o6 := hq2.c6
    simp only [] at n3 n4 n5 n6 o3 o4 o5 o6
    go_wp2_with fail
    go_quiet (fail)
    obtain ⟨u3, hu3⟩ : ∃ u, u = u2.drewN nq := ⟨_, rfl⟩
    have hp3 : BPAt u3 w.heap.size ⟨c, f0, f1, e0, e1, z0, z1⟩ := by rw [hu3]; exact hp2
    have hq3 : BPAt u3 (w.heap.size + 1) ⟨c', f0', f1', e0', e1', z0', z1'⟩ := by rw [hu3]; exact hq2
    have hb3 : Below w.heap.size w u3 := by rw [hu3]; exact below_drewN hb2 _
    rw [← hu3]
    clear hu3 hp2 hq2 hb2 n3 n4 n5 n6 o3 o4 o5 o6
    clear x1 x2 x3 y1 y2 y3
    go_wp2_with fail
    refine (powerQ_v de 1073741787 iv _ (by omega) (by omega) (by omega) (by omega) HIV).mono ?_
    rintro e wp ⟨rfl, rfl⟩
    go_wp2
    go_ret3
    exact ⟨rfl, hb3⟩
set_option maxHeartbeats 8000000 in
set_option maxRecDepth 100000 in
theorem rextract_yes1 (a b : BP) (h : twoB a b = true) (hi : (a.e0 == b.e0) = true) (w : World) :
    Calls Tryd.prog 13 #[bpVal a, bpVal b] w fun r w' => r = .returned (.tuple #[.int .i64 1, .int .i64 (ansI a.z1 b.z1 a.e1 b.e1), .bool true]) ∧ Below w.heap.size w w' := by
  obtain ⟨c, f0, f1, e0, e1, z0, z1⟩ := a
  obtain ⟨c', f0', f1', e0', e1', z0', z1'⟩ := b
  obtain ⟨w1, hw1⟩ : ∃ w1, w1 = (w.alloc (.cells #[.int .i64 c, .int .i64 f0, .int .i64 f1, .int .i64 e0, .int .i64 e1, .int .i64 z0, .int .i64 z1] 25)).alloc (.cells #[.int .i64 c', .int .i64 f0', .int .i64 f1', .int .i64 e0', .int .i64 e1', .int .i64 z0', .int .i64 z1'] 25) := ⟨_, rfl⟩
  have hB1 : Below w.heap.size w w1 := by rw [hw1]; exact bal (bal (Below.refl _ _) _) _
  have hP1 : BPAt w1 w.heap.size ⟨c, f0, f1, e0, e1, z0, z1⟩ := ⟨_, _, by rw [hw1]; exact (Below.heap_alloc _ _ _ (by simp)).trans (World.alloc_heap_new w _)⟩
  have hQ1 : BPAt w1 (w.heap.size + 1) ⟨c', f0', f1', e0', e1', z0', z1'⟩ := ⟨_, _, by rw [hw1]; have := World.alloc_heap_new (w.alloc (.cells #[.int .i64 c, .int .i64 f0, .int .i64 f1, .int .i64 e0, .int .i64 e1, .int .i64 z0, .int .i64 z1] 25)) (.cells #[.int .i64 c', .int .i64 f0', .int .i64 f1', .int .i64 e0', .int .i64 e1', .int .i64 z0', .int .i64 z1'] 25); rwa [World.size_alloc] at this⟩
  have HW1 := Lib.hid hw1
  clear hw1
  unfold bpVal
  simp only [] at hi
  obtain ⟨h1, h2, t1, t2, t3⟩ : rightB ⟨c, f0, f1, e0, e1, z0, z1⟩ = true ∧ rightB ⟨c', f0', f1', e0', e1', z0', z1'⟩ = true ∧ (c == c') = true ∧ ((f0 == f0') && (f1 == f1')) = true ∧ ((e0 == e0') && (e1 == e1')) = false := by
    unfold twoB at h
    simp only [Bool.and_eq_true, Bool.not_eq_true'] at h
    exact ⟨h.1, h.2.1, h.2.2.1, by simp only [Bool.and_eq_true]; exact h.2.2.2.1, h.2.2.2.2⟩
  have t1' : (c != c') = false := by simp [bne, t1]
  have t4 : (e1 == e1') = false := by rw [hi, Bool.true_and] at t3; exact t3
  have b1 := (right_parts h1)
  have b2 := (right_parts h2)
  simp only [] at b1 b2
  obtain ⟨_, _, _, p0, p1, p2, p3⟩ := b1
  obtain ⟨_, _, _, q0, q1, q2, q3⟩ := b2
  have H1 := Lib.hid h1
  have H2 := Lib.hid h2
  obtain ⟨de, hde⟩ : ∃ de, (e1 - e1') % 1073741789 = de := ⟨_, rfl⟩
  have hdb : 0 ≤ de ∧ de < 1073741789 := by rw [← hde]; omega
  obtain ⟨iv, hiv⟩ : ∃ iv, fpI de 1073741787 = iv := ⟨_, rfl⟩
  have hib := fpI_bd de 1073741787
  rw [hiv] at hib
  obtain ⟨dz, hdz⟩ : ∃ dz, (z1 - z1') % 1073741789 = dz := ⟨_, rfl⟩
  have hzb : 0 ≤ dz ∧ dz < 1073741789 := by rw [← hdz]; omega
  have hm := mulQ hzb.1 hzb.2 hib.1 hib.2
  have hans : ansI z1 z1' e1 e1' = dz * iv % 1073741789 := by unfold ansI; rw [hde, hiv, hdz]
  simp only []
  rw [hans]
  have hde2 : (e1 + 1073741789 - e1') % 1073741789 = de := by rw [← hde]; omega
  have hdz2 : (z1 + 1073741789 - z1') % 1073741789 = dz := by rw [← hdz]; omega
  have HDE := Lib.hid hde
  have HIV := Lib.hid hiv
  have HDZ := Lib.hid hdz
  clear h h1 h2 hde hiv hdz hans
  go_enter Tryd.func13, Tryd.ntmps13
  go_wp2_with fail
  rw [← HW1.out]
  clear HW1
  refine (rright_lit c f0 f1 e0 e1 z0 z1 true H1 w1).mono ?_
  rintro e w2 ⟨rfl, hB2⟩
  have hQ2 := hQ1.go hB2
  have k0 := hQ2.c0
  have k1 := hQ2.c1
  have k2 := hQ2.c2
  have k3 := hQ2.c3
  have k4 := hQ2.c4
  have k5 := hQ2.c5
  have k6 := hQ2.c6
  simp only [] at k0 k1 k2 k3 k4 k5 k6
  go_wp2_with fail
  refine (rright_lit c' f0' f1' e0' e1' z0' z1' true H2 w2).mono ?_
  rintro e w3 ⟨rfl, hB3⟩
  clear k0 k1 k2 k3 k4 k5 k6
  have hP3 := (hP1.go hB2).go hB3
  have hQ3 := hQ2.go hB3
  have k0 := hQ3.c0
  have k1 := hQ3.c1
  have k2 := hQ3.c2
  have k3 := hQ3.c3
  have k4 := hQ3.c4
  have k5 := hQ3.c5
  have k6 := hQ3.c6
  simp only [] at k0 k1 k2 k3 k4 k5 k6
  have m0 := hP3.c0
  have m1 := hP3.c1
  have m2 := hP3.c2
  have m3 := hP3.c3
  have m4 := hP3.c4
  have m5 := hP3.c5
  have m6 := hP3.c6
  simp only [] at m0 m1 m2 m3 m4 m5 m6
  have hB := bgo hB1 (bgo hB2 hB3)
  have t40 : (e0 != e0') = false := by simp [bne, hi]
  have t41 : (e1 != e1') = true := by simp [bne, t4]
  go_wp2
  go_loopw [7] (fun i wr => ∃ k : Int, (0 ≤ k ∧ k ≤ 1) ∧ i = .int .i64 k ∧ BPAt wr w.heap.size ⟨c, f0, f1, e0, e1, z0, z1⟩ ∧ BPAt wr (w.heap.size + 1) ⟨c', f0', f1', e0', e1', z0', z1'⟩ ∧ Below w.heap.size w wr) (fun i _ => 2 - (intOf i).toNat)
  case atStart => exact ⟨0, by omega, rfl, hP3, hQ3, hB⟩
  case round =>
    clear hP1 hQ1 hQ2 hP3 hQ3 hB hB1 hB2 hB3
    obtain ⟨k, hk, rfl, hp0, hq0, hb0⟩ := hrel
    rcases (show k = 0 ∨ k = 1 by omega) with rfl | rfl
    · have n3 := hp0.c3
      have n4 := hp0.c4
      have n5 := hp0.c5
      have n6 := hp0.c6
      have o3 := hq0.c3
      have o4 := hq0.c4
      have o5 := hq0.c5
      have o6 := hq0.c6
      simp only [] at n3 n4 n5 n6 o3 o4 o5 o6
      go_wp2_with fail
      go_quiet (fail)
      obtain ⟨u1, hu1⟩ : ∃ u, u = wr.drewN nq := ⟨_, rfl⟩
      have hp1 : BPAt u1 w.heap.size ⟨c, f0, f1, e0, e1, z0, z1⟩ := by rw [hu1]; exact hp0
      have hq1 : BPAt u1 (w.heap.size + 1) ⟨c', f0', f1', e0', e1', z0', z1'⟩ := by rw [hu1]; exact hq0
      have hb1 : Below w.heap.size w u1 := by rw [hu1]; exact below_drewN hb0 _
      rw [← hu1]
      clear hu1 hp0 hq0 hb0 n3 n4 n5 n6 o3 o4 o5 o6
      go_wp2
      go_roundw
      case rel => exact ⟨1, by omega, rfl, hp1, hq1, hb1⟩
      case measure => simp [intOf]
    · have x1 : IntKind.i64.wrap (z1 + 1073741789) = z1 + 1073741789 := IntWalk.i64_in _ (by omega)
      have x2 : IntKind.i64.wrap (z1 + 1073741789 - z1') = z1 + 1073741789 - z1' := IntWalk.i64_in _ (by omega)
      have x3 : (z1 + 1073741789 - z1').tmod 1073741789 = dz := by rw [Int.tmod_eq_emod_of_nonneg (by omega)]; exact hdz2
      have y1 : IntKind.i64.wrap (e1 + 1073741789) = e1 + 1073741789 := IntWalk.i64_in _ (by omega)
      have y2 : IntKind.i64.wrap (e1 + 1073741789 - e1') = e1 + 1073741789 - e1' := IntWalk.i64_in _ (by omega)
      have y3 : (e1 + 1073741789 - e1').tmod 1073741789 = de := by rw [Int.tmod_eq_emod_of_nonneg (by omega)]; exact hde2
      clear hde2 hdz2
      have n3 := hp0.c3
      have n4 := hp0.c4
      have n5 := hp0.c5
      have n6 := hp0.c6
      have o3 := hq0.c3
      have o4 := hq0.c4
      have o5 := hq0.c5
      have o6 := hq0.c6
      simp only [] at n3 n4 n5 n6 o3 o4 o5 o6
      go_wp2_with fail
      go_quiet (fail)
      obtain ⟨u1, hu1⟩ : ∃ u, u = wr.drewN nq := ⟨_, rfl⟩
      have hp1 : BPAt u1 w.heap.size ⟨c, f0, f1, e0, e1, z0, z1⟩ := by rw [hu1]; exact hp0
      have hq1 : BPAt u1 (w.heap.size + 1) ⟨c', f0', f1', e0', e1', z0', z1'⟩ := by rw [hu1]; exact hq0
      have hb1 : Below w.heap.size w u1 := by rw [hu1]; exact below_drewN hb0 _
      rw [← hu1]
      clear hu1 hp0 hq0 hb0 n3 n4 n5 n6 o3 o4 o5 o6
      have n3 := hp1.c3
      have n4 := hp1.c4
      have n5 := hp1.c5
      have n6 := hp1.c6
      have o3 := hq1.c3
      have o4 := hq1.c4
      have o5 := hq1.c5
      have o6 := hq1.c6
      simp only [] at n3 n4 n5 n6 o3 o4 o5 o6
      go_wp2_with fail
      go_quiet (fail)
      obtain ⟨u2, hu2⟩ : ∃ u, u = u1.drewN nq := ⟨_, rfl⟩
      have hp2 : BPAt u2 w.heap.size ⟨c, f0, f1, e0, e1, z0, z1⟩ := by rw [hu2]; exact hp1
      have hq2 : BPAt u2 (w.heap.size + 1) ⟨c', f0', f1', e0', e1', z0', z1'⟩ := by rw [hu2]; exact hq1
      have hb2 : Below w.heap.size w u2 := by rw [hu2]; exact below_drewN hb1 _
      rw [← hu2]
      clear hu2 hp1 hq1 hb1 n3 n4 n5 n6 o3 o4 o5 o6
      have n3 := hp2.c3
      have n4 := hp2.c4
      have n5 := hp2.c5
      have n6 := hp2.c6
      have o3 := hq2.c3
      have o4 := hq2.c4
      have o5 := hq2.c5
      have o6 := hq2.c6
      simp only [] at n3 n4 n5 n6 o3 o4 o5 o6
      go_wp2_with fail
      go_quiet (fail)
      obtain ⟨u3, hu3⟩ : ∃ u, u = u2.drewN nq := ⟨_, rfl⟩
      have hp3 : BPAt u3 w.heap.size ⟨c, f0, f1, e0, e1, z0, z1⟩ := by rw [hu3]; exact hp2
      have hq3 : BPAt u3 (w.heap.size + 1) ⟨c', f0', f1', e0', e1', z0', z1'⟩ := by rw [hu3]; exact hq2
      have hb3 : Below w.heap.size w u3 := by rw [hu3]; exact below_drewN hb2 _
      rw [← hu3]
      clear hu3 hp2 hq2 hb2 n3 n4 n5 n6 o3 o4 o5 o6
      clear x1 x2 x3 y1 y2 y3
      go_wp2_with fail
      refine (powerQ_v de 1073741787 iv _ (by omega) (by omega) (by omega) (by omega) HIV).mono ?_
      rintro e wp ⟨rfl, rfl⟩
      go_wp2
      go_ret3
      exact ⟨rfl, hb3⟩
end Go.Proofs.YthebahahpkficaaDoor
