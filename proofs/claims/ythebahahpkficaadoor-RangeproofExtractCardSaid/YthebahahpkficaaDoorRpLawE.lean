/- The walk of RangeproofExtract. -/
import Derived.Test.YthebahahpkficaaDoorRpHead
namespace Go.Proofs.YthebahahpkficaaDoor
open Go.RowKit
set_option linter.unusedVariables false
theorem ans_nat (z z' e e' : Nat) (hz : z < Grp.Q) (hz' : z' < Grp.Q) (he : e < Grp.Q) (he' : e' < Grp.Q) : ansI (z : Int) (z' : Int) (e : Int) (e' : Int) = (((z + (Grp.Q - z')) % Grp.Q * (((e + (Grp.Q - e')) % Grp.Q) ^ (Grp.Q - 2) % Grp.Q) % Grp.Q : Nat) : Int) := by
  have hd : ∀ x y : Nat, y < Grp.Q → ((x : Int) - (y : Int)) % 1073741789 = (((x + (Grp.Q - y)) % Grp.Q : Nat) : Int) := by
    intro x y hy
    have hQ : Grp.Q = 1073741789 := rfl
    rw [hQ] at hy ⊢
    omega
  unfold ansI
  rw [hd z z' hz', hd e e' he']
  have hf : fpI (((e + (Grp.Q - e')) % Grp.Q : Nat) : Int) 1073741787 = ((((e + (Grp.Q - e')) % Grp.Q) ^ (Grp.Q - 2) % Grp.Q : Nat) : Int) := by
    unfold fpI
    rw [Int.toNat_natCast]
    rfl
  rw [hf]
  generalize (z + (Grp.Q - z')) % Grp.Q = x
  generalize ((e + (Grp.Q - e')) % Grp.Q) ^ (Grp.Q - 2) % Grp.Q = y
  rw [Int.natCast_emod, Int.natCast_mul]
  rfl
theorem opens (c f z z' e e' : Int) (i : Nat) (hc : elB c = true) (hf : elB f = true) (h1 : sideB c f e z (i : Int) = true) (h2 : sideB c f e' z' (i : Int) = true) (hne : e ≠ e') : commitI (i : Int) (ansI z z' e e') = c := by
  obtain ⟨C, rfl, hC, eC⟩ := elB_get hc
  obtain ⟨F, rfl, hF, eF⟩ := elB_get hf
  have g1 := h1
  have g2 := h2
  unfold sideB at g1 g2
  simp only [Bool.and_eq_true] at g1 g2
  obtain ⟨e, rfl, _⟩ := inFB_get g1.1
  obtain ⟨z, rfl, _⟩ := inFB_get g1.2.1
  obtain ⟨e', rfl, _⟩ := inFB_get g2.1
  obtain ⟨z', rfl, _⟩ := inFB_get g2.2.1
  obtain ⟨he, hz, k1⟩ := (sideB_nat C F e z i).1 h1
  obtain ⟨he', hz', k2⟩ := (sideB_nat C F e' z' i).1 h2
  have hx := Grp.extract F (Grp.divd C i) z z' e e' eF (Grp.divd_El eC i) hz hz' he he' (fun h => hne (by rw [h])) k1 k2
  rw [ans_nat z z' e e' hz hz' he he', commitI_nat]
  rw [Grp.mc (rfl : 4 ^ i % Grp.P = 4 ^ i % Grp.P) hx.symm, Grp.divd_back, Nat.mod_eq_of_lt hC]
theorem ansI_bd (z z' e e' : Int) : 0 ≤ ansI z z' e e' ∧ ansI z z' e e' < 1073741789 := by unfold ansI; omega
theorem two_parts {a b : BP} (h : twoB a b = true) : rightB a = true ∧ rightB b = true ∧ a.c = b.c ∧ a.f0 = b.f0 ∧ a.f1 = b.f1 ∧ ((a.e0 == b.e0) && (a.e1 == b.e1)) = false := by
  unfold twoB at h
  simp only [Bool.and_eq_true, Bool.not_eq_true', beq_iff_eq] at h
  exact ⟨h.1, h.2.1, h.2.2.1, h.2.2.2.1.1, h.2.2.2.1.2, h.2.2.2.2⟩
theorem right_get {p : BP} (h : rightB p = true) : elB p.c = true ∧ elB p.f0 = true ∧ elB p.f1 = true ∧ sideB p.c p.f0 p.e0 p.z0 0 = true ∧ sideB p.c p.f1 p.e1 p.z1 1 = true := by
  unfold rightB at h
  simp only [Bool.and_eq_true] at h
  exact ⟨h.1.1, h.1.2.1, h.1.2.2, h.2.1, h.2.2⟩
theorem opens0 {a b : BP} (h : twoB a b = true) (hi : (a.e0 == b.e0) = false) : commitI 0 (ansI a.z0 b.z0 a.e0 b.e0) = a.c := by
  obtain ⟨h1, h2, hc, hf0, hf1, _⟩ := two_parts h
  obtain ⟨c1, c2, c3, c4, c5⟩ := right_get h1
  obtain ⟨d1, d2, d3, d4, d5⟩ := right_get h2
  rw [← hc, ← hf0] at d4
  exact opens a.c a.f0 a.z0 b.z0 a.e0 b.e0 0 c1 c2 c4 d4 (by simpa using hi)
theorem opens1 {a b : BP} (h : twoB a b = true) (hi : (a.e0 == b.e0) = true) : commitI 1 (ansI a.z1 b.z1 a.e1 b.e1) = a.c := by
  obtain ⟨h1, h2, hc, hf0, hf1, hn⟩ := two_parts h
  obtain ⟨c1, c2, c3, c4, c5⟩ := right_get h1
  obtain ⟨d1, d2, d3, d4, d5⟩ := right_get h2
  rw [← hc, ← hf1] at d5
  rw [hi, Bool.true_and] at hn
  exact opens a.c a.f1 a.z1 b.z1 a.e1 b.e1 1 c1 c3 c5 d5 (by simpa using hn)
set_option maxHeartbeats 8000000 in
set_option maxRecDepth 100000 in
theorem rangeproofExtract_walk (a b : BP) (w : World) (hT : Tabs w) :
    Calls Tryd.prog 7 #[bpVal a, bpVal b] w fun e w' => e = .returned (.bool true) ∧ Below w.heap.size w w' := by
  have HT := Lib.hid hT
  clear hT
  obtain ⟨c, f0, f1, e0, e1, z0, z1⟩ := a
  obtain ⟨c', f0', f1', e0', e1', z0', z1'⟩ := b
  obtain ⟨w1, hw1⟩ : ∃ w1, w1 = (w.alloc (.cells #[.int .i64 c, .int .i64 f0, .int .i64 f1, .int .i64 e0, .int .i64 e1, .int .i64 z0, .int .i64 z1] 25)).alloc (.cells #[.int .i64 c', .int .i64 f0', .int .i64 f1', .int .i64 e0', .int .i64 e1', .int .i64 z0', .int .i64 z1'] 25) := ⟨_, rfl⟩
  have hB1 : Below w.heap.size w w1 := by rw [hw1]; exact bal (bal (Below.refl _ _) _) _
  have hP1 : BPAt w1 w.heap.size ⟨c, f0, f1, e0, e1, z0, z1⟩ := ⟨_, _, by rw [hw1]; exact (Below.heap_alloc _ _ _ (by simp)).trans (World.alloc_heap_new w _)⟩
  have hQ1 : BPAt w1 (w.heap.size + 1) ⟨c', f0', f1', e0', e1', z0', z1'⟩ := ⟨_, _, by rw [hw1]; have := World.alloc_heap_new (w.alloc (.cells #[.int .i64 c, .int .i64 f0, .int .i64 f1, .int .i64 e0, .int .i64 e1, .int .i64 z0, .int .i64 z1] 25)) (.cells #[.int .i64 c', .int .i64 f0', .int .i64 f1', .int .i64 e0', .int .i64 e1', .int .i64 z0', .int .i64 z1'] 25); rwa [World.size_alloc] at this⟩
  have HW1 := Lib.hid hw1
  clear hw1
  unfold bpVal
  simp only []
  cases ht : twoB ⟨c, f0, f1, e0, e1, z0, z1⟩ ⟨c', f0', f1', e0', e1', z0', z1'⟩ with
  | false =>
    have HX := Lib.hid ht
    clear ht
    go_enter Tryd.func7, Tryd.ntmps7
    go_wp2_with fail
    rw [← HW1.out]
    clear HW1
    refine (head_any w1 (HT.out.go hB1)).mono ?_
    rintro e w2 ⟨rfl, hB⟩
    have hB2 := bgo hB1 hB
    have hP2 := hP1.go hB
    have hQ2 := hQ1.go hB
    clear hB hB1 hP1 hQ1
    have m0 := hP2.c0
    have m1 := hP2.c1
    have m2 := hP2.c2
    have m3 := hP2.c3
    have m4 := hP2.c4
    have m5 := hP2.c5
    have m6 := hP2.c6
    simp only [] at m0 m1 m2 m3 m4 m5 m6
    have k0 := hQ2.c0
    have k1 := hQ2.c1
    have k2 := hQ2.c2
    have k3 := hQ2.c3
    have k4 := hQ2.c4
    have k5 := hQ2.c5
    have k6 := hQ2.c6
    simp only [] at k0 k1 k2 k3 k4 k5 k6
    go_wp2_with fail
    refine (extract_no ⟨c, f0, f1, e0, e1, z0, z1⟩ ⟨c', f0', f1', e0', e1', z0', z1'⟩ HX.out w2).mono ?_
    rintro e w3 ⟨rfl, hB⟩
    go_wp2
    go_ret
    exact ⟨rfl, bgo hB2 hB⟩
  | true =>
    have HX := Lib.hid ht
    have hcc := (two_parts ht).2.2.1
    have hce : (c == c') = true := by simpa using hcc
    cases hi : (e0 == e0') with
    | false =>
      have HI : Hid ((BP.e0 ⟨c, f0, f1, e0, e1, z0, z1⟩ == BP.e0 ⟨c', f0', f1', e0', e1', z0', z1'⟩) = false) := Lib.hid hi
      have hop := opens0 ht hi
      simp only [] at hop
      obtain ⟨r, hr⟩ : ∃ r, ansI z0 z0' e0 e0' = r := ⟨_, rfl⟩
      have hrb := ansI_bd z0 z0' e0 e0'
      rw [hr] at hop hrb
      have HOP : Hid ((commitI 0 r == c) = true) := Lib.hid (by simpa using hop)
      have hx := extract_yes0 ⟨c, f0, f1, e0, e1, z0, z1⟩ ⟨c', f0', f1', e0', e1', z0', z1'⟩ HX.out HI.out
      simp only [] at hx
      rw [hr] at hx
      unfold bpVal at hx
      simp only [] at hx
      have HXX := Lib.hid hx
      clear ht hcc hop hr hi hx
      go_enter Tryd.func7, Tryd.ntmps7
      go_wp2_with fail
      rw [← HW1.out]
      clear HW1
      refine (head_any w1 (HT.out.go hB1)).mono ?_
      rintro e w2 ⟨rfl, hB⟩
      have hB2 := bgo hB1 hB
      have hP2 := hP1.go hB
      have hQ2 := hQ1.go hB
      clear hB hB1 hP1 hQ1
      have m0 := hP2.c0
      have m1 := hP2.c1
      have m2 := hP2.c2
      have m3 := hP2.c3
      have m4 := hP2.c4
      have m5 := hP2.c5
      have m6 := hP2.c6
      simp only [] at m0 m1 m2 m3 m4 m5 m6
      have k0 := hQ2.c0
      have k1 := hQ2.c1
      have k2 := hQ2.c2
      have k3 := hQ2.c3
      have k4 := hQ2.c4
      have k5 := hQ2.c5
      have k6 := hQ2.c6
      simp only [] at k0 k1 k2 k3 k4 k5 k6
      go_wp2_with fail
      refine (HXX.out w2).mono ?_
      rintro e w3 ⟨rfl, hB⟩
      have hB3 := bgo hB2 hB
      have hP3 := hP2.go hB
      have hQ3 := hQ2.go hB
      clear hB hB2 hP2 hQ2 m0 k0 m1 k1 m2 k2 m3 k3 m4 k4 m5 k5 m6 k6
      have m0 := hP3.c0
      have m1 := hP3.c1
      have m2 := hP3.c2
      have m3 := hP3.c3
      have m4 := hP3.c4
      have m5 := hP3.c5
      have m6 := hP3.c6
      simp only [] at m0 m1 m2 m3 m4 m5 m6
      have k0 := hQ3.c0
      have k1 := hQ3.c1
      have k2 := hQ3.c2
      have k3 := hQ3.c3
      have k4 := hQ3.c4
      have k5 := hQ3.c5
      have k6 := hQ3.c6
      simp only [] at k0 k1 k2 k3 k4 k5 k6
      go_wp2_with fail
      refine (open_ok c 0 r true HOP w3 (HT.out.go hB3).2 (by omega) (by omega) hrb.1 hrb.2).mono ?_
      rintro e w4 ⟨rfl, hB⟩
      go_wp2
      go_ret
      exact ⟨rfl, bgo hB3 hB⟩
    | true =>
      have HI : Hid ((BP.e0 ⟨c, f0, f1, e0, e1, z0, z1⟩ == BP.e0 ⟨c', f0', f1', e0', e1', z0', z1'⟩) = true) := Lib.hid hi
      have hop := opens1 ht hi
      simp only [] at hop
      obtain ⟨r, hr⟩ : ∃ r, ansI z1 z1' e1 e1' = r := ⟨_, rfl⟩
      have hrb := ansI_bd z1 z1' e1 e1'
      rw [hr] at hop hrb
      have HOP : Hid ((commitI 1 r == c) = true) := Lib.hid (by simpa using hop)
      have hx := extract_yes1 ⟨c, f0, f1, e0, e1, z0, z1⟩ ⟨c', f0', f1', e0', e1', z0', z1'⟩ HX.out HI.out
      simp only [] at hx
      rw [hr] at hx
      unfold bpVal at hx
      simp only [] at hx
      have HXX := Lib.hid hx
      clear ht hcc hop hr hi hx
      go_enter Tryd.func7, Tryd.ntmps7
      go_wp2_with fail
      rw [← HW1.out]
      clear HW1
      refine (head_any w1 (HT.out.go hB1)).mono ?_
      rintro e w2 ⟨rfl, hB⟩
      have hB2 := bgo hB1 hB
      have hP2 := hP1.go hB
      have hQ2 := hQ1.go hB
      clear hB hB1 hP1 hQ1
      have m0 := hP2.c0
      have m1 := hP2.c1
      have m2 := hP2.c2
      have m3 := hP2.c3
      have m4 := hP2.c4
      have m5 := hP2.c5
      have m6 := hP2.c6
      simp only [] at m0 m1 m2 m3 m4 m5 m6
      have k0 := hQ2.c0
      have k1 := hQ2.c1
      have k2 := hQ2.c2
      have k3 := hQ2.c3
      have k4 := hQ2.c4
      have k5 := hQ2.c5
      have k6 := hQ2.c6
      simp only [] at k0 k1 k2 k3 k4 k5 k6
      go_wp2_with fail
      refine (HXX.out w2).mono ?_
      rintro e w3 ⟨rfl, hB⟩
      have hB3 := bgo hB2 hB
      have hP3 := hP2.go hB
      have hQ3 := hQ2.go hB
      clear hB hB2 hP2 hQ2 m0 k0 m1 k1 m2 k2 m3 k3 m4 k4 m5 k5 m6 k6
      have m0 := hP3.c0
      have m1 := hP3.c1
      have m2 := hP3.c2
      have m3 := hP3.c3
      have m4 := hP3.c4
      have m5 := hP3.c5
      have m6 := hP3.c6
      simp only [] at m0 m1 m2 m3 m4 m5 m6
      have k0 := hQ3.c0
      have k1 := hQ3.c1
      have k2 := hQ3.c2
      have k3 := hQ3.c3
      have k4 := hQ3.c4
      have k5 := hQ3.c5
      have k6 := hQ3.c6
      simp only [] at k0 k1 k2 k3 k4 k5 k6
      go_wp2_with fail
      refine (open_ok c 1 r true HOP w3 (HT.out.go hB3).2 (by omega) (by omega) hrb.1 hrb.2).mono ?_
      rintro e w4 ⟨rfl, hB⟩
      go_wp2
      go_ret
      exact ⟨rfl, bgo hB3 hB⟩
end Go.Proofs.YthebahahpkficaaDoor
