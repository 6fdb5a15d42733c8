/- The walk of RangeproofMatchesReference. -/
import Derived.Test.YthebahahpkficaaDoorRpRef8
import Derived.Test.YthebahahpkficaaDoorRpLawB
namespace Go.Proofs.YthebahahpkficaaDoor
open Go.RowKit
set_option linter.unusedVariables false
def ProveAny (w : World) (n : Nat) (l : List BP) (code : Int) (r : Ending) (w' : World) : Prop :=
  ∃ A cap, r = .returned (.tuple #[.slice A n cap, .int .i64 code]) ∧ Sl w' w'.heap.size 7 A n (bpsC l) ∧ Below w.heap.size w w'
theorem prove_both (v blind bits : Int) (seed : ByteArray) (hs : seed.size ≤ 60) : ∃ (n : Nat) (l : List BP) (code : Int), l.length = n ∧ n ≤ 28 ∧
    (∀ w, Tabs w → Calls Tryd.prog 10 #[.int .i64 v, .int .i64 blind, .int .i64 bits, .string seed] w (ProveAny w n l code)) ∧
    (∀ w, Calls Tryd.prog 11 #[.int .i64 v, .int .i64 blind, .int .i64 bits, .string seed] w (ProveAny w n l code)) := by
  by_cases h1 : bits < 1 ∨ 28 < bits ∨ blind < 0 ∨ 1073741789 ≤ blind
  · refine ⟨0, [], 1, rfl, by omega, fun w _ => ?_, fun w => ?_⟩
    · refine (prove_arg v blind bits seed w h1).mono ?_
      rintro e w' ⟨rfl, rfl⟩
      exact ⟨none, 0, rfl, Sl.nil _ _, Below.refl _ _⟩
    · refine (rprove_arg v blind bits seed w h1).mono ?_
      rintro e w' ⟨rfl, rfl⟩
      exact ⟨none, 0, rfl, Sl.nil _ _, Below.refl _ _⟩
  · obtain ⟨n, rfl⟩ := Int.eq_ofNat_of_zero_le (show 0 ≤ bits by omega)
    by_cases h2 : v < 0 ∨ ((2 ^ n : Nat) : Int) ≤ v
    · refine ⟨0, [], 3, rfl, by omega, fun w _ => ?_, fun w => ?_⟩
      · refine (prove_range v blind n seed w (by omega) (by omega) h2 (by omega) (by omega)).mono ?_
        rintro e w' ⟨rfl, rfl⟩
        exact ⟨none, 0, rfl, Sl.nil _ _, Below.refl _ _⟩
      · refine (rprove_range v blind n seed w (by omega) (by omega) h2 (by omega) (by omega)).mono ?_
        rintro e w' ⟨rfl, rfl⟩
        exact ⟨none, 0, rfl, Sl.nil _ _, Below.refl _ _⟩
    · have h3 : 0 ≤ v := by
        rcases Int.lt_or_le v 0 with h | h
        · exact absurd (.inl h) h2
        · exact h
      have h4 : v < ((2 ^ n : Nat) : Int) := by
        rcases Int.lt_or_le v ((2 ^ n : Nat) : Int) with h | h
        · exact h
        · exact absurd (.inr h) h2
      refine ⟨n, proveL v.toNat seed.data.toList blind n, 0, proveL_len _ _ _ _, by omega, fun w hT => ?_, fun w => ?_⟩
      · refine (prove_ok v blind n seed w hT.1 hT.2 (by omega) (by omega) h3 h4 (by omega) (by omega) hs).mono ?_
        rintro e w' ⟨A, cap, rfl, _, _, hS, hB⟩
        exact ⟨A, cap, rfl, hS, hB⟩
      · refine (rprove_ok v blind n seed w (by omega) (by omega) h3 h4 (by omega) (by omega) hs).mono ?_
        rintro e w' ⟨A, cap, rfl, _, _, hS, hB⟩
        exact ⟨A, cap, rfl, hS, hB⟩
theorem extract_both (a b : BP) : ∃ (i r : Int) (ok : Bool),
    (∀ w, Calls Tryd.prog 12 #[bpVal a, bpVal b] w fun e w' => e = .returned (.tuple #[.int .i64 i, .int .i64 r, .bool ok]) ∧ Below w.heap.size w w') ∧
    (∀ w, Calls Tryd.prog 13 #[bpVal a, bpVal b] w fun e w' => e = .returned (.tuple #[.int .i64 i, .int .i64 r, .bool ok]) ∧ Below w.heap.size w w') := by
  cases h : twoB a b with
  | false => exact ⟨0, 0, false, extract_no a b h, rextract_no a b h⟩
  | true =>
    cases hi : (a.e0 == b.e0) with
    | false => exact ⟨0, _, true, extract_yes0 a b h hi, rextract_yes0 a b h hi⟩
    | true => exact ⟨1, _, true, extract_yes1 a b h hi, rextract_yes1 a b h hi⟩
theorem rsame_at (n : Nat) (l : List BP) (hl : Hid (l.length = n)) (A B : Option Addr) (ca cb : Nat) (w : World) (hA : Sl w w.heap.size 7 A n (bpsC l)) (hB : Sl w w.heap.size 7 B n (bpsC l)) (hn : n ≤ 28) :
    Calls Tryd.prog 14 #[.slice A n ca, .slice B n cb] w fun e w' => e = .returned (.bool true) ∧ Below w.heap.size w w' := by
  have := hl.out
  subst this
  exact rsame_eq l A B ca cb w hA hB (by omega)
set_option maxHeartbeats 8000000 in
set_option maxRecDepth 100000 in
theorem rangeproofMatchesReference_walk (value blind bits : Int) (seed : ByteArray) (commit : Int) (A : Option Addr) (cp : Nat) (bs : List BP) (a b : BP) (w : World) (h0 : (Lit.int .i64 value).wf = true) (h1 : (Lit.int .i64 blind).wf = true) (h2 : (Lit.int .i64 bits).wf = true) (h3 : seed.size ≤ maxLen) (h4 : (Lit.int .i64 commit).wf = true) (hS : Sl w w.heap.size 7 A bs.length (bpsC bs)) (h5' : bs.length ≤ cp ∧ cp ≤ maxLen) (hT : Tabs w) :
    Calls Tryd.prog 3 #[.int .i64 value, .int .i64 blind, .int .i64 bits, .string seed, .int .i64 commit, .slice A bs.length cp, bpVal a, bpVal b] w fun e w' => e = .returned (.bool true) ∧ Below w.heap.size w w' := by
  replace h0 := i64_b h0
  replace h1 := i64_b h1
  replace h2 := i64_b h2
  replace h4 := i64_b h4
  have HT := Lib.hid hT
  have HS := Lib.hid hS
  have h5 : bs.length ≤ maxLen := Nat.le_trans h5'.1 h5'.2
  clear h5'
  have H5 := Lib.hid h5
  unfold maxLen at h3 h5
  clear hT hS
  obtain ⟨c, f0, f1, e0, e1, z0, z1⟩ := a
  obtain ⟨c', f0', f1', e0', e1', z0', z1'⟩ := b
  obtain ⟨w0, hw0⟩ : ∃ w0, w0 = (w.alloc (.cells #[.int .i64 c, .int .i64 f0, .int .i64 f1, .int .i64 e0, .int .i64 e1, .int .i64 z0, .int .i64 z1] 25)).alloc (.cells #[.int .i64 c', .int .i64 f0', .int .i64 f1', .int .i64 e0', .int .i64 e1', .int .i64 z0', .int .i64 z1'] 25) := ⟨_, rfl⟩
  have hB0 : Below w.heap.size w w0 := by rw [hw0]; exact bal (bal (Below.refl _ _) _) _
  have hP0 : BPAt w0 w.heap.size ⟨c, f0, f1, e0, e1, z0, z1⟩ := ⟨_, _, by rw [hw0]; exact (Below.heap_alloc _ _ _ (by simp)).trans (World.alloc_heap_new w _)⟩
  have hQ0 : BPAt w0 (w.heap.size + 1) ⟨c', f0', f1', e0', e1', z0', z1'⟩ := ⟨_, _, by rw [hw0]; have := World.alloc_heap_new (w.alloc (.cells #[.int .i64 c, .int .i64 f0, .int .i64 f1, .int .i64 e0, .int .i64 e1, .int .i64 z0, .int .i64 z1] 25)) (.cells #[.int .i64 c', .int .i64 f0', .int .i64 f1', .int .i64 e0', .int .i64 e1', .int .i64 z0', .int .i64 z1'] 25); rwa [World.size_alloc] at this⟩
  have HW0 := Lib.hid hw0
  clear hw0
  unfold bpVal
  simp only []
  by_cases hs : seed.size ≤ 60
  · by_cases hp : bs.length ≤ 40
    · obtain ⟨n, l, code, hll, hn, HP, HQ⟩ := prove_both value blind bits seed hs
      obtain ⟨i, r, ok, HX, HY⟩ := extract_both ⟨c, f0, f1, e0, e1, z0, z1⟩ ⟨c', f0', f1', e0', e1', z0', z1'⟩
      obtain ⟨vr, hvr⟩ : ∃ vr, verifyB commit bits bs = vr := ⟨_, rfl⟩
      have HLL := Lib.hid hll
      have HP := Lib.hid HP
      have HQ := Lib.hid HQ
      have HX := Lib.hid HX
      have HY := Lib.hid HY
      have HV := Lib.hid hvr
      clear hll hvr
      go_enter Tryd.func3, Tryd.ntmps3
      go_wp2_with fail
      rw [← HW0.out]
      refine (head_any w0 (HT.out.go hB0)).mono ?_
      rintro e w1 ⟨rfl, hb1⟩
      have hB1 := bgo hB0 hb1
      have hP1 := hP0.go hb1
      have hQ1 := hQ0.go hb1
      go_wp2_with fail
      refine (HP.out w1 (HT.out.go hB1)).mono ?_
      rintro e w2 ⟨A2, c2, rfl, hS2, hb2⟩
      have hB2 := bgo hB1 hb2
      have hP2 := hP1.go hb2
      have hQ2 := hQ1.go hb2
      clear hb2 hB1 hP1 hQ1 hb1 hP0 hQ0 hB0 HW0
      go_wp2_with fail
      refine (HQ.out w2).mono ?_
      rintro e w3 ⟨A3, c3, rfl, hS3, hb3⟩
      have hB3 := bgo hB2 hb3
      have hS2 := hS2.go hb3
      have hP3 := hP2.go hb3
      have hQ3 := hQ2.go hb3
      have m0 := hP3.c0
      have m1 := hP3.c1
      have m2 := hP3.c2
      have m3 := hP3.c3
      have m4 := hP3.c4
      have m5 := hP3.c5
      have m6 := hP3.c6
      simp only [] at m0 m1 m2 m3 m4 m5 m6
      have k0 := hQ3.c0
      have k1 := hQ3.c1
      have k2 := hQ3.c2
      have k3 := hQ3.c3
      have k4 := hQ3.c4
      have k5 := hQ3.c5
      have k6 := hQ3.c6
      simp only [] at k0 k1 k2 k3 k4 k5 k6
      clear hb3 hB2 hP2 hQ2
      go_wp2_with fail
      refine (HX.out w3).mono ?_
      rintro e w4 ⟨rfl, hb4⟩
      have hB4 := bgo hB3 hb4
      have hS2 := hS2.go hb4
      have hS3 := hS3.go hb4
      clear m0 m1 m2 m3 m4 m5 m6 k0 k1 k2 k3 k4 k5 k6
      have hP4 := hP3.go hb4
      have hQ4 := hQ3.go hb4
      have m0 := hP4.c0
      have m1 := hP4.c1
      have m2 := hP4.c2
      have m3 := hP4.c3
      have m4 := hP4.c4
      have m5 := hP4.c5
      have m6 := hP4.c6
      simp only [] at m0 m1 m2 m3 m4 m5 m6
      have k0 := hQ4.c0
      have k1 := hQ4.c1
      have k2 := hQ4.c2
      have k3 := hQ4.c3
      have k4 := hQ4.c4
      have k5 := hQ4.c5
      have k6 := hQ4.c6
      simp only [] at k0 k1 k2 k3 k4 k5 k6
      clear hb4 hB3 hP3 hQ3
      go_wp2_with fail
      refine (HY.out w4).mono ?_
      rintro e w5 ⟨rfl, hb5⟩
      have hB5 := bgo hB4 hb5
      have hS2 := hS2.go hb5
      have hS3 := hS3.go hb5
      clear hb5 hB4 hP4 hQ4 m0 m1 m2 m3 m4 m5 m6 k0 k1 k2 k3 k4 k5 k6
      go_wp2_with fail
      refine (rsame_at n l HLL A2 A3 c2 c3 w5 hS2 hS3 hn).mono ?_
      rintro e w6 ⟨rfl, hb6⟩
      have hB6 := bgo hB5 hb6
      clear hb6 hB5
      go_wp2_with fail
      refine (verify_any commit bits bs A cp vr HV w6 (HT.out.go hB6).1 (HS.out.go hB6) H5.out).mono ?_
      rintro e w7 ⟨rfl, hb7⟩
      have hB7 := bgo hB6 hb7
      clear hb7 hB6
      go_wp2_with fail
      refine (rverify_any commit bits bs A cp vr HV w7 (HS.out.go hB7) H5.out).mono ?_
      rintro e w8 ⟨rfl, hb8⟩
      have hB8 := bgo hB7 hb8
      clear hb8 hB7
      go_wp2
      go_ret
      exact ⟨by simp, hB8⟩
    · go_enter Tryd.func3, Tryd.ntmps3
      go_wp2_with fail
      rw [← HW0.out]
      refine (head_any w0 (HT.out.go hB0)).mono ?_
      rintro e w1 ⟨rfl, hb1⟩
      have hB1 := bgo hB0 hb1
      have hP1 := hP0.go hb1
      have hQ1 := hQ0.go hb1
      go_wp2
      go_ret
      exact ⟨rfl, hB1⟩
  · go_enter Tryd.func3, Tryd.ntmps3
    go_wp2_with fail
    rw [← HW0.out]
    refine (head_any w0 (HT.out.go hB0)).mono ?_
    rintro e w1 ⟨rfl, hb1⟩
    have hB1 := bgo hB0 hb1
    go_wp2
    go_ret
    exact ⟨rfl, hB1⟩
end Go.Proofs.YthebahahpkficaaDoor
