/- The walk of RangeproofComplete. -/
import Derived.Test.YthebahahpkficaaDoorRpHead
namespace Go.Proofs.YthebahahpkficaaDoor
open Go.RowKit
set_option linter.unusedVariables false
theorem i64_b {a : Int} (h : (Lit.int .i64 a).wf = true) : -9223372036854775808 ≤ a ∧ a ≤ 9223372036854775807 := bounds_i64 h
theorem u32_b {a : Int} (h : (Lit.int .u32 a).wf = true) : 0 ≤ a ∧ a ≤ 4294967295 := by have := bounds_u32 h; omega
theorem u8_b {a : Int} (h : (Lit.int .u8 a).wf = true) : 0 ≤ a ∧ a ≤ 255 := by have := bounds_u8 h; omega
/-- 2 to the n-th as an integer, as the walks reckon it. -/
theorem two_pow (n : Nat) (hn : n ≤ 28) : ∃ E : Int, E = ((2 ^ n : Nat) : Int) ∧ (1 ≤ E ∧ E ≤ 268435456) ∧ IntKind.i64.wrap ((2 : Int) ^ n) = E := by
  have h28 : 2 ^ n ≤ 268435456 := (Nat.pow_le_pow_right (by omega) (by omega) : 2 ^ n ≤ 2 ^ 28)
  have h1 : 1 ≤ 2 ^ n := Nat.one_le_two_pow
  have e2 : (2 : Int) ^ n = ((2 ^ n : Nat) : Int) := by rw [Int.natCast_pow]; rfl
  have hb : (1 : Int) ≤ ((2 ^ n : Nat) : Int) ∧ ((2 ^ n : Nat) : Int) ≤ 268435456 := ⟨Int.ofNat_le.2 h1, Int.ofNat_le.2 h28⟩
  exact ⟨_, rfl, hb, by rw [e2]; exact IntWalk.i64_in _ (by omega)⟩
theorem lt_pow {v E : Int} {n : Nat} (h0 : 0 ≤ v) (hE : E = ((2 ^ n : Nat) : Int)) (h : v < E) : v.toNat < 2 ^ n := by
  have hq : ((v.toNat : Nat) : Int) < ((2 ^ n : Nat) : Int) := by rw [Int.toNat_of_nonneg h0, ← hE]; exact h
  exact Int.ofNat_lt.1 hq
set_option maxHeartbeats 4000000 in
set_option maxRecDepth 100000 in
theorem rangeproofComplete_walk (value blind bits : Int) (seed : ByteArray) (w : World) (h0 : (Lit.int .i64 value).wf = true) (h1 : (Lit.int .u32 blind).wf = true) (h2 : (Lit.int .u8 bits).wf = true) (h3 : seed.size ≤ maxLen) (hT : Tabs w) :
    Calls Tryd.prog 4 #[.int .i64 value, .int .u32 blind, .int .u8 bits, .string seed] w fun e w' => e = .returned (.bool true) ∧ Below w.heap.size w w' := by
  replace h0 := i64_b h0
  replace h1 := u32_b h1
  replace h2 := u8_b h2
  unfold maxLen at h3
  have HT := Lib.hid hT
  clear hT
  by_cases hs : seed.size ≤ 60
  · obtain ⟨n, hn⟩ : ∃ n : Nat, bits % 28 + 1 = (n : Int) := ⟨(bits % 28 + 1).toNat, by omega⟩
    have hn1 : 1 ≤ n := by omega
    have hn2 : n ≤ 28 := by omega
    obtain ⟨r, hr⟩ : ∃ r, blind % 1073741789 = r := ⟨_, rfl⟩
    have hrb : 0 ≤ r ∧ r < 1073741789 := by omega
    obtain ⟨E, hE, hEb, hsh⟩ := two_pow n hn2
    have HE := Lib.hid hE
    clear hE
    by_cases hv : value < 0 ∨ E ≤ value
    · have HV := Lib.hid (show value < 0 ∨ ((2 ^ n : Nat) : Int) ≤ value by rw [← HE.out]; exact hv)
      have tail : ∀ (d : decide (value < 0) = true ∨ (decide (value < 0) = false ∧ E ≤ value)), Calls Tryd.prog 4 #[.int .i64 value, .int .u32 blind, .int .u8 bits, .string seed] w fun e w' => e = .returned (.bool true) ∧ Below w.heap.size w w' := by
        intro d
        clear hv
        rcases d with hd | ⟨hd, hd2⟩
        · go_enter Tryd.func4, Tryd.ntmps4
          go_wp2_with fail
          refine (head_any _ HT.out).mono ?_
          rintro e w1 ⟨rfl, hB1⟩
          go_wp2_with fail
          refine (prove_range value r n seed _ hn1 hn2 HV.out hrb.1 hrb.2).mono ?_
          rintro e w' ⟨rfl, rfl⟩
          go_wp2
          go_ret
          exact ⟨rfl, hB1⟩
        · go_enter Tryd.func4, Tryd.ntmps4
          go_wp2_with fail
          refine (head_any _ HT.out).mono ?_
          rintro e w1 ⟨rfl, hB1⟩
          go_wp2_with fail
          refine (prove_range value r n seed _ hn1 hn2 HV.out hrb.1 hrb.2).mono ?_
          rintro e w' ⟨rfl, rfl⟩
          go_wp2
          go_ret
          exact ⟨rfl, hB1⟩
      refine tail ?_
      by_cases hneg : value < 0
      · exact .inl (by simpa using hneg)
      · exact .inr ⟨by simpa using hneg, by omega⟩
    · have hv0 : 0 ≤ value := by omega
      have hv1 : value < E := by omega
      have hd : decide (value < 0) = false := by simp; omega
      obtain ⟨l, hl⟩ : ∃ l, proveL value.toNat seed.data.toList r n = l := ⟨_, rfl⟩
      have hll : l.length = n := by rw [← hl]; exact proveL_len _ _ _ _
      obtain ⟨c, hc⟩ : ∃ c, commitI value r = c := ⟨_, rfl⟩
      have hver : verifyB c n l = true := by
        rw [← hc, ← hl]
        have := verify_prove value.toNat seed.data.toList r hrb.1 hrb.2 n (by omega) hn2 (lt_pow hv0 HE.out hv1)
        rwa [Int.toNat_of_nonneg hv0] at this
      have HVE := Lib.hid (show value < ((2 ^ n : Nat) : Int) by rw [← HE.out]; exact hv1)
      have HL := Lib.hid hl
      have HLL := Lib.hid hll
      have HC := Lib.hid hc
      have HVer := Lib.hid hver
      clear hl hll hc hver hv
      go_enter Tryd.func4, Tryd.ntmps4
      go_wp2_with fail
      refine (head_any _ HT.out).mono ?_
      rintro e w1 ⟨rfl, hB1⟩
      go_wp2_with fail
      refine (prove_at value r (n : Int) n seed l HL rfl _ (HT.out.go hB1) hn1 hn2 hv0 HVE.out hrb.1 hrb.2 hs).mono ?_
      rintro e w2 ⟨A, cap, rfl, hcap, hcm, hS, hB⟩
      have hB2 := bgo hB1 hB
      have HS := Lib.hid hS
      clear hB1 hB hS
      go_wp2_with fail
      refine (commit_at value r c HC _ (HT.out.go hB2).2 hv0 (by omega) hrb.1 hrb.2).mono ?_
      rintro e w3 ⟨rfl, hB⟩
      have hB3 := bgo hB2 hB
      have HS3 := Lib.hid (HS.out.go hB)
      clear hB2 hB HS
      go_wp2_with fail
      refine (verify_at c n n l A cap true HLL HVer _ (HT.out.go hB3).1 HS3.out (by unfold maxLen; omega)).mono ?_
      rintro e w4 ⟨rfl, hB⟩
      go_wp2
      go_ret
      exact ⟨rfl, bgo hB3 hB⟩
  · have hd : decide ((60 : Int) < (seed.size : Int)) = true := by simp; omega
    go_enter Tryd.func4, Tryd.ntmps4
    go_wp2_with fail
    refine (head_any _ HT.out).mono ?_
    rintro e w1 ⟨rfl, hB1⟩
    go_wp2
    go_ret
    exact ⟨rfl, hB1⟩
end Go.Proofs.YthebahahpkficaaDoor
