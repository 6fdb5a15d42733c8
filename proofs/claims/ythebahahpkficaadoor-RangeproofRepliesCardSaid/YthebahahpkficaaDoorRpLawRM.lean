/- The walk of RangeproofReplies. -/
import Derived.Test.YthebahahpkficaaDoorRpLawR1
import Derived.Test.YthebahahpkficaaDoorRpLawR2
import Derived.Test.YthebahahpkficaaDoorRpLawR3
namespace Go.Proofs.YthebahahpkficaaDoor
open Go.RowKit
set_option linter.unusedVariables false
set_option maxHeartbeats 4000000 in
set_option maxRecDepth 100000 in
theorem rangeproofReplies_walk (value blind bits : Int) (seed : ByteArray) (ati what by_ : Int) (w : World) (h0 : (Lit.int .u32 value).wf = true) (h1 : (Lit.int .u32 blind).wf = true) (h2 : (Lit.int .u8 bits).wf = true) (h3 : seed.size ≤ maxLen) (h4 : (Lit.int .u8 ati).wf = true) (h5 : (Lit.int .u8 what).wf = true) (h6 : (Lit.int .u32 by_).wf = true) (hT : Tabs w) :
    Calls Tryd.prog 5 #[.int .u32 value, .int .u32 blind, .int .u8 bits, .string seed, .int .u8 ati, .int .u8 what, .int .u32 by_] w fun e w' => e = .returned (.bool true) ∧ Below w.heap.size w w' := by
  replace h0 := u32_b h0
  replace h1 := u32_b h1
  replace h2 := u8_b h2
  replace h4 := u8_b h4
  replace h5 := u8_b h5
  replace h6 := u32_b h6
  unfold maxLen at h3
  have HT := Lib.hid hT
  clear hT
  by_cases hs : seed.size ≤ 60
  · obtain ⟨n, hn⟩ : ∃ n : Nat, bits % 28 + 1 = (n : Int) := ⟨(bits % 28 + 1).toNat, by omega⟩
    have hn1 : 1 ≤ n := by omega
    have hn2 : n ≤ 28 := by omega
    obtain ⟨E, hE, hEb, hsh⟩ := two_pow n hn2
    obtain ⟨x, hx⟩ : ∃ x, value % E = x := ⟨_, rfl⟩
    have hxb : 0 ≤ x ∧ x < E := ⟨by rw [← hx]; exact Int.emod_nonneg _ (by omega), by rw [← hx]; exact Int.emod_lt_of_pos _ (by omega)⟩
    have HX := Lib.hid (show x < ((2 ^ n : Nat) : Int) by rw [← hE]; exact hxb.2)
    obtain ⟨r, hr⟩ : ∃ r, blind % 1073741789 = r := ⟨_, rfl⟩
    have hrb : 0 ≤ r ∧ r < 1073741789 := by omega
    obtain ⟨i, hi, hi2⟩ : ∃ i : Nat, ati % (n : Int) = (i : Int) ∧ i < n := by
      have a1 := Int.emod_nonneg ati (show (n : Int) ≠ 0 by omega)
      have a2 := Int.emod_lt_of_pos ati (show (0 : Int) < (n : Int) by omega)
      exact ⟨(ati % (n : Int)).toNat, by omega, by omega⟩
    obtain ⟨l, hl⟩ : ∃ l, proveL x.toNat seed.data.toList r n = l := ⟨_, rfl⟩
    have hll : l.length = n := by rw [← hl]; exact proveL_len _ _ _ _
    obtain ⟨c, hc⟩ : ∃ c, commitI x r = c := ⟨_, rfl⟩
    have hver : verifyB c n l = true := by
      rw [← hc, ← hl]
      have := verify_prove x.toNat seed.data.toList r hrb.1 hrb.2 n (by omega) hn2 (lt_pow hxb.1 hE hxb.2)
      rwa [Int.toNat_of_nonneg hxb.1] at this
    obtain ⟨p, hp⟩ : ∃ p, l.getD i zeroBP = p := ⟨_, rfl⟩
    have hvp : validB p = true := by
      rw [← hp, ← hl, proveL_at _ _ _ _ _ hi2]
      exact valid_at _ _ _ hrb.1 hrb.2 _ _
    obtain ⟨pc, f0, f1, e0, e1, z0, z1⟩ := p
    have hrp := right_parts (valid_get hvp).1
    simp only [] at hrp
    obtain ⟨_, _, _, q3, q4, q5, q6⟩ := hrp
    have HL := Lib.hid hl
    have HLL := Lib.hid hll
    have HC := Lib.hid hc
    have HV := Lib.hid hver
    have HP := Lib.hid hp
    have HVP := Lib.hid hvp
    rcases (show ati / 16 % 2 = 0 ∨ ati / 16 % 2 = 1 by omega) with hk | hk
    · rcases (show what % 3 = 0 ∨ what % 3 = 1 ∨ what % 3 = 2 by omega) with hw | hw | hw
      · obtain ⟨nv, hnv⟩ : ∃ nv, (z0 + by_) % 1073741789 = nv := ⟨_, rfl⟩
        cases heq : (nv == z0) with
        | true => exact rep_z0_eq value blind bits seed ati what by_ w h0 h1 h2 h4 h5 h6 hs HT hk hw n i hn hn1 hn2 hi hi2 E x r hEb hsh hx hxb HX hr hrb l HL HLL c HC HV pc f0 f1 e0 e1 z0 z1 nv HP HVP q3 q4 q5 q6 hnv heq
        | false => exact rep_z0_ne value blind bits seed ati what by_ w h0 h1 h2 h4 h5 h6 hs HT hk hw n i hn hn1 hn2 hi hi2 E x r hEb hsh hx hxb HX hr hrb l HL HLL c HC HV pc f0 f1 e0 e1 z0 z1 nv HP HVP q3 q4 q5 q6 hnv heq
      · obtain ⟨nv, hnv⟩ : ∃ nv, (e0 + by_) % 1073741789 = nv := ⟨_, rfl⟩
        cases heq : (nv == e0) with
        | true => exact rep_e0_eq value blind bits seed ati what by_ w h0 h1 h2 h4 h5 h6 hs HT hk hw n i hn hn1 hn2 hi hi2 E x r hEb hsh hx hxb HX hr hrb l HL HLL c HC HV pc f0 f1 e0 e1 z0 z1 nv HP HVP q3 q4 q5 q6 hnv heq
        | false => exact rep_e0_ne value blind bits seed ati what by_ w h0 h1 h2 h4 h5 h6 hs HT hk hw n i hn hn1 hn2 hi hi2 E x r hEb hsh hx hxb HX hr hrb l HL HLL c HC HV pc f0 f1 e0 e1 z0 z1 nv HP HVP q3 q4 q5 q6 hnv heq
      · obtain ⟨bq, hbq⟩ : ∃ bq, by_ % 1073741789 = bq := ⟨_, rfl⟩
        obtain ⟨nv, hnv⟩ : ∃ nv, pwI 4 bq = nv := ⟨_, rfl⟩
        have hnb := pwI_bd 4 bq
        rw [hnv] at hnb
        cases heq : (nv == f0) with
        | true => exact rep_f0_eq value blind bits seed ati what by_ w h0 h1 h2 h4 h5 h6 hs HT hk hw n i hn hn1 hn2 hi hi2 E x r hEb hsh hx hxb HX hr hrb l HL HLL c HC HV pc f0 f1 e0 e1 z0 z1 nv HP HVP q3 q4 q5 q6 bq hbq (Lib.hid hnv) hnb heq
        | false => exact rep_f0_ne value blind bits seed ati what by_ w h0 h1 h2 h4 h5 h6 hs HT hk hw n i hn hn1 hn2 hi hi2 E x r hEb hsh hx hxb HX hr hrb l HL HLL c HC HV pc f0 f1 e0 e1 z0 z1 nv HP HVP q3 q4 q5 q6 bq hbq (Lib.hid hnv) hnb heq
    · rcases (show what % 3 = 0 ∨ what % 3 = 1 ∨ what % 3 = 2 by omega) with hw | hw | hw
      · obtain ⟨nv, hnv⟩ : ∃ nv, (z1 + by_) % 1073741789 = nv := ⟨_, rfl⟩
        cases heq : (nv == z1) with
        | true => exact rep_z1_eq value blind bits seed ati what by_ w h0 h1 h2 h4 h5 h6 hs HT hk hw n i hn hn1 hn2 hi hi2 E x r hEb hsh hx hxb HX hr hrb l HL HLL c HC HV pc f0 f1 e0 e1 z0 z1 nv HP HVP q3 q4 q5 q6 hnv heq
        | false => exact rep_z1_ne value blind bits seed ati what by_ w h0 h1 h2 h4 h5 h6 hs HT hk hw n i hn hn1 hn2 hi hi2 E x r hEb hsh hx hxb HX hr hrb l HL HLL c HC HV pc f0 f1 e0 e1 z0 z1 nv HP HVP q3 q4 q5 q6 hnv heq
      · obtain ⟨nv, hnv⟩ : ∃ nv, (e1 + by_) % 1073741789 = nv := ⟨_, rfl⟩
        cases heq : (nv == e1) with
        | true => exact rep_e1_eq value blind bits seed ati what by_ w h0 h1 h2 h4 h5 h6 hs HT hk hw n i hn hn1 hn2 hi hi2 E x r hEb hsh hx hxb HX hr hrb l HL HLL c HC HV pc f0 f1 e0 e1 z0 z1 nv HP HVP q3 q4 q5 q6 hnv heq
        | false => exact rep_e1_ne value blind bits seed ati what by_ w h0 h1 h2 h4 h5 h6 hs HT hk hw n i hn hn1 hn2 hi hi2 E x r hEb hsh hx hxb HX hr hrb l HL HLL c HC HV pc f0 f1 e0 e1 z0 z1 nv HP HVP q3 q4 q5 q6 hnv heq
      · obtain ⟨bq, hbq⟩ : ∃ bq, by_ % 1073741789 = bq := ⟨_, rfl⟩
        obtain ⟨nv, hnv⟩ : ∃ nv, pwI 4 bq = nv := ⟨_, rfl⟩
        have hnb := pwI_bd 4 bq
        rw [hnv] at hnb
        cases heq : (nv == f1) with
        | true => exact rep_f1_eq value blind bits seed ati what by_ w h0 h1 h2 h4 h5 h6 hs HT hk hw n i hn hn1 hn2 hi hi2 E x r hEb hsh hx hxb HX hr hrb l HL HLL c HC HV pc f0 f1 e0 e1 z0 z1 nv HP HVP q3 q4 q5 q6 bq hbq (Lib.hid hnv) hnb heq
        | false => exact rep_f1_ne value blind bits seed ati what by_ w h0 h1 h2 h4 h5 h6 hs HT hk hw n i hn hn1 hn2 hi hi2 E x r hEb hsh hx hxb HX hr hrb l HL HLL c HC HV pc f0 f1 e0 e1 z0 z1 nv HP HVP q3 q4 q5 q6 bq hbq (Lib.hid hnv) hnb heq
  · have hd : decide ((60 : Int) < (seed.size : Int)) = true := by simp; omega
    go_enter Tryd.func5, Tryd.ntmps5
    go_wp2_with fail
    refine (head_any _ HT.out).mono ?_
    rintro e w1 ⟨rfl, hB1⟩
    go_wp2
    go_ret
    exact ⟨rfl, hB1⟩
end Go.Proofs.YthebahahpkficaaDoor

