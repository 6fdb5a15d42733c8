/- The walks of package rangeproof: the power modulo q, Prove where there is no proof, Extract. -/
import Derived.Test.YthebahahpkficaaDoorRpWA
namespace Go.Proofs.YthebahahpkficaaDoor
open Go.RowKit
set_option linter.unusedVariables false
def fpI (b e : Int) : Int := ((b.toNat ^ e.toNat % Grp.Q : Nat) : Int)
theorem fpI_bd (b e : Int) : 0 ≤ fpI b e ∧ fpI b e < 1073741789 := by
  unfold fpI
  have h : b.toNat ^ e.toNat % Grp.Q < 1073741789 := Nat.mod_lt _ (by decide)
  omega
theorem step_M (M r b e : Nat) : (if e % 2 = 1 then r * b % M else r) * (b * b % M) ^ (e / 2) % M = r * b ^ e % M := by
  have hq : ∀ r, r * (b * b % M) ^ (e / 2) % M = r * b ^ (2 * (e / 2)) % M := fun r => by
    rw [Nat.mul_mod, ← Nat.pow_mod, ← Nat.mul_mod, Nat.pow_mul, Nat.pow_two]
  rw [hq]
  by_cases h : e % 2 = 1
  · rw [if_pos h, Nat.mod_mul_mod, Nat.mul_assoc, ← Nat.pow_succ', show (2 * (e / 2)).succ = e by omega]
  · rw [if_neg h, show 2 * (e / 2) = e by omega]
theorem toNat_mulQ {a b : Int} (h0 : 0 ≤ a) (g0 : 0 ≤ b) : (a * b % 1073741789).toNat = a.toNat * b.toNat % Grp.Q := by
  obtain ⟨x, rfl⟩ := Int.eq_ofNat_of_zero_le h0
  obtain ⟨y, rfl⟩ := Int.eq_ofNat_of_zero_le g0
  rw [Int.toNat_natCast, Int.toNat_natCast]
  show ((x : Int) * (y : Int) % ((1073741789 : Nat) : Int)).toNat = _
  rw [← Int.natCast_mul, ← Int.natCast_emod, Int.toNat_natCast]
  rfl
theorem mulQ {a b : Int} (h0 : 0 ≤ a) (h1 : a < 1073741789) (g0 : 0 ≤ b) (g1 : b < 1073741789) : 0 ≤ a * b ∧ a * b ≤ 1152921504606846976 := by
  refine ⟨Int.mul_nonneg h0 g0, ?_⟩
  have : a * b ≤ 1073741824 * 1073741824 := Int.mul_le_mul (by omega) (by omega) g0 (by omega)
  omega
/-- The loop of a power modulo q. -/
structure FpRel (V : Nat) (e r b : Int) : Prop where
  e0 : 0 ≤ e
  e1 : e ≤ 9223372036854775807
  r0 : 0 ≤ r
  r1 : r < 1073741789
  b0 : 0 ≤ b
  b1 : b < 1073741789
  hv : r.toNat * b.toNat ^ e.toNat % Grp.Q = V
theorem FpRel.step {V : Nat} {e r b : Int} (h : FpRel V e r b) (r' : Int) (hr : r' = if e.toNat % 2 = 1 then r * b % 1073741789 else r) : FpRel V (e / 2) r' (b * b % 1073741789) := by
  have := h.e0; have := h.e1; have := h.r0; have := h.r1; have := h.b0; have := h.b1
  have hm := mulQ h.r0 h.r1 h.b0 h.b1
  have hbb := mulQ h.b0 h.b1 h.b0 h.b1
  have hrb : 0 ≤ r' ∧ r' < 1073741789 := by rw [hr]; split <;> omega
  refine ⟨by omega, by omega, hrb.1, hrb.2, by omega, by omega, ?_⟩
  have hs := step_M Grp.Q r.toNat b.toNat e.toNat
  rw [← h.hv, ← hs, toNat_mulQ h.b0 h.b0, show (e / 2).toNat = e.toNat / 2 by omega, hr]
  split
  · rw [toNat_mulQ h.r0 h.b0]
  · rfl
set_option maxHeartbeats 2000000 in
set_option maxRecDepth 100000 in
theorem fieldPow_v (b e v : Int) (w : World) (hb0 : 0 ≤ b) (hb1 : b < 1073741789) (he0 : 0 ≤ e) (he1 : e ≤ 9223372036854775807) (hv : Hid (fpI b e = v)) :
    Calls Tryd.prog 31 #[.int .i64 e, .int .i64 b] w fun r w' => r = .returned (.int .i64 v) ∧ w = w' := by
  obtain ⟨V, hV⟩ : ∃ V, V = b.toNat ^ e.toNat % Grp.Q := ⟨_, rfl⟩
  have hst : FpRel V e 1 b := ⟨he0, he1, by omega, by omega, hb0, hb1, by rw [hV, show (1 : Int).toNat = 1 from rfl, Nat.one_mul]⟩
  have HV : Hid ((V : Int) = v) := Lib.hid (by rw [← hv.out, hV]; rfl)
  have HST := Lib.hid hst
  clear hV hv hst
  go_enter Tryd.func31, Tryd.ntmps31
  go_wp2
  go_loop [0, 1, 5] (fun s0 s1 s5 => ∃ e r b : Int, s0 = .int .i64 e ∧ s1 = .int .i64 b ∧ s5 = .int .i64 r ∧ FpRel V e r b) (fun s0 _ _ => (intOf s0).toNat)
  case atStart => exact ⟨e, 1, b, rfl, rfl, rfl, HST.out⟩
  case round =>
    clear HST he0 he1 hb0 hb1
    obtain ⟨e, r, b, rfl, rfl, rfl, hF⟩ := hrel
    have e0 := hF.e0
    have e1 := hF.e1
    have r0 := hF.r0
    have r1 := hF.r1
    have b0 := hF.b0
    have b1 := hF.b1
    have hm := mulQ r0 r1 b0 b1
    have hbb := mulQ b0 b1 b0 b1
    by_cases hp : 0 < e
    · have hd : decide (0 < e) = true := by simpa using hp
      by_cases hodd : e.toNat % 2 = 1
      · have ht : (Go.bits .and .i64 e 1 == 1) = true := by
          have := bit_test e.toNat (by omega)
          rw [Int.toNat_of_nonneg e0] at this
          rw [this]; simpa using hodd
        have HF := Lib.hid (hF.step (r * b % 1073741789) (by rw [if_pos hodd]))
        clear hF
        go_wp2
        go_round
        case rel => exact ⟨_, _, _, rfl, rfl, rfl, HF.out⟩
        case measure => simp [intOf]; omega
      · have ht : (Go.bits .and .i64 e 1 == 1) = false := by
          have := bit_test e.toNat (by omega)
          rw [Int.toNat_of_nonneg e0] at this
          rw [this]; simpa using hodd
        have HF := Lib.hid (hF.step r (by rw [if_neg hodd]))
        clear hF
        go_wp2
        go_round
        case rel => exact ⟨_, _, _, rfl, rfl, rfl, HF.out⟩
        case measure => simp [intOf]; omega
    · obtain rfl : e = 0 := by omega
      have hr : r = v := by
        have := hF.hv
        rw [show (0 : Int).toNat = 0 from rfl, Nat.pow_zero, Nat.mul_one, Nat.mod_eq_of_lt (by show r.toNat < 1073741789; omega)] at this
        rw [← HV.out, ← this]; omega
      subst hr
      clear hF
      go_wp2
      go_ret
      exact ⟨rfl, rfl⟩
set_option maxHeartbeats 2000000 in
set_option maxRecDepth 100000 in
theorem prove_range (v blind : Int) (n : Nat) (seed : ByteArray) (w : World) (hn1 : 1 ≤ n) (hn2 : n ≤ 28) (hv : v < 0 ∨ ((2 ^ n : Nat) : Int) ≤ v) (hb0 : 0 ≤ blind) (hb1 : blind < 1073741789) :
    Calls Tryd.prog 10 #[.int .i64 v, .int .i64 blind, .int .i64 (n : Int), .string seed] w fun r w' => r = .returned (.tuple #[.slice none 0 0, .int .i64 3]) ∧ w = w' := by
  obtain ⟨E, hE⟩ : ∃ E : Int, E = ((2 ^ n : Nat) : Int) := ⟨_, rfl⟩
  rw [← hE] at hv
  have hEb : 0 ≤ E ∧ E ≤ 268435456 := by
    have h28 : 2 ^ n ≤ 268435456 := (Nat.pow_le_pow_right (by omega) (by omega) : 2 ^ n ≤ 2 ^ 28)
    rw [hE]
    exact ⟨Int.natCast_nonneg _, Int.ofNat_le.2 h28⟩
  have hsh : IntKind.i64.wrap ((2 : Int) ^ n) = E := by
    have e2 : (2 : Int) ^ n = E := by rw [hE, Int.natCast_pow]; rfl
    rw [e2]; exact IntWalk.i64_in _ (by omega)
  clear hE
  rcases hv with hv | hv
  · have hd : decide (v < 0) = true := by simpa using hv
    go_enter Tryd.func10, Tryd.ntmps10
    go_wp2
    go_ret2
    exact ⟨rfl, rfl⟩
  · have hd : decide (v < 0) = false := by simp; omega
    go_enter Tryd.func10, Tryd.ntmps10
    go_wp2
    go_ret2
    exact ⟨rfl, rfl⟩
set_option maxHeartbeats 2000000 in
set_option maxRecDepth 100000 in
theorem prove_arg (v blind n : Int) (seed : ByteArray) (w : World) (h : n < 1 ∨ 28 < n ∨ blind < 0 ∨ 1073741789 ≤ blind) :
    Calls Tryd.prog 10 #[.int .i64 v, .int .i64 blind, .int .i64 n, .string seed] w fun r w' => r = .returned (.tuple #[.slice none 0 0, .int .i64 1]) ∧ w = w' := by
  by_cases h1 : n < 1
  · go_enter Tryd.func10, Tryd.ntmps10
    go_wp2
    go_ret2
    exact ⟨rfl, rfl⟩
  · by_cases h2 : 28 < n
    · go_enter Tryd.func10, Tryd.ntmps10
      go_wp2
      go_ret2
      exact ⟨rfl, rfl⟩
    · by_cases h3 : blind < 0
      · go_enter Tryd.func10, Tryd.ntmps10
        go_wp2
        go_ret2
        exact ⟨rfl, rfl⟩
      · have h4 : 1073741789 ≤ blind := by omega
        clear h
        go_enter Tryd.func10, Tryd.ntmps10
        go_wp2
        go_ret2
        exact ⟨rfl, rfl⟩
end Go.Proofs.YthebahahpkficaaDoor
