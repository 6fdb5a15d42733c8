/- The walks of the reference packages 26 and 27, first part: powers, digits, random numbers. -/
import Derived.Test.YthebahahpkficaaDoorRpNum
import Derived.Test.YthebahahpkficaaDoorDigRef
namespace Go.Proofs.YthebahahpkficaaDoor
open Go.RowKit
set_option linter.unusedVariables false
/-- The loop of the reference's power: the bits from the highest on. -/
structure RpRel (b e : Int) (j : Nat) (o : Int) : Prop where
  j1 : j ≤ 63
  o0 : 0 ≤ o
  o1 : o < 2147483579
  hv : o = ((b.toNat ^ (e.toNat / 2 ^ j) % Grp.P : Nat) : Int)
theorem rstep (b E : Nat) (k : Nat) : b ^ (E / 2 ^ k) % Grp.P = (if E / 2 ^ k % 2 = 1 then (b ^ (E / 2 ^ (k + 1)) % Grp.P * (b ^ (E / 2 ^ (k + 1)) % Grp.P) % Grp.P) * b % Grp.P else b ^ (E / 2 ^ (k + 1)) % Grp.P * (b ^ (E / 2 ^ (k + 1)) % Grp.P) % Grp.P) := by
  have hh : E / 2 ^ (k + 1) = E / 2 ^ k / 2 := by rw [Nat.pow_succ, Nat.div_div_eq_div_mul]
  rw [hh]
  generalize E / 2 ^ k = q
  rw [← Nat.mul_mod]
  by_cases h : q % 2 = 1
  · rw [if_pos h, Nat.mod_mul_mod, ← Nat.pow_add, ← Nat.pow_succ]
    congr 2
    omega
  · rw [if_neg h, ← Nat.pow_add]
    congr 2
    omega
theorem RpRel.step {b e : Int} {k : Nat} {o o' : Int} (hb0 : 0 ≤ b) (h : RpRel b e (k + 1) o) (ho : o' = if e.toNat / 2 ^ k % 2 = 1 then o * o % 2147483579 * b % 2147483579 else o * o % 2147483579) : RpRel b e k o' := by
  have hj := h.j1
  obtain ⟨B, rfl⟩ := Int.eq_ofNat_of_zero_le hb0
  have hv : o' = ((B ^ (e.toNat / 2 ^ k) % Grp.P : Nat) : Int) := by
    rw [ho, h.hv, Int.toNat_natCast, rstep B e.toNat k]
    split
    · rw [mulI_nat, mulI_nat]
    · rw [mulI_nat]
  have hl : B ^ (e.toNat / 2 ^ k) % Grp.P < 2147483579 := Nat.mod_lt _ Grp.P_pos
  exact ⟨by omega, by rw [hv]; omega, by rw [hv]; omega, by rw [hv, Int.toNat_natCast]⟩
set_option maxHeartbeats 4000000 in
set_option maxRecDepth 100000 in
theorem rpower_v (b e v : Int) (w : World) (hb0 : 0 ≤ b) (hb1 : b < 2147483579) (he0 : 0 ≤ e) (he1 : e ≤ 9223372036854775807) (hv : Hid (pwI b e = v)) :
    Calls Tryd.prog 50 #[.int .i64 b, .int .i64 e] w fun r w' => r = .returned (.int .i64 v) ∧ w = w' := by
  have hst : RpRel b e 63 1 := by
    refine ⟨by omega, by omega, by omega, ?_⟩
    rw [Nat.div_eq_of_lt (show e.toNat < 2 ^ 63 by have : (2 : Nat) ^ 63 = 9223372036854775808 := rfl; omega), Nat.pow_zero]
    decide
  have HST := Lib.hid hst
  clear hst
  go_enter Tryd.func50, Tryd.ntmps50
  go_wp2
  go_loop [5, 6] (fun s5 s6 => ∃ (j : Nat) (o : Int), s6 = .int .i64 ((j : Int) - 1) ∧ s5 = .int .i64 o ∧ RpRel b e j o) (fun _ s6 => (intOf s6 + 1).toNat)
  case atStart => exact ⟨63, 1, rfl, rfl, HST.out⟩
  case round =>
    clear HST
    obtain ⟨j, o, rfl, rfl, hR⟩ := hrel
    have o0 := hR.o0
    have o1 := hR.o1
    have j1 := hR.j1
    cases j with
    | zero =>
      have ho : o = v := by
        rw [hR.hv, ← hv.out]
        unfold pwI
        rw [Nat.pow_zero, Nat.div_one]
      subst ho
      have hz : ((0 : Nat) : Int) - 1 = -1 := by omega
      rw [hz]
      clear hR hz
      go_wp2
      go_ret
      exact ⟨rfl, rfl⟩
    | succ k =>
      have hz : ((k + 1 : Nat) : Int) - 1 = (k : Int) := by omega
      rw [hz]
      clear hz
      have hsq := mulB o0 o1 o0 o1
      have hsb := modB _ hsq.1
      obtain ⟨s, hs⟩ : ∃ s, o * o % 2147483579 = s := ⟨_, rfl⟩
      rw [hs] at hsb
      have hm := mulB hsb.1 hsb.2 hb0 hb1
      obtain ⟨q, hq⟩ : ∃ q : Int, e / (2 : Int) ^ k = q := ⟨_, rfl⟩
      have hq2 : q = ((e.toNat / 2 ^ k : Nat) : Int) := by
        rw [← hq, Int.natCast_ediv, Int.toNat_of_nonneg he0, Int.natCast_pow]; rfl
      have hqb : e.toNat / 2 ^ k < 9223372036854775808 := by
        have := Nat.div_le_self e.toNat (2 ^ k)
        omega
      have hbt := bit_test _ hqb
      rw [← hq2] at hbt
      have c1 : (0 : Int) ≤ (k : Int) := Int.natCast_nonneg _
      have c2 : (k : Int) ≤ 62 := by omega
      by_cases hodd : e.toNat / 2 ^ k % 2 = 1
      · have ht : (Go.bits .and .i64 q 1 == 1) = true := by rw [hbt]; simpa using hodd
        have HF := Lib.hid (hR.step hb0 (o' := s * b % 2147483579) (by rw [if_pos hodd, hs]))
        clear hR hq2 hqb hbt hodd
        go_wp2
        go_round
        case rel => exact ⟨k, _, rfl, rfl, HF.out⟩
        case measure => first | (simp [intOf]; omega) | simp [intOf]
      · have ht : (Go.bits .and .i64 q 1 == 1) = false := by rw [hbt]; simpa using hodd
        have HF := Lib.hid (hR.step hb0 (o' := o * o % 2147483579) (by rw [if_neg hodd]))
        clear hR hq2 hqb hbt hodd
        go_wp2
        go_round
        case rel => exact ⟨k, _, rfl, rfl, HF.out⟩
        case measure => first | (simp [intOf]; omega) | simp [intOf]
theorem rcommit_v (v b c : Int) (hc : Hid (commitI v b = c)) (w : World) (hv0 : 0 ≤ v) (hv1 : v < 1073741789) (hb0 : 0 ≤ b) (hb1 : b < 1073741789) :
    Calls Tryd.prog 48 #[.int .i64 v, .int .i64 b] w fun e w' => e = .returned (.tuple #[.int .i64 c, .int .i64 0]) ∧ w = w' := by
  obtain ⟨x, hx⟩ : ∃ x, pwI 4 v = x := ⟨_, rfl⟩
  obtain ⟨y, hy⟩ : ∃ y, pwI 9 b = y := ⟨_, rfl⟩
  have hxb := pwI_bd 4 v
  have hyb := pwI_bd 9 b
  rw [hx] at hxb
  rw [hy] at hyb
  have hm := mulB hxb.1 hxb.2 hyb.1 hyb.2
  have hcc : x * y % 2147483579 = c := by rw [← hc.out]; unfold commitI; rw [hx, hy]
  have HX := Lib.hid hx
  have HY := Lib.hid hy
  have HCC := Lib.hid hcc
  clear hx hy hc hcc
  go_enter Tryd.func48, Tryd.ntmps48
  go_wp2_with fail
  refine (rpower_v 4 v x _ (by omega) (by omega) (by omega) (by omega) HX).mono ?_
  rintro e w' ⟨rfl, rfl⟩
  go_wp2_with fail
  refine (rpower_v 9 b y _ (by omega) (by omega) (by omega) (by omega) HY).mono ?_
  rintro e w' ⟨rfl, rfl⟩
  go_wp2
  go_ret2
  exact ⟨by rw [← HCC.out]; rfl, rfl⟩
theorem relement_v (x : Int) (r : Bool) (hr : Hid (elB x = r)) (w : World) : Calls Tryd.prog 57 #[.int .i64 x] w fun e w' => e = .returned (.bool r) ∧ w = w' := by
  by_cases h1 : 1 ≤ x
  · by_cases h2 : x < 2147483579
    · obtain ⟨v, hv⟩ : ∃ v, pwI x 1073741789 = v := ⟨_, rfl⟩
      have HV := Lib.hid hv
      have hd1 : decide (1 ≤ x) = true := by simpa using h1
      have hd2 : decide (x < 2147483579) = true := by simpa using h2
      have HR : Hid (r = (v == 1)) := by
        refine Lib.hid ?_
        rw [← hr.out]
        unfold elB
        rw [hv, hd1, hd2]
        simp
      clear hv hr
      go_enter Tryd.func57, Tryd.ntmps57
      go_wp2_with fail
      refine (rpower_v x 1073741789 v _ (by omega) (by omega) (by omega) (by omega) HV).mono ?_
      rintro e w' ⟨rfl, rfl⟩
      go_wp2
      go_ret
      exact ⟨by rw [HR.out]; rfl, rfl⟩
    · have hd1 : decide (1 ≤ x) = true := by simpa using h1
      have hd2 : decide (x < 2147483579) = false := by simpa using h2
      have hr' : r = false := by rw [← hr.out]; unfold elB; rw [hd2]; simp
      subst hr'
      clear hr
      go_enter Tryd.func57, Tryd.ntmps57
      go_wp2
      go_ret
      exact ⟨rfl, rfl⟩
  · have hd1 : decide (1 ≤ x) = false := by simpa using h1
    have hr' : r = false := by rw [← hr.out]; unfold elB; rw [hd1]; simp
    subst hr'
    clear hr
    go_enter Tryd.func57, Tryd.ntmps57
    go_wp2
    go_ret
    exact ⟨rfl, rfl⟩
theorem rnumber_v (x : Int) (r : Bool) (hr : Hid (inFB x = r)) (w : World) : Calls Tryd.prog 26 #[.int .i64 x] w fun e w' => e = .returned (.bool r) ∧ w = w' := by
  by_cases h1 : 0 ≤ x
  · have hd1 : decide (0 ≤ x) = true := by simpa using h1
    have HR : Hid (r = decide (x < 1073741789)) := by
      refine Lib.hid ?_
      rw [← hr.out]; unfold inFB; rw [hd1]; simp
    clear hr
    go_enter Tryd.func26, Tryd.ntmps26
    go_wp2
    go_ret
    exact ⟨by rw [HR.out]; rfl, rfl⟩
  · have hd1 : decide (0 ≤ x) = false := by simpa using h1
    have hr' : r = false := by rw [← hr.out]; unfold inFB; rw [hd1]; simp
    subst hr'
    clear hr
    go_enter Tryd.func26, Tryd.ntmps26
    go_wp2
    go_ret
    exact ⟨rfl, rfl⟩
theorem times_v (a b v : Int) (hv : Hid (a * b % 2147483579 = v)) (w : World) (a0 : 0 ≤ a) (a1 : a < 2147483579) (b0 : 0 ≤ b) (b1 : b < 2147483579) : Calls Tryd.prog 49 #[.int .i64 a, .int .i64 b] w fun e w' => e = .returned (.int .i64 v) ∧ w = w' := by
  have hm := mulB a0 a1 b0 b1
  go_enter Tryd.func49, Tryd.ntmps49
  go_wp2
  go_ret
  exact ⟨by rw [← hv.out]; rfl, rfl⟩
theorem inverse_v (a v : Int) (hv : Hid (pwI a 1073741788 = v)) (w : World) (a0 : 0 ≤ a) (a1 : a < 2147483579) : Calls Tryd.prog 51 #[.int .i64 a] w fun e w' => e = .returned (.int .i64 v) ∧ w = w' := by
  go_enter Tryd.func51, Tryd.ntmps51
  go_wp2_with fail
  refine (rpower_v a 1073741788 v _ a0 a1 (by omega) (by omega) hv).mono ?_
  rintro e w' ⟨rfl, rfl⟩
  go_wp2
  go_ret
  exact ⟨rfl, rfl⟩
theorem divI_0 (c : Int) (h0 : 0 ≤ c) (h1 : c < 2147483579) : divI c 0 = c := by
  unfold divI
  have hz : ∀ x : Int, pwI x 0 = 1 := by
    intro x
    unfold pwI
    rw [show (0 : Int).toNat = 0 from rfl, Nat.pow_zero]
    rfl
  rw [hz, Int.mul_one]
  omega
theorem divI_1 (c : Int) : divI c 1 = c * pwI 4 1073741788 % 2147483579 := by
  unfold divI
  have : pwI (pwI 4 1073741788) 1 = pwI 4 1073741788 := by
    have hb := pwI_bd 4 1073741788
    generalize pwI 4 1073741788 = x at *
    unfold pwI
    rw [show (1 : Int).toNat = 1 from rfl, Nat.pow_one, Nat.mod_eq_of_lt (by show x.toNat < 2147483579; omega)]
    omega
  rw [this]
theorem shifted_0 (c : Int) (w : World) : Calls Tryd.prog 52 #[.int .i64 c, .int .i64 0] w fun e w' => e = .returned (.int .i64 c) ∧ w = w' := by
  go_enter Tryd.func52, Tryd.ntmps52
  go_wp2
  go_ret
  exact ⟨rfl, rfl⟩
theorem shifted_1 (c v : Int) (hv : Hid (divI c 1 = v)) (w : World) (h0 : 0 ≤ c) (h1 : c < 2147483579) : Calls Tryd.prog 52 #[.int .i64 c, .int .i64 1] w fun e w' => e = .returned (.int .i64 v) ∧ w = w' := by
  obtain ⟨x, hx⟩ : ∃ x, pwI 4 1073741788 = x := ⟨_, rfl⟩
  have hxb := pwI_bd 4 1073741788
  rw [hx] at hxb
  have HV : Hid (c * x % 2147483579 = v) := Lib.hid (by rw [← hv.out, divI_1, hx])
  have HX := Lib.hid hx
  clear hx hv
  go_enter Tryd.func52, Tryd.ntmps52
  go_wp2_with fail
  refine (inverse_v 4 x HX _ (by omega) (by omega)).mono ?_
  rintro e w' ⟨rfl, rfl⟩
  go_wp2_with fail
  refine (times_v c x v HV _ h0 h1 hxb.1 hxb.2).mono ?_
  rintro e w' ⟨rfl, rfl⟩
  go_wp2
  go_ret
  exact ⟨rfl, rfl⟩
theorem shifted_v (c i v : Int) (hi : i = 0 ∨ i = 1) (hv : Hid (divI c i = v)) (w : World) (h0 : 0 ≤ c) (h1 : c < 2147483579) : Calls Tryd.prog 52 #[.int .i64 c, .int .i64 i] w fun e w' => e = .returned (.int .i64 v) ∧ w = w' := by
  rcases hi with rfl | rfl
  · have := hv.out
    rw [divI_0 c h0 h1] at this
    subst this
    exact shifted_0 _ w
  · exact shifted_1 c v hv w h0 h1
theorem power2_v (n : Nat) (hn : n ≤ 60) (w : World) : Calls Tryd.prog 27 #[.int .i64 (n : Int)] w fun e w' => e = .returned (.int .i64 ((2 ^ n : Nat) : Int)) ∧ w = w' := by
  go_enter Tryd.func27, Tryd.ntmps27
  go_wp2
  go_loop [3, 4] (fun s3 s4 => ∃ (k : Nat) (o : Int), k ≤ n ∧ s4 = .int .i64 (k : Int) ∧ s3 = .int .i64 o ∧ Hid (o = ((2 ^ k : Nat) : Int))) (fun _ s4 => n - (intOf s4).toNat)
  case atStart => exact ⟨0, 1, by omega, rfl, rfl, Lib.hid rfl⟩
  case round =>
    obtain ⟨k, o, hk, rfl, rfl, HO⟩ := hrel
    by_cases hlt : k < n
    · have hd : decide ((k : Int) < (n : Int)) = true := by simp; omega
      have hob : 0 ≤ o ∧ o ≤ 1152921504606846976 := by
        have h60 : 2 ^ k ≤ 2 ^ 60 := Nat.pow_le_pow_right (by omega) (by omega)
        have e60 : (2 : Nat) ^ 60 = 1152921504606846976 := rfl
        rw [e60] at h60
        rw [HO.out]
        exact ⟨Int.natCast_nonneg _, Int.ofNat_le.2 h60⟩
      have HO2 : Hid (2 * o = ((2 ^ (k + 1) : Nat) : Int)) := Lib.hid (by rw [HO.out, Nat.pow_succ, Int.natCast_mul, Int.mul_comm]; rfl)
      go_wp2
      go_round
      case rel => exact ⟨k + 1, _, by omega, by go_num, rfl, HO2⟩
      case measure => simp [intOf]; omega
    · obtain rfl : k = n := by omega
      have hd : decide ((k : Int) < (k : Int)) = false := by simp
      go_wp2
      go_ret
      exact ⟨by rw [show (2 : Int) ^ k = o from by rw [HO.out]; push_cast; rfl]; rfl, rfl⟩
theorem rmod_v (d : UInt64) (v : Int) (hv : Hid (modQ d = v)) (w : World) : Calls Tryd.prog 45 #[.int .u64 d.toNat] w fun e w' => e = .returned (.int .i64 v) ∧ w = w' := by
  have hb := modQ_bd d
  rw [hv.out] at hb
  have hmod := modQ_eq d v hv
  go_enter Tryd.func45, Tryd.ntmps45
  go_wp2
  go_ret
  exact ⟨rfl, rfl⟩
end Go.Proofs.YthebahahpkficaaDoor
