/- Plain facts on single bytes of digests. -/
import Derived.Test.YtgkilaafeconlaaDoorDigMath2
import Derived.Laws.BitsAllLaws
namespace Go.Dig
theorem byte_ext (a x : UInt64) (h : ∀ i, i < 8 → byte x i = byte a i) : x = a := by
  have e : ∀ u : UInt64, u.toNat = (byte u 0).toNat + 256 * (byte u 1).toNat + 65536 * (byte u 2).toNat + 16777216 * (byte u 3).toNat + 4294967296 * (byte u 4).toNat + 1099511627776 * (byte u 5).toNat + 281474976710656 * (byte u 6).toNat + 72057594037927936 * (byte u 7).toNat := by
    intro u
    simp only [byte_toNat]
    have := u.toNat_lt
    omega
  apply UInt64.toNat_inj.1
  rw [e x, e a, h 0 (by decide), h 1 (by decide), h 2 (by decide), h 3 (by decide), h 4 (by decide), h 5 (by decide), h 6 (by decide), h 7 (by decide)]
theorem byte_of_bits (x a : UInt64) (i : Nat) (h : ∀ j, j < 8 → x.toNat.testBit (8 * i + j) = a.toNat.testBit (8 * i + j)) : byte x i = byte a i := by
  apply UInt8.toNat_inj.1
  rw [byte_toNat, byte_toNat]
  apply Nat.eq_of_testBit_eq
  intro j
  have e : ∀ n : Nat, (n / 256 ^ i % 256).testBit j = (decide (j < 8) && n.testBit (8 * i + j)) := by
    intro n
    rw [show 256 ^ i = 2 ^ (8 * i) by rw [Nat.pow_mul], show (256 : Nat) = 2 ^ 8 from rfl, Nat.testBit_mod_two_pow, Nat.testBit_div_two_pow, Nat.add_comm]
  rw [e, e]
  by_cases hj : j < 8
  · simp [hj, h j hj]
  · simp [hj]
theorem setbyte (a : UInt64) (c : UInt8) (k : Nat) (hk : k < 8) : ∃ x : UInt64, bits .or .u64 (bits .andNot .u64 (a.toNat : Int) ((255 * 2 ^ (8 * k) : Nat) : Int)) ((c.toNat * 2 ^ (8 * k) : Nat) : Int) = (x.toNat : Int) ∧ ∀ i, i ≠ k → byte x i = byte a i := by
  have hp : 2 ^ (8 * k) ≤ 2 ^ 56 := Nat.pow_le_pow_right (by decide) (by omega)
  have hc := c.toNat_lt
  have h1 : 255 * 2 ^ (8 * k) < 18446744073709551616 := Nat.lt_of_le_of_lt (Nat.mul_le_mul_left _ hp) (by decide)
  have h2 : c.toNat * 2 ^ (8 * k) < 18446744073709551616 := Nat.lt_of_le_of_lt (Nat.mul_le_mul (show c.toNat ≤ 255 by omega) hp) (by decide)
  have h3 : a.toNat &&& (18446744073709551615 - 255 * 2 ^ (8 * k)) < 18446744073709551616 := Nat.lt_of_le_of_lt Nat.and_le_left a.toNat_lt
  rw [u64_andNot_nat _ _ a.toNat_lt h1, u64_or_nat _ _ h3 h2]
  have h4 : (a.toNat &&& (18446744073709551615 - 255 * 2 ^ (8 * k))) ||| c.toNat * 2 ^ (8 * k) < 2 ^ 64 := Nat.or_lt_two_pow h3 h2
  refine ⟨UInt64.ofNat ((a.toNat &&& (18446744073709551615 - 255 * 2 ^ (8 * k))) ||| c.toNat * 2 ^ (8 * k)), ?_, ?_⟩
  · rw [UInt64.toNat_ofNat', Nat.mod_eq_of_lt h4]
  · intro i hi
    apply byte_of_bits
    intro j hj
    rw [UInt64.toNat_ofNat', Nat.mod_eq_of_lt h4, Nat.testBit_or, Nat.testBit_and]
    have h5 : 18446744073709551615 - 255 * 2 ^ (8 * k) = 2 ^ 64 - (255 * 2 ^ (8 * k) + 1) := by omega
    rw [h5, Nat.testBit_two_pow_sub_succ h1, Nat.testBit_mul_two_pow, Nat.testBit_mul_two_pow]
    have hlt : ∀ n, n < 256 → (decide (8 * k ≤ 8 * i + j) && n.testBit (8 * i + j - 8 * k)) = false := by
      intro n hn
      by_cases hle : 8 * k ≤ 8 * i + j
      · have : n.testBit (8 * i + j - 8 * k) = false := by
          apply Nat.testBit_lt_two_pow
          exact Nat.lt_of_lt_of_le hn (show 2 ^ 8 ≤ _ from Nat.pow_le_pow_right (by decide) (by omega))
        simp [this]
      · simp [hle]
    rw [hlt 255 (by decide), hlt _ hc]
    by_cases hb : 8 * i + j < 64
    · simp [hb]
    · have : a.toNat.testBit (8 * i + j) = false := Nat.testBit_lt_two_pow (Nat.lt_of_lt_of_le a.toNat_lt (show 2 ^ 64 ≤ _ from Nat.pow_le_pow_right (by decide) (by omega)))
      simp [hb, this]
theorem lt8 (k : Nat) (hk : k < 8) : k = 0 ∨ k = 1 ∨ k = 2 ∨ k = 3 ∨ k = 4 ∨ k = 5 ∨ k = 6 ∨ k = 7 := by omega
theorem pair_one (a x b : UInt64) (k : Nat) (hk : k < 8) (h : ∀ i, i ≠ k → byte x i = byte a i) : (pair a b = pair x b ↔ a = x) ∧ (pair b a = pair b x ↔ a = x) := by
  have key : byte a k = byte x k ↔ a = x := by
    constructor
    · intro hh
      refine (byte_ext a x fun i hi => ?_).symm
      by_cases e : i = k
      · subst e; exact hh.symm
      · exact h i e
    · rintro rfl; rfl
  have hx1 : 1 :: (be8 x ++ be8 b) = ((1 :: (be8 a ++ be8 b)).take (8 - k) ++ byte x k :: (1 :: (be8 a ++ be8 b)).drop (8 - k + 1)) ++ [] := by
    rcases lt8 k hk with rfl | rfl | rfl | rfl | rfl | rfl | rfl | rfl <;> simp [be8, h]
  have hx2 : 1 :: (be8 b ++ be8 x) = ((1 :: (be8 b ++ be8 a)).take (16 - k) ++ byte x k :: (1 :: (be8 b ++ be8 a)).drop (16 - k + 1)) ++ [] := by
    rcases lt8 k hk with rfl | rfl | rfl | rfl | rfl | rfl | rfl | rfl <;> simp [be8, h]
  have hl1 : (1 :: (be8 a ++ be8 b)).length = 17 := rfl
  have hl2 : (1 :: (be8 b ++ be8 a)).length = 17 := rfl
  have g1 : ∀ p : 8 - k < (1 :: (be8 a ++ be8 b)).length, (1 :: (be8 a ++ be8 b))[8 - k] = byte a k := by
    intro p
    rcases lt8 k hk with rfl | rfl | rfl | rfl | rfl | rfl | rfl | rfl <;> rfl
  have g2 : ∀ p : 16 - k < (1 :: (be8 b ++ be8 a)).length, (1 :: (be8 b ++ be8 a))[16 - k] = byte a k := by
    intro p
    rcases lt8 k hk with rfl | rfl | rfl | rfl | rfl | rfl | rfl | rfl <;> rfl
  constructor
  · unfold pair
    have t := sum_one (1 :: (be8 a ++ be8 b)) [] (8 - k) (by rw [hl1]; omega) (byte x k)
    rw [← hx1, List.append_nil, g1 (by rw [hl1]; omega)] at t
    exact t.trans key
  · unfold pair
    have t := sum_one (1 :: (be8 b ++ be8 a)) [] (16 - k) (by rw [hl2]; omega) (byte x k)
    rw [← hx2, List.append_nil, g2 (by rw [hl2]; omega)] at t
    exact t.trans key
end Go.Dig
