/- Powers modulo p, the group of order q. -/
import Derived.Test.YtgkilaafeconlaaDoorGrpMath
namespace Go.Proofs.YtgkilaafeconlaaDoor.Grp
def pw (b e : Nat) : Nat := b ^ e % P
/-- Square and multiply: r * b^e modulo p. -/
def sqm : Nat → Nat → Nat → Nat → Nat
  | 0, r, _, _ => r
  | f + 1, r, b, e => if e = 0 then r else sqm f (if e % 2 = 1 then r * b % P else r) (b * b % P) (e / 2)
theorem P_pos : 0 < P := by decide
theorem mul_pw (r b e : Nat) : r * (b * b % P) ^ e % P = r * b ^ (2 * e) % P := by
  rw [Nat.mul_mod, ← Nat.pow_mod, ← Nat.mul_mod, Nat.pow_mul, Nat.pow_two]
theorem step_pw (r b e : Nat) : (if e % 2 = 1 then r * b % P else r) * (b * b % P) ^ (e / 2) % P = r * b ^ e % P := by
  rw [mul_pw]
  by_cases h : e % 2 = 1
  · rw [if_pos h, Nat.mod_mul_mod, Nat.mul_assoc, ← Nat.pow_succ']
    rw [show (2 * (e / 2)).succ = e by omega]
  · rw [if_neg h, show 2 * (e / 2) = e by omega]
theorem sqm_eq : ∀ f r b e, r < P → e < 2 ^ f → sqm f r b e = r * b ^ e % P
  | 0, r, b, e, hr, he => by
    have : e = 0 := by simp at he; exact he
    subst this
    rw [sqm, Nat.pow_zero, Nat.mul_one, Nat.mod_eq_of_lt hr]
  | f + 1, r, b, e, hr, he => by
    rw [sqm]
    by_cases h0 : e = 0
    · subst h0
      rw [if_pos rfl, Nat.pow_zero, Nat.mul_one, Nat.mod_eq_of_lt hr]
    · rw [if_neg h0, sqm_eq f _ _ _ _ (by rw [Nat.pow_succ] at he; omega), step_pw]
      split
      · exact Nat.mod_lt _ P_pos
      · exact hr
theorem four_Q : 4 ^ Q % P = 1 := by
  have h : sqm 31 1 4 Q = 1 := by decide +kernel
  rw [sqm_eq 31 1 4 Q (by decide) (by decide +kernel), Nat.one_mul] at h
  exact h
theorem nine_Q : 9 ^ Q % P = 1 := by
  have h : sqm 31 1 9 Q = 1 := by decide +kernel
  rw [sqm_eq 31 1 9 Q (by decide) (by decide +kernel), Nat.one_mul] at h
  exact h
/-- An element of the group. -/
def El (x : Nat) : Prop := x ^ Q % P = 1
theorem El.mul {x y : Nat} (hx : El x) (hy : El y) : El (x * y % P) := by
  unfold El at *
  rw [← Nat.pow_mod, Nat.mul_pow, Nat.mul_mod, hx, hy]; decide
theorem El.pow {x : Nat} (hx : El x) (e : Nat) : El (x ^ e % P) := by
  unfold El at *
  rw [← Nat.pow_mod, ← Nat.pow_mul, Nat.mul_comm, Nat.pow_mul, Nat.pow_mod, hx, Nat.one_pow]; decide
theorem El.red {x : Nat} (hx : El x) (e : Nat) : x ^ e % P = x ^ (e % Q) % P := by
  unfold El at hx
  have h : x ^ e = (x ^ Q) ^ (e / Q) * x ^ (e % Q) := by rw [← Nat.pow_mul, ← Nat.pow_add, Nat.div_add_mod]
  rw [h, Nat.mul_mod, Nat.pow_mod, hx, Nat.one_pow, ← Nat.mul_mod, Nat.one_mul]
theorem El.inv {x : Nat} (hx : El x) : x * (x ^ (Q - 1) % P) % P = 1 := by
  unfold El at hx
  rw [Nat.mul_mod_mod, ← Nat.pow_succ', show (Q - 1).succ = Q from rfl, hx]
theorem El.cancel {f : Nat} (hf : El f) {a b : Nat} (h : f * a % P = f * b % P) : a % P = b % P := by
  have hi := hf.inv
  obtain ⟨g, hg⟩ : ∃ g, f ^ (Q - 1) % P = g := ⟨_, rfl⟩
  rw [hg] at hi
  have h1 : ∀ a, g * (f * a % P) % P = a % P := fun a => by
    rw [Nat.mul_mod_mod, ← Nat.mul_assoc, Nat.mul_comm g f, Nat.mul_mod, hi, Nat.one_mul, Nat.mod_mod]
  rw [← h1 a, ← h1 b, h]
theorem El.order {x : Nat} (hx : El x) (d : Nat) (h0 : 0 < d) (h1 : d < Q) (h : x ^ d % P = 1) : x % P = 1 := by
  have hr := hx.red (d * d ^ (Q - 2))
  rw [inv_Q d h0 h1, Nat.pow_one, Nat.pow_mul, Nat.pow_mod, h, Nat.one_pow] at hr
  rw [← hr]; decide
theorem El.inj {x : Nat} (hx : El x) (hx1 : x % P ≠ 1) {i j : Nat} (hi : i < Q) (hj : j < Q) (h : x ^ i % P = x ^ j % P) : i = j := by
  have key : ∀ i j, i < j → j < Q → x ^ i % P = x ^ j % P → False := fun i j hij hj h => by
    have e : x ^ j = x ^ i * x ^ (j - i) := by rw [← Nat.pow_add, show i + (j - i) = j by omega]
    rw [e] at h
    have hE : El (x ^ i) := by have := hx.pow i; unfold El at this ⊢; rwa [← Nat.pow_mod] at this
    have h2 : (1 : Nat) % P = x ^ (j - i) % P := hE.cancel (by rw [Nat.mul_one]; exact h)
    exact hx1 (hx.order (j - i) (by omega) (by omega) (by rw [← h2]; decide))
  rcases Nat.lt_trichotomy i j with h1 | h1 | h1
  · exact (key i j h1 hj h).elim
  · exact h1
  · exact (key j i h1 hi h.symm).elim
theorem el_4 : El 4 := four_Q
theorem el_9 : El 9 := nine_Q
theorem nine_1 : 9 % P ≠ 1 := by decide
end Go.Proofs.YtgkilaafeconlaaDoor.Grp
