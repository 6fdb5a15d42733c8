/- Plain arithmetic for the layers 26 and 27: a prime q, Fermat's little theorem, the group of order q modulo p. -/
import Derived.WalkKit
namespace Go.Proofs.YtgkilaafeconlaaDoor.Grp
def P : Nat := 2147483579
def Q : Nat := 1073741789
/-- No number from s to s + 2^k - 1 divides q. -/
def noDiv (q : Nat) : Nat → Nat → Bool
  | 0, s => q % s != 0
  | k + 1, s => noDiv q k s && noDiv q k (s + 2 ^ k)
theorem noDiv_spec (q : Nat) : ∀ k s, noDiv q k s = true → ∀ d, s ≤ d → d < s + 2 ^ k → q % d ≠ 0
  | 0, s, h, d, h1, h2 => by
    have hd : d = s := by simp at h2; omega
    subst hd
    simpa [noDiv] using h
  | k + 1, s, h, d, h1, h2 => by
    simp only [noDiv, Bool.and_eq_true] at h
    rw [Nat.pow_succ] at h2
    rcases Nat.lt_or_ge d (s + 2 ^ k) with h3 | h3
    · exact noDiv_spec q k s h.1 d h1 h3
    · exact noDiv_spec q k (s + 2 ^ k) h.2 d h3 (by omega)
theorem noDiv_Q : noDiv Q 15 2 = true := by decide +kernel
theorem small_Q (d : Nat) (h2 : 2 ≤ d) (h : d < 32768) : Q % d ≠ 0 := noDiv_spec Q 15 2 noDiv_Q d h2 (by have : (2 : Nat) ^ 15 = 32768 := rfl; omega)
theorem dvd_Q (d : Nat) (h : d ∣ Q) : d = 1 ∨ d = Q := by
  obtain ⟨e, he⟩ := h
  have hQ : Q = 1073741789 := rfl
  by_cases hd0 : d = 0
  · subst hd0; rw [hQ] at he; omega
  by_cases hd1 : d = 1
  · exact .inl hd1
  by_cases he0 : e = 0
  · subst he0; rw [hQ] at he; omega
  by_cases he1 : e = 1
  · subst he1; right; omega
  exfalso
  by_cases hds : d < 32768
  · exact small_Q d (by omega) hds (by rw [he]; exact Nat.mul_mod_right d e)
  · by_cases hes : e < 32768
    · exact small_Q e (by omega) hes (by rw [he]; exact Nat.mul_mod_left d e)
    · have : 32768 * 32768 ≤ d * e := Nat.mul_le_mul (by omega) (by omega)
      rw [← he, hQ] at this
      omega
def PrimeLike (q : Nat) : Prop := ∀ k, 0 < k → k < q → Nat.Coprime q k
theorem Q_prime : PrimeLike Q := fun k h0 h1 => by
  rcases dvd_Q (Nat.gcd Q k) (Nat.gcd_dvd_left Q k) with h | h
  · exact h
  · have := Nat.gcd_le_right (m := Q) (n := k) h0
    omega
/- Binomials. -/
def C : Nat → Nat → Nat
  | _, 0 => 1
  | 0, _ + 1 => 0
  | n + 1, k + 1 => C n k + C n (k + 1)
theorem C_zero (n : Nat) : C n 0 = 1 := by cases n <;> rfl
theorem C_gt : ∀ n k, n < k → C n k = 0
  | _, 0, h => absurd h (Nat.not_lt_zero _)
  | 0, _ + 1, _ => rfl
  | n + 1, k + 1, h => by rw [C, C_gt n k (by omega), C_gt n (k + 1) (by omega)]
theorem C_self : ∀ n, C n n = 1
  | 0 => rfl
  | n + 1 => by rw [C, C_self n, C_gt n (n + 1) (by omega)]
theorem absorb : ∀ n k, (k + 1) * C (n + 1) (k + 1) = (n + 1) * C n k
  | 0, 0 => rfl
  | 0, k + 1 => by
    rw [C_gt 1 (k + 2) (by omega), C_gt 0 (k + 1) (by omega)]; rfl
  | n + 1, 0 => by
    have h := absorb n 0
    have e : C (n + 1 + 1) (0 + 1) = C (n + 1) 0 + C (n + 1) (0 + 1) := rfl
    rw [C_zero] at h e
    rw [C_zero, e]
    omega
  | n + 1, k + 1 => by
    have h1 := absorb n (k + 1)
    have h2 := absorb n k
    have e : C (n + 2) (k + 2) = C (n + 1) (k + 1) + C (n + 1) (k + 2) := rfl
    have e2 : C (n + 1) (k + 1) = C n k + C n (k + 1) := rfl
    rw [e, Nat.mul_add, h1]
    have h3 : (k + 1 + 1) * C (n + 1) (k + 1) = (k + 1) * C (n + 1) (k + 1) + C (n + 1) (k + 1) := Nat.succ_mul _ _
    rw [h3, h2]
    have h4 : (n + 1 + 1) * C (n + 1) (k + 1) = (n + 1) * C (n + 1) (k + 1) + C (n + 1) (k + 1) := Nat.succ_mul _ _
    have h5 : (n + 1) * C (n + 1) (k + 1) = (n + 1) * C n k + (n + 1) * C n (k + 1) := by rw [e2, Nat.mul_add]
    omega
def sum (f : Nat → Nat) : Nat → Nat
  | 0 => 0
  | m + 1 => sum f m + f m
theorem sum_shift (f : Nat → Nat) : ∀ m, sum f (m + 1) = f 0 + sum (fun k => f (k + 1)) m
  | 0 => by simp [sum]
  | m + 1 => by rw [sum, sum_shift f m]; simp only [sum]; omega
theorem sum_add (f g : Nat → Nat) : ∀ m, sum (fun k => f k + g k) m = sum f m + sum g m
  | 0 => rfl
  | m + 1 => by simp only [sum]; rw [sum_add f g m]; omega
theorem sum_mul (a : Nat) (f : Nat → Nat) : ∀ m, a * sum f m = sum (fun k => a * f k) m
  | 0 => rfl
  | m + 1 => by simp only [sum]; rw [Nat.mul_add, sum_mul a f m]
theorem sum_congr (f g : Nat → Nat) (h : ∀ k, f k = g k) (m : Nat) : sum f m = sum g m := by rw [funext h]
theorem binomial (a : Nat) : ∀ n, (a + 1) ^ n = sum (fun k => C n k * a ^ k) (n + 1)
  | 0 => by simp [sum, C]
  | n + 1 => by
    rw [Nat.pow_succ, binomial a n, sum_shift (fun k => C (n + 1) k * a ^ k) (n + 1)]
    have h1 : sum (fun k => C (n + 1) (k + 1) * a ^ (k + 1)) (n + 1) = a * sum (fun k => C n k * a ^ k) (n + 1) + sum (fun k => C n (k + 1) * a ^ (k + 1)) (n + 1) := by
      rw [sum_mul, ← sum_add]
      refine sum_congr _ _ (fun k => ?_) _
      rw [C, Nat.add_mul, Nat.pow_succ, ← Nat.mul_assoc a, Nat.mul_comm a (C n k), Nat.mul_assoc (C n k) a, Nat.mul_comm a (a ^ k)]
    have h2 : sum (fun k => C n k * a ^ k) (n + 1 + 1) = C n 0 * a ^ 0 + sum (fun k => C n (k + 1) * a ^ (k + 1)) (n + 1) := sum_shift _ _
    have h3 : sum (fun k => C n k * a ^ k) (n + 1 + 1) = sum (fun k => C n k * a ^ k) (n + 1) + C n (n + 1) * a ^ (n + 1) := rfl
    rw [C_gt n (n + 1) (by omega), Nat.zero_mul] at h3
    rw [h1, C_zero]
    rw [C_zero] at h2
    rw [Nat.mul_add, Nat.mul_one, Nat.mul_comm _ a]
    omega
theorem dvd_C (q : Nat) (hq : PrimeLike q) (k : Nat) (h0 : 0 < k) (h1 : k < q) : q ∣ C q k := by
  obtain ⟨j, rfl⟩ : ∃ j, k = j + 1 := ⟨k - 1, by omega⟩
  obtain ⟨n, rfl⟩ : ∃ n, q = n + 1 := ⟨q - 1, by omega⟩
  refine (hq (j + 1) h0 h1).dvd_of_dvd_mul_left ?_
  rw [absorb n j]
  exact Nat.dvd_mul_right _ _
theorem sum_dvd (q : Nat) (f : Nat → Nat) : ∀ m, (∀ k, k < m → q ∣ f k) → q ∣ sum f m
  | 0, _ => Nat.dvd_zero q
  | m + 1, h => Nat.dvd_add (sum_dvd q f m (fun k hk => h k (by omega))) (h m (by omega))
theorem dream (q a : Nat) (hq : PrimeLike q) (h2 : 2 ≤ q) : (a + 1) ^ q % q = (a ^ q + 1) % q := by
  obtain ⟨n, rfl⟩ : ∃ n, q = n + 1 := ⟨q - 1, by omega⟩
  rw [binomial, sum, sum_shift, C_self, C_zero]
  obtain ⟨c, hc⟩ := sum_dvd (n + 1) (fun k => C (n + 1) (k + 1) * a ^ (k + 1)) n (fun k hk => Nat.dvd_trans (dvd_C (n + 1) hq (k + 1) (by omega) (by omega)) (Nat.dvd_mul_right _ _))
  rw [hc, Nat.pow_zero, Nat.one_mul, Nat.one_mul, Nat.add_right_comm, Nat.add_mul_mod_self_left, Nat.add_comm 1]
theorem fermat (q : Nat) (hq : PrimeLike q) (h2 : 2 ≤ q) : ∀ a, a ^ q % q = a % q
  | 0 => by rw [Nat.zero_pow (by omega)]
  | a + 1 => by rw [dream q a hq h2, Nat.add_mod, fermat q hq h2 a, ← Nat.add_mod]
/-- The inverse modulo q. -/
theorem inv_Q (a : Nat) (h0 : 0 < a) (h1 : a < Q) : a * a ^ (Q - 2) % Q = 1 := by
  obtain ⟨q, hq⟩ : ∃ q, q = Q := ⟨_, rfl⟩
  have h2 : 3 ≤ q := by rw [hq]; decide
  have hp : PrimeLike q := hq ▸ Q_prime
  rw [← hq] at h1 ⊢
  clear hq
  have hf := fermat q hp (by omega) a
  have e : a ^ q = a * (a * a ^ (q - 2)) := by
    obtain ⟨n, rfl⟩ : ∃ n, q = n + 2 := ⟨q - 2, by omega⟩
    rw [show n + 2 - 2 = n by omega, Nat.pow_succ, Nat.pow_succ]
    rw [Nat.mul_comm (a ^ n * a) a, Nat.mul_comm (a ^ n) a]
  rw [e] at hf
  obtain ⟨x, hx⟩ : ∃ x, x = a * a ^ (q - 2) := ⟨_, rfl⟩
  rw [← hx] at hf ⊢
  have hx1 : 1 ≤ x := by rw [hx]; exact Nat.mul_pos h0 (Nat.pow_pos h0)
  have hd : q ∣ a * (x - 1) := by
    have : a ≤ a * x := Nat.le_mul_of_pos_right a hx1
    rw [Nat.mul_sub, Nat.mul_one]
    exact (Nat.dvd_iff_mod_eq_zero ..).2 (Nat.sub_mod_eq_zero_of_mod_eq hf)
  have := (hp a h0 h1).dvd_of_dvd_mul_left hd
  obtain ⟨c, hc⟩ := this
  rw [show x = 1 + q * c by omega, Nat.add_mul_mod_self_left, Nat.mod_eq_of_lt (by omega)]
end Go.Proofs.YtgkilaafeconlaaDoor.Grp
