/- Powers and commitments over integers, in plain words; the laws of the group that the proofs of bits stand on. -/
import Derived.Test.YtgkilaafeconlaaDoorGrpMath2
namespace Go.Proofs.YtgkilaafeconlaaDoor
set_option linter.unusedVariables false
/-- A power modulo p, of integers that are not negative. -/
def pwI (b e : Int) : Int := ((b.toNat ^ e.toNat % Grp.P : Nat) : Int)
theorem pwI_bd (b e : Int) : 0 ≤ pwI b e ∧ pwI b e < 2147483579 := by
  unfold pwI
  have h : b.toNat ^ e.toNat % Grp.P < 2147483579 := Nat.mod_lt _ Grp.P_pos
  omega
theorem pwI_nat (b e : Nat) : pwI (b : Int) (e : Int) = ((b ^ e % Grp.P : Nat) : Int) := by unfold pwI; rw [Int.toNat_natCast, Int.toNat_natCast]
theorem mulI_nat (a b : Nat) : (a : Int) * (b : Int) % 2147483579 = ((a * b % Grp.P : Nat) : Int) := by
  rw [Int.natCast_emod, Int.natCast_mul]; rfl
def commitI (v b : Int) : Int := pwI 4 v * pwI 9 b % 2147483579
theorem commitI_bd (v b : Int) : 0 ≤ commitI v b ∧ commitI v b < 2147483579 := by
  unfold commitI
  omega
theorem commitI_nat (v b : Nat) : commitI (v : Int) (b : Int) = ((4 ^ v * 9 ^ b % Grp.P : Nat) : Int) := by
  unfold commitI
  have h4 : pwI 4 (v : Int) = ((4 ^ v % Grp.P : Nat) : Int) := pwI_nat 4 v
  have h9 : pwI 9 (b : Int) = ((9 ^ b % Grp.P : Nat) : Int) := pwI_nat 9 b
  rw [h4, h9, mulI_nat, ← Nat.mul_mod]
def elB (x : Int) : Bool := decide (1 ≤ x) && (decide (x < 2147483579) && (pwI x 1073741789 == 1))
theorem elB_nat (x : Nat) : elB (x : Int) = true ↔ (x < Grp.P ∧ Grp.El x) := by
  unfold elB
  have h1 : pwI (x : Int) 1073741789 = ((x ^ Grp.Q % Grp.P : Nat) : Int) := pwI_nat x Grp.Q
  rw [h1]
  simp only [Bool.and_eq_true, decide_eq_true_eq, beq_iff_eq]
  constructor
  · rintro ⟨h1, h2, h3⟩
    exact ⟨by show x < 2147483579; omega, by unfold Grp.El; omega⟩
  · rintro ⟨h1, h2⟩
    have h1' : x < 2147483579 := h1
    refine ⟨?_, by omega, by unfold Grp.El at h2; omega⟩
    rcases Nat.eq_zero_or_pos x with h0 | h0
    · subst h0
      unfold Grp.El at h2
      rw [Nat.zero_pow (by decide)] at h2
      exact absurd h2 (by decide)
    · omega
theorem elB_get {x : Int} (h : elB x = true) : ∃ n : Nat, x = n ∧ n < Grp.P ∧ Grp.El n := by
  have h0 : 1 ≤ x := by
    unfold elB at h
    simp only [Bool.and_eq_true, decide_eq_true_eq] at h
    exact h.1
  obtain ⟨n, rfl⟩ := Int.eq_ofNat_of_zero_le (by omega : 0 ≤ x)
  exact ⟨n, rfl, (elB_nat n).1 h⟩
namespace Grp
theorem mc {a a' b b' : Nat} (h : a % P = a' % P) (k : b % P = b' % P) : a * b % P = a' * b' % P := by rw [Nat.mul_mod, h, k, ← Nat.mul_mod]
theorem pc {a a' : Nat} (h : a % P = a' % P) (n : Nat) : a ^ n % P = a' ^ n % P := by rw [Nat.pow_mod, h, ← Nat.pow_mod]
theorem mm (a : Nat) : a % P % P = a % P := Nat.mod_mod a P
theorem El.pow' {x : Nat} (hx : El x) (e : Nat) : El (x ^ e) := by
  have := hx.pow e; unfold El at this ⊢; rwa [← Nat.pow_mod] at this
theorem El.mul' {x y : Nat} (hx : El x) (hy : El y) : El (x * y) := by
  have := hx.mul hy; unfold El at this ⊢; rwa [← Nat.pow_mod] at this
theorem El.mod {x : Nat} (hx : El x) : El (x % P) := by unfold El at *; rwa [← Nat.pow_mod]
theorem El.unmod {x : Nat} (hx : El (x % P)) : El x := by unfold El at *; rwa [← Nat.pow_mod] at hx
theorem El.ne {x : Nat} (hx : El x) : x % P ≠ 0 := by
  intro h
  unfold El at hx
  rw [Nat.pow_mod, h, Nat.zero_pow (by decide)] at hx
  exact absurd hx (by decide)
/-- The commitment, divided by 4 to the i-th. -/
def divd (c i : Nat) : Nat := c * ((4 ^ (Q - 1) % P) ^ i % P) % P
theorem divd_mod (c i : Nat) : divd c i % P = c * (4 ^ (Q - 1)) ^ i % P := by
  unfold divd
  rw [mm, Nat.mul_mod_mod, Nat.mul_mod, ← Nat.pow_mod, ← Nat.mul_mod]
theorem four_inv (i : Nat) : 4 ^ i * (4 ^ (Q - 1)) ^ i % P = 1 := by
  rw [← Nat.mul_pow, Nat.pow_mod, ← Nat.pow_succ', show (Q - 1).succ = Q from rfl, four_Q, Nat.one_pow]
  decide
theorem divd_El {c : Nat} (hc : El c) (i : Nat) : El (divd c i) := by
  have : El (divd c i % P) := by rw [divd_mod]; exact (hc.mul' ((el_4.pow' _).pow' i)).mod
  exact this.unmod
theorem divd_lt (c i : Nat) : divd c i < P := Nat.mod_lt _ P_pos
/-- The commitment to i, divided by 4 to the i-th: the power of 9. -/
theorem divd_own (i b : Nat) : divd (4 ^ i * 9 ^ b % P) i % P = 9 ^ b % P := by
  rw [divd_mod, Nat.mod_mul_mod, Nat.mul_right_comm, Nat.mul_mod, four_inv, Nat.one_mul, mm]
theorem divd_back (c i : Nat) : 4 ^ i * divd c i % P = c % P := by
  rw [Nat.mul_mod, divd_mod, ← Nat.mul_mod, Nat.mul_left_comm, Nat.mul_mod, four_inv, Nat.mul_one, mm]
/-- The reply for the bit itself. -/
theorem own_reply (k e b : Nat) (D : Nat) (hD : D % P = 9 ^ b % P) : 9 ^ ((k + e * b) % Q) % P = (9 ^ k % P) * (D ^ e % P) % P := by
  rw [← el_9.red, Nat.pow_add, ← Nat.mul_mod, Nat.mul_comm e b, Nat.pow_mul]
  exact mc rfl (pc hD.symm e)
/-- The reply for the other bit. -/
theorem other_reply (z e D : Nat) (hD : El D) : 9 ^ z % P = ((9 ^ z % P) * ((D ^ (Q - 1) % P) ^ e % P) % P) * (D ^ e % P) % P := by
  rw [Nat.mod_mul_mod, Nat.mul_mod_mod, Nat.mul_assoc, Nat.mod_mul_mod, ]
  have h : (D ^ (Q - 1) % P) ^ e % P * D ^ e % P = 1 := by
    rw [Nat.mod_mul_mod, Nat.mul_mod, ← Nat.pow_mod, ← Nat.mul_mod, ← Nat.mul_pow, ← Nat.pow_succ, show (Q - 1).succ = Q from rfl, Nat.pow_mod, hD, Nat.one_pow]
    decide
  rw [Nat.mul_mod, h, Nat.mul_one, mm]
theorem other_El (z e D : Nat) (hD : El D) : El ((9 ^ z % P) * ((D ^ (Q - 1) % P) ^ e % P) % P) :=
  ((el_9.pow' z).mod.mul' (((hD.pow' _).mod.pow' e).mod)).mod
/-- Two replies to two challenges: the commitment is opened. -/
theorem extract (f D z z' e e' : Nat) (hf : El f) (hD : El D) (hz : z < Q) (hz' : z' < Q) (he : e < Q) (he' : e' < Q) (hne : e ≠ e')
    (h1 : 9 ^ z % P = f * D ^ e % P) (h2 : 9 ^ z' % P = f * D ^ e' % P) :
    D % P = 9 ^ (((z + (Q - z')) % Q) * (((e + (Q - e')) % Q) ^ (Q - 2) % Q) % Q) % P := by
  obtain ⟨d, hd⟩ : ∃ d, d = (e + (Q - e')) % Q := ⟨_, rfl⟩
  obtain ⟨s, hs⟩ : ∃ s, s = (z + (Q - z')) % Q := ⟨_, rfl⟩
  rw [← hd, ← hs]
  have hQ : 2 ≤ Q := by decide
  obtain ⟨q, hq⟩ : ∃ q, q = Q := ⟨_, rfl⟩
  have hd0 : 0 < d := by
    rw [hd]
    rw [← hq] at he he' ⊢
    rcases Nat.lt_or_ge e e' with h | h
    · rw [Nat.mod_eq_of_lt (by omega)]; omega
    · rw [show e + (q - e') = (e - e') + q by omega, Nat.add_mod_right, Nat.mod_eq_of_lt (by omega)]; omega
  have hd1 : d < Q := by rw [hd]; exact Nat.mod_lt _ (by omega)
  have key : 9 ^ s % P = D ^ d % P := by
    have hx : 9 ^ z * D ^ e' % P = 9 ^ z' * D ^ e % P := by
      rw [mc h1 (rfl : D ^ e' % P = D ^ e' % P), mc h2 (rfl : D ^ e % P = D ^ e % P), Nat.mul_right_comm]
    have hy : (9 ^ z * D ^ e') * (9 ^ (Q - z') * D ^ (Q - e')) % P = (9 ^ z' * D ^ e) * (9 ^ (Q - z') * D ^ (Q - e')) % P := mc hx rfl
    have l1 : (9 ^ z * D ^ e') * (9 ^ (Q - z') * D ^ (Q - e')) = 9 ^ (z + (Q - z')) * D ^ Q := by
      rw [Nat.mul_mul_mul_comm, ← Nat.pow_add, ← Nat.pow_add, show e' + (Q - e') = Q by omega]
    have l2 : (9 ^ z' * D ^ e) * (9 ^ (Q - z') * D ^ (Q - e')) = 9 ^ Q * D ^ (e + (Q - e')) := by
      rw [Nat.mul_mul_mul_comm, ← Nat.pow_add, ← Nat.pow_add, show z' + (Q - z') = Q by omega]
    rw [l1, l2, Nat.mul_mod, hD, Nat.mul_one, mm, Nat.mul_mod (9 ^ Q), nine_Q, Nat.one_mul, mm, el_9.red, hD.red, ← hs, ← hd] at hy
    exact hy
  rw [← el_9.red, Nat.pow_mul, pc key, ← Nat.pow_mul, hD.red, Nat.mul_mod_mod, inv_Q d hd0 hd1, Nat.pow_one]
end Grp
end Go.Proofs.YtgkilaafeconlaaDoor
