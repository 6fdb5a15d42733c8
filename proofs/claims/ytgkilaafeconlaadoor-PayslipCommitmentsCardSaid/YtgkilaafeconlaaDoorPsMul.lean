/- Products of commitments (layer 35, plain), and the reference's Value. -/
import Derived.Test.YtgkilaafeconlaaDoorPsRes2
import Derived.Test.YtgkilaafeconlaaDoorCmW3
namespace Go.Proofs.YtgkilaafeconlaaDoor
open Go.RowKit Go.Shelf
set_option linter.unusedVariables false
set_option linter.unusedSimpArgs false
set_option maxRecDepth 100000
theorem pcommit_mul (v b v' b' : Nat) : commitI (v : Int) (b : Int) * commitI (v' : Int) (b' : Int) % 2147483579 = commitI (((v + v') % Grp.Q : Nat) : Int) (((b + b') % Grp.Q : Nat) : Int) := by
  rw [commitI_nat, commitI_nat, commitI_nat, mulI_nat]
  congr 1
  have h4 : 4 ^ ((v + v') % Grp.Q) % Grp.P = 4 ^ (v + v') % Grp.P := (Grp.el_4.red (v + v')).symm
  have h9 : 9 ^ ((b + b') % Grp.Q) % Grp.P = 9 ^ (b + b') % Grp.P := (Grp.el_9.red (b + b')).symm
  rw [Grp.mc h4 h9, ← Nat.mul_mod]
  have e : 4 ^ v * 9 ^ b * (4 ^ v' * 9 ^ b') = 4 ^ (v + v') * 9 ^ (b + b') := by
    rw [Nat.pow_add, Nat.pow_add, Nat.mul_mul_mul_comm]
  rw [e]
theorem pcommit_one : commitI 0 0 = 1 := by decide +kernel
theorem pcommit_el (v b : Nat) : elB (commitI (v : Int) (b : Int)) = true := by
  rw [commitI_nat, elB_nat]
  exact ⟨Nat.mod_lt _ Grp.P_pos, ((Grp.el_4.pow' v).mul' (Grp.el_9.pow' b)).mod⟩
theorem pcommit_elI (v b : Int) (hv : 0 ≤ v) (hb : 0 ≤ b) : elB (commitI v b) = true := by
  obtain ⟨v', rfl⟩ := Int.eq_ofNat_of_zero_le hv
  obtain ⟨b', rfl⟩ := Int.eq_ofNat_of_zero_le hb
  exact pcommit_el _ _
/-- The sum of the first k numbers. -/
def sumK (l : List Int) : Nat → Int
  | 0 => 0
  | k + 1 => sumK l k + l.getD k 0
/-- The product of the first k commitments. -/
def prodK (cs bl : List Int) : Nat → Int
  | 0 => 1
  | k + 1 => prodK cs bl k * commitI (cs.getD k 0 % 1073741789) (bl.getD k 0) % 2147483579
theorem prodK_sum (cs bl : List Int) (n : Nat) (hb : ∀ j, j < n → 0 ≤ bl.getD j 0 ∧ bl.getD j 0 < 1073741789) :
    ∀ k, k ≤ n → prodK cs bl k = commitI (sumK cs k % 1073741789) (sumK bl k % 1073741789) ∧ elB (prodK cs bl k) = true := by
  intro k
  induction k with
  | zero => intro _; exact ⟨pcommit_one.symm, by have := pcommit_el 0 0; rw [show ((0 : Nat) : Int) = 0 from rfl, pcommit_one] at this; exact this⟩
  | succ k ih =>
    intro hk
    obtain ⟨h1, h2⟩ := ih (by omega)
    show prodK cs bl k * _ % 2147483579 = commitI ((sumK cs k + cs.getD k 0) % 1073741789) ((sumK bl k + bl.getD k 0) % 1073741789) ∧ elB (prodK cs bl k * _ % 2147483579) = true
    rw [h1]
    obtain ⟨b1, b2⟩ := hb k (by omega)
    obtain ⟨v, hv⟩ : ∃ v : Nat, sumK cs k % 1073741789 = v := ⟨(sumK cs k % 1073741789).toNat, by omega⟩
    obtain ⟨b, hb'⟩ : ∃ v : Nat, sumK bl k % 1073741789 = v := ⟨(sumK bl k % 1073741789).toNat, by omega⟩
    obtain ⟨v', hv'⟩ : ∃ v : Nat, cs.getD k 0 % 1073741789 = v := ⟨(cs.getD k 0 % 1073741789).toNat, by omega⟩
    obtain ⟨b', hbk⟩ : ∃ v : Nat, bl.getD k 0 = v := ⟨(bl.getD k 0).toNat, by omega⟩
    rw [hv, hb', hv', hbk, pcommit_mul]
    have e1 : (sumK cs k + cs.getD k 0) % 1073741789 = (((v + v') % Grp.Q : Nat) : Int) := by
      show _ = (((v + v') % 1073741789 : Nat) : Int)
      omega
    have e2 : (sumK bl k + (b' : Int)) % 1073741789 = (((b + b') % Grp.Q : Nat) : Int) := by
      show _ = (((b + b') % 1073741789 : Nat) : Int)
      omega
    rw [e1, e2]
    exact ⟨rfl, pcommit_el _ _⟩
theorem sumK_bd (l : List Int) (B : Int) (hB : 0 ≤ B) (h : ∀ j, -B ≤ l.getD j 0 ∧ l.getD j 0 ≤ B) : ∀ k : Nat, -((k : Int) * B) ≤ sumK l k ∧ sumK l k ≤ (k : Int) * B
  | 0 => by simp [sumK]
  | k + 1 => by
    have h1 := sumK_bd l B hB h k
    have h2 := h k
    have e : ((k + 1 : Nat) : Int) * B = (k : Int) * B + B := by rw [Int.natCast_add, Int.add_mul]; simp
    rw [e]
    show _ ≤ sumK l k + l.getD k 0 ∧ sumK l k + l.getD k 0 ≤ _
    omega
theorem tmod_cases (c : Int) : (0 ≤ c.tmod 1073741789 ∧ c.tmod 1073741789 = c % 1073741789) ∨ (c.tmod 1073741789 < 0 ∧ -1073741789 < c.tmod 1073741789 ∧ c.tmod 1073741789 + 1073741789 = c % 1073741789) := by
  by_cases h : 0 ≤ c
  · rw [Int.tmod_eq_emod_of_nonneg h]
    exact .inl ⟨by omega, rfl⟩
  · obtain ⟨q, hq⟩ : ∃ q : Int, c = -q := ⟨-c, by omega⟩
    rw [hq, Int.neg_tmod, Int.tmod_eq_emod_of_nonneg (by omega)]
    by_cases h0 : q % 1073741789 = 0
    · exact .inl ⟨by omega, by omega⟩
    · exact .inr ⟨by omega, by omega, by omega⟩
theorem pvalue_any (c v : Int) (hv : Hid (c % 1073741789 = v)) (w : World) : Calls Tryd.prog 26 #[.int .i64 c] w fun e w' => e = .returned (.int .i64 v) ∧ Below w.heap.size w w' := by
  have hv' := hv.out
  rcases tmod_cases c with ⟨h0, h1⟩ | ⟨h0, h2, h1⟩
  · have e1 : c.tmod 1073741789 = v := h1.trans hv'
    have h3 : ¬ v < 0 := by omega
    clear hv hv' h0 h1
    go_enter Tryd.func26, Tryd.ntmps26
    go_wp2
    go_ret
    exact ⟨by first | rfl | (simp [e1]), Below.refl _ _⟩
  · obtain ⟨r, hr⟩ : ∃ r, c.tmod 1073741789 = r := ⟨_, rfl⟩
    rw [hr] at h0 h1 h2
    have e3 : IntKind.i64.wrap (r + 1073741789) = v := by rw [IntWalk.i64_in _ (by omega)]; exact h1.trans hv'
    have e2 : r + 1073741789 = v := h1.trans hv'
    clear hv hv' h1
    go_enter Tryd.func26, Tryd.ntmps26
    go_wp2
    go_ret
    exact ⟨by first | rfl | (simp [e2, e3]), Below.refl _ _⟩
end Go.Proofs.YtgkilaafeconlaaDoor
