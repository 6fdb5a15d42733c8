/- Plain definitions of layer 25: steps of chains, digits, secrets, leaves; and the laws about them. -/
import Derived.Test.YthgkjcofmkkdcaaDoorDigMath2
import Derived.Lib.ItoaLen
namespace Go.On
open Go.Dig
def step (x : UInt64) : UInt64 := sum (2 :: text x)
def steps : Nat → UInt64 → UInt64
  | 0, x => x
  | n + 1, x => step (steps n x)
theorem steps_add (m n : Nat) (x : UInt64) : steps n (steps m x) = steps (m + n) x := by
  induction n with
  | zero => rfl
  | succ n ih => show step (steps n (steps m x)) = step (steps (m + n) x); rw [ih]
def secret (seed : List UInt8) (i k : Int) : UInt64 := sum (3 :: (Lib.itoa i ++ 32 :: (Lib.itoa k ++ 32 :: seed)))
def digit (d : UInt64) (i : Nat) : Nat := d.toNat / 2 ^ (60 - 4 * i) % 16
def csum (d : UInt64) : Nat → Nat
  | 0 => 0
  | j + 1 => csum d j + (15 - digit d j)
def digs (d : UInt64) : List Nat := [digit d 0, digit d 1, digit d 2, digit d 3, digit d 4, digit d 5, digit d 6, digit d 7, digit d 8, digit d 9, digit d 10, digit d 11, digit d 12, digit d 13, digit d 14, digit d 15, csum d 16 / 16, csum d 16 % 16]
theorem digit_lt (d : UInt64) (i : Nat) : digit d i < 16 := Nat.mod_lt _ (by omega)
theorem csum_le (d : UInt64) (j : Nat) : csum d j ≤ 15 * j := by
  induction j with
  | zero => exact Nat.le_refl _
  | succ j ih => simp only [csum]; omega
theorem digs_len (d : UInt64) : (digs d).length = 18 := rfl
def dg (d : UInt64) (k : Nat) : Nat := (digs d).getD k 0
theorem lt18 {k : Nat} (h : k < 18) : k = 0 ∨ k = 1 ∨ k = 2 ∨ k = 3 ∨ k = 4 ∨ k = 5 ∨ k = 6 ∨ k = 7 ∨ k = 8 ∨ k = 9 ∨ k = 10 ∨ k = 11 ∨ k = 12 ∨ k = 13 ∨ k = 14 ∨ k = 15 ∨ k = 16 ∨ k = 17 := by omega
theorem dg_lo (d : UInt64) (k : Nat) (h : k < 16) : dg d k = digit d k := by
  rcases lt18 (show k < 18 by omega) with rfl | rfl | rfl | rfl | rfl | rfl | rfl | rfl | rfl | rfl | rfl | rfl | rfl | rfl | rfl | rfl | rfl | rfl <;> first | rfl | omega
theorem dg_le (d : UInt64) (k : Nat) : dg d k ≤ 15 := by
  by_cases h : k < 18
  · by_cases h' : k < 16
    · rw [dg_lo d k h']; have := digit_lt d k; omega
    · have hc := csum_le d 16
      rcases (show k = 16 ∨ k = 17 by omega) with rfl | rfl
      · show csum d 16 / 16 ≤ 15; omega
      · show csum d 16 % 16 ≤ 15; omega
  · unfold dg; rw [List.getD_eq_getElem?_getD, List.getElem?_eq_none (by rw [digs_len]; omega)]; exact Nat.zero_le _
/-- The leaf of a key. -/
def leafTo (seed : List UInt8) (i : Int) : Nat → List UInt8
  | 0 => []
  | k + 1 => leafTo seed i k ++ text (steps 15 (secret seed i (k : Nat)))
def leaf (seed : List UInt8) (i : Int) : List UInt8 := leafTo seed i 18
theorem text_len (d : UInt64) : (text d).length = 16 := rfl
theorem leafTo_len (seed : List UInt8) (i : Int) (k : Nat) : (leafTo seed i k).length = 16 * k := by
  induction k with
  | zero => rfl
  | succ k ih => rw [leafTo, List.length_append, ih, text_len]; omega
theorem leaf_len (seed : List UInt8) (i : Int) : (leaf seed i).length = 288 := leafTo_len seed i 18
/-- The chains of a signature. -/
def chain (seed : List UInt8) (i : Int) (d : UInt64) (k : Nat) : UInt64 := steps (dg d k) (secret seed i (k : Nat))
def chains (seed : List UInt8) (i : Int) (d : UInt64) : Nat → List UInt64
  | 0 => []
  | k + 1 => chains seed i d k ++ [chain seed i d k]
theorem chains_len (seed : List UInt8) (i : Int) (d : UInt64) (k : Nat) : (chains seed i d k).length = k := by
  induction k with
  | zero => rfl
  | succ k ih => rw [chains, List.length_append, ih]; rfl
theorem chains_get (seed : List UInt8) (i : Int) (d : UInt64) (n k : Nat) (h : k < n) : (chains seed i d n).getD k 0 = chain seed i d k := by
  induction n with
  | zero => omega
  | succ n ih =>
    rw [chains]
    by_cases hk : k < n
    · rw [List.getD_eq_getElem?_getD, List.getElem?_append_left (by rw [chains_len]; exact hk), ← List.getD_eq_getElem?_getD]; exact ih hk
    · have : k = n := by omega
      subst this
      rw [List.getD_eq_getElem?_getD, List.getElem?_append_right (by rw [chains_len]; exact Nat.le_refl _), chains_len]
      simp
/-- The leaf that a signature of a digest leads to. -/
def climbTo (c : List UInt64) (d : UInt64) : Nat → List UInt8
  | 0 => []
  | k + 1 => climbTo c d k ++ text (steps (15 - dg d k) (c.getD k 0))
theorem climbTo_len (c : List UInt64) (d : UInt64) (k : Nat) : (climbTo c d k).length = 16 * k := by
  induction k with
  | zero => rfl
  | succ k ih => rw [climbTo, List.length_append, ih, text_len]; omega
theorem climb_chains (seed : List UInt8) (i : Int) (d : UInt64) (n k : Nat) (h : k ≤ n) : climbTo (chains seed i d n) d k = leafTo seed i k := by
  induction k with
  | zero => rfl
  | succ k ih =>
    rw [climbTo, leafTo, ih (by omega), chains_get seed i d n k (by omega), chain, steps_add]
    have := dg_le d k
    rw [show dg d k + (15 - dg d k) = 15 by omega]
/-- The leaves of a tree. -/
def leaves (seed : List UInt8) : Nat → List (List UInt8)
  | 0 => []
  | n + 1 => leaves seed n ++ [leaf seed (n : Nat)]
theorem leaves_len (seed : List UInt8) (n : Nat) : (leaves seed n).length = n := by
  induction n with
  | zero => rfl
  | succ n ih => rw [leaves, List.length_append, ih]; rfl
theorem leaves_get (seed : List UInt8) (n k : Nat) (h : k < n) : (leaves seed n)[k]? = some (leaf seed (k : Nat)) := by
  induction n with
  | zero => omega
  | succ n ih =>
    rw [leaves]
    by_cases hk : k < n
    · rw [List.getElem?_append_left (by rw [leaves_len]; exact hk)]; exact ih hk
    · have : k = n := by omega
      subst this
      rw [List.getElem?_append_right (by rw [leaves_len]; exact Nat.le_refl _), leaves_len]
      simp
/-- If no digit of the first is less than the second's, the digests are equal. -/
theorem digit_top (a b : UInt64) (h : ∀ j, j < 16 → digit a j = digit b j) : ∀ j, j < 16 → a.toNat / 2 ^ (60 - 4 * j) = b.toNat / 2 ^ (60 - 4 * j)
  | 0, _ => by
    have h0 := h 0 (by omega)
    have ea := a.toNat_lt
    have eb := b.toNat_lt
    simp only [digit, Nat.mul_zero, Nat.sub_zero] at h0 ⊢
    omega
  | j + 1, hj => by
    have ih := digit_top a b h j (by omega)
    have h0 := h (j + 1) hj
    have e : (2 : Nat) ^ (60 - 4 * j) = 2 ^ (60 - 4 * (j + 1)) * 16 := by
      rw [show 60 - 4 * j = (60 - 4 * (j + 1)) + 4 by omega, Nat.pow_add]
    rw [e, ← Nat.div_div_eq_div_mul, ← Nat.div_div_eq_div_mul] at ih
    simp only [digit] at h0
    omega
theorem digest_of_digits (a b : UInt64) (h : ∀ j, j < 16 → digit a j = digit b j) : a = b := by
  have := digit_top a b h 15 (by omega)
  simp only [Nat.reduceMul, Nat.sub_self, Nat.pow_zero, Nat.div_one] at this
  exact UInt64.toNat_inj.1 this
theorem csum_mono (a b : UInt64) : ∀ j, (∀ i, i < j → digit b i ≤ digit a i) → csum a j ≤ csum b j ∧ (csum a j = csum b j → ∀ i, i < j → digit a i = digit b i)
  | 0, _ => ⟨Nat.le_refl _, fun _ i h => absurd h (Nat.not_lt_zero i)⟩
  | j + 1, h => by
    obtain ⟨h1, h2⟩ := csum_mono a b j (fun i hi => h i (by omega))
    have hj := h j (by omega)
    have la := digit_lt a j
    have lb := digit_lt b j
    refine ⟨by simp only [csum]; omega, fun e i hi => ?_⟩
    simp only [csum] at e
    by_cases hij : i < j
    · exact h2 (by omega) i hij
    · have : i = j := by omega
      subst this
      omega
theorem less_some (a b : UInt64) (hne : a ≠ b) : ∃ k, k < 18 ∧ dg a k < dg b k := by
  by_cases hx : ∃ k, k < 18 ∧ dg a k < dg b k
  · exact hx
  · exfalso
    have hall : ∀ k, k < 18 → dg b k ≤ dg a k := fun k hk => by
      by_cases h : dg b k ≤ dg a k
      · exact h
      · exact absurd ⟨k, hk, by omega⟩ hx
    have hd : ∀ i, i < 16 → digit b i ≤ digit a i := fun i hi => by rw [← dg_lo a i hi, ← dg_lo b i hi]; exact hall i (by omega)
    obtain ⟨h1, h2⟩ := csum_mono a b 16 hd
    have h16 : csum b 16 / 16 ≤ csum a 16 / 16 := hall 16 (by omega)
    have h17 : csum b 16 % 16 ≤ csum a 16 % 16 := hall 17 (by omega)
    exact hne (digest_of_digits a b (h2 (by omega)))
end Go.On
