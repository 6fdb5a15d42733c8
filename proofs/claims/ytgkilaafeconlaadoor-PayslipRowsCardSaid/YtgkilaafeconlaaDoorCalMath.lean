/- Plain calendar: months as numbers 0 to 1199, their first days, the date of a day. -/
namespace Go.Cal
def bef : Nat → Nat
  | 0 => 0
  | 1 => 31
  | 2 => 59
  | 3 => 90
  | 4 => 120
  | 5 => 151
  | 6 => 181
  | 7 => 212
  | 8 => 243
  | 9 => 273
  | 10 => 304
  | 11 => 334
  | _ => 365
/-- The length of month k (0 to 11) of a year. -/
def len (y k : Nat) : Nat := bef (k + 1) - bef k + (if k = 1 ∧ y % 4 = 0 then 1 else 0)
/-- The first day of month m (0 to 1199). -/
def first (m : Nat) : Nat := m / 12 * 365 + (m / 12 + 3) / 4 + bef (m % 12) + (if 1 < m % 12 ∧ m / 12 % 4 = 0 then 1 else 0)
def lenM (m : Nat) : Nat := len (m / 12) (m % 12)
theorem k12 (k : Nat) (h : k < 12) : k = 0 ∨ k = 1 ∨ k = 2 ∨ k = 3 ∨ k = 4 ∨ k = 5 ∨ k = 6 ∨ k = 7 ∨ k = 8 ∨ k = 9 ∨ k = 10 ∨ k = 11 := by omega
theorem first_succ (m : Nat) : first (m + 1) = first m + lenM m := by
  have hk := k12 (m % 12) (Nat.mod_lt _ (by omega))
  unfold first lenM len
  rcases hk with h | h | h | h | h | h | h | h | h | h | h | h
  all_goals
    have h1 : (m + 1) / 12 = m / 12 + (if m % 12 = 11 then 1 else 0) := by rw [h]; simp <;> omega
    have h2 : (m + 1) % 12 = (if m % 12 = 11 then 0 else m % 12 + 1) := by rw [h]; simp <;> omega
    rw [h1, h2, h]
    simp [bef]
    try (split <;> omega)
    try omega
theorem lenM_bounds (m : Nat) : 28 ≤ lenM m ∧ lenM m ≤ 31 := by
  have hk := k12 (m % 12) (Nat.mod_lt _ (by omega))
  unfold lenM len
  rcases hk with h | h | h | h | h | h | h | h | h | h | h | h <;> rw [h] <;> simp [bef]
  split <;> omega
theorem first_0 : first 0 = 0 := rfl
theorem first_1200 : first 1200 = 36525 := by decide
theorem first_mono (a : Nat) : ∀ d, first a + 28 * d ≤ first (a + d)
  | 0 => by simp
  | d + 1 => by
    have := first_mono a d
    rw [← Nat.add_assoc, first_succ]
    have := lenM_bounds (a + d)
    omega
theorem first_le {a b : Nat} (h : a ≤ b) : first a ≤ first b := by
  obtain ⟨d, rfl⟩ : ∃ d, b = a + d := ⟨b - a, by omega⟩
  have := first_mono a d
  omega
theorem first_lt {a b : Nat} (h : a < b) : first a < first b := by
  obtain ⟨d, rfl⟩ : ∃ d, b = a + (d + 1) := ⟨b - a - 1, by omega⟩
  have := first_mono a (d + 1)
  omega
theorem first_bound {m : Nat} (h : m ≤ 1200) : first m ≤ 36525 := by rw [← first_1200]; exact first_le h
theorem exists_upto (n K : Nat) (h : n < first K) : ∃ M, M < K ∧ first M ≤ n ∧ n < first (M + 1) := by
  induction K with
  | zero => rw [first_0] at h; omega
  | succ K ih =>
    by_cases h1 : n < first K
    · obtain ⟨M, h2, h3⟩ := ih h1
      exact ⟨M, by omega, h3⟩
    · exact ⟨K, by omega, by omega, h⟩
/-- Day n lies in month M. -/
def InM (n M : Nat) : Prop := M < 1200 ∧ first M ≤ n ∧ n < first (M + 1)
theorem exists_month (n : Nat) (h : n < 36525) : ∃ M, InM n M := by
  obtain ⟨M, h1, h2⟩ := exists_upto n 1200 (by rw [first_1200]; exact h)
  exact ⟨M, h1, h2⟩
theorem InM.day {n M : Nat} (h : InM n M) : n < 36525 := by
  have := first_bound (show M + 1 ≤ 1200 from h.1)
  have := h.2.2
  omega
theorem InM.unique {n M K : Nat} (h : InM n M) (k : InM n K) : M = K := by
  rcases Nat.lt_trichotomy M K with hl | hl | hl
  · have := first_le (show M + 1 ≤ K from hl)
    have := h.2.2
    have := k.2.1
    omega
  · exact hl
  · have := first_le (show K + 1 ≤ M from hl)
    have := k.2.2
    have := h.2.1
    omega
theorem InM.mono {n k M K : Nat} (h : InM n M) (h' : InM k K) (hn : n ≤ k) : M ≤ K := by
  rcases Nat.lt_or_ge K M with hl | hl
  · have := first_le (show K + 1 ≤ M from hl)
    have := h.2.1
    have := h'.2.2
    omega
  · exact hl
/-- The day of the month. -/
def dom (n M : Nat) : Nat := n - first M + 1
theorem InM.dom {n M : Nat} (h : InM n M) : 1 ≤ dom n M ∧ dom n M ≤ lenM M ∧ first M + dom n M = n + 1 := by
  have h1 := first_succ M
  have h2 := h.2
  unfold Cal.dom
  omega
theorem inM_of {M d : Nat} (hM : M < 1200) (h1 : 1 ≤ d) (h2 : d ≤ lenM M) : InM (first M + d - 1) M := by
  have h3 := first_succ M
  exact ⟨hM, by omega, by omega⟩
theorem lenM_year (y k : Nat) (hk : k < 12) : lenM (y * 12 + k) = len y k := by
  unfold lenM
  rw [show (y * 12 + k) / 12 = y by omega, show (y * 12 + k) % 12 = k by omega]
theorem len_4 (y k : Nat) : len (2000 + y) k = len y k := by
  unfold len
  rw [show (2000 + y) % 4 = y % 4 by omega]
theorem first_48 (q : Nat) : first (48 * q) = 1461 * q := by
  unfold first
  rw [show 48 * q / 12 = 4 * q by omega, show 48 * q % 12 = 0 by omega]
  simp [bef]
  omega
def dig (n : Nat) : UInt8 := UInt8.ofNat (48 + n)
def two (n : Nat) : List UInt8 := [dig (n / 10), dig (n % 10)]
def four (n : Nat) : List UInt8 := [dig (n / 1000), dig (n / 100 % 10), dig (n / 10 % 10), dig (n % 10)]
/-- The text of a date. -/
def text (y m d : Nat) : List UInt8 := four y ++ 45 :: two m ++ 45 :: two d
end Go.Cal
