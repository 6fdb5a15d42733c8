/- Plain facts on texts of digests. -/
import Derived.Test.YtgkilaafeconlaaDoorDigMath
import GoSem.Op.String
namespace Go.Dig
def ntail (n : Nat) : Nat → List UInt8
  | 0 => []
  | k + 1 => hexd (n / 16 ^ k % 16) :: ntail n k
theorem ttail_ntail (d : UInt64) (k : Nat) : ttail d k = ntail d.toNat k := by
  induction k with
  | zero => rfl
  | succ k ih => simp [ttail, ntail, ih, dig]
theorem ntail_mod (n k : Nat) : ∀ j, j ≤ k → ntail (n % 16 ^ k) j = ntail n j := by
  intro j
  induction j with
  | zero => intro _; rfl
  | succ j ih =>
    intro h
    simp only [ntail]
    rw [ih (by omega)]
    congr 2
    obtain ⟨e, rfl⟩ : ∃ e, k = j + 1 + e := ⟨k - (j + 1), by omega⟩
    have : 16 ^ (j + 1 + e) = 16 ^ j * 16 * 16 ^ e := by rw [Nat.pow_add, Nat.pow_succ]
    rw [this, Nat.mul_assoc]
    rw [Nat.mod_mul_right_div_self]
    rw [Nat.mod_mul_right_mod]
theorem unhex_hexd (v : Nat) (h : v < 16) : unhex (hexd v) = some v := by
  have : ∀ v : Fin 16, unhex (hexd v.val) = some v.val := by decide
  exact this ⟨v, h⟩
theorem hexd_unhex (c : UInt8) (v : Nat) (h : unhex c = some v) : hexd v = c := by
  have : ∀ n : Fin 256, (match unhex (UInt8.ofNat n.val) with
    | none => true
    | some v => decide (hexd v = UInt8.ofNat n.val)) = true := by decide +kernel
  have h2 := this ⟨c.toNat, c.toNat_lt⟩
  simp only [UInt8.ofNat_toNat] at h2
  rw [h] at h2
  simpa using h2
theorem parseL_ntail (n k : Nat) (e : UInt64) : parseL (ntail n k) e = some (e * UInt64.ofNat (16 ^ k) + UInt64.ofNat (n % 16 ^ k)) := by
  induction k generalizing e with
  | zero => simp [ntail, parseL, Nat.mod_one]
  | succ k ih =>
    simp only [ntail, parseL]
    rw [unhex_hexd _ (Nat.mod_lt _ (by decide))]
    simp only []
    rw [ih]
    congr 1
    have h1 : n % 16 ^ (k + 1) = n / 16 ^ k % 16 * 16 ^ k + n % 16 ^ k := by
      rw [Nat.pow_succ, Nat.mod_mul, Nat.add_comm, Nat.mul_comm]
    rw [h1, UInt64.ofNat_add, UInt64.ofNat_mul, Nat.pow_succ, UInt64.ofNat_mul, UInt64.add_mul, ← UInt64.add_assoc, UInt64.mul_assoc]
    congr 2
    rw [UInt64.mul_comm (UInt64.ofNat (16 ^ k))]
    rfl
theorem parse_text (d : UInt64) : parse (text d) = some d := by
  unfold parse
  rw [if_pos (show (text d).length = 16 from rfl), ← ttail_16, ttail_ntail, parseL_ntail]
  simp only [UInt64.zero_mul, UInt64.zero_add]
  rw [Nat.mod_eq_of_lt d.toNat_lt, UInt64.ofNat_toNat]
theorem parseL_inv (l : List UInt8) (e d : UInt64) (h : parseL l e = some d) : ∃ N, N < 16 ^ l.length ∧ ntail N l.length = l ∧ d = e * UInt64.ofNat (16 ^ l.length) + UInt64.ofNat N := by
  induction l generalizing e with
  | nil => exact ⟨0, by simp, rfl, by simp [parseL] at h; simp [h]⟩
  | cons c l ih =>
    simp only [parseL] at h
    cases hu : unhex c with
    | none => rw [hu] at h; simp at h
    | some v =>
      rw [hu] at h
      simp only [] at h
      obtain ⟨N, h1, h2, h3⟩ := ih _ h
      have hv := unhex_lt c v hu
      have hp : 0 < 16 ^ l.length := Nat.pow_pos (by decide)
      refine ⟨v * 16 ^ l.length + N, ?_, ?_, ?_⟩
      · rw [List.length_cons, Nat.pow_succ]
        have : v * 16 ^ l.length ≤ 15 * 16 ^ l.length := Nat.mul_le_mul_right _ (by omega)
        omega
      · simp only [List.length_cons, ntail]
        congr 1
        · rw [Nat.mul_comm, Nat.mul_add_div hp, Nat.div_eq_of_lt h1, Nat.add_zero, Nat.mod_eq_of_lt hv]
          exact hexd_unhex c v hu
        · rw [← ntail_mod _ l.length _ (Nat.le_refl _), Nat.mul_comm, Nat.mul_add_mod, Nat.mod_eq_of_lt h1]
          exact h2
      · rw [h3, List.length_cons, Nat.pow_succ, UInt64.ofNat_mul, UInt64.ofNat_add, UInt64.ofNat_mul, UInt64.add_mul, ← UInt64.add_assoc, UInt64.mul_assoc]
        congr 2
        rw [UInt64.mul_comm (UInt64.ofNat (16 ^ l.length))]
        rfl
theorem text_parse (l : List UInt8) (d : UInt64) (h : parse l = some d) : text d = l := by
  unfold parse at h
  split at h
  · rename_i hl
    obtain ⟨N, h1, h2, h3⟩ := parseL_inv l 0 d h
    rw [hl] at h1 h2
    rw [← ttail_16, ttail_ntail, ← h2]
    congr 1
    rw [h3, UInt64.zero_mul, UInt64.zero_add, UInt64.toNat_ofNat', Nat.mod_eq_of_lt h1]
  · cases h
theorem text_inj (a b : UInt64) (h : text a = text b) : a = b := by
  have := parse_text a
  rw [h, parse_text] at this
  exact (Option.some.inj this).symm
theorem hexd_lt (i j : Nat) (hi : i < 16) (hj : j < 16) : decide (hexd i < hexd j) = decide (i < j) ∧ (hexd i == hexd j) = decide (i = j) := by
  have : ∀ i j : Fin 16, decide (hexd i.val < hexd j.val) = decide (i.val < j.val) ∧ (hexd i.val == hexd j.val) = decide (i.val = j.val) := by decide +kernel
  exact this ⟨i, hi⟩ ⟨j, hj⟩
theorem less_ntail (a b k : Nat) : Op.bytesLess (ntail a k) (ntail b k) = decide (a % 16 ^ k < b % 16 ^ k) := by
  induction k with
  | zero => simp [ntail, Op.bytesLess, Nat.mod_one]
  | succ k ih =>
    have hp : 0 < 16 ^ k := Nat.pow_pos (by decide)
    have ha : a % 16 ^ (k + 1) = 16 ^ k * (a / 16 ^ k % 16) + a % 16 ^ k := by rw [Nat.pow_succ, Nat.mod_mul, Nat.add_comm]
    have hb : b % 16 ^ (k + 1) = 16 ^ k * (b / 16 ^ k % 16) + b % 16 ^ k := by rw [Nat.pow_succ, Nat.mod_mul, Nat.add_comm]
    have h1 := hexd_lt (a / 16 ^ k % 16) (b / 16 ^ k % 16) (Nat.mod_lt _ (by decide)) (Nat.mod_lt _ (by decide))
    have la : a % 16 ^ k < 16 ^ k := Nat.mod_lt _ hp
    have lb : b % 16 ^ k < 16 ^ k := Nat.mod_lt _ hp
    simp only [ntail, Op.bytesLess]
    rw [h1.1, h1.2, ih, ha, hb]
    generalize a / 16 ^ k % 16 = x
    generalize b / 16 ^ k % 16 = y
    generalize a % 16 ^ k = u at la ⊢
    generalize b % 16 ^ k = v at lb ⊢
    generalize 16 ^ k = p at hp la lb
    rw [Bool.eq_iff_iff]
    simp only [Bool.or_eq_true, Bool.and_eq_true, decide_eq_true_iff]
    constructor
    · rintro (h | ⟨rfl, h⟩)
      · have : p * (x + 1) ≤ p * y := Nat.mul_le_mul_left _ h
        rw [Nat.mul_add] at this; omega
      · omega
    · intro h
      rcases Nat.lt_trichotomy x y with h2 | rfl | h2
      · exact .inl h2
      · exact .inr ⟨rfl, by omega⟩
      · have : p * (y + 1) ≤ p * x := Nat.mul_le_mul_left _ h2
        rw [Nat.mul_add] at this; omega
theorem less_text (a b : UInt64) : Op.bytesLess (text a) (text b) = decide ((a.toNat : Int) < (b.toNat : Int)) := by
  rw [← ttail_16, ← ttail_16, ttail_ntail, ttail_ntail, less_ntail, Nat.mod_eq_of_lt a.toNat_lt, Nat.mod_eq_of_lt b.toNat_lt, decide_eq_decide]
  omega
theorem eq_text (a b : UInt64) : (text a == text b) = ((a.toNat : Int) == (b.toNat : Int)) := by
  rw [beq_uu, Bool.eq_iff_iff, beq_iff_eq, decide_eq_true_iff]
  exact ⟨text_inj a b, fun h => by rw [h]⟩
end Go.Dig
