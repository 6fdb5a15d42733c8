/- Plain laws of the calendar: texts and dates. -/
import Derived.Test.YtnfjpmchdbgonaaDoorCalLawC
namespace Go.Proofs.YtnfjpmchdbgonaaDoor
open Go.RowKit Go.Sort
set_option linter.unusedVariables false
theorem dig_toNat (a : Nat) (h : a < 10) : (Cal.dig a).toNat = 48 + a := by
  unfold Cal.dig
  rw [UInt8.toNat_ofNat']
  omega
theorem dv_dig (a : Nat) (h : a < 10) : dv (Cal.dig a) = a := by unfold dv; rw [dig_toNat a h]; omega
theorem isD_dig (a : Nat) (h : a < 10) : isD (Cal.dig a) = true := decide_eq_true (by rw [dig_toNat a h]; omega)
theorem dig_dv (c : UInt8) (h : isD c = true) : Cal.dig (dv c) = c := by
  have := isD_b h
  apply UInt8.toNat_inj.1
  unfold dv
  rw [dig_toNat _ (by omega)]
  omega
theorem dig_lt (a b : Nat) (ha : a < 10) (hb : b < 10) : (decide (Cal.dig a < Cal.dig b) = decide (a < b)) ∧ ((Cal.dig a == Cal.dig b) = decide (a = b)) := by
  constructor
  · rw [decide_eq_decide, UInt8.lt_iff_toNat_lt, dig_toNat a ha, dig_toNat b hb]
    omega
  · rw [Bool.eq_iff_iff, beq_iff_eq, decide_eq_true_iff]
    constructor
    · intro h
      have := congrArg UInt8.toNat h
      rw [dig_toNat a ha, dig_toNat b hb] at this
      omega
    · intro h; rw [h]
theorem text_len (y m d : Nat) : (Cal.text y m d).length = 10 := rfl
theorem text_ok10 (y m d : Nat) (hy : y < 10000) (hm : m < 100) (hd : d < 100) : okF (Cal.text y m d) = true ∧ yOf (Cal.text y m d) = y ∧ mOf (Cal.text y m d) = m ∧ dOf (Cal.text y m d) = d := by
  have e : Cal.text y m d = [Cal.dig (y / 1000), Cal.dig (y / 100 % 10), Cal.dig (y / 10 % 10), Cal.dig (y % 10), 45, Cal.dig (m / 10), Cal.dig (m % 10), 45, Cal.dig (d / 10), Cal.dig (d % 10)] := rfl
  rw [e]
  refine ⟨?_, ?_, ?_, ?_⟩
  · unfold okF
    rw [decide_eq_true (by rfl), Bool.true_and, List.all_eq_true]
    intro k hk
    have hk := List.mem_range.1 hk
    rcases (show k = 0 ∨ k = 1 ∨ k = 2 ∨ k = 3 ∨ k = 4 ∨ k = 5 ∨ k = 6 ∨ k = 7 ∨ k = 8 ∨ k = 9 by omega) with rfl | rfl | rfl | rfl | rfl | rfl | rfl | rfl | rfl | rfl
    · exact isD_dig _ (by omega)
    · exact isD_dig _ (by omega)
    · exact isD_dig _ (by omega)
    · exact isD_dig _ (by omega)
    · rfl
    · exact isD_dig _ (by omega)
    · exact isD_dig _ (by omega)
    · rfl
    · exact isD_dig _ (by omega)
    · exact isD_dig _ (by omega)
  · show ((dv (Cal.dig (y / 1000)) * 10 + dv (Cal.dig (y / 100 % 10))) * 10 + dv (Cal.dig (y / 10 % 10))) * 10 + dv (Cal.dig (y % 10)) = y
    rw [dv_dig _ (by omega), dv_dig _ (by omega), dv_dig _ (by omega), dv_dig _ (by omega)]
    omega
  · show dv (Cal.dig (m / 10)) * 10 + dv (Cal.dig (m % 10)) = m
    rw [dv_dig _ (by omega), dv_dig _ (by omega)]
    omega
  · show dv (Cal.dig (d / 10)) * 10 + dv (Cal.dig (d % 10)) = d
    rw [dv_dig _ (by omega), dv_dig _ (by omega)]
    omega
theorem text_back10 (l : List UInt8) (h : okF l = true) : Cal.text (yOf l) (mOf l) (dOf l) = l ∧ yOf l < 10000 ∧ mOf l < 100 ∧ dOf l < 100 := by
  have hlen : l.length = 10 := by
    have h' := h
    unfold okF at h'
    rw [Bool.and_eq_true] at h'
    exact of_decide_eq_true h'.1
  obtain ⟨c0, c1, c2, c3, c4, c5, c6, c7, c8, c9, rfl⟩ := ten l hlen
  have a0 : isD c0 = true := okF_at h 0 (by omega)
  have a1 : isD c1 = true := okF_at h 1 (by omega)
  have a2 : isD c2 = true := okF_at h 2 (by omega)
  have a3 : isD c3 = true := okF_at h 3 (by omega)
  have a4 := okF_at h 4 (by omega)
  have a5 : isD c5 = true := okF_at h 5 (by omega)
  have a6 : isD c6 = true := okF_at h 6 (by omega)
  have a7 := okF_at h 7 (by omega)
  have a8 : isD c8 = true := okF_at h 8 (by omega)
  have a9 : isD c9 = true := okF_at h 9 (by omega)
  have e4 : c4 = 45 := by simpa [okAt] using a4
  have e7 : c7 = 45 := by simpa [okAt] using a7
  subst e4 e7
  have hdv : ∀ c, isD c = true → dv c ≤ 9 := fun c hc => by have := isD_b hc; unfold dv; omega
  have b0 := hdv _ a0
  have b1 := hdv _ a1
  have b2 := hdv _ a2
  have b3 := hdv _ a3
  have b5 := hdv _ a5
  have b6 := hdv _ a6
  have b8 := hdv _ a8
  have b9 := hdv _ a9
  have ey : yOf [c0, c1, c2, c3, 45, c5, c6, 45, c8, c9] = ((dv c0 * 10 + dv c1) * 10 + dv c2) * 10 + dv c3 := rfl
  have em : mOf [c0, c1, c2, c3, 45, c5, c6, 45, c8, c9] = dv c5 * 10 + dv c6 := rfl
  have ed : dOf [c0, c1, c2, c3, 45, c5, c6, 45, c8, c9] = dv c8 * 10 + dv c9 := rfl
  rw [ey, em, ed]
  refine ⟨?_, by omega, by omega, by omega⟩
  have e : ∀ y m d : Nat, Cal.text y m d = [Cal.dig (y / 1000), Cal.dig (y / 100 % 10), Cal.dig (y / 10 % 10), Cal.dig (y % 10), 45, Cal.dig (m / 10), Cal.dig (m % 10), 45, Cal.dig (d / 10), Cal.dig (d % 10)] := fun _ _ _ => rfl
  rw [e, show (((dv c0 * 10 + dv c1) * 10 + dv c2) * 10 + dv c3) / 1000 = dv c0 by omega, show (((dv c0 * 10 + dv c1) * 10 + dv c2) * 10 + dv c3) / 100 % 10 = dv c1 by omega, show (((dv c0 * 10 + dv c1) * 10 + dv c2) * 10 + dv c3) / 10 % 10 = dv c2 by omega, show (((dv c0 * 10 + dv c1) * 10 + dv c2) * 10 + dv c3) % 10 = dv c3 by omega, show (dv c5 * 10 + dv c6) / 10 = dv c5 by omega, show (dv c5 * 10 + dv c6) % 10 = dv c6 by omega, show (dv c8 * 10 + dv c9) / 10 = dv c8 by omega, show (dv c8 * 10 + dv c9) % 10 = dv c9 by omega,
    dig_dv _ a0, dig_dv _ a1, dig_dv _ a2, dig_dv _ a3, dig_dv _ a5, dig_dv _ a6, dig_dv _ a8, dig_dv _ a9]
theorem less_cons (a b : Nat) (ha : a < 10) (hb : b < 10) (l r : List UInt8) : Op.bytesLess (Cal.dig a :: l) (Cal.dig b :: r) = (decide (a < b) || (decide (a = b) && Op.bytesLess l r)) := by
  rw [Op.bytesLess, (dig_lt a b ha hb).1, (dig_lt a b ha hb).2]
theorem less_dash (l r : List UInt8) : Op.bytesLess (45 :: l) (45 :: r) = Op.bytesLess l r := by
  rw [Op.bytesLess]; simp
theorem less_two (m m' : Nat) (h : m < 100) (h' : m' < 100) (l r : List UInt8) : Op.bytesLess (Cal.two m ++ l) (Cal.two m' ++ r) = (decide (m < m') || (decide (m = m') && Op.bytesLess l r)) := by
  show Op.bytesLess (Cal.dig (m / 10) :: Cal.dig (m % 10) :: l) (Cal.dig (m' / 10) :: Cal.dig (m' % 10) :: r) = _
  rw [less_cons _ _ (by omega) (by omega), less_cons _ _ (by omega) (by omega)]
  cases Op.bytesLess l r
  · rw [Bool.eq_iff_iff]; simp only [Bool.or_eq_true, Bool.and_eq_true, decide_eq_true_iff, Bool.false_eq_true, and_false, or_false]; omega
  · rw [Bool.eq_iff_iff]; simp only [Bool.or_eq_true, Bool.and_eq_true, decide_eq_true_iff, and_true]; omega
theorem less_four (m m' : Nat) (h : m < 10000) (h' : m' < 10000) (l r : List UInt8) : Op.bytesLess (Cal.four m ++ l) (Cal.four m' ++ r) = (decide (m < m') || (decide (m = m') && Op.bytesLess l r)) := by
  show Op.bytesLess (Cal.dig (m / 1000) :: Cal.dig (m / 100 % 10) :: Cal.dig (m / 10 % 10) :: Cal.dig (m % 10) :: l) (Cal.dig (m' / 1000) :: Cal.dig (m' / 100 % 10) :: Cal.dig (m' / 10 % 10) :: Cal.dig (m' % 10) :: r) = _
  rw [less_cons _ _ (by omega) (by omega), less_cons _ _ (by omega) (by omega), less_cons _ _ (by omega) (by omega), less_cons _ _ (by omega) (by omega)]
  cases Op.bytesLess l r
  · rw [Bool.eq_iff_iff]; simp only [Bool.or_eq_true, Bool.and_eq_true, decide_eq_true_iff, Bool.false_eq_true, and_false, or_false]; omega
  · rw [Bool.eq_iff_iff]; simp only [Bool.or_eq_true, Bool.and_eq_true, decide_eq_true_iff, and_true]; omega
/-- The text of a day. -/
def dtext (n M : Nat) : List UInt8 := Cal.text (2000 + M / 12) (M % 12 + 1) (Cal.dom n M)
theorem dtext_less {n M k K : Nat} (h : Cal.InM n M) (h' : Cal.InM k K) : Op.bytesLess (dtext n M) (dtext k K) = decide (n < k) := by
  have hd := h.dom
  have hd' := h'.dom
  have hl := Cal.lenM_bounds M
  have hl' := Cal.lenM_bounds K
  have hM := h.1
  have hK := h'.1
  have e : ∀ y m d, Cal.text y m d = Cal.four y ++ (45 :: (Cal.two m ++ (45 :: (Cal.two d ++ [])))) := fun y m d => by simp [Cal.text]
  unfold dtext
  rw [e, e, less_four _ _ (by omega) (by omega), less_dash, less_two _ _ (by omega) (by omega), less_dash, less_two _ _ (by omega) (by omega)]
  have hn : Op.bytesLess [] [] = false := rfl
  rw [hn, Bool.and_false, Bool.or_false, Bool.eq_iff_iff]
  simp only [Bool.or_eq_true, Bool.and_eq_true, decide_eq_true_iff]
  rcases Nat.lt_trichotomy M K with hlt | heq | hgt
  · have h3 := Cal.first_le (show M + 1 ≤ K from hlt)
    have h4 := h.2.2
    have h5 := h'.2.1
    constructor
    · intro _; omega
    · intro _; omega
  · subst heq
    constructor
    · intro hh; omega
    · intro hh; exact .inr ⟨rfl, .inr ⟨rfl, by omega⟩⟩
  · have h3 := Cal.first_le (show K + 1 ≤ M from hgt)
    have h4 := h'.2.2
    have h5 := h.2.1
    constructor
    · intro hh; omega
    · intro _; omega
theorem dtext_inj {n M k K : Nat} (h : Cal.InM n M) (h' : Cal.InM k K) (he : dtext n M = dtext k K) : n = k := by
  have h1 := dtext_less h h'
  have h2 := dtext_less h' h
  have h3 : Op.bytesLess (dtext n M) (dtext k K) = Op.bytesLess (dtext k K) (dtext n M) := by rw [he]
  rw [h1, h2, decide_eq_decide] at h3
  omega
theorem day_of {n M : Nat} (h : Cal.InM n M) : dayI ((2000 + M / 12 : Nat) : Int) ((M % 12 + 1 : Nat) : Int) ((Cal.dom n M : Nat) : Int) = (n : Int) ∧ dayE ((2000 + M / 12 : Nat) : Int) ((M % 12 + 1 : Nat) : Int) ((Cal.dom n M : Nat) : Int) = 0 := by
  have hd := h.dom
  have hM := h.1
  have e1 : (((2000 + M / 12 : Nat) : Int) - 2000).toNat = M / 12 := by omega
  have e2 : (((M % 12 + 1 : Nat) : Int) - 1).toNat = M % 12 := by omega
  have hl : Cal.len (M / 12) (M % 12) = Cal.lenM M := rfl
  have hP : dayP ((2000 + M / 12 : Nat) : Int) ((M % 12 + 1 : Nat) : Int) ((Cal.dom n M : Nat) : Int) := by
    unfold dayP
    rw [e1, e2, hl]
    omega
  unfold dayI dayE
  rw [if_pos hP, if_pos hP, e1, e2, show M / 12 * 12 + M % 12 = M by omega]
  exact ⟨by omega, rfl⟩
theorem of_day {y m d : Int} (h : dayP y m d) : ∃ n M : Nat, Cal.InM n M ∧ dayI y m d = (n : Int) ∧ y = ((2000 + M / 12 : Nat) : Int) ∧ m = ((M % 12 + 1 : Nat) : Int) ∧ d = ((Cal.dom n M : Nat) : Int) := by
  obtain ⟨⟨h1, h2⟩, ⟨h3, h4⟩, h5, h6⟩ := h
  obtain ⟨Y, rfl⟩ : ∃ Y : Nat, y = 2000 + (Y : Int) := ⟨(y - 2000).toNat, by omega⟩
  obtain ⟨k, rfl⟩ : ∃ k : Nat, m = (k : Int) + 1 := ⟨(m - 1).toNat, by omega⟩
  obtain ⟨D, rfl⟩ : ∃ D : Nat, d = (D : Int) := ⟨d.toNat, by omega⟩
  have e1 : ((2000 + (Y : Int)) - 2000).toNat = Y := by omega
  have e2 : (((k : Int) + 1) - 1).toNat = k := by omega
  rw [e1, e2] at h6
  have hk : k < 12 := by omega
  have hlen := Cal.lenM_year Y k hk
  have hin : Cal.InM (Cal.first (Y * 12 + k) + D - 1) (Y * 12 + k) := Cal.inM_of (by omega) (by omega) (by rw [hlen]; omega)
  have hdm := hin.dom
  refine ⟨_, _, hin, ?_, by omega, by omega, ?_⟩
  · unfold dayI
    rw [if_pos ⟨⟨h1, h2⟩, ⟨h3, h4⟩, h5, by rw [e1, e2]; exact h6⟩, e1, e2]
    omega
  · omega
theorem par_text {n M : Nat} (h : Cal.InM n M) : parI (dtext n M) = (n : Int) ∧ parE (dtext n M) = 0 := by
  have hd := h.dom
  have hl := Cal.lenM_bounds M
  have hM := h.1
  obtain ⟨h1, h2, h3, h4⟩ := text_ok10 (2000 + M / 12) (M % 12 + 1) (Cal.dom n M) (by omega) (by omega) (by omega)
  unfold parI parE dtext
  rw [h1, h2, h3, h4]
  exact day_of h
theorem par_back {l : List UInt8} (h : parE l = 0) : ∃ n M : Nat, Cal.InM n M ∧ parI l = (n : Int) ∧ dtext n M = l := by
  unfold parE at h
  cases hok : okF l with
  | false => rw [hok] at h; cases h
  | true =>
    rw [hok] at h
    simp only [if_true] at h
    obtain ⟨h1, h2, h3, h4⟩ := text_back10 l hok
    have hP : dayP (yOf l) (mOf l) (dOf l) := by
      by_cases hp : dayP (yOf l) (mOf l) (dOf l)
      · exact hp
      · unfold dayE at h
        rw [if_neg hp] at h
        cases h
    obtain ⟨n, M, hin, hi, hy, hm, hd⟩ := of_day hP
    refine ⟨n, M, hin, ?_, ?_⟩
    · unfold parI
      rw [hok]
      exact hi
    · unfold dtext
      rw [← h1]
      congr 1 <;> omega
theorem par_err (l : List UInt8) (h : parE l ≠ 0) : parI l = 0 ∧ (parE l = 12 ∨ parE l = 21) := by
  unfold parE at h ⊢
  unfold parI
  cases hok : okF l with
  | false => exact ⟨rfl, .inl rfl⟩
  | true =>
    rw [hok] at h
    simp only [if_true] at h ⊢
    unfold dayE at h ⊢
    unfold dayI
    by_cases hp : dayP (yOf l) (mOf l) (dOf l)
    · rw [if_pos hp] at h; exact absurd rfl h
    · rw [if_neg hp, if_neg hp]; exact ⟨rfl, .inr rfl⟩
end Go.Proofs.YtnfjpmchdbgonaaDoor
