/- The walks of the reference of calendar, first part: Long, Days, First, Length, Date, Month, Weekday, Later, Day. -/
import Derived.Test.YtnfjpmchdbgonaaDoorCalPlain
namespace Go.Proofs.YtnfjpmchdbgonaaDoor
open Go.RowKit Go.Sort
set_option linter.unusedVariables false
theorem long_any (Y : Nat) (hY : Y < 100) (b : Bool) (hb : decide (Y % 4 = 0) = b) (w : World) : Calls Tryd.prog 37 #[.int .i64 ((2000 : Int) + (Y : Int))] w fun e w' => e = .returned (.bool b) ∧ w = w' := by
  subst hb
  by_cases h4 : Y % 4 = 0
  · rw [decide_eq_true h4]
    have d1 : (((2000 : Int) + (Y : Int)) % 4 == 0) = true := by simp; omega
    by_cases h0 : Y = 0
    · subst h0
      go_enter Tryd.func37, Tryd.ntmps37
      go_wp2
      go_ret
      exact ⟨rfl, rfl⟩
    · have d2 : (((2000 : Int) + (Y : Int)) % 100 != 0) = true := by simp; omega
      go_enter Tryd.func37, Tryd.ntmps37
      go_wp2
      go_ret
      exact ⟨rfl, rfl⟩
  · rw [decide_eq_false h4]
    have d1 : (((2000 : Int) + (Y : Int)) % 4 == 0) = false := by simp; omega
    go_enter Tryd.func37, Tryd.ntmps37
    go_wp2
    go_ret
    exact ⟨rfl, rfl⟩
theorem days_any (Y k l : Nat) (hY : Y < 100) (hk : k < 12) (hl : Cal.len Y k = l) (y m : Int) (hy : y = 2000 + (Y : Int)) (hm : m = (k : Int) + 1) (w : World) : Calls Tryd.prog 31 #[.int .i64 y, .int .i64 m] w fun e w' => e = .returned (.int .i64 (l : Int)) ∧ w = w' := by
  subst hy hm
  rcases Cal.k12 k hk with rfl | rfl | rfl | rfl | rfl | rfl | rfl | rfl | rfl | rfl | rfl | rfl
  · obtain rfl : l = 31 := by rw [← hl]; simp [Cal.len, Cal.bef]
    clear hl
    go_enter Tryd.func31, Tryd.ntmps31
    go_wp2_with fail
    go_ret
    exact ⟨rfl, rfl⟩
  · by_cases h4 : Y % 4 = 0
    · obtain rfl : l = 29 := by rw [← hl]; simp [Cal.len, Cal.bef, h4]
      clear hl
      go_enter Tryd.func31, Tryd.ntmps31
      go_wp2_with fail
      refine (long_any Y hY true (decide_eq_true h4) _).mono ?_
      rintro e w' ⟨rfl, rfl⟩
      go_wp2_with fail
      go_ret
      exact ⟨rfl, rfl⟩
    · obtain rfl : l = 28 := by rw [← hl]; simp [Cal.len, Cal.bef, h4]
      clear hl
      go_enter Tryd.func31, Tryd.ntmps31
      go_wp2_with fail
      refine (long_any Y hY false (decide_eq_false h4) _).mono ?_
      rintro e w' ⟨rfl, rfl⟩
      go_wp2_with fail
      go_ret
      exact ⟨rfl, rfl⟩
  · obtain rfl : l = 31 := by rw [← hl]; simp [Cal.len, Cal.bef]
    clear hl
    go_enter Tryd.func31, Tryd.ntmps31
    go_wp2_with fail
    go_ret
    exact ⟨rfl, rfl⟩
  · obtain rfl : l = 30 := by rw [← hl]; simp [Cal.len, Cal.bef]
    clear hl
    go_enter Tryd.func31, Tryd.ntmps31
    go_wp2_with fail
    go_ret
    exact ⟨rfl, rfl⟩
  · obtain rfl : l = 31 := by rw [← hl]; simp [Cal.len, Cal.bef]
    clear hl
    go_enter Tryd.func31, Tryd.ntmps31
    go_wp2_with fail
    go_ret
    exact ⟨rfl, rfl⟩
  · obtain rfl : l = 30 := by rw [← hl]; simp [Cal.len, Cal.bef]
    clear hl
    go_enter Tryd.func31, Tryd.ntmps31
    go_wp2_with fail
    go_ret
    exact ⟨rfl, rfl⟩
  · obtain rfl : l = 31 := by rw [← hl]; simp [Cal.len, Cal.bef]
    clear hl
    go_enter Tryd.func31, Tryd.ntmps31
    go_wp2_with fail
    go_ret
    exact ⟨rfl, rfl⟩
  · obtain rfl : l = 31 := by rw [← hl]; simp [Cal.len, Cal.bef]
    clear hl
    go_enter Tryd.func31, Tryd.ntmps31
    go_wp2_with fail
    go_ret
    exact ⟨rfl, rfl⟩
  · obtain rfl : l = 30 := by rw [← hl]; simp [Cal.len, Cal.bef]
    clear hl
    go_enter Tryd.func31, Tryd.ntmps31
    go_wp2_with fail
    go_ret
    exact ⟨rfl, rfl⟩
  · obtain rfl : l = 31 := by rw [← hl]; simp [Cal.len, Cal.bef]
    clear hl
    go_enter Tryd.func31, Tryd.ntmps31
    go_wp2_with fail
    go_ret
    exact ⟨rfl, rfl⟩
  · obtain rfl : l = 30 := by rw [← hl]; simp [Cal.len, Cal.bef]
    clear hl
    go_enter Tryd.func31, Tryd.ntmps31
    go_wp2_with fail
    go_ret
    exact ⟨rfl, rfl⟩
  · obtain rfl : l = 31 := by rw [← hl]; simp [Cal.len, Cal.bef]
    clear hl
    go_enter Tryd.func31, Tryd.ntmps31
    go_wp2_with fail
    go_ret
    exact ⟨rfl, rfl⟩
theorem rfirst_no (m : Int) (h : m < 0 ∨ 1199 < m) (w : World) : Calls Tryd.prog 22 #[.int .i64 m] w fun e w' => e = .returned (.int .i64 (-1)) ∧ w = w' := by
  rcases h with h | h
  · go_enter Tryd.func22, Tryd.ntmps22
    go_wp2_with fail
    go_ret
    exact ⟨rfl, rfl⟩
  · have h' : ¬ m < 0 := by omega
    go_enter Tryd.func22, Tryd.ntmps22
    go_wp2_with fail
    go_ret
    exact ⟨rfl, rfl⟩
set_option maxRecDepth 100000 in
theorem rfirst_ok (m : Nat) (f : Nat) (hm : m < 1200) (hf : Cal.first m = f) (w : World) : Calls Tryd.prog 22 #[.int .i64 (m : Int)] w fun e w' => e = .returned (.int .i64 (f : Int)) ∧ w = w' := by
  have Hf := Lib.hid hf
  clear hf
  have h1 : ¬ ((m : Int) < 0) := by omega
  have h2 : ¬ ((1199 : Int) < (m : Int)) := by omega
  go_enter Tryd.func22, Tryd.ntmps22
  go_wp2_with fail
  go_loop [3, 4] (fun s i => ∃ j S : Nat, j ≤ m ∧ i = .int .i64 (j : Int) ∧ s = .int .i64 (S : Int) ∧ S = Cal.first j) (fun _ i => m - (intOf i).toNat)
  case atStart => exact ⟨0, 0, by omega, rfl, rfl, rfl⟩
  case round =>
    obtain ⟨j, S, hj, rfl, rfl, hS⟩ := hrel
    have hfb := Cal.first_bound (show j ≤ 1200 by omega)
    have hSb : S ≤ 36525 := by omega
    have HS := Lib.hid hS
    clear hS hfb
    by_cases hlt : j < m
    · have hfs := Cal.first_succ j
      have hlb := Cal.lenM_bounds j
      obtain ⟨l, hl⟩ : ∃ l, Cal.lenM j = l := ⟨_, rfl⟩
      rw [hl] at hfs hlb
      have Hl := Lib.hid (And.intro hl hfs)
      clear hl hfs
      have hj0 : (0 : Int) ≤ (j : Int) := Int.natCast_nonneg _
      go_wp2_with fail
      refine (days_any (j / 12) (j % 12) l (by omega) (by omega) Hl.out.1 _ _ (by omega) (by omega) _).mono ?_
      rintro e w' ⟨rfl, rfl⟩
      go_wp2_with fail
      go_round
      case rel => exact ⟨j + 1, S + l, by omega, by go_num, by go_num, by rw [Hl.out.2, HS.out]⟩
      case measure => simp [intOf]; omega
    · obtain rfl : j = m := by omega
      go_wp2_with fail
      go_ret
      rw [← Hf.out, HS.out]
      exact ⟨rfl, rfl⟩
theorem rlength_no (m : Int) (h : m < 0 ∨ 1199 < m) (w : World) : Calls Tryd.prog 24 #[.int .i64 m] w fun e w' => e = .returned (.int .i64 0) ∧ w = w' := by
  rcases h with h | h
  · go_enter Tryd.func24, Tryd.ntmps24
    go_wp2_with fail
    go_ret
    exact ⟨rfl, rfl⟩
  · have h' : ¬ m < 0 := by omega
    go_enter Tryd.func24, Tryd.ntmps24
    go_wp2_with fail
    go_ret
    exact ⟨rfl, rfl⟩
theorem rlength_ok (m : Nat) (l : Nat) (hm : m < 1200) (hl : Cal.lenM m = l) (w : World) : Calls Tryd.prog 24 #[.int .i64 (m : Int)] w fun e w' => e = .returned (.int .i64 (l : Int)) ∧ w = w' := by
  have Hl := Lib.hid hl
  clear hl
  have h1 : ¬ ((m : Int) < 0) := by omega
  have h2 : ¬ ((1199 : Int) < (m : Int)) := by omega
  have h0 : (0 : Int) ≤ (m : Int) := Int.natCast_nonneg _
  go_enter Tryd.func24, Tryd.ntmps24
  go_wp2_with fail
  refine (days_any (m / 12) (m % 12) l (by omega) (by omega) Hl.out _ _ (by omega) (by omega) _).mono ?_
  rintro e w' ⟨rfl, rfl⟩
  go_wp2_with fail
  go_ret
  exact ⟨rfl, rfl⟩
theorem rdate_no (n : Int) (h : validB n = false) (w : World) : Calls Tryd.prog 12 #[.int .i64 n] w fun e w' => e = .returned (.tuple #[.int .i64 0, .int .i64 0, .int .i64 0]) ∧ w = w' := by
  have h' : n < 0 ∨ 36524 < n := by
    have := of_decide_eq_false h
    omega
  clear h
  rcases h' with h | h
  · go_enter Tryd.func12, Tryd.ntmps12
    go_wp2_with fail
    go_ret3
    exact ⟨rfl, rfl⟩
  · have h' : ¬ n < 0 := by omega
    go_enter Tryd.func12, Tryd.ntmps12
    go_wp2_with fail
    go_ret3
    exact ⟨rfl, rfl⟩
set_option maxRecDepth 100000 in
set_option maxHeartbeats 1000000 in
theorem rdate_ok (n M y m d : Nat) (h : Cal.InM n M) (hy : 2000 + M / 12 = y) (hm : M % 12 + 1 = m) (hd : Cal.dom n M = d) (w : World) : Calls Tryd.prog 12 #[.int .i64 (n : Int)] w fun e w' => e = .returned (.tuple #[.int .i64 (y : Int), .int .i64 (m : Int), .int .i64 (d : Int)]) ∧ w = w' := by
  have hn := h.day
  have hM := h.1
  have H := Lib.hid (And.intro h (And.intro hy (And.intro hm hd)))
  clear h hy hm hd
  have h1 : ¬ ((n : Int) < 0) := by omega
  have h2 : ¬ ((36524 : Int) < (n : Int)) := by omega
  go_enter Tryd.func12, Tryd.ntmps12
  go_wp2_with fail
  go_loop [0, 5, 6] (fun r yy mm => ∃ Y k R : Nat, r = .int .i64 (R : Int) ∧ yy = .int .i64 ((2000 : Int) + (Y : Int)) ∧ mm = .int .i64 ((k : Int) + 1) ∧ k < 12 ∧ Y * 12 + k ≤ M ∧ Cal.first (Y * 12 + k) + R = n) (fun r _ _ => (intOf r).toNat)
  case atStart => exact ⟨0, 0, n, rfl, rfl, rfl, by omega, by omega, by simp [Cal.first_0]⟩
  case round =>
    obtain ⟨Y, k, R, rfl, rfl, rfl, hk, hKM, hR⟩ := hrel
    have hRn : R ≤ n := by omega
    have HR := Lib.hid hR
    clear hR
    have hlen := Cal.lenM_year Y k hk
    have hfs := Cal.first_succ (Y * 12 + k)
    have hlb := Cal.lenM_bounds (Y * 12 + k)
    obtain ⟨l, hl⟩ : ∃ l, Cal.len Y k = l := ⟨_, rfl⟩
    rw [hlen, hl] at hfs hlb
    have Hl := Lib.hid (And.intro hl hfs)
    clear hl hfs hlen
    by_cases hin : R < l
    · have hin' : ¬ ((l : Int) ≤ (R : Int)) := by omega
      have hMe : M = Y * 12 + k := by
        have h1 := HR.out
        have h2 := Hl.out.2
        exact Cal.InM.unique H.out.1 ⟨by omega, by omega, by omega⟩
      have hd : d = R + 1 := by
        rw [← H.out.2.2.2]
        unfold Cal.dom
        rw [hMe]
        have := HR.out
        omega
      have hy : y = 2000 + Y := by have := H.out.2.1; omega
      have hm : m = k + 1 := by have := H.out.2.2.1; omega
      have HX := Lib.hid (And.intro hd (And.intro hy hm))
      clear hMe hd hy hm
      go_wp2_with fail
      refine (days_any Y k l (by omega) hk Hl.out.1 _ _ rfl rfl _).mono ?_
      rintro e w' ⟨rfl, rfl⟩
      go_wp2_with fail
      go_ret3
      obtain ⟨hd, hy, hm⟩ := HX.out
      rw [hd, hy, hm]
      exact ⟨rfl, rfl⟩
    · have hin' : (l : Int) ≤ (R : Int) := by omega
      have hnext : Y * 12 + k + 1 ≤ M := inM_le H.out.1 (by rw [Hl.out.2]; have := HR.out; omega)
      by_cases hk11 : k = 11
      · subst hk11
        go_wp2_with fail
        refine (days_any Y 11 l (by omega) (by omega) Hl.out.1 _ _ rfl rfl _).mono ?_
        rintro e w' ⟨rfl, rfl⟩
        go_wp2_with fail
        refine (days_any Y 11 l (by omega) (by omega) Hl.out.1 _ _ rfl rfl _).mono ?_
        rintro e w' ⟨rfl, rfl⟩
        go_wp2_with fail
        go_round
        case rel => exact ⟨Y + 1, 0, R - l, by rw [show ((R - l : Nat) : Int) = (R : Int) - (l : Int) by omega], by go_num, rfl, by omega, by omega, by rw [show (Y + 1) * 12 + 0 = Y * 12 + 11 + 1 by omega, Hl.out.2]; have := HR.out; omega⟩
        case measure => simp [intOf]; omega
      · have hk12 : ¬ ((12 : Int) < (k : Int) + 1 + 1) := by omega
        go_wp2_with fail
        refine (days_any Y k l (by omega) hk Hl.out.1 _ _ rfl rfl _).mono ?_
        rintro e w' ⟨rfl, rfl⟩
        go_wp2_with fail
        refine (days_any Y k l (by omega) hk Hl.out.1 _ _ rfl rfl _).mono ?_
        rintro e w' ⟨rfl, rfl⟩
        go_wp2_with fail
        go_round
        case rel => exact ⟨Y, k + 1, R - l, by rw [show ((R - l : Nat) : Int) = (R : Int) - (l : Int) by omega], rfl, by go_num, by omega, by omega, by rw [← Nat.add_assoc, Hl.out.2]; have := HR.out; omega⟩
        case measure => simp [intOf]; omega
end Go.Proofs.YtnfjpmchdbgonaaDoor
