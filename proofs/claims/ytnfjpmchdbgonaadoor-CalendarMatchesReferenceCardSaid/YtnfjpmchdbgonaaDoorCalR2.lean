/- The walks of the reference of calendar, second part: Month, Weekday, Later, Day, two, Text, number, Parse. -/
import Derived.Test.YtnfjpmchdbgonaaDoorCalR1
import Derived.Laws.IdiomStrings
namespace Go.Proofs.YtnfjpmchdbgonaaDoor
open Go.RowKit Go.Sort
set_option linter.unusedVariables false
theorem rmonth_no (n : Int) (h : validB n = false) (w : World) : Calls Tryd.prog 18 #[.int .i64 n] w fun e w' => e = .returned (.int .i64 (-1)) ∧ w = w' := by
  have H := Lib.hid h
  clear h
  go_enter Tryd.func18, Tryd.ntmps18
  go_wp2_with fail
  refine (rdate_no n H.out _).mono ?_
  rintro e w' ⟨rfl, rfl⟩
  go_wp2_with fail
  go_ret
  exact ⟨rfl, rfl⟩
theorem rmonth_ok (n M : Nat) (h : Cal.InM n M) (w : World) : Calls Tryd.prog 18 #[.int .i64 (n : Int)] w fun e w' => e = .returned (.int .i64 (M : Int)) ∧ w = w' := by
  have hM := h.1
  obtain ⟨y, hy⟩ : ∃ y, 2000 + M / 12 = y := ⟨_, rfl⟩
  obtain ⟨m, hm⟩ : ∃ m, M % 12 + 1 = m := ⟨_, rfl⟩
  have hy1 : 2000 ≤ y := by omega
  have hy2 : y ≤ 2100 := by omega
  have hm1 : m ≤ 12 := by omega
  have hres : ((y : Int) - 2000) * 12 + (m : Int) - 1 = (M : Int) := by omega
  have hy0 : ((y : Int) == 0) = false := beq_eq_false_iff_ne.2 (by omega)
  have HR := Lib.hid (And.intro h (And.intro hy (And.intro hm hres)))
  clear h hy hm hres
  go_enter Tryd.func18, Tryd.ntmps18
  go_wp2_with fail
  refine (rdate_ok n M y m _ HR.out.1 HR.out.2.1 HR.out.2.2.1 rfl _).mono ?_
  rintro e w' ⟨rfl, rfl⟩
  go_wp2_with fail
  go_ret
  rw [HR.out.2.2.2]
  exact ⟨rfl, rfl⟩
theorem rweekday_no (n : Int) (h : validB n = false) (w : World) : Calls Tryd.prog 16 #[.int .i64 n] w fun e w' => e = .returned (.int .i64 0) ∧ w = w' := by
  have h' : n < 0 ∨ 36524 < n := by
    have := of_decide_eq_false h
    omega
  clear h
  rcases h' with h | h
  · go_enter Tryd.func16, Tryd.ntmps16
    go_wp2_with fail
    go_ret
    exact ⟨rfl, rfl⟩
  · have h' : ¬ n < 0 := by omega
    go_enter Tryd.func16, Tryd.ntmps16
    go_wp2_with fail
    go_ret
    exact ⟨rfl, rfl⟩
theorem rweekday_ok (n : Nat) (h : n < 36525) (v : Nat) (hv : (n + 5) % 7 + 1 = v) (w : World) : Calls Tryd.prog 16 #[.int .i64 (n : Int)] w fun e w' => e = .returned (.int .i64 (v : Int)) ∧ w = w' := by
  have h1 : ¬ ((n : Int) < 0) := by omega
  have h2 : ¬ ((36524 : Int) < (n : Int)) := by omega
  by_cases h7 : (7 : Int) < 6 + (n : Int) % 7
  · have hr : 6 + (n : Int) % 7 - 7 = (v : Int) := by omega
    have HR := Lib.hid hr
    clear hr hv
    go_enter Tryd.func16, Tryd.ntmps16
    go_wp2_with fail
    go_ret
    rw [← HR.out]
    exact ⟨rfl, rfl⟩
  · have hr : 6 + (n : Int) % 7 = (v : Int) := by omega
    have HR := Lib.hid hr
    clear hr hv
    go_enter Tryd.func16, Tryd.ntmps16
    go_wp2_with fail
    go_ret
    rw [← HR.out]
    exact ⟨rfl, rfl⟩
theorem rlater_bad (n mo : Int) (h : validB n = false) (w : World) : Calls Tryd.prog 14 #[.int .i64 n, .int .i64 mo] w fun e w' => e = .returned (.tuple #[.int .i64 0, .int .i64 21]) ∧ w = w' := by
  have H := Lib.hid h
  clear h
  go_enter Tryd.func14, Tryd.ntmps14
  go_wp2_with fail
  refine (rdate_no n H.out _).mono ?_
  rintro e w' ⟨rfl, rfl⟩
  go_wp2_with fail
  go_ret2
  exact ⟨rfl, rfl⟩
theorem rlater_bad2 (n M : Nat) (mo : Int) (h : Cal.InM n M) (h3 : mo < -1199 ∨ 1199 < mo) (w : World) : Calls Tryd.prog 14 #[.int .i64 (n : Int), .int .i64 mo] w fun e w' => e = .returned (.tuple #[.int .i64 0, .int .i64 21]) ∧ w = w' := by
  have hM := h.1
  obtain ⟨y, hy⟩ : ∃ y, 2000 + M / 12 = y := ⟨_, rfl⟩
  have hy0 : ((y : Int) == 0) = false := beq_eq_false_iff_ne.2 (by omega)
  have HR := Lib.hid (And.intro h hy)
  clear h hy
  rcases h3 with h3 | h3
  · go_enter Tryd.func14, Tryd.ntmps14
    go_wp2_with fail
    refine (rdate_ok n M y _ _ HR.out.1 HR.out.2 rfl rfl _).mono ?_
    rintro e w' ⟨rfl, rfl⟩
    go_wp2_with fail
    go_ret2
    exact ⟨rfl, rfl⟩
  · have h3' : ¬ mo < -1199 := by omega
    go_enter Tryd.func14, Tryd.ntmps14
    go_wp2_with fail
    refine (rdate_ok n M y _ _ HR.out.1 HR.out.2 rfl rfl _).mono ?_
    rintro e w' ⟨rfl, rfl⟩
    go_wp2_with fail
    go_ret2
    exact ⟨rfl, rfl⟩
theorem rlater_out (n M : Nat) (mo : Int) (h : Cal.InM n M) (h1 : -1199 ≤ mo) (h2 : mo ≤ 1199) (h3 : (M : Int) + mo < 0 ∨ 1199 < (M : Int) + mo) (w : World) : Calls Tryd.prog 14 #[.int .i64 (n : Int), .int .i64 mo] w fun e w' => e = .returned (.tuple #[.int .i64 0, .int .i64 21]) ∧ w = w' := by
  have hM := h.1
  obtain ⟨y, hy⟩ : ∃ y, 2000 + M / 12 = y := ⟨_, rfl⟩
  obtain ⟨m, hm⟩ : ∃ m, M % 12 + 1 = m := ⟨_, rfl⟩
  have hy0 : ((y : Int) == 0) = false := beq_eq_false_iff_ne.2 (by omega)
  have hy2 : y ≤ 2100 := by omega
  have hm1 : m ≤ 12 := by omega
  have hk : ((y : Int) - 2000) * 12 + (m : Int) - 1 + mo = (M : Int) + mo := by omega
  have HR := Lib.hid (And.intro h (And.intro hy hm))
  clear h hy hm
  rcases h3 with h3 | h3
  · go_enter Tryd.func14, Tryd.ntmps14
    go_wp2_with fail
    refine (rdate_ok n M y m _ HR.out.1 HR.out.2.1 HR.out.2.2 rfl _).mono ?_
    rintro e w' ⟨rfl, rfl⟩
    go_wp2_with fail
    go_ret2
    exact ⟨rfl, rfl⟩
  · have h3' : ¬ ((M : Int) + mo < 0) := by omega
    go_enter Tryd.func14, Tryd.ntmps14
    go_wp2_with fail
    refine (rdate_ok n M y m _ HR.out.1 HR.out.2.1 HR.out.2.2 rfl _).mono ?_
    rintro e w' ⟨rfl, rfl⟩
    go_wp2_with fail
    go_ret2
    exact ⟨rfl, rfl⟩
theorem rlater_ok (n M K r : Nat) (mo : Int) (h : Cal.InM n M) (h1 : -1199 ≤ mo) (h2 : mo ≤ 1199) (hK : (M : Int) + mo = (K : Int)) (hK2 : K < 1200) (hr : Cal.first K + min (Cal.dom n M) (Cal.lenM K) - 1 = r) (w : World) : Calls Tryd.prog 14 #[.int .i64 (n : Int), .int .i64 mo] w fun e w' => e = .returned (.tuple #[.int .i64 (r : Int), .int .i64 0]) ∧ w = w' := by
  have hM := h.1
  have hdb := h.dom
  have hlb := Cal.lenM_bounds K
  have hlb2 := Cal.lenM_bounds M
  have hfb := Cal.first_bound (show K ≤ 1200 by omega)
  obtain ⟨y, hy⟩ : ∃ y, 2000 + M / 12 = y := ⟨_, rfl⟩
  obtain ⟨m, hm⟩ : ∃ m, M % 12 + 1 = m := ⟨_, rfl⟩
  obtain ⟨d, hd⟩ : ∃ d, Cal.dom n M = d := ⟨_, rfl⟩
  obtain ⟨l, hl⟩ : ∃ l, Cal.lenM K = l := ⟨_, rfl⟩
  obtain ⟨f, hf⟩ : ∃ f, Cal.first K = f := ⟨_, rfl⟩
  have hd31 : d ≤ 31 := by rw [← hd]; omega
  have hd1 : 1 ≤ d := by rw [← hd]; omega
  rw [hd, hl, hf] at hr
  rw [hl] at hlb
  rw [hf] at hfb
  have hy0 : ((y : Int) == 0) = false := beq_eq_false_iff_ne.2 (by omega)
  have hy2 : y ≤ 2100 := by omega
  have hm1 : m ≤ 12 := by omega
  have hk : ((y : Int) - 2000) * 12 + (m : Int) - 1 + mo = (K : Int) := by omega
  obtain ⟨mn, hmn⟩ : ∃ mn : Nat, min d l = mn := ⟨_, rfl⟩
  have hmin : min (d : Int) (l : Int) = (mn : Int) := by omega
  have hmn1 : mn ≤ 31 := by omega
  have hmn2 : 1 ≤ mn := by omega
  have hres : (f : Int) + (mn : Int) - 1 = (r : Int) := by omega
  have F := Lib.hid (And.intro h (And.intro hy (And.intro hm (And.intro hd (And.intro hl (And.intro hf hres))))))
  clear h hd hl hf hr hres hmn hdb hlb2 hy hm hK
  have t1 : ¬ ((K : Int) < 0) := by omega
  have t2 : ¬ ((1199 : Int) < (K : Int)) := by omega
  go_enter Tryd.func14, Tryd.ntmps14
  go_wp2_with fail
  refine (rdate_ok n M y m d F.out.1 F.out.2.1 F.out.2.2.1 F.out.2.2.2.1 _).mono ?_
  rintro e w' ⟨rfl, rfl⟩
  go_wp2_with fail
  refine (rfirst_ok K f hK2 F.out.2.2.2.2.2.1 _).mono ?_
  rintro e w' ⟨rfl, rfl⟩
  go_wp2_with fail
  refine (rlength_ok K l hK2 F.out.2.2.2.2.1 _).mono ?_
  rintro e w' ⟨rfl, rfl⟩
  go_wp2_with fail
  go_ret2
  rw [← F.out.2.2.2.2.2.2]
  exact ⟨rfl, rfl⟩
end Go.Proofs.YtnfjpmchdbgonaaDoor
