/- The walks of package calendar, second part: Date, Day, Weekday, Month, Later. -/
import Derived.Test.YtnfjpmchdbgonaaDoorCalW1
import Derived.Deep.LoopGhost
namespace Go.Proofs.YtnfjpmchdbgonaaDoor
open Go.RowKit
set_option linter.unusedVariables false
theorem inM_le {n M K : Nat} (h : Cal.InM n M) (hK : Cal.first K ≤ n) : K ≤ M := by
  rcases Nat.lt_or_ge M K with hl | hl
  · have := Cal.first_le (show M + 1 ≤ K from hl)
    have := h.2.2
    omega
  · exact hl
theorem le_first {n M K : Nat} (h : Cal.InM n M) (hK : K ≤ M) : Cal.first K ≤ n := Nat.le_trans (Cal.first_le hK) h.2.1
theorem validB_yes (n : Nat) (h : n < 36525) : validB (n : Int) = true := decide_eq_true ⟨by omega, by omega⟩
theorem lengthOf_at (y k l : Nat) (hk : k < 12) (hy : y ≤ 1000000) (hl : Cal.len y k = l) (w : World) (hT : BTab w) : Calls Tryd.prog 30 #[.int .i64 (y : Int), .int .i64 (k : Int)] w fun e w' => e = .returned (.int .i64 (l : Int)) ∧ Below w.heap.size w w' := by
  subst hl; exact lengthOf_any y k hk hy w hT
set_option maxRecDepth 100000 in
set_option maxHeartbeats 1000000 in
theorem date_ok (n M : Nat) (h : Cal.InM n M) (w : World) (hT : BTab w) : Calls Tryd.prog 11 #[.int .i64 (n : Int)] w fun e w' => e = .returned (.tuple #[.int .i64 ((2000 + M / 12 : Nat) : Int), .int .i64 ((M % 12 + 1 : Nat) : Int), .int .i64 ((Cal.dom n M : Nat) : Int)]) ∧ Below w.heap.size w w' := by
  have hn := h.day
  have hM : M < 1200 := h.1
  have H := Lib.hid h
  have HT := Lib.hid hT
  have hv := validB_yes n hn
  have Hv := Lib.hid hv
  clear h hT hv
  have hq : (n : Int) / 1461 * 4 = ((n / 1461 * 4 : Nat) : Int) := by omega
  have hr : (n : Int) % 1461 = ((n % 1461 : Nat) : Int) := by omega
  have HQ := Lib.hid (And.intro hq hr)
  clear hq hr
  go_enter Tryd.func11, Tryd.ntmps11
  go_wp2_with fail
  go_step3
  go_wp2_with fail
  refine (valid_any _ true Hv.out _).mono ?_
  rintro e w' ⟨rfl, rfl⟩
  go_wp2_with fail
  go_step3
  go_wp2_with fail
  go_loopg [5, 6] (M / 12 + 1) (fun g y r wr => ∃ Y R : Nat, y = .int .i64 ((2000 : Int) + (Y : Int)) ∧ r = .int .i64 (R : Int) ∧ Y * 12 ≤ M ∧ Cal.first (Y * 12) + R = n ∧ M / 12 + 1 ≤ Y + g ∧ Below w.heap.size w wr)
  case atStart =>
    have hf := Cal.first_48 (n / 1461)
    have h48 : 48 * (n / 1461) = n / 1461 * 4 * 12 := by omega
    rw [h48] at hf
    have hle : n / 1461 * 4 * 12 ≤ M := inM_le H.out (by omega)
    have h2 : (n : Int) % 1461 = ((n % 1461 : Nat) : Int) := HQ.out.2
    exact ⟨n / 1461 * 4, n % 1461, by rw [HQ.out.1], by rw [h2], hle, by omega, by omega, Below.refl _ _⟩
  case round =>
    obtain ⟨gOut, hgo⟩ : ∃ g, g = gk := ⟨_, rfl⟩
    subst hgo
    obtain ⟨Y, R, rfl, rfl, hY, hR, hg, hB⟩ := hrel
    have HR := Lib.hid hR
    clear hR
    have hY99 : Y ≤ 99 := by omega
    have hRn : R ≤ n := by have := HR.out; omega
    go_wp2_with fail
    go_loopg [6, 19] 13 (fun g r c wx => ∃ m S : Nat, r = .int .i64 (S : Int) ∧ c = .int .i64 (m : Int) ∧ m ≤ 12 ∧ Y * 12 + m ≤ M ∧ Cal.first (Y * 12 + m) + S = n ∧ m + g = 13 ∧ Below w.heap.size w wx)
    case atStart => exact ⟨0, R, rfl, rfl, by omega, by omega, HR.out, by omega, hB⟩
    case round =>
      clear HR hB hRn
      obtain ⟨m, S, rfl, rfl, hm, hmM, hS, hg2, hB⟩ := hrel
      have HS := Lib.hid hS
      clear hS
      have hSn : S ≤ n := by have := HS.out; omega
      by_cases hlt : m < 12
      · have hcast : (2000 : Int) + (Y : Int) = ((2000 + Y : Nat) : Int) := by omega
        have hll : Cal.len (2000 + Y) m = Cal.lenM (Y * 12 + m) := by rw [Cal.len_4, Cal.lenM_year _ _ hlt]
        have hfs := Cal.first_succ (Y * 12 + m)
        have hlb := Cal.lenM_bounds (Y * 12 + m)
        obtain ⟨l, hl⟩ : ∃ l, Cal.lenM (Y * 12 + m) = l := ⟨_, rfl⟩
        rw [hl] at hll hfs hlb
        have Hl := Lib.hid (And.intro hll hfs)
        have Hc := Lib.hid hcast
        clear hll hfs hl hcast
        go_wp2_with fail
        rw [Hc.out]
        refine (lengthOf_at (2000 + Y) m l hlt (by omega) Hl.out.1 _ (HT.out.go hB)).mono ?_
        rintro e w3 ⟨rfl, hB3⟩
        have hB' := bgo hB hB3
        clear hB hB3
        rw [← Hc.out]
        by_cases hin : S < l
        · have hin' : (S : Int) < (l : Int) := by omega
          have hMe : M = Y * 12 + m := by
            have h1 := HS.out
            have h2 := Hl.out.2
            exact Cal.InM.unique H.out ⟨by omega, by omega, by omega⟩
          have hd : Cal.dom n M = S + 1 := by
            unfold Cal.dom
            rw [hMe]
            have := HS.out
            omega
          have hy : M / 12 = Y := by omega
          have hm12 : M % 12 = m := by omega
          have HX := Lib.hid (And.intro hd (And.intro hy hm12))
          clear hMe hd hy hm12
          go_wp2_with fail
          rw [Exit.noGoto_ret]
          go_ret3
          obtain ⟨hd, hy, hm12⟩ := HX.out
          rw [hd, hy, hm12]
          exact ⟨rfl, hB'⟩
        · have hin' : ¬ ((S : Int) < (l : Int)) := by omega
          have hnext : Y * 12 + m + 1 ≤ M := inM_le H.out (by rw [Hl.out.2]; have := HS.out; omega)
          go_wp2_with fail
          go_roundg (gk - 1)
          case measure => omega
          case rel => exact ⟨m + 1, S - l, by rw [show ((S - l : Nat) : Int) = (S : Int) - (l : Int) by omega], by go_num, by omega, by omega, by rw [← Nat.add_assoc, Hl.out.2]; have := HS.out; omega, by omega, hB'⟩
      · have hm12 : m = 12 := by omega
        subst hm12
        go_wp2_with fail
        go_roundg (gOut - 1)
        case measure => omega
        case rel => exact ⟨Y + 1, S, by go_num, rfl, by omega, by rw [show (Y + 1) * 12 = Y * 12 + 12 by omega]; exact HS.out, by omega, hB⟩
theorem date_at (n M y m d : Nat) (h : Cal.InM n M) (hy : 2000 + M / 12 = y) (hm : M % 12 + 1 = m) (hd : Cal.dom n M = d) (w : World) (hT : BTab w) : Calls Tryd.prog 11 #[.int .i64 (n : Int)] w fun e w' => e = .returned (.tuple #[.int .i64 (y : Int), .int .i64 (m : Int), .int .i64 (d : Int)]) ∧ Below w.heap.size w w' := by
  subst hy hm hd
  exact date_ok n M h w hT
theorem date_no (n : Int) (h : validB n = false) (w : World) : Calls Tryd.prog 11 #[.int .i64 n] w fun e w' => e = .returned (.tuple #[.int .i64 0, .int .i64 0, .int .i64 0]) ∧ Below w.heap.size w w' := by
  have H := Lib.hid h
  clear h
  go_enter Tryd.func11, Tryd.ntmps11
  go_wp2_with fail
  go_step3
  go_wp2_with fail
  refine (valid_any _ false H.out _).mono ?_
  rintro e w' ⟨rfl, rfl⟩
  go_wp2_with fail
  rw [Exit.noGoto_ret]
  go_ret3
  exact ⟨rfl, Below.refl _ _⟩
theorem weekday_ok (n : Nat) (h : n < 36525) (v : Nat) (hv : (n + 5) % 7 + 1 = v) (w : World) : Calls Tryd.prog 15 #[.int .i64 (n : Int)] w fun e w' => e = .returned (.int .i64 (v : Int)) ∧ w = w' := by
  have H := Lib.hid (validB_yes n h)
  have hv' : ((n : Int) + 5) % 7 + 1 = (v : Int) := by omega
  have H2 := Lib.hid hv'
  clear hv hv'
  go_enter Tryd.func15, Tryd.ntmps15
  go_wp2_with fail
  refine (valid_any _ true H.out _).mono ?_
  rintro e w' ⟨rfl, rfl⟩
  go_wp2_with fail
  go_ret
  rw [← H2.out]
  exact ⟨rfl, rfl⟩
theorem weekday_no (n : Int) (h : validB n = false) (w : World) : Calls Tryd.prog 15 #[.int .i64 n] w fun e w' => e = .returned (.int .i64 0) ∧ w = w' := by
  have H := Lib.hid h
  clear h
  go_enter Tryd.func15, Tryd.ntmps15
  go_wp2_with fail
  refine (valid_any _ false H.out _).mono ?_
  rintro e w' ⟨rfl, rfl⟩
  go_wp2_with fail
  go_ret
  exact ⟨rfl, rfl⟩
theorem month_ok (n M : Nat) (h : Cal.InM n M) (w : World) (hT : BTab w) : Calls Tryd.prog 17 #[.int .i64 (n : Int)] w fun e w' => e = .returned (.int .i64 (M : Int)) ∧ Below w.heap.size w w' := by
  have hv := validB_yes n h.day
  have hM := h.1
  have H := Lib.hid (And.intro h (And.intro hT hv))
  obtain ⟨y, hy⟩ : ∃ y, 2000 + M / 12 = y := ⟨_, rfl⟩
  obtain ⟨m, hm⟩ : ∃ m, M % 12 + 1 = m := ⟨_, rfl⟩
  have hy1 : 2000 ≤ y := by omega
  have hy2 : y ≤ 2100 := by omega
  have hm1 : m ≤ 12 := by omega
  have hres : ((y : Int) - 2000) * 12 + (m : Int) - 1 = (M : Int) := by omega
  have HR := Lib.hid (And.intro hy (And.intro hm hres))
  clear h hT hv hy hm hres
  go_enter Tryd.func17, Tryd.ntmps17
  go_wp2_with fail
  refine (valid_any _ true H.out.2.2 _).mono ?_
  rintro e w' ⟨rfl, rfl⟩
  go_wp2_with fail
  refine (date_at n M y m _ H.out.1 HR.out.1 HR.out.2.1 rfl _ H.out.2.1).mono ?_
  rintro e w1 ⟨rfl, hB⟩
  go_wp2_with fail
  go_ret
  rw [HR.out.2.2]
  exact ⟨rfl, hB⟩
theorem month_no (n : Int) (h : validB n = false) (w : World) : Calls Tryd.prog 17 #[.int .i64 n] w fun e w' => e = .returned (.int .i64 (-1)) ∧ Below w.heap.size w w' := by
  have H := Lib.hid h
  clear h
  go_enter Tryd.func17, Tryd.ntmps17
  go_wp2_with fail
  refine (valid_any _ false H.out _).mono ?_
  rintro e w' ⟨rfl, rfl⟩
  go_wp2_with fail
  go_ret
  exact ⟨rfl, Below.refl _ _⟩
end Go.Proofs.YtnfjpmchdbgonaaDoor
