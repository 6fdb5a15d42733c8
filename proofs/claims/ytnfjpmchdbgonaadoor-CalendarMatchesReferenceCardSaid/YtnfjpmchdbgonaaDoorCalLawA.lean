/- The walk of CalendarNext. -/
import Derived.Test.YtnfjpmchdbgonaaDoorCalHead
import Derived.OpenShut
namespace Go.Proofs.YtnfjpmchdbgonaaDoor
open Go.RowKit Go.Sort
set_option linter.unusedVariables false
theorem i64_b {a : Int} (h : (Lit.int .i64 a).wf = true) : -9223372036854775808 ≤ a ∧ a ≤ 9223372036854775807 := bounds_i64 h
theorem next_same {n M : Nat} (h : Cal.InM n M) (h2 : n + 1 < Cal.first (M + 1)) : Cal.InM (n + 1) M ∧ Cal.dom (n + 1) M = Cal.dom n M + 1 := by
  have := h.2.1
  exact ⟨⟨h.1, by omega, h2⟩, by unfold Cal.dom; omega⟩
theorem next_new {n M : Nat} (h : Cal.InM n M) (hn : n + 1 < 36525) (h2 : n + 1 = Cal.first (M + 1)) : Cal.InM (n + 1) (M + 1) ∧ Cal.dom (n + 1) (M + 1) = 1 ∧ Cal.dom n M = Cal.lenM M := by
  have h3 := Cal.first_succ M
  have h4 := Cal.lenM_bounds (M + 1)
  have h5 := Cal.first_succ (M + 1)
  have h6 := h.2.1
  have hM : M + 1 < 1200 := by
    rcases Nat.lt_or_ge (M + 1) 1200 with h' | h'
    · exact h'
    · have := h.1
      have e : M + 1 = 1200 := by omega
      rw [e, Cal.first_1200] at h2
      omega
  exact ⟨⟨hM, by omega, by omega⟩, by unfold Cal.dom; omega, by unfold Cal.dom; omega⟩
set_option maxRecDepth 100000 in
set_option maxHeartbeats 2000000 in
theorem calendarNext_walk (day : Int) (w : World) (hday : (Lit.int .i64 day).wf = true) (hT : Tabs w) :
    Calls Tryd.prog 5 #[.int .i64 day] w fun e w' => e = .returned (.bool true) ∧ Below w.heap.size w w' := by
  have hb := i64_b hday
  obtain ⟨n, hn⟩ : ∃ n, pickV day 36524 = n := ⟨_, rfl⟩
  have hn1 : n < 36524 := by rw [← hn]; exact pickV_lt _ _ (by omega)
  obtain ⟨M, hM⟩ := Cal.exists_month n (by omega)
  have hM12 := hM.1
  obtain ⟨v, hv⟩ : ∃ v : Nat, (n + 5) % 7 + 1 = v := ⟨_, rfl⟩
  obtain ⟨v', hv'⟩ : ∃ v : Nat, (n + 1 + 5) % 7 + 1 = v := ⟨_, rfl⟩
  have hv1 : (1 : Int) ≤ (v : Int) := by omega
  have hv7 : (v : Int) ≤ 7 := by omega
  have hvv : (v : Int) % 7 + 1 = (v' : Int) := by omega
  obtain ⟨y, hy⟩ : ∃ y, 2000 + M / 12 = y := ⟨_, rfl⟩
  obtain ⟨m, hm⟩ : ∃ m, M % 12 + 1 = m := ⟨_, rfl⟩
  obtain ⟨d, hd⟩ : ∃ d, Cal.dom n M = d := ⟨_, rfl⟩
  have hdb := hM.dom
  have hlb := Cal.lenM_bounds M
  rw [hd] at hdb
  have hd1 : 1 ≤ d := hdb.1
  have hd2 : d ≤ 31 := by omega
  have hy1 : y ≤ 2100 := by omega
  have hm1 : m ≤ 12 := by omega
  have HT := Lib.hid hT
  have Hn := Lib.hid hn
  clear hday hT hn
  have hfin : n + 1 < Cal.first (M + 1) ∨ n + 1 = Cal.first (M + 1) := by have := hM.2.2; omega
  rcases hfin with hA | hB
  · obtain ⟨hM', hd'⟩ := next_same hM hA
    rw [hd] at hd'
    have F := Lib.hid (And.intro hM (And.intro hM' (And.intro hy (And.intro hm (And.intro hd (And.intro hd' (And.intro hv hv')))))))
    clear hM hM' hy hm hd hd' hA hv hv' hdb
    have hc1 : (((d : Int) + 1) == 1) = false := beq_eq_false_iff_ne.2 (by omega)
    go_enter Tryd.func5, Tryd.ntmps5
    go_wp2_with fail
    refine (head_any _ HT.out).mono ?_
    rintro e w1 ⟨rfl, hB1⟩
    go_wp2_with fail
    refine (pick_any day 36524 36524 rfl (by omega) (by omega) hb n Hn.out _).mono ?_
    rintro e w' ⟨rfl, rfl⟩
    go_wp2_with fail
    refine (date_at n M y m d F.out.1 F.out.2.2.1 F.out.2.2.2.1 F.out.2.2.2.2.1 _ (HT.out.go hB1).1).mono ?_
    rintro e w2 ⟨rfl, hB⟩
    have hB2 := bgo hB1 hB
    clear hB1 hB
    go_wp2_with fail
    refine (dateI (n + 1) _ (y : Int) (m : Int) ((d : Int) + 1) M (by omega) F.out.2.1 (by rw [F.out.2.2.1]) (by rw [F.out.2.2.2.1]) (by rw [F.out.2.2.2.2.2.1]; omega) _ (HT.out.go hB2).1).mono ?_
    rintro e w3 ⟨rfl, hB⟩
    have hB3 := bgo hB2 hB
    clear hB2 hB
    go_wp2_with fail
    refine (weekday_ok n (by omega) v F.out.2.2.2.2.2.2.1 _).mono ?_
    rintro e w' ⟨rfl, rfl⟩
    go_wp2_with fail
    refine (weekdayI (n + 1) _ (v' : Int) (by omega) (by omega) (by rw [F.out.2.2.2.2.2.2.2]) _).mono ?_
    rintro e w' ⟨rfl, rfl⟩
    go_wp2_with fail
    refine (monthI (n + 1) M _ (M : Int) (by omega) rfl F.out.2.1 _ (HT.out.go hB3).1).mono ?_
    rintro e w4 ⟨rfl, hB⟩
    have hB4 := bgo hB3 hB
    clear hB3 hB
    go_wp2_with fail
    refine (monthI n M _ (M : Int) rfl rfl F.out.1 _ (HT.out.go hB4).1).mono ?_
    rintro e w5 ⟨rfl, hB⟩
    have hB5 := bgo hB4 hB
    clear hB4 hB
    go_wp2_with fail
    go_ret
    exact ⟨rfl, hB5⟩
  · obtain ⟨hM', hd', hdl⟩ := next_new hM (by omega) hB
    rw [hd] at hdl
    by_cases h11 : M % 12 = 11
    · have hy' : 2000 + (M + 1) / 12 = y + 1 := by omega
      have hm' : (M + 1) % 12 + 1 = 1 := by omega
      have hm12 : m = 12 := by omega
      have F := Lib.hid (And.intro hM (And.intro hM' (And.intro hy (And.intro hm (And.intro hd (And.intro hd' (And.intro hv (And.intro hv' (And.intro hy' (And.intro hm' hdl))))))))))
      clear hM hM' hy hm hd hd' hB hv hv' hdb hy' hm' hdl h11
      subst hm12
      have hc1 : (((y : Int) + 1) == (y : Int)) = false := beq_eq_false_iff_ne.2 (by omega)
      go_enter Tryd.func5, Tryd.ntmps5
      go_wp2_with fail
      refine (head_any _ HT.out).mono ?_
      rintro e w1 ⟨rfl, hB1⟩
      go_wp2_with fail
      refine (pick_any day 36524 36524 rfl (by omega) (by omega) hb n Hn.out _).mono ?_
      rintro e w' ⟨rfl, rfl⟩
      go_wp2_with fail
      refine (dateI n _ (y : Int) 12 (d : Int) M rfl F.out.1 (by rw [F.out.2.2.1]) (by rw [F.out.2.2.2.1]; rfl) (by rw [F.out.2.2.2.2.1]) _ (HT.out.go hB1).1).mono ?_
      rintro e w2 ⟨rfl, hB⟩
      have hB2 := bgo hB1 hB
      clear hB1 hB
      go_wp2_with fail
      refine (dateI (n + 1) _ ((y : Int) + 1) 1 1 (M + 1) (by omega) F.out.2.1 (by rw [F.out.2.2.2.2.2.2.2.2.1]; omega) (by rw [F.out.2.2.2.2.2.2.2.2.2.1]; rfl) (by rw [F.out.2.2.2.2.2.1]; rfl) _ (HT.out.go hB2).1).mono ?_
      rintro e w3 ⟨rfl, hB⟩
      have hB3 := bgo hB2 hB
      clear hB2 hB
      go_wp2_with fail
      refine (weekday_ok n (by omega) v F.out.2.2.2.2.2.2.1 _).mono ?_
      rintro e w' ⟨rfl, rfl⟩
      go_wp2_with fail
      refine (weekdayI (n + 1) _ (v' : Int) (by omega) (by omega) (by rw [F.out.2.2.2.2.2.2.2.1]) _).mono ?_
      rintro e w' ⟨rfl, rfl⟩
      go_wp2_with fail
      refine (monthI (n + 1) (M + 1) _ ((M : Int) + 1) (by omega) (by omega) F.out.2.1 _ (HT.out.go hB3).1).mono ?_
      rintro e w4 ⟨rfl, hB⟩
      have hB4 := bgo hB3 hB
      clear hB3 hB
      go_wp2_with fail
      refine (monthI n M _ (M : Int) rfl rfl F.out.1 _ (HT.out.go hB4).1).mono ?_
      rintro e w5 ⟨rfl, hB⟩
      have hB5 := bgo hB4 hB
      clear hB4 hB
      go_wp2_with fail
      refine (monthI n M _ (M : Int) rfl rfl F.out.1 _ (HT.out.go hB5).1).mono ?_
      rintro e w6 ⟨rfl, hB⟩
      have hB6 := bgo hB5 hB
      clear hB5 hB
      go_wp2_with fail
      refine (lengthI M _ (d : Int) rfl hM12 (by rw [F.out.2.2.2.2.2.2.2.2.2.2]) _ (HT.out.go hB6).1).mono ?_
      rintro e w7 ⟨rfl, hB⟩
      have hB7 := bgo hB6 hB
      clear hB6 hB
      go_wp2_with fail
      go_ret
      exact ⟨rfl, hB7⟩
    · have hy' : 2000 + (M + 1) / 12 = y := by omega
      have hm' : (M + 1) % 12 + 1 = m + 1 := by omega
      have F := Lib.hid (And.intro hM (And.intro hM' (And.intro hy (And.intro hm (And.intro hd (And.intro hd' (And.intro hv (And.intro hv' (And.intro hy' (And.intro hm' hdl))))))))))
      clear hM hM' hy hm hd hd' hB hv hv' hdb hy' hm' hdl h11
      have hc1 : (((m : Int) + 1) == (m : Int)) = false := beq_eq_false_iff_ne.2 (by omega)
      go_enter Tryd.func5, Tryd.ntmps5
      go_wp2_with fail
      refine (head_any _ HT.out).mono ?_
      rintro e w1 ⟨rfl, hB1⟩
      go_wp2_with fail
      refine (pick_any day 36524 36524 rfl (by omega) (by omega) hb n Hn.out _).mono ?_
      rintro e w' ⟨rfl, rfl⟩
      go_wp2_with fail
      refine (date_at n M y m d F.out.1 F.out.2.2.1 F.out.2.2.2.1 F.out.2.2.2.2.1 _ (HT.out.go hB1).1).mono ?_
      rintro e w2 ⟨rfl, hB⟩
      have hB2 := bgo hB1 hB
      clear hB1 hB
      go_wp2_with fail
      refine (dateI (n + 1) _ (y : Int) ((m : Int) + 1) 1 (M + 1) (by omega) F.out.2.1 (by rw [F.out.2.2.2.2.2.2.2.2.1]) (by rw [F.out.2.2.2.2.2.2.2.2.2.1]; omega) (by rw [F.out.2.2.2.2.2.1]; rfl) _ (HT.out.go hB2).1).mono ?_
      rintro e w3 ⟨rfl, hB⟩
      have hB3 := bgo hB2 hB
      clear hB2 hB
      go_wp2_with fail
      refine (weekday_ok n (by omega) v F.out.2.2.2.2.2.2.1 _).mono ?_
      rintro e w' ⟨rfl, rfl⟩
      go_wp2_with fail
      refine (weekdayI (n + 1) _ (v' : Int) (by omega) (by omega) (by rw [F.out.2.2.2.2.2.2.2.1]) _).mono ?_
      rintro e w' ⟨rfl, rfl⟩
      go_wp2_with fail
      refine (monthI (n + 1) (M + 1) _ ((M : Int) + 1) (by omega) (by omega) F.out.2.1 _ (HT.out.go hB3).1).mono ?_
      rintro e w4 ⟨rfl, hB⟩
      have hB4 := bgo hB3 hB
      clear hB3 hB
      go_wp2_with fail
      refine (monthI n M _ (M : Int) rfl rfl F.out.1 _ (HT.out.go hB4).1).mono ?_
      rintro e w5 ⟨rfl, hB⟩
      have hB5 := bgo hB4 hB
      clear hB4 hB
      go_wp2_with fail
      refine (monthI n M _ (M : Int) rfl rfl F.out.1 _ (HT.out.go hB5).1).mono ?_
      rintro e w6 ⟨rfl, hB⟩
      have hB6 := bgo hB5 hB
      clear hB5 hB
      go_wp2_with fail
      refine (lengthI M _ (d : Int) rfl hM12 (by rw [F.out.2.2.2.2.2.2.2.2.2.2]) _ (HT.out.go hB6).1).mono ?_
      rintro e w7 ⟨rfl, hB⟩
      have hB7 := bgo hB6 hB
      clear hB6 hB
      go_wp2_with fail
      go_ret
      exact ⟨rfl, hB7⟩
end Go.Proofs.YtnfjpmchdbgonaaDoor
