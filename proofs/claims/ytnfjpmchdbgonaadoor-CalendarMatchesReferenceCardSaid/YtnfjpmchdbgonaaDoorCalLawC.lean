/- The walk of CalendarLater. -/
import Derived.Test.YtnfjpmchdbgonaaDoorCalLawA
namespace Go.Proofs.YtnfjpmchdbgonaaDoor
open Go.RowKit Go.Sort
set_option linter.unusedVariables false
/-- The day that Later leads to, in month T. -/
def lday (n M T : Nat) : Nat := Cal.first T + min (Cal.dom n M) (Cal.lenM T) - 1
theorem lday_in {n M T : Nat} (h : Cal.InM n M) (hT : T < 1200) : Cal.InM (lday n M T) T ∧ Cal.dom (lday n M T) T = min (Cal.dom n M) (Cal.lenM T) := by
  have h1 := h.dom
  have h2 := Cal.lenM_bounds T
  have h3 : Cal.InM (lday n M T) T := Cal.inM_of hT (by omega) (by omega)
  refine ⟨h3, ?_⟩
  have h4 := h3.2.1
  unfold lday at h4 ⊢
  unfold Cal.dom
  unfold Cal.dom at h4 h1
  omega
theorem lday_mono {n k M K T S : Nat} (mo : Int) (h : Cal.InM n M) (h' : Cal.InM k K) (hT : (M : Int) + mo = (T : Int)) (hS : (K : Int) + mo = (S : Int)) (hT2 : T < 1200) (hS2 : S < 1200) (hn : n ≤ k) : lday n M T ≤ lday k K S := by
  have hMK := h.mono h' hn
  rcases Nat.lt_or_ge M K with hlt | hge
  · have h1 := (lday_in h hT2).1.2.2
    have h2 := (lday_in h' hS2).1.2.1
    have h3 := Cal.first_le (show T + 1 ≤ S by omega)
    omega
  · have hMe : M = K := by omega
    subst hMe
    have hTe : T = S := by omega
    subst hTe
    unfold lday Cal.dom
    omega
set_option maxRecDepth 100000 in
set_option maxHeartbeats 4000000 in
theorem calendarLater_walk (day other months : Int) (w : World) (hday : (Lit.int .i64 day).wf = true) (hother : (Lit.int .i64 other).wf = true) (hmonths : (Lit.int .i64 months).wf = true) (hT : Tabs w) :
    Calls Tryd.prog 7 #[.int .i64 day, .int .i64 other, .int .i64 months] w fun e w' => e = .returned (.bool true) ∧ Below w.heap.size w w' := by
  have hb := i64_b hday
  have hb2 := i64_b hother
  have hb3 := i64_b hmonths
  obtain ⟨n, hn⟩ : ∃ n, pickV day 36525 = n := ⟨_, rfl⟩
  have hn1 : n < 36525 := by rw [← hn]; exact pickV_lt _ _ (by omega)
  obtain ⟨k, hk⟩ : ∃ n, pickV other 36525 = n := ⟨_, rfl⟩
  have hk1 : k < 36525 := by rw [← hk]; exact pickV_lt _ _ (by omega)
  obtain ⟨q, hq⟩ : ∃ p, pickV months 2399 = p := ⟨_, rfl⟩
  have hql : q < 2399 := by rw [← hq]; exact pickV_lt _ _ (by omega)
  obtain ⟨M, hM⟩ := Cal.exists_month n hn1
  obtain ⟨K, hK⟩ := Cal.exists_month k hk1
  have hM12 := hM.1
  have hK12 := hK.1
  obtain ⟨d, hd⟩ : ∃ d, Cal.dom n M = d := ⟨_, rfl⟩
  have HT := Lib.hid hT
  have F := Lib.hid (And.intro hn (And.intro hk (And.intro hq (And.intro hM (And.intro hK hd)))))
  clear hday hother hmonths hT hn hk hq hd
  have hmo1 : -1199 ≤ (q : Int) - 1199 := by omega
  have hmo2 : (q : Int) - 1199 ≤ 1199 := by omega
  have start : ∀ Q : Ending → World → Prop, True := fun _ => trivial
  clear start
  have hkc : ((0 : Int) ≤ (K : Int) + ((q : Int) - 1199) ∧ (K : Int) + ((q : Int) - 1199) ≤ 1199) ∨ ((K : Int) + ((q : Int) - 1199) < 0 ∨ 1199 < (K : Int) + ((q : Int) - 1199)) := by omega
  by_cases hto : (0 : Int) ≤ (M : Int) + ((q : Int) - 1199) ∧ (M : Int) + ((q : Int) - 1199) ≤ 1199
  · obtain ⟨T, hTe⟩ : ∃ T : Nat, (M : Int) + ((q : Int) - 1199) = (T : Int) := ⟨((M : Int) + ((q : Int) - 1199)).toNat, by omega⟩
    have hT12 : T < 1200 := by omega
    obtain ⟨r, hr⟩ : ∃ r, lday n M T = r := ⟨_, rfl⟩
    obtain ⟨hrin, hrd⟩ := lday_in hM hT12
    have hdb := hM.dom
    have hlbT := Cal.lenM_bounds T
    obtain ⟨l, hl⟩ : ∃ l, Cal.lenM T = l := ⟨_, rfl⟩
    rw [hr, F.out.2.2.2.2.2, hl] at hrd
    rw [hr] at hrin
    rw [F.out.2.2.2.2.2] at hdb
    rw [hl] at hlbT
    have hlbM := Cal.lenM_bounds M
    have hr36 := hrin.day
    have hd31 : d ≤ 31 := by omega
    have hto1 : ¬ ((T : Int) < 0) := by omega
    have hto2 : ¬ ((1199 : Int) < (T : Int)) := by omega
    obtain ⟨mn, hmn⟩ : ∃ mn : Nat, min d l = mn := ⟨_, rfl⟩
    rw [hmn] at hrd
    have hmin : min (d : Int) (l : Int) = (mn : Int) := by omega
    have G := Lib.hid (And.intro hrin (And.intro hrd (And.intro hl (And.intro hr hTe))))
    rcases hkc with ⟨hk1', hk2'⟩ | hko
    · obtain ⟨S, hSe⟩ : ∃ S : Nat, (K : Int) + ((q : Int) - 1199) = (S : Int) := ⟨((K : Int) + ((q : Int) - 1199)).toNat, by omega⟩
      have hS12 : S < 1200 := by omega
      obtain ⟨r', hr'⟩ : ∃ r, lday k K S = r := ⟨_, rfl⟩
      have hm1 : n ≤ k → r ≤ r' := fun h => by rw [← hr, ← hr']; exact lday_mono _ hM hK hTe hSe hT12 hS12 h
      have hm2 : k ≤ n → r' ≤ r := fun h => by rw [← hr, ← hr']; exact lday_mono _ hK hM hSe hTe hS12 hT12 h
      have hrS := (lday_in hK hS12).1.day
      rw [hr'] at hrS
      have G2 := Lib.hid (And.intro hr' hSe)
      have hord : (n < k ∧ r ≤ r') ∨ (n = k ∧ r = r') ∨ (k < n ∧ r' ≤ r) := by
        rcases Nat.lt_trichotomy n k with h | h | h
        · exact .inl ⟨h, hm1 (by omega)⟩
        · exact .inr (.inl ⟨h, Nat.le_antisymm (hm1 (by omega)) (hm2 (by omega))⟩)
        · exact .inr (.inr ⟨h, hm2 (by omega)⟩)
      have hMT : (M : Int) + ((q : Int) - 1199) = (T : Int) := hTe
      clear hrin hrd hl hr hTe hr' hSe hm1 hm2 hM hK hdb hlbM hto hk1' hk2' hmn
      go_enter Tryd.func7, Tryd.ntmps7
      go_wp2_with fail
      refine (head_any _ HT.out).mono ?_
      rintro e w1 ⟨rfl, hB1⟩
      go_wp2_with fail
      refine (pick_any day 36525 36525 rfl (by omega) (by omega) hb n F.out.1 _).mono ?_
      rintro e w' ⟨rfl, rfl⟩
      go_wp2_with fail
      refine (pick_any other 36525 36525 rfl (by omega) (by omega) hb2 k F.out.2.1 _).mono ?_
      rintro e w' ⟨rfl, rfl⟩
      go_wp2_with fail
      refine (pick_any months 2399 2399 rfl (by omega) (by omega) hb3 q F.out.2.2.1 _).mono ?_
      rintro e w' ⟨rfl, rfl⟩
      go_wp2_with fail
      refine (monthI n M _ (M : Int) rfl rfl F.out.2.2.2.1 _ (HT.out.go hB1).1).mono ?_
      rintro e w2 ⟨rfl, hB⟩
      have hB2 := bgo hB1 hB
      clear hB1 hB
      go_wp2_with fail
      refine (laterI n M T _ _ (r : Int) rfl F.out.2.2.2.1 hmo1 hmo2 G.out.2.2.2.2 hT12 (by have := G.out.2.2.2.1; unfold lday at this; rw [this]) _ (HT.out.go hB2).1).mono ?_
      rintro e w3 ⟨rfl, hB⟩
      have hB3 := bgo hB2 hB
      clear hB2 hB
      go_wp2_with fail
      refine (laterI k K S _ _ (r' : Int) rfl F.out.2.2.2.2.1 hmo1 hmo2 G2.out.2 hS12 (by have := G2.out.1; unfold lday at this; rw [this]) _ (HT.out.go hB3).1).mono ?_
      rintro e w4 ⟨rfl, hB⟩
      have hB4 := bgo hB3 hB
      clear hB3 hB
      go_wp2_with fail
      refine (dateI n _ _ _ (d : Int) M rfl F.out.2.2.2.1 rfl rfl (by rw [F.out.2.2.2.2.2]) _ (HT.out.go hB4).1).mono ?_
      rintro e w5 ⟨rfl, hB⟩
      have hB5 := bgo hB4 hB
      clear hB4 hB
      go_wp2_with fail
      refine (dateI r _ _ _ (mn : Int) T rfl G.out.1 rfl rfl (by rw [G.out.2.1]) _ (HT.out.go hB5).1).mono ?_
      rintro e w6 ⟨rfl, hB⟩
      have hB6 := bgo hB5 hB
      clear hB5 hB
      go_wp2_with fail
      refine (monthI r T _ (T : Int) rfl rfl G.out.1 _ (HT.out.go hB6).1).mono ?_
      rintro e w7 ⟨rfl, hB⟩
      have hB7 := bgo hB6 hB
      clear hB6 hB
      go_wp2_with fail
      refine (lengthI T _ (l : Int) rfl hT12 (by rw [G.out.2.2.1]) _ (HT.out.go hB7).1).mono ?_
      rintro e w8 ⟨rfl, hB⟩
      have hB8 := bgo hB7 hB
      clear hB7 hB
      rcases hord with ⟨h1, h2⟩ | ⟨h1, h2⟩ | ⟨h1, h2⟩
      · have t1 : (n : Int) < (k : Int) := by omega
        have t2 : ¬ ((k : Int) < (n : Int)) := by omega
        have t3 : (r : Int) ≤ (r' : Int) := by omega
        go_wp2_with fail
        go_ret
        exact ⟨rfl, hB8⟩
      · subst h2
        have t1 : ¬ ((n : Int) < (k : Int)) := by omega
        have t2 : ¬ ((k : Int) < (n : Int)) := by omega
        have H1 := Lib.hid h1
        clear h1
        go_wp2_with fail
        go_ret
        exact ⟨rfl, hB8⟩
      · have t1 : ¬ ((n : Int) < (k : Int)) := by omega
        have t2 : (k : Int) < (n : Int) := by omega
        have t3 : (r' : Int) ≤ (r : Int) := by omega
        go_wp2_with fail
        go_ret
        exact ⟨rfl, hB8⟩
    · have hMT : (M : Int) + ((q : Int) - 1199) = (T : Int) := hTe
      clear hrin hrd hl hr hTe hM hK hdb hlbM hto hmn
      have Hko := Lib.hid hko
      clear hko
      go_enter Tryd.func7, Tryd.ntmps7
      go_wp2_with fail
      refine (head_any _ HT.out).mono ?_
      rintro e w1 ⟨rfl, hB1⟩
      go_wp2_with fail
      refine (pick_any day 36525 36525 rfl (by omega) (by omega) hb n F.out.1 _).mono ?_
      rintro e w' ⟨rfl, rfl⟩
      go_wp2_with fail
      refine (pick_any other 36525 36525 rfl (by omega) (by omega) hb2 k F.out.2.1 _).mono ?_
      rintro e w' ⟨rfl, rfl⟩
      go_wp2_with fail
      refine (pick_any months 2399 2399 rfl (by omega) (by omega) hb3 q F.out.2.2.1 _).mono ?_
      rintro e w' ⟨rfl, rfl⟩
      go_wp2_with fail
      refine (monthI n M _ (M : Int) rfl rfl F.out.2.2.2.1 _ (HT.out.go hB1).1).mono ?_
      rintro e w2 ⟨rfl, hB⟩
      have hB2 := bgo hB1 hB
      clear hB1 hB
      go_wp2_with fail
      refine (laterI n M T _ _ (r : Int) rfl F.out.2.2.2.1 hmo1 hmo2 G.out.2.2.2.2 hT12 (by have := G.out.2.2.2.1; unfold lday at this; rw [this]) _ (HT.out.go hB2).1).mono ?_
      rintro e w3 ⟨rfl, hB⟩
      have hB3 := bgo hB2 hB
      clear hB2 hB
      go_wp2_with fail
      refine (laterO k K _ _ rfl F.out.2.2.2.2.1 hmo1 hmo2 Hko.out _ (HT.out.go hB3).1).mono ?_
      rintro e w4 ⟨rfl, hB⟩
      have hB4 := bgo hB3 hB
      clear hB3 hB
      go_wp2_with fail
      refine (dateI n _ _ _ (d : Int) M rfl F.out.2.2.2.1 rfl rfl (by rw [F.out.2.2.2.2.2]) _ (HT.out.go hB4).1).mono ?_
      rintro e w5 ⟨rfl, hB⟩
      have hB5 := bgo hB4 hB
      clear hB4 hB
      go_wp2_with fail
      refine (dateI r _ _ _ (mn : Int) T rfl G.out.1 rfl rfl (by rw [G.out.2.1]) _ (HT.out.go hB5).1).mono ?_
      rintro e w6 ⟨rfl, hB⟩
      have hB6 := bgo hB5 hB
      clear hB5 hB
      go_wp2_with fail
      refine (monthI r T _ (T : Int) rfl rfl G.out.1 _ (HT.out.go hB6).1).mono ?_
      rintro e w7 ⟨rfl, hB⟩
      have hB7 := bgo hB6 hB
      clear hB6 hB
      go_wp2_with fail
      refine (lengthI T _ (l : Int) rfl hT12 (by rw [G.out.2.2.1]) _ (HT.out.go hB7).1).mono ?_
      rintro e w8 ⟨rfl, hB⟩
      have hB8 := bgo hB7 hB
      clear hB7 hB
      go_wp2_with fail
      go_ret
      exact ⟨rfl, hB8⟩
  · have hto' : (M : Int) + ((q : Int) - 1199) < 0 ∨ 1199 < (M : Int) + ((q : Int) - 1199) := by omega
    have Hto := Lib.hid hto'
    clear hM hK
    go_enter Tryd.func7, Tryd.ntmps7
    go_wp2_with fail
    refine (head_any _ HT.out).mono ?_
    rintro e w1 ⟨rfl, hB1⟩
    go_wp2_with fail
    refine (pick_any day 36525 36525 rfl (by omega) (by omega) hb n F.out.1 _).mono ?_
    rintro e w' ⟨rfl, rfl⟩
    go_wp2_with fail
    refine (pick_any other 36525 36525 rfl (by omega) (by omega) hb2 k F.out.2.1 _).mono ?_
    rintro e w' ⟨rfl, rfl⟩
    go_wp2_with fail
    refine (pick_any months 2399 2399 rfl (by omega) (by omega) hb3 q F.out.2.2.1 _).mono ?_
    rintro e w' ⟨rfl, rfl⟩
    go_wp2_with fail
    refine (monthI n M _ (M : Int) rfl rfl F.out.2.2.2.1 _ (HT.out.go hB1).1).mono ?_
    rintro e w2 ⟨rfl, hB⟩
    have hB2 := bgo hB1 hB
    clear hB1 hB
    go_wp2_with fail
    refine (laterO n M _ _ rfl F.out.2.2.2.1 hmo1 hmo2 Hto.out _ (HT.out.go hB2).1).mono ?_
    rintro e w3 ⟨rfl, hB⟩
    have hB3 := bgo hB2 hB
    clear hB2 hB
    rcases hkc with ⟨hk1', hk2'⟩ | hko
    · obtain ⟨S, hSe⟩ : ∃ S : Nat, (K : Int) + ((q : Int) - 1199) = (S : Int) := ⟨((K : Int) + ((q : Int) - 1199)).toNat, by omega⟩
      have HSe := Lib.hid hSe
      have hS12 : S < 1200 := by omega
      clear hSe hk1' hk2'
      go_wp2_with fail
      refine (laterI k K S _ _ _ rfl F.out.2.2.2.2.1 hmo1 hmo2 HSe.out hS12 rfl _ (HT.out.go hB3).1).mono ?_
      rintro e w4 ⟨rfl, hB⟩
      have hB4 := bgo hB3 hB
      clear hB3 hB
      rcases hto' with h | h
      · go_wp2_with fail
        go_ret
        exact ⟨rfl, hB4⟩
      · have h' : ¬ ((M : Int) + ((q : Int) - 1199) < 0) := by omega
        go_wp2_with fail
        go_ret
        exact ⟨rfl, hB4⟩
    · have Hko := Lib.hid hko
      clear hko
      go_wp2_with fail
      refine (laterO k K _ _ rfl F.out.2.2.2.2.1 hmo1 hmo2 Hko.out _ (HT.out.go hB3).1).mono ?_
      rintro e w4 ⟨rfl, hB⟩
      have hB4 := bgo hB3 hB
      clear hB3 hB
      rcases hto' with h | h
      · go_wp2_with fail
        go_ret
        exact ⟨rfl, hB4⟩
      · have h' : ¬ ((M : Int) + ((q : Int) - 1199) < 0) := by omega
        go_wp2_with fail
        go_ret
        exact ⟨rfl, hB4⟩
end Go.Proofs.YtnfjpmchdbgonaaDoor
