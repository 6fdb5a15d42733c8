/- The walk of CalendarMonths. -/
import Derived.Test.YtnfjpmchdbgonaaDoorCalLawA
namespace Go.Proofs.YtnfjpmchdbgonaaDoor
open Go.RowKit Go.Sort
set_option linter.unusedVariables false
theorem first_48' (m : Nat) : Cal.first (m + 48) = Cal.first m + 1461 := by
  unfold Cal.first
  rw [show (m + 48) / 12 = m / 12 + 4 by omega, show (m + 48) % 12 = m % 12 by omega, show (m / 12 + 4) % 4 = m / 12 % 4 by omega]
  omega
set_option maxRecDepth 100000 in
set_option maxHeartbeats 4000000 in
theorem calendarMonths_walk (day month : Int) (w : World) (hday : (Lit.int .i64 day).wf = true) (hmonth : (Lit.int .i64 month).wf = true) (hT : Tabs w) :
    Calls Tryd.prog 6 #[.int .i64 day, .int .i64 month] w fun e w' => e = .returned (.bool true) ∧ Below w.heap.size w w' := by
  have hb := i64_b hday
  have hb2 := i64_b hmonth
  obtain ⟨n, hn⟩ : ∃ n, pickV day 36525 = n := ⟨_, rfl⟩
  have hn1 : n < 36525 := by rw [← hn]; exact pickV_lt _ _ (by omega)
  obtain ⟨M, hM⟩ := Cal.exists_month n hn1
  have hM12 := hM.1
  obtain ⟨p3, hp3⟩ : ∃ p, pickV month 3 = p := ⟨_, rfl⟩
  have hp3l : p3 < 3 := by rw [← hp3]; exact pickV_lt _ _ (by omega)
  obtain ⟨q, hq⟩ : ∃ p, pickV month 1200 = p := ⟨_, rfl⟩
  have hql : q < 1200 := by rw [← hq]; exact pickV_lt _ _ (by omega)
  obtain ⟨m0, hm0⟩ : ∃ p, pickV month 1153 = p := ⟨_, rfl⟩
  have hm0l : m0 < 1153 := by rw [← hm0]; exact pickV_lt _ _ (by omega)
  have HT := Lib.hid hT
  have F := Lib.hid (And.intro hn (And.intro hM (And.intro hp3 (And.intro hq hm0))))
  clear hday hmonth hT hn hM hp3 hq hm0
  go_enter Tryd.func6, Tryd.ntmps6
  go_wp2_with fail
  refine (head_any _ HT.out).mono ?_
  rintro e w1 ⟨rfl, hB1⟩
  go_wp2_with fail
  refine (pick_any day 36525 36525 rfl (by omega) (by omega) hb n F.out.1 _).mono ?_
  rintro e w' ⟨rfl, rfl⟩
  go_wp2_with fail
  refine (monthI n M _ (M : Int) rfl rfl F.out.2.1 _ (HT.out.go hB1).1).mono ?_
  rintro e w2 ⟨rfl, hB⟩
  have hB2 := bgo hB1 hB
  clear hB1 hB
  go_wp2_with fail
  refine (pick_any month 3 3 rfl (by omega) (by omega) hb2 p3 F.out.2.2.1 _).mono ?_
  rintro e w' ⟨rfl, rfl⟩
  go_wp2_with fail
  refine (pick_any month 1200 1200 rfl (by omega) (by omega) hb2 q F.out.2.2.2.1 _).mono ?_
  rintro e w' ⟨rfl, rfl⟩
  go_wp2_with fail
  obtain ⟨w3, hw3⟩ : ∃ w3, w3 = w2.alloc (.cells #[.int .i64 (q : Int), .int .i64 ((M : Int) + (p3 : Int) - 1)] 3) := ⟨_, rfl⟩
  rw [← hw3]
  have hB3 : Below w.heap.size w w3 := by rw [hw3]; exact bal hB2 _
  have hz3 : w2.heap.size < w3.heap.size := by rw [hw3]; simp
  have hc0 : w3.cell? ⟨w2.heap.size, 0, none⟩ = some (.int .i64 (q : Int)) := by rw [hw3]; simp [go_sem]
  have hc1 : w3.cell? ⟨w2.heap.size, 1, none⟩ = some (.int .i64 ((M : Int) + (p3 : Int) - 1)) := by rw [hw3]; simp [go_sem]
  have G := Lib.hid (And.intro hz3 (And.intro hc0 hc1))
  clear hw3 hB2 hz3 hc0 hc1
  go_loopw [5, 29] (fun up i wr => ∃ k : Nat, k ≤ 2 ∧ up = .bool true ∧ i = .int .i64 (k : Int) ∧ Below w3.heap.size w3 wr) (fun _ i _ => 2 - (intOf i).toNat)
  case atStart => exact ⟨0, by omega, rfl, rfl, Below.refl _ _⟩
  case round =>
    obtain ⟨k, hk, rfl, rfl, hB⟩ := hrel
    have hBw := bgo hB3 hB
    by_cases hk2 : k < 2
    · obtain ⟨x, hx, hx1, hx2⟩ : ∃ x : Int, wr.cell? ⟨w2.heap.size, k, none⟩ = some (.int .i64 x) ∧ -1 ≤ x ∧ x ≤ 1201 := by
        rcases (show k = 0 ∨ k = 1 by omega) with rfl | rfl
        · exact ⟨_, (hB.cell (p := ⟨w2.heap.size, 0, none⟩) G.out.1).trans G.out.2.1, by omega, by omega⟩
        · exact ⟨_, (hB.cell (p := ⟨w2.heap.size, 1, none⟩) G.out.1).trans G.out.2.2, by omega, by omega⟩
      have hk2' : (k : Int) < 2 := by omega
      by_cases hneg : x < 0
      · go_wp2_with fail
        go_roundw
        case rel => exact ⟨k + 1, by omega, rfl, by go_num, hB⟩
        case measure => simp [intOf]; omega
      · by_cases hbig : 1199 < x
        · go_wp2_with fail
          go_roundw
          case rel => exact ⟨k + 1, by omega, rfl, by go_num, hB⟩
          case measure => simp [intOf]; omega
        · obtain ⟨m, rfl⟩ : ∃ m : Nat, x = (m : Int) := ⟨x.toNat, by omega⟩
          have hm : m < 1200 := by omega
          have hfs := Cal.first_succ m
          have hlb := Cal.lenM_bounds m
          have hfb := Cal.first_bound (show m + 1 ≤ 1200 from hm)
          obtain ⟨f, hf⟩ : ∃ f, Cal.first m = f := ⟨_, rfl⟩
          obtain ⟨l, hl⟩ : ∃ l, Cal.lenM m = l := ⟨_, rfl⟩
          rw [hf, hl] at hfs
          rw [hl] at hlb
          rw [hfs] at hfb
          have hin : ((M = m) ∧ f ≤ n ∧ n < f + l) ∨ (¬ M = m ∧ n < f) ∨ (¬ M = m ∧ f ≤ n ∧ f + l ≤ n) := by
            have h1 := F.out.2.1
            by_cases hMm : M = m
            · left
              subst hMm
              refine ⟨rfl, ?_, ?_⟩
              · rw [← hf]; exact h1.2.1
              · rw [← hfs]; exact h1.2.2
            · right
              by_cases h2 : n < f
              · exact .inl ⟨hMm, h2⟩
              · right
                refine ⟨hMm, by omega, ?_⟩
                rcases Nat.lt_or_ge n (f + l) with h3 | h3
                · exact absurd (Cal.InM.unique h1 ⟨hm, by omega, by omega⟩) hMm
                · exact h3
          have Hf := Lib.hid (And.intro hf (And.intro hl hfs))
          clear hf hl hfs
          have hBn : ∀ W : World, Below w3.heap.size w3 W → BTab W := fun W h => (HT.out.go (bgo hB3 h)).1
          have HBn := Lib.hid hBn
          clear hBn
          go_wp2_with fail
          refine (firstI m _ (f : Int) rfl hm (by rw [Hf.out.1]) _ (HBn.out _ hB)).mono ?_
          rintro e w4 ⟨rfl, hB'⟩
          have hB4 := bgo hB hB'
          clear hB hB' hx
          go_wp2_with fail
          refine (lengthI m _ (l : Int) rfl hm (by rw [Hf.out.2.1]) _ (HBn.out _ hB4)).mono ?_
          rintro e w5 ⟨rfl, hB'⟩
          have hB5 := bgo hB4 hB'
          clear hB4 hB'
          go_wp2_with fail
          refine (monthI n M _ (M : Int) rfl rfl F.out.2.1 _ (HBn.out _ hB5)).mono ?_
          rintro e w6 ⟨rfl, hB'⟩
          have hB6 := bgo hB5 hB'
          clear hB5 hB'
          have hl28 : (28 : Int) ≤ (l : Int) := by omega
          have hl31 : (l : Int) ≤ 31 := by omega
          rcases hin with ⟨hMm, i1, i2⟩ | ⟨hMm, i1⟩ | ⟨hMm, i1, i2⟩
          · have t1 : (f : Int) ≤ (n : Int) := by omega
            have t2 : (n : Int) < (f : Int) + (l : Int) := by omega
            have t3 : ((M : Int) == (m : Int)) = true := by rw [hMm]; simp
            have HMm := Lib.hid hMm
            clear hMm
            by_cases hlast : m < 1199
            · have t4 : (m : Int) < 1199 := by omega
              go_wp2_with fail
              refine (firstI (m + 1) _ ((f : Int) + (l : Int)) (by omega) (by omega) (by rw [Hf.out.2.2]; omega) _ (HBn.out _ hB6)).mono ?_
              rintro e w7 ⟨rfl, hB'⟩
              have hB7 := bgo hB6 hB'
              clear hB6 hB'
              go_wp2_with fail
              go_roundw
              case rel => exact ⟨k + 1, by omega, rfl, by go_num, hB7⟩
              case measure => simp [intOf]; omega
            · have t4 : ¬ ((m : Int) < 1199) := by omega
              have t5 : (((f : Int) + (l : Int)) == 36525) = true := by
                have h1 := Hf.out.2.2
                have h2 : m + 1 = 1200 := by omega
                rw [h2, Cal.first_1200] at h1
                rw [beq_iff_eq]
                omega
              go_wp2_with fail
              go_roundw
              case rel => exact ⟨k + 1, by omega, rfl, by go_num, hB6⟩
              case measure => simp [intOf]; omega
          · have t1 : decide ((f : Int) ≤ (n : Int)) = false := decide_eq_false (by omega)
            have t3 : ((M : Int) == (m : Int)) = false := beq_eq_false_iff_ne.2 (by omega)
            have HMm := Lib.hid hMm
            clear hMm
            by_cases hlast : m < 1199
            · have t4 : (m : Int) < 1199 := by omega
              go_wp2_with fail
              refine (firstI (m + 1) _ ((f : Int) + (l : Int)) (by omega) (by omega) (by rw [Hf.out.2.2]; omega) _ (HBn.out _ hB6)).mono ?_
              rintro e w7 ⟨rfl, hB'⟩
              have hB7 := bgo hB6 hB'
              clear hB6 hB'
              go_wp2_with fail
              go_roundw
              case rel => exact ⟨k + 1, by omega, rfl, by go_num, hB7⟩
              case measure => simp [intOf]; omega
            · have t4 : ¬ ((m : Int) < 1199) := by omega
              have t5 : (((f : Int) + (l : Int)) == 36525) = true := by
                have h1 := Hf.out.2.2
                have h2 : m + 1 = 1200 := by omega
                rw [h2, Cal.first_1200] at h1
                rw [beq_iff_eq]
                omega
              go_wp2_with fail
              go_roundw
              case rel => exact ⟨k + 1, by omega, rfl, by go_num, hB6⟩
              case measure => simp [intOf]; omega
          · have t1 : (f : Int) ≤ (n : Int) := by omega
            have t2 : decide ((n : Int) < (f : Int) + (l : Int)) = false := decide_eq_false (by omega)
            have t3 : ((M : Int) == (m : Int)) = false := beq_eq_false_iff_ne.2 (by omega)
            have HMm := Lib.hid hMm
            clear hMm
            by_cases hlast : m < 1199
            · have t4 : (m : Int) < 1199 := by omega
              go_wp2_with fail
              refine (firstI (m + 1) _ ((f : Int) + (l : Int)) (by omega) (by omega) (by rw [Hf.out.2.2]; omega) _ (HBn.out _ hB6)).mono ?_
              rintro e w7 ⟨rfl, hB'⟩
              have hB7 := bgo hB6 hB'
              clear hB6 hB'
              go_wp2_with fail
              go_roundw
              case rel => exact ⟨k + 1, by omega, rfl, by go_num, hB7⟩
              case measure => simp [intOf]; omega
            · have t4 : ¬ ((m : Int) < 1199) := by omega
              have t5 : (((f : Int) + (l : Int)) == 36525) = true := by
                have h1 := Hf.out.2.2
                have h2 : m + 1 = 1200 := by omega
                rw [h2, Cal.first_1200] at h1
                rw [beq_iff_eq]
                omega
              go_wp2_with fail
              go_roundw
              case rel => exact ⟨k + 1, by omega, rfl, by go_num, hB6⟩
              case measure => simp [intOf]; omega
    · go_wp2_with fail
      refine (pick_any month 1153 1153 rfl (by omega) (by omega) hb2 m0 F.out.2.2.2.2 _).mono ?_
      rintro e w' ⟨rfl, rfl⟩
      obtain ⟨W0, hW0⟩ : ∃ W0, W0 = wr := ⟨_, rfl⟩
      subst hW0
      go_wp2_with fail
      go_loopw [12, 14] (fun s i wx => ∃ j S : Nat, j ≤ 48 ∧ s = .int .i64 (S : Int) ∧ i = .int .i64 (j : Int) ∧ Cal.first m0 + S = Cal.first (m0 + j) ∧ Below w.heap.size w wx) (fun _ i _ => 48 - (intOf i).toNat)
      case atStart => exact ⟨0, 0, by omega, rfl, rfl, rfl, hBw⟩
      case round =>
        clear hB hBw
        obtain ⟨j, S, hj, rfl, rfl, hS, hB⟩ := hrel
        have hfb := Cal.first_bound (show m0 + j ≤ 1200 by omega)
        have hSb : S ≤ 36525 := by omega
        have HS := Lib.hid hS
        clear hS hfb
        by_cases hj2 : j < 48
        · have hlb := Cal.lenM_bounds (m0 + j)
          have hfs := Cal.first_succ (m0 + j)
          obtain ⟨l, hl⟩ : ∃ l, Cal.lenM (m0 + j) = l := ⟨_, rfl⟩
          rw [hl] at hlb hfs
          have Hl := Lib.hid (And.intro hl hfs)
          clear hl hfs
          have hj2' : (j : Int) < 48 := by omega
          go_wp2_with fail
          refine (lengthI (m0 + j) _ (l : Int) (by omega) (by omega) (by rw [Hl.out.1]) _ (HT.out.go hB).1).mono ?_
          rintro e w4 ⟨rfl, hB'⟩
          have hB4 := bgo hB hB'
          clear hB hB'
          go_wp2_with fail
          go_roundw
          case rel => exact ⟨j + 1, S + l, by omega, by go_num, by go_num, by rw [← Nat.add_assoc m0 j 1, Hl.out.2, ← HS.out]; omega, hB4⟩
          case measure => simp [intOf]; omega
        · have hj48 : j = 48 := by omega
          subst hj48
          have hS : S = 1461 := by
            have h1 := HS.out
            rw [first_48'] at h1
            omega
          subst hS
          go_wp2_with fail
          go_ret
          exact ⟨rfl, hB⟩
end Go.Proofs.YtnfjpmchdbgonaaDoor
