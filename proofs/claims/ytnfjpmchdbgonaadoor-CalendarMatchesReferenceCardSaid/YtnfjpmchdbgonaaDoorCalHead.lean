/- Parse for every text; the walk of the law package's head and pick. -/
import Derived.Test.YtnfjpmchdbgonaaDoorCalW4
namespace Go.Proofs.YtnfjpmchdbgonaaDoor
open Go.RowKit Go.Sort
set_option linter.unusedVariables false
theorem ten (l : List UInt8) (h : l.length = 10) : ∃ c0 c1 c2 c3 c4 c5 c6 c7 c8 c9, l = [c0, c1, c2, c3, c4, c5, c6, c7, c8, c9] := by
  match l, h with
  | [c0, c1, c2, c3, c4, c5, c6, c7, c8, c9], _ => exact ⟨c0, c1, c2, c3, c4, c5, c6, c7, c8, c9, rfl⟩
theorem okF_at {l : List UInt8} (h : okF l = true) (k : Nat) (hk : k < 10) : okAt l k = true := by
  unfold okF at h
  rw [Bool.and_eq_true] at h
  exact List.all_eq_true.1 h.2 k (List.mem_range.2 hk)
theorem parse_any (s : ByteArray) (hs : s.size ≤ maxLen) (w : World) (hT : BTab w) : Calls Tryd.prog 27 #[.string s] w fun r w' => r = .returned (.tuple #[.int .i64 (parI s.data.toList), .int .i64 (parE s.data.toList)]) ∧ Below w.heap.size w w' := by
  cases hok : okF s.data.toList with
  | false =>
    unfold parI parE
    rw [hok]
    exact parse_bad s hs hok w
  | true =>
    have hlen : s.data.toList.length = 10 := by
      have h := hok
      unfold okF at h
      rw [Bool.and_eq_true] at h
      exact of_decide_eq_true h.1
    obtain ⟨c0, c1, c2, c3, c4, c5, c6, c7, c8, c9, hl⟩ := ten _ hlen
    have a0 := okF_at hok 0 (by omega)
    have a1 := okF_at hok 1 (by omega)
    have a2 := okF_at hok 2 (by omega)
    have a3 := okF_at hok 3 (by omega)
    have a4 := okF_at hok 4 (by omega)
    have a5 := okF_at hok 5 (by omega)
    have a6 := okF_at hok 6 (by omega)
    have a7 := okF_at hok 7 (by omega)
    have a8 := okF_at hok 8 (by omega)
    have a9 := okF_at hok 9 (by omega)
    rw [hl] at a0 a1 a2 a3 a4 a5 a6 a7 a8 a9
    have e4 : c4 = 45 := by simpa [okAt] using a4
    have e7 : c7 = 45 := by simpa [okAt] using a7
    subst e4 e7
    have hs' : s = ⟨#[c0, c1, c2, c3, 45, c5, c6, 45, c8, c9]⟩ := by
      obtain ⟨a⟩ := s
      have : a = #[c0, c1, c2, c3, 45, c5, c6, 45, c8, c9] := Array.toList_inj.1 hl
      rw [this]
    unfold parI parE
    rw [hok]
    subst hs'
    refine parse_good c0 c1 c2 c3 c5 c6 c8 c9 a0 a1 a2 a3 a5 a6 a8 a9 w hT _ _ ?_ ?_
    · simp only [if_true, yOf, mOf, dOf, List.getD_cons_zero, List.getD_cons_succ, Int.natCast_add, Int.natCast_mul]
      rfl
    · simp only [if_true, yOf, mOf, dOf, List.getD_cons_zero, List.getD_cons_succ, Int.natCast_add, Int.natCast_mul]
      rfl
theorem parse_at (s : ByteArray) (i e : Int) (hs : s.size ≤ maxLen) (hi : parI s.data.toList = i) (he : parE s.data.toList = e) (w : World) (hT : BTab w) : Calls Tryd.prog 27 #[.string s] w fun r w' => r = .returned (.tuple #[.int .i64 i, .int .i64 e]) ∧ Below w.heap.size w w' := by
  subst hi he
  exact parse_any s hs w hT
theorem dateI (n : Nat) (i y m d : Int) (M : Nat) (hi : i = n) (h : Cal.InM n M) (hy : ((2000 + M / 12 : Nat) : Int) = y) (hm : ((M % 12 + 1 : Nat) : Int) = m) (hd : ((Cal.dom n M : Nat) : Int) = d) (w : World) (hT : BTab w) : Calls Tryd.prog 11 #[.int .i64 i] w fun e w' => e = .returned (.tuple #[.int .i64 y, .int .i64 m, .int .i64 d]) ∧ Below w.heap.size w w' := by
  subst hi hy hm hd
  exact date_ok n M h w hT
theorem laterI (n M K : Nat) (i mo r : Int) (hi : i = n) (h : Cal.InM n M) (h1 : -1199 ≤ mo) (h2 : mo ≤ 1199) (hK : (M : Int) + mo = (K : Int)) (hK2 : K < 1200) (hr : ((Cal.first K + min (Cal.dom n M) (Cal.lenM K) - 1 : Nat) : Int) = r) (w : World) (hT : BTab w) : Calls Tryd.prog 13 #[.int .i64 i, .int .i64 mo] w fun e w' => e = .returned (.tuple #[.int .i64 r, .int .i64 0]) ∧ Below w.heap.size w w' := by
  subst hi hr
  exact later_ok n M K _ mo h h1 h2 hK hK2 rfl w hT
theorem laterO (n M : Nat) (i mo : Int) (hi : i = n) (h : Cal.InM n M) (h1 : -1199 ≤ mo) (h2 : mo ≤ 1199) (h3 : (M : Int) + mo < 0 ∨ 1199 < (M : Int) + mo) (w : World) (hT : BTab w) : Calls Tryd.prog 13 #[.int .i64 i, .int .i64 mo] w fun e w' => e = .returned (.tuple #[.int .i64 0, .int .i64 21]) ∧ Below w.heap.size w w' := by
  subst hi
  exact later_out n M mo h h1 h2 h3 w hT
theorem weekdayI (n : Nat) (i v : Int) (hi : i = n) (h : n < 36525) (hv : (((n + 5) % 7 + 1 : Nat) : Int) = v) (w : World) : Calls Tryd.prog 15 #[.int .i64 i] w fun e w' => e = .returned (.int .i64 v) ∧ w = w' := by
  subst hi hv
  exact weekday_ok n h _ rfl w
theorem monthI (n M : Nat) (i v : Int) (hi : i = n) (hv : (M : Int) = v) (h : Cal.InM n M) (w : World) (hT : BTab w) : Calls Tryd.prog 17 #[.int .i64 i] w fun e w' => e = .returned (.int .i64 v) ∧ Below w.heap.size w w' := by
  subst hi hv
  exact month_ok n M h w hT
theorem firstI (m : Nat) (i f : Int) (hi : i = m) (hm : m < 1200) (hf : ((Cal.first m : Nat) : Int) = f) (w : World) (hT : BTab w) : Calls Tryd.prog 21 #[.int .i64 i] w fun e w' => e = .returned (.int .i64 f) ∧ Below w.heap.size w w' := by
  subst hi hf
  exact first_ok m hm w hT
theorem lengthI (m : Nat) (i f : Int) (hi : i = m) (hm : m < 1200) (hf : ((Cal.lenM m : Nat) : Int) = f) (w : World) (hT : BTab w) : Calls Tryd.prog 23 #[.int .i64 i] w fun e w' => e = .returned (.int .i64 f) ∧ Below w.heap.size w w' := by
  subst hi hf
  exact length_ok m hm w hT
theorem textI (n M : Nat) (i : Int) (t : ByteArray) (hi : i = n) (h : Cal.InM n M) (ht : (⟨(Cal.text (2000 + M / 12) (M % 12 + 1) (Cal.dom n M)).toArray⟩ : ByteArray) = t) (w : World) (hT : Tabs w) : Calls Tryd.prog 19 #[.int .i64 i] w fun e w' => e = .returned (.string t) ∧ Below w.heap.size w w' := by
  subst hi ht
  exact text_ok n M _ _ _ h rfl rfl rfl w hT
theorem inM_dec (n M : Nat) (h : (decide (M < 1200) && decide (Cal.first M ≤ n) && decide (n < Cal.first (M + 1))) = true) : Cal.InM n M := by
  simp only [Bool.and_eq_true, decide_eq_true_eq] at h
  exact ⟨h.1.1, h.1.2, h.2⟩
def s1 : ByteArray := ⟨#[50, 48, 48, 48, 45, 48, 50, 45, 50, 57]⟩
def s2 : ByteArray := ⟨#[50, 48, 48, 48, 45, 50, 45, 50, 57]⟩
set_option maxRecDepth 100000 in
set_option maxHeartbeats 2000000 in
theorem head_any (w : World) (hT : Tabs w) : Calls Tryd.prog 9 #[] w fun e w' => e = .returned (.bool true) ∧ Below w.heap.size w w' := by
  have HT := Lib.hid hT
  clear hT
  go_enter Tryd.func9, Tryd.ntmps9
  go_wp2_with fail
  refine (day_at 2000 1 1 0 0 (by decide) (by decide) _ HT.out.1 (by omega)).mono ?_
  rintro e w1 ⟨rfl, hB1⟩
  go_wp2_with fail
  refine (day_at 2000 3 1 60 0 (by decide) (by decide) _ (HT.out.go hB1).1 (by omega)).mono ?_
  rintro e w2 ⟨rfl, hB⟩
  have hB2 := bgo hB1 hB
  clear hB1 hB
  go_wp2_with fail
  refine (day_at 2024 2 29 8825 0 (by decide) (by decide) _ (HT.out.go hB2).1 (by omega)).mono ?_
  rintro e w3 ⟨rfl, hB⟩
  have hB3 := bgo hB2 hB
  clear hB2 hB
  go_wp2_with fail
  refine (day_at 2023 2 29 0 21 (by decide) (by decide) _ (HT.out.go hB3).1 (by omega)).mono ?_
  rintro e w4 ⟨rfl, hB⟩
  have hB4 := bgo hB3 hB
  clear hB3 hB
  go_wp2_with fail
  refine (dateI 366 366 2001 1 1 12 rfl (inM_dec _ _ (by decide)) (by decide) (by decide) (by decide) _ (HT.out.go hB4).1).mono ?_
  rintro e w5 ⟨rfl, hB⟩
  have hB5 := bgo hB4 hB
  clear hB4 hB
  go_wp2_with fail
  refine (laterI 30 0 1 30 1 59 rfl (inM_dec _ _ (by decide)) (by omega) (by omega) (by omega) (by omega) (by decide) _ (HT.out.go hB5).1).mono ?_
  rintro e w6 ⟨rfl, hB⟩
  have hB6 := bgo hB5 hB
  clear hB5 hB
  go_wp2_with fail
  refine (parse_at s1 59 0 (by decide) (by decide) (by decide) _ (HT.out.go hB6).1).mono ?_
  rintro e w7 ⟨rfl, hB⟩
  have hB7 := bgo hB6 hB
  clear hB6 hB
  go_wp2_with fail
  refine (parse_at s2 0 12 (by decide) (by decide) (by decide) _ (HT.out.go hB7).1).mono ?_
  rintro e w8 ⟨rfl, hB⟩
  have hB8 := bgo hB7 hB
  clear hB7 hB
  go_wp2_with fail
  refine (laterO 0 0 0 (-1) rfl (inM_dec _ _ (by decide)) (by omega) (by omega) (by omega) _ (HT.out.go hB8).1).mono ?_
  rintro e w9 ⟨rfl, hB⟩
  have hB9 := bgo hB8 hB
  clear hB8 hB
  go_wp2_with fail
  refine (weekdayI 0 0 6 rfl (by omega) (by decide) _).mono ?_
  rintro e w' ⟨rfl, rfl⟩
  go_wp2_with fail
  refine (weekdayI 2 2 1 rfl (by omega) (by decide) _).mono ?_
  rintro e w' ⟨rfl, rfl⟩
  go_wp2_with fail
  refine (monthI 60 2 60 2 rfl rfl (inM_dec _ _ (by decide)) _ (HT.out.go hB9).1).mono ?_
  rintro e wa ⟨rfl, hB⟩
  have hBa := bgo hB9 hB
  clear hB9 hB
  go_wp2_with fail
  refine (firstI 2 2 60 rfl (by omega) (by decide) _ (HT.out.go hBa).1).mono ?_
  rintro e wb ⟨rfl, hB⟩
  have hBb := bgo hBa hB
  clear hBa hB
  go_wp2_with fail
  refine (lengthI 1 1 29 rfl (by omega) (by decide) _ (HT.out.go hBb).1).mono ?_
  rintro e wc ⟨rfl, hB⟩
  have hBc := bgo hBb hB
  clear hBb hB
  go_wp2_with fail
  refine (textI 59 1 59 s1 rfl (inM_dec _ _ (by decide)) (by rfl) _ (HT.out.go hBc)).mono ?_
  rintro e wd ⟨rfl, hB⟩
  have hBd := bgo hBc hB
  clear hBc hB
  unfold s1
  go_wp2_with fail
  go_ret
  exact ⟨rfl, hBd⟩
theorem pick_nn (c : Int) (n : Nat) (hn : 0 < n) (hc : -9223372036854775808 ≤ c ∧ c ≤ 9223372036854775807) : ∃ k : Nat, k < n ∧ k = (if c < 0 then (-(c + 1)).toNat else c.toNat) % n := ⟨_, Nat.mod_lt _ hn, rfl⟩
def pickV (c : Int) (n : Nat) : Nat := (if c < 0 then (-(c + 1)).toNat else c.toNat) % n
theorem pickV_lt (c : Int) (n : Nat) (h : 0 < n) : pickV c n < n := Nat.mod_lt _ h
theorem pick_any (c m : Int) (n : Nat) (hm : m = n) (hn : 0 < n) (hn2 : n ≤ 1000000) (hc : -9223372036854775808 ≤ c ∧ c ≤ 9223372036854775807) (k : Nat) (hk : pickV c n = k) (w : World) : Calls Tryd.prog 10 #[.int .i64 c, .int .i64 m] w fun e w' => e = .returned (.int .i64 (k : Int)) ∧ w = w' := by
  subst hm
  obtain ⟨hc1, hc2⟩ := hc
  unfold pickV at hk
  by_cases h : c < 0
  · have hv : (-(c + 1)) % (n : Int) = (k : Int) := by
      rw [if_pos h] at hk
      rw [← hk]
      obtain ⟨q, hq⟩ : ∃ q : Nat, -(c + 1) = (q : Int) := ⟨(-(c + 1)).toNat, by omega⟩
      rw [hq]; simp
    have h0 : 0 ≤ -(c + 1) := by omega
    have hv2 : -((c + 1).tmod (n : Int)) = (k : Int) := by rw [← Int.neg_tmod, Int.tmod_eq_emod_of_nonneg h0]; exact hv
    have hnz : ((n : Int) == 0) = false := beq_eq_false_iff_ne.2 (by omega)
    clear hk
    go_enter Tryd.func10, Tryd.ntmps10
    go_wp2
    go_ret
    exact ⟨rfl, rfl⟩
  · have hv : c % (n : Int) = (k : Int) := by
      rw [if_neg h] at hk
      rw [← hk]
      obtain ⟨q, hq⟩ : ∃ q : Nat, c = (q : Int) := ⟨c.toNat, by omega⟩
      rw [hq]; simp
    have h0 : 0 ≤ c := by omega
    have hnz : ((n : Int) == 0) = false := beq_eq_false_iff_ne.2 (by omega)
    clear hk
    go_enter Tryd.func10, Tryd.ntmps10
    go_wp2
    go_ret
    exact ⟨rfl, rfl⟩
end Go.Proofs.YtnfjpmchdbgonaaDoor
