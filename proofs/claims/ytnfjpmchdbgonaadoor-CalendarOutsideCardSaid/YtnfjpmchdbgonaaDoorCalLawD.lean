/- The walk of CalendarOutside. -/
import Derived.Test.YtnfjpmchdbgonaaDoorCalPlain
import Derived.Deep.RegionHeld3
import Derived.Laws.IdiomStrings
namespace Go.Proofs.YtnfjpmchdbgonaaDoor
open Go.RowKit Go.Sort
set_option linter.unusedVariables false
theorem dtext_len (n M : Nat) : (dtext n M).length = 10 := rfl
/-- A text as bytes: the new block. -/
theorem conv_bytes (W : World) (t : ByteArray) (l : List UInt8) (hl : t.data.toList = l) (h10 : l.length = 10) : ∃ (cap : Nat) (C : Array Value) (fr : Nat × Nat),
    (convert 9 41 (.string t)).run Tryd.prog W = .ok (.slice (some ⟨W.heap.size, 0, none⟩) 10 cap) (W.drew.alloc (.cells C 5 fr)) ∧ (∀ j (hj : j < 10), C[j]? = some (.int .u8 ((l[j]'(by omega)).toNat : Int))) ∧ (∀ j, j < 10 → (decide (fr.1 ≤ j) && decide (j < fr.2)) = false) := by
  have hs : t.size = 10 := by rw [← h10, ← hl, Array.length_toList]; rfl
  have h := run_bytes_of_string (P := Tryd.prog) W 9 41 5 t Tryd.underlying9 Tryd.underlying41 Tryd.underlying5
  rw [hs] at h
  have hC : ∀ j (hj : j < 10), (bytesRow t (grownCap W 10 0 5))[j]? = some (.int .u8 ((l[j]'(by omega)).toNat : Int)) := by
    intro j hj
    have hj' : j < t.data.size := by have : t.data.size = 10 := hs; omega
    rw [bytesRow_at t _ j hj']
    subst hl
    rfl
  refine ⟨_, _, _, h, hC, ?_⟩
  intro j hj
  have := hC j hj
  have hlt := (Array.getElem?_eq_some_iff.1 this).1
  rw [decide_eq_false (by omega)]
  rfl
set_option maxRecDepth 100000 in
set_option maxHeartbeats 8000000 in
theorem calendarOutside_walk (n day at_ c : Int) (w : World) (hn : (Lit.int .i64 n).wf = true) (hday : (Lit.int .i64 day).wf = true) (hat : (Lit.int .i64 at_).wf = true) (hc : (Lit.int .u8 c).wf = true) (hT : Tabs w) :
    Calls Tryd.prog 8 #[.int .i64 n, .int .i64 day, .int .i64 at_, .int .u8 c] w fun e w' => e = .returned (.bool true) ∧ Below w.heap.size w w' := by
  have hb := i64_b hday
  have hb2 := i64_b hat
  obtain ⟨k, hk⟩ : ∃ n, pickV day 36525 = n := ⟨_, rfl⟩
  have hk1 : k < 36525 := by rw [← hk]; exact pickV_lt _ _ (by omega)
  obtain ⟨K, hK⟩ := Cal.exists_month k hk1
  obtain ⟨j, hj⟩ : ∃ n, pickV at_ 10 = n := ⟨_, rfl⟩
  have hj10 : j < 10 := by rw [← hj]; exact pickV_lt _ _ (by omega)
  obtain ⟨cb, rfl⟩ : ∃ u : UInt8, c = u.toNat := by
    have := bounds_u8 hc
    exact ⟨UInt8.ofNat c.toNat, by rw [UInt8.toNat_ofNat']; omega⟩
  have HT := Lib.hid hT
  obtain ⟨t, htl⟩ : ∃ t : ByteArray, (⟨(dtext k K).toArray⟩ : ByteArray) = t := ⟨_, rfl⟩
  have htd : t.data.toList = dtext k K := by rw [← htl]
  have hts : t.size = 10 := by rw [← htl]; rfl
  obtain ⟨l', hl'⟩ : ∃ l', (dtext k K).set j cb = l' := ⟨_, rfl⟩
  have hl10 : l'.length = 10 := by rw [← hl', List.length_set]; rfl
  obtain ⟨s', hs'⟩ : ∃ s' : ByteArray, (⟨l'.toArray⟩ : ByteArray) = s' := ⟨_, rfl⟩
  have hsd : s'.data.toList = l' := by rw [← hs']
  have hss : s'.size ≤ maxLen := by rw [← hs']; show l'.toArray.size ≤ maxLen; rw [List.size_toArray, hl10]; unfold maxLen; omega
  obtain ⟨i, hi⟩ : ∃ i, parI l' = i := ⟨_, rfl⟩
  obtain ⟨e0, he0⟩ : ∃ e, parE l' = e := ⟨_, rfl⟩
  have F := Lib.hid (And.intro hk (And.intro hj (And.intro hK (And.intro htl (And.intro htd (And.intro hl' (And.intro hl10 (And.intro hs' (And.intro hsd (And.intro hi he0))))))))))
  clear hday hat hc hT hk hj hK hn htl htd hl' hs' hsd hi he0
  have hj0 : (j : Int) < 10 := by omega
  have hts' : ((t.size : Int) != 10) = false := by rw [hts]; rfl
  by_cases hlo : n < 0
  · have Hv : Hid (validB n = false) := Lib.hid (decide_eq_false (by omega))
    have Hm : Hid (n < 0 ∨ 1199 < n) := Lib.hid (.inl hlo)
    go_enter Tryd.func8, Tryd.ntmps8
    go_wp2_with fail
    refine (head_any _ HT.out).mono ?_
    rintro e w1 ⟨rfl, hB1⟩
    go_wp2_with fail
    refine (date_no n Hv.out _).mono ?_
    rintro e w2 ⟨rfl, hB⟩
    have hB2 := bgo hB1 hB
    clear hB1 hB
    go_wp2_with fail
    refine (later_bad n 0 (.inl Hv.out) _).mono ?_
    rintro e w3 ⟨rfl, hB⟩
    have hB3 := bgo hB2 hB
    clear hB2 hB
    go_wp2_with fail
    refine (weekday_no n Hv.out _).mono ?_
    rintro e w' ⟨rfl, rfl⟩
    go_wp2_with fail
    refine (month_no n Hv.out _).mono ?_
    rintro e w4 ⟨rfl, hB⟩
    have hB4 := bgo hB3 hB
    clear hB3 hB
    go_wp2_with fail
    refine (text_no n Hv.out _).mono ?_
    rintro e w5 ⟨rfl, hB⟩
    have hB1 := bgo hB4 hB
    clear hB4 hB
    go_wp2_with fail
    refine (first_no n Hm.out _).mono ?_
    rintro e w6 ⟨rfl, hB⟩
    have hB6 := bgo hB1 hB
    clear hB1 hB
    go_wp2_with fail
    refine (length_no n Hm.out _).mono ?_
    rintro e w7 ⟨rfl, hB⟩
    have hB1 := bgo hB6 hB
    clear hB6 hB
    go_wp2_with fail
    refine (pick_any day 36525 36525 rfl (by omega) (by omega) hb k F.out.1 _).mono ?_
    rintro e w' ⟨rfl, rfl⟩
    go_wp2_with fail
    refine (textI k K _ t rfl F.out.2.2.1 F.out.2.2.2.1 _ (HT.out.go hB1)).mono ?_
    rintro e wt ⟨rfl, hB⟩
    have hBt := bgo hB1 hB
    clear hB1 hB
    obtain ⟨cap, C, fr, hconv, hC, hfr⟩ := conv_bytes wt t (dtext k K) F.out.2.2.2.2.1 rfl
    have HC := Lib.hid (And.intro hC hfr)
    clear hC hfr
    go_wp2_with fail
    refine (pick_any at_ 10 10 rfl (by omega) (by omega) hb2 j F.out.2.1 _).mono ?_
    rintro e w' ⟨rfl, hw'⟩
    subst hw'
    obtain ⟨wu, hwu⟩ : ∃ wu, wu = (wt.alloc (.cells C 5 fr)).drew := ⟨_, rfl⟩
    rw [← hwu]
    have hcu : ∀ q (hq : q < 10), wu.cell? ⟨wt.heap.size, q, none⟩ = some (.int .u8 (((dtext k K)[q]'(by rw [dtext_len]; exact hq)).toNat : Int)) := fun q hq => by rw [hwu]; exact (World.cell?_alloc_mark wt C _ fr q).trans (HC.out.1 q hq)
    have hfu : wu.frozen? ⟨wt.heap.size, j, none⟩ = false := by rw [hwu]; exact (World.frozen?_alloc_mark wt C _ fr.1 fr.2 j).trans (HC.out.2 j hj10)
    have hBu : Below w.heap.size w wu := by rw [hwu]; exact (bal hBt _).drew
    have hszu : wt.heap.size < wu.heap.size := by rw [hwu]; show wt.heap.size < (wt.alloc _).heap.size; simp
    have hcj := hcu j hj10
    obtain ⟨bj, hbj⟩ : ∃ b : Int, (((dtext k K)[j]'(by rw [dtext_len]; exact hj10)).toNat : Int) = b := ⟨_, rfl⟩
    rw [hbj] at hcj
    have hcell : ∀ q (hq : q < l'.length), (wu.setCell ⟨wt.heap.size, j, none⟩ (.int .u8 (cb.toNat : Int))).cell? ⟨wt.heap.size, q, none⟩ = some (.int .u8 ((l'[q]).toNat : Int)) := by
      intro q hq
      have hq10 : q < 10 := by rw [← F.out.2.2.2.2.2.2.1]; exact hq
      have e1 := F.out.2.2.2.2.2.1
      subst e1
      by_cases hqj : q = j
      · subst hqj
        rw [World.cell?_setCell_same' _ _ _ (by rw [hcu q hq10]; rfl), List.getElem_set_self]
      · rw [World.cell?_setCell_other _ _ _ _ (by first | (simp; done) | (simp; omega)), hcu q hq10, List.getElem_set_ne (by omega)]
    have hBv : Below w.heap.size w (wu.setCell ⟨wt.heap.size, j, none⟩ (.int .u8 (cb.toNat : Int))) := hBu.setCell hBt.size _
    have hszv : wt.heap.size < (wu.setCell ⟨wt.heap.size, j, none⟩ (.int .u8 (cb.toNat : Int))).heap.size := by simpa [World.setCell] using hszu
    clear hwu hcu hbj hconv hBu hBt hszu
    have hback : ∀ W, Below (wu.setCell ⟨wt.heap.size, j, none⟩ (.int .u8 (cb.toNat : Int))).heap.size (wu.setCell ⟨wt.heap.size, j, none⟩ (.int .u8 (cb.toNat : Int))) W → (convert 41 9 (.slice (some ⟨wt.heap.size, 0, none⟩) 10 cap)).run Tryd.prog W = .ok (.string s') W := by
      intro W hW
      have h1 := run_convert_bytes_back (P := Tryd.prog) W 41 9 5 ⟨wt.heap.size, 0, none⟩ cap l' Tryd.underlying41 Tryd.underlying5 Tryd.underlying9 (fun q hq => by
        rw [Addr.add_lit, Nat.zero_add]
        exact (hW.cell (p := ⟨wt.heap.size, q, none⟩) hszv).trans (hcell q hq))
      rw [F.out.2.2.2.2.2.2.1, F.out.2.2.2.2.2.2.2.1] at h1
      exact h1
    have HB := Lib.hid hback
    have hb0 := hback _ (Below.refl _ _)
    clear hback hcell
    go_wp2_with fail
    clear hb0 hcj hfu
    obtain ⟨wv, hwv⟩ : ∃ wv, wv = wu.setCell ⟨wt.heap.size, j, none⟩ (.int .u8 (cb.toNat : Int)) := ⟨_, rfl⟩
    rw [← hwv] at hBv HB ⊢
    clear hwv hszv
    refine (parse_at s' i e0 hss (by rw [F.out.2.2.2.2.2.2.2.2.1]; exact F.out.2.2.2.2.2.2.2.2.2.1) (by rw [F.out.2.2.2.2.2.2.2.2.1]; exact F.out.2.2.2.2.2.2.2.2.2.2) _ (HT.out.go hBv).1).mono ?_
    rintro e wp ⟨rfl, hBp⟩
    have hBp' := bgo hBv hBp
    by_cases he : e0 = 0
    · subst he
      obtain ⟨n2, M2, hin2, hi2, ht2⟩ := par_back F.out.2.2.2.2.2.2.2.2.2.2
      have hin : i = (n2 : Int) := by rw [← F.out.2.2.2.2.2.2.2.2.2.1]; exact hi2
      subst hin
      have hts2 : (⟨(Cal.text (2000 + M2 / 12) (M2 % 12 + 1) (Cal.dom n2 M2)).toArray⟩ : ByteArray) = s' := by have h0 := ht2; unfold dtext at h0; rw [h0]; exact F.out.2.2.2.2.2.2.2.1
      have hKK := F.out.2.2.1
      have heq : ((n2 : Int) == (k : Int)) = (s'.toList == t.toList) := by
        rw [ByteArray.toList_eq, ByteArray.toList_eq, F.out.2.2.2.2.2.2.2.2.1, F.out.2.2.2.2.1, ← ht2]
        by_cases hnk : n2 = k
        · subst hnk
          have := Cal.InM.unique hin2 hKK
          subst this
          simp
        · rw [beq_eq_false_iff_ne.2 (by omega), beq_eq_false_iff_ne.2 (fun e => hnk (dtext_inj hin2 hKK e))]
      have G := Lib.hid (And.intro hin2 hts2)
      clear hin2 hi2 ht2 hts2 hKK
      have hr1 := HB.out wp hBp
      have hr2 : (convert 41 9 (.slice (some ⟨wt.heap.size, 0, none⟩) 10 cap)).run Tryd.prog wp.drew = .ok (.string s') wp.drew := HB.out wp.drew hBp.drew
      go_wp2_with fail
      go_region_held3 (fun w' => (convert 41 9 (.slice (some ⟨wt.heap.size, 0, none⟩) 10 cap)).run Tryd.prog w' = .ok (.string s') w')
        (go_keep)
        ((go_at_call 19; (with_reducible refine (textI n2 M2 _ s' rfl G.out.1 G.out.2 wp.drew (HT.out.go hBp'.drew)).mono ?_); rintro e wq ⟨rfl, hBq⟩; have hr3 := HB.out wq (bgo hBp.drew hBq)))
      all_goals
        clear hr1 hr2 hr3
        go_wp2_with fail
        go_ret
        exact ⟨rfl, bgo hBp'.drew hBq⟩
    · have hne : (e0 != 0) = true := by simpa using he
      obtain ⟨hi0, h12⟩ := par_err l' (by rw [F.out.2.2.2.2.2.2.2.2.2.2]; exact he)
      rw [F.out.2.2.2.2.2.2.2.2.2.1] at hi0
      rw [F.out.2.2.2.2.2.2.2.2.2.2] at h12
      subst hi0
      clear he
      rcases h12 with rfl | rfl
      · go_wp2_with fail
        go_ret
        exact ⟨rfl, hBp'⟩
      · go_wp2_with fail
        go_ret
        exact ⟨rfl, hBp'⟩
  · by_cases hhi : 36524 < n
    · have Hv : Hid (validB n = false) := Lib.hid (decide_eq_false (by omega))
      have Hm : Hid (n < 0 ∨ 1199 < n) := Lib.hid (.inr (by omega))
      have t2 : 1199 < n := by omega
      go_enter Tryd.func8, Tryd.ntmps8
      go_wp2_with fail
      refine (head_any _ HT.out).mono ?_
      rintro e w1 ⟨rfl, hB1⟩
      go_wp2_with fail
      refine (date_no n Hv.out _).mono ?_
      rintro e w2 ⟨rfl, hB⟩
      have hB2 := bgo hB1 hB
      clear hB1 hB
      go_wp2_with fail
      refine (later_bad n 0 (.inl Hv.out) _).mono ?_
      rintro e w3 ⟨rfl, hB⟩
      have hB3 := bgo hB2 hB
      clear hB2 hB
      go_wp2_with fail
      refine (weekday_no n Hv.out _).mono ?_
      rintro e w' ⟨rfl, rfl⟩
      go_wp2_with fail
      refine (month_no n Hv.out _).mono ?_
      rintro e w4 ⟨rfl, hB⟩
      have hB4 := bgo hB3 hB
      clear hB3 hB
      go_wp2_with fail
      refine (text_no n Hv.out _).mono ?_
      rintro e w5 ⟨rfl, hB⟩
      have hB1 := bgo hB4 hB
      clear hB4 hB
      go_wp2_with fail
      refine (first_no n Hm.out _).mono ?_
      rintro e w6 ⟨rfl, hB⟩
      have hB6 := bgo hB1 hB
      clear hB1 hB
      go_wp2_with fail
      refine (length_no n Hm.out _).mono ?_
      rintro e w7 ⟨rfl, hB⟩
      have hB1 := bgo hB6 hB
      clear hB6 hB
      go_wp2_with fail
      refine (pick_any day 36525 36525 rfl (by omega) (by omega) hb k F.out.1 _).mono ?_
      rintro e w' ⟨rfl, rfl⟩
      go_wp2_with fail
      refine (textI k K _ t rfl F.out.2.2.1 F.out.2.2.2.1 _ (HT.out.go hB1)).mono ?_
      rintro e wt ⟨rfl, hB⟩
      have hBt := bgo hB1 hB
      clear hB1 hB
      obtain ⟨cap, C, fr, hconv, hC, hfr⟩ := conv_bytes wt t (dtext k K) F.out.2.2.2.2.1 rfl
      have HC := Lib.hid (And.intro hC hfr)
      clear hC hfr
      go_wp2_with fail
      refine (pick_any at_ 10 10 rfl (by omega) (by omega) hb2 j F.out.2.1 _).mono ?_
      rintro e w' ⟨rfl, hw'⟩
      subst hw'
      obtain ⟨wu, hwu⟩ : ∃ wu, wu = (wt.alloc (.cells C 5 fr)).drew := ⟨_, rfl⟩
      rw [← hwu]
      have hcu : ∀ q (hq : q < 10), wu.cell? ⟨wt.heap.size, q, none⟩ = some (.int .u8 (((dtext k K)[q]'(by rw [dtext_len]; exact hq)).toNat : Int)) := fun q hq => by rw [hwu]; exact (World.cell?_alloc_mark wt C _ fr q).trans (HC.out.1 q hq)
      have hfu : wu.frozen? ⟨wt.heap.size, j, none⟩ = false := by rw [hwu]; exact (World.frozen?_alloc_mark wt C _ fr.1 fr.2 j).trans (HC.out.2 j hj10)
      have hBu : Below w.heap.size w wu := by rw [hwu]; exact (bal hBt _).drew
      have hszu : wt.heap.size < wu.heap.size := by rw [hwu]; show wt.heap.size < (wt.alloc _).heap.size; simp
      have hcj := hcu j hj10
      obtain ⟨bj, hbj⟩ : ∃ b : Int, (((dtext k K)[j]'(by rw [dtext_len]; exact hj10)).toNat : Int) = b := ⟨_, rfl⟩
      rw [hbj] at hcj
      have hcell : ∀ q (hq : q < l'.length), (wu.setCell ⟨wt.heap.size, j, none⟩ (.int .u8 (cb.toNat : Int))).cell? ⟨wt.heap.size, q, none⟩ = some (.int .u8 ((l'[q]).toNat : Int)) := by
        intro q hq
        have hq10 : q < 10 := by rw [← F.out.2.2.2.2.2.2.1]; exact hq
        have e1 := F.out.2.2.2.2.2.1
        subst e1
        by_cases hqj : q = j
        · subst hqj
          rw [World.cell?_setCell_same' _ _ _ (by rw [hcu q hq10]; rfl), List.getElem_set_self]
        · rw [World.cell?_setCell_other _ _ _ _ (by first | (simp; done) | (simp; omega)), hcu q hq10, List.getElem_set_ne (by omega)]
      have hBv : Below w.heap.size w (wu.setCell ⟨wt.heap.size, j, none⟩ (.int .u8 (cb.toNat : Int))) := hBu.setCell hBt.size _
      have hszv : wt.heap.size < (wu.setCell ⟨wt.heap.size, j, none⟩ (.int .u8 (cb.toNat : Int))).heap.size := by simpa [World.setCell] using hszu
      clear hwu hcu hbj hconv hBu hBt hszu
      have hback : ∀ W, Below (wu.setCell ⟨wt.heap.size, j, none⟩ (.int .u8 (cb.toNat : Int))).heap.size (wu.setCell ⟨wt.heap.size, j, none⟩ (.int .u8 (cb.toNat : Int))) W → (convert 41 9 (.slice (some ⟨wt.heap.size, 0, none⟩) 10 cap)).run Tryd.prog W = .ok (.string s') W := by
        intro W hW
        have h1 := run_convert_bytes_back (P := Tryd.prog) W 41 9 5 ⟨wt.heap.size, 0, none⟩ cap l' Tryd.underlying41 Tryd.underlying5 Tryd.underlying9 (fun q hq => by
          rw [Addr.add_lit, Nat.zero_add]
          exact (hW.cell (p := ⟨wt.heap.size, q, none⟩) hszv).trans (hcell q hq))
        rw [F.out.2.2.2.2.2.2.1, F.out.2.2.2.2.2.2.2.1] at h1
        exact h1
      have HB := Lib.hid hback
      have hb0 := hback _ (Below.refl _ _)
      clear hback hcell
      go_wp2_with fail
      clear hb0 hcj hfu
      obtain ⟨wv, hwv⟩ : ∃ wv, wv = wu.setCell ⟨wt.heap.size, j, none⟩ (.int .u8 (cb.toNat : Int)) := ⟨_, rfl⟩
      rw [← hwv] at hBv HB ⊢
      clear hwv hszv
      refine (parse_at s' i e0 hss (by rw [F.out.2.2.2.2.2.2.2.2.1]; exact F.out.2.2.2.2.2.2.2.2.2.1) (by rw [F.out.2.2.2.2.2.2.2.2.1]; exact F.out.2.2.2.2.2.2.2.2.2.2) _ (HT.out.go hBv).1).mono ?_
      rintro e wp ⟨rfl, hBp⟩
      have hBp' := bgo hBv hBp
      by_cases he : e0 = 0
      · subst he
        obtain ⟨n2, M2, hin2, hi2, ht2⟩ := par_back F.out.2.2.2.2.2.2.2.2.2.2
        have hin : i = (n2 : Int) := by rw [← F.out.2.2.2.2.2.2.2.2.2.1]; exact hi2
        subst hin
        have hts2 : (⟨(Cal.text (2000 + M2 / 12) (M2 % 12 + 1) (Cal.dom n2 M2)).toArray⟩ : ByteArray) = s' := by have h0 := ht2; unfold dtext at h0; rw [h0]; exact F.out.2.2.2.2.2.2.2.1
        have hKK := F.out.2.2.1
        have heq : ((n2 : Int) == (k : Int)) = (s'.toList == t.toList) := by
          rw [ByteArray.toList_eq, ByteArray.toList_eq, F.out.2.2.2.2.2.2.2.2.1, F.out.2.2.2.2.1, ← ht2]
          by_cases hnk : n2 = k
          · subst hnk
            have := Cal.InM.unique hin2 hKK
            subst this
            simp
          · rw [beq_eq_false_iff_ne.2 (by omega), beq_eq_false_iff_ne.2 (fun e => hnk (dtext_inj hin2 hKK e))]
        have G := Lib.hid (And.intro hin2 hts2)
        clear hin2 hi2 ht2 hts2 hKK
        have hr1 := HB.out wp hBp
        have hr2 : (convert 41 9 (.slice (some ⟨wt.heap.size, 0, none⟩) 10 cap)).run Tryd.prog wp.drew = .ok (.string s') wp.drew := HB.out wp.drew hBp.drew
        go_wp2_with fail
        go_region_held3 (fun w' => (convert 41 9 (.slice (some ⟨wt.heap.size, 0, none⟩) 10 cap)).run Tryd.prog w' = .ok (.string s') w')
          (go_keep)
          ((go_at_call 19; (with_reducible refine (textI n2 M2 _ s' rfl G.out.1 G.out.2 wp.drew (HT.out.go hBp'.drew)).mono ?_); rintro e wq ⟨rfl, hBq⟩; have hr3 := HB.out wq (bgo hBp.drew hBq)))
        all_goals
          clear hr1 hr2 hr3
          go_wp2_with fail
          go_ret
          exact ⟨rfl, bgo hBp'.drew hBq⟩
      · have hne : (e0 != 0) = true := by simpa using he
        obtain ⟨hi0, h12⟩ := par_err l' (by rw [F.out.2.2.2.2.2.2.2.2.2.2]; exact he)
        rw [F.out.2.2.2.2.2.2.2.2.2.1] at hi0
        rw [F.out.2.2.2.2.2.2.2.2.2.2] at h12
        subst hi0
        clear he
        rcases h12 with rfl | rfl
        · go_wp2_with fail
          go_ret
          exact ⟨rfl, hBp'⟩
        · go_wp2_with fail
          go_ret
          exact ⟨rfl, hBp'⟩
    · by_cases hmid : 1199 < n
      · have Hm : Hid (n < 0 ∨ 1199 < n) := Lib.hid (.inr hmid)
        have t1 : n ≤ 36524 := by omega
        go_enter Tryd.func8, Tryd.ntmps8
        go_wp2_with fail
        refine (head_any _ HT.out).mono ?_
        rintro e w1 ⟨rfl, hB1⟩
        go_wp2_with fail
        refine (first_no n Hm.out _).mono ?_
        rintro e w6 ⟨rfl, hB⟩
        have hB6 := bgo hB1 hB
        clear hB1 hB
        go_wp2_with fail
        refine (length_no n Hm.out _).mono ?_
        rintro e w7 ⟨rfl, hB⟩
        have hB1 := bgo hB6 hB
        clear hB6 hB
        go_wp2_with fail
        refine (pick_any day 36525 36525 rfl (by omega) (by omega) hb k F.out.1 _).mono ?_
        rintro e w' ⟨rfl, rfl⟩
        go_wp2_with fail
        refine (textI k K _ t rfl F.out.2.2.1 F.out.2.2.2.1 _ (HT.out.go hB1)).mono ?_
        rintro e wt ⟨rfl, hB⟩
        have hBt := bgo hB1 hB
        clear hB1 hB
        obtain ⟨cap, C, fr, hconv, hC, hfr⟩ := conv_bytes wt t (dtext k K) F.out.2.2.2.2.1 rfl
        have HC := Lib.hid (And.intro hC hfr)
        clear hC hfr
        go_wp2_with fail
        refine (pick_any at_ 10 10 rfl (by omega) (by omega) hb2 j F.out.2.1 _).mono ?_
        rintro e w' ⟨rfl, hw'⟩
        subst hw'
        obtain ⟨wu, hwu⟩ : ∃ wu, wu = (wt.alloc (.cells C 5 fr)).drew := ⟨_, rfl⟩
        rw [← hwu]
        have hcu : ∀ q (hq : q < 10), wu.cell? ⟨wt.heap.size, q, none⟩ = some (.int .u8 (((dtext k K)[q]'(by rw [dtext_len]; exact hq)).toNat : Int)) := fun q hq => by rw [hwu]; exact (World.cell?_alloc_mark wt C _ fr q).trans (HC.out.1 q hq)
        have hfu : wu.frozen? ⟨wt.heap.size, j, none⟩ = false := by rw [hwu]; exact (World.frozen?_alloc_mark wt C _ fr.1 fr.2 j).trans (HC.out.2 j hj10)
        have hBu : Below w.heap.size w wu := by rw [hwu]; exact (bal hBt _).drew
        have hszu : wt.heap.size < wu.heap.size := by rw [hwu]; show wt.heap.size < (wt.alloc _).heap.size; simp
        have hcj := hcu j hj10
        obtain ⟨bj, hbj⟩ : ∃ b : Int, (((dtext k K)[j]'(by rw [dtext_len]; exact hj10)).toNat : Int) = b := ⟨_, rfl⟩
        rw [hbj] at hcj
        have hcell : ∀ q (hq : q < l'.length), (wu.setCell ⟨wt.heap.size, j, none⟩ (.int .u8 (cb.toNat : Int))).cell? ⟨wt.heap.size, q, none⟩ = some (.int .u8 ((l'[q]).toNat : Int)) := by
          intro q hq
          have hq10 : q < 10 := by rw [← F.out.2.2.2.2.2.2.1]; exact hq
          have e1 := F.out.2.2.2.2.2.1
          subst e1
          by_cases hqj : q = j
          · subst hqj
            rw [World.cell?_setCell_same' _ _ _ (by rw [hcu q hq10]; rfl), List.getElem_set_self]
          · rw [World.cell?_setCell_other _ _ _ _ (by first | (simp; done) | (simp; omega)), hcu q hq10, List.getElem_set_ne (by omega)]
        have hBv : Below w.heap.size w (wu.setCell ⟨wt.heap.size, j, none⟩ (.int .u8 (cb.toNat : Int))) := hBu.setCell hBt.size _
        have hszv : wt.heap.size < (wu.setCell ⟨wt.heap.size, j, none⟩ (.int .u8 (cb.toNat : Int))).heap.size := by simpa [World.setCell] using hszu
        clear hwu hcu hbj hconv hBu hBt hszu
        have hback : ∀ W, Below (wu.setCell ⟨wt.heap.size, j, none⟩ (.int .u8 (cb.toNat : Int))).heap.size (wu.setCell ⟨wt.heap.size, j, none⟩ (.int .u8 (cb.toNat : Int))) W → (convert 41 9 (.slice (some ⟨wt.heap.size, 0, none⟩) 10 cap)).run Tryd.prog W = .ok (.string s') W := by
          intro W hW
          have h1 := run_convert_bytes_back (P := Tryd.prog) W 41 9 5 ⟨wt.heap.size, 0, none⟩ cap l' Tryd.underlying41 Tryd.underlying5 Tryd.underlying9 (fun q hq => by
            rw [Addr.add_lit, Nat.zero_add]
            exact (hW.cell (p := ⟨wt.heap.size, q, none⟩) hszv).trans (hcell q hq))
          rw [F.out.2.2.2.2.2.2.1, F.out.2.2.2.2.2.2.2.1] at h1
          exact h1
        have HB := Lib.hid hback
        have hb0 := hback _ (Below.refl _ _)
        clear hback hcell
        go_wp2_with fail
        clear hb0 hcj hfu
        obtain ⟨wv, hwv⟩ : ∃ wv, wv = wu.setCell ⟨wt.heap.size, j, none⟩ (.int .u8 (cb.toNat : Int)) := ⟨_, rfl⟩
        rw [← hwv] at hBv HB ⊢
        clear hwv hszv
        refine (parse_at s' i e0 hss (by rw [F.out.2.2.2.2.2.2.2.2.1]; exact F.out.2.2.2.2.2.2.2.2.2.1) (by rw [F.out.2.2.2.2.2.2.2.2.1]; exact F.out.2.2.2.2.2.2.2.2.2.2) _ (HT.out.go hBv).1).mono ?_
        rintro e wp ⟨rfl, hBp⟩
        have hBp' := bgo hBv hBp
        by_cases he : e0 = 0
        · subst he
          obtain ⟨n2, M2, hin2, hi2, ht2⟩ := par_back F.out.2.2.2.2.2.2.2.2.2.2
          have hin : i = (n2 : Int) := by rw [← F.out.2.2.2.2.2.2.2.2.2.1]; exact hi2
          subst hin
          have hts2 : (⟨(Cal.text (2000 + M2 / 12) (M2 % 12 + 1) (Cal.dom n2 M2)).toArray⟩ : ByteArray) = s' := by have h0 := ht2; unfold dtext at h0; rw [h0]; exact F.out.2.2.2.2.2.2.2.1
          have hKK := F.out.2.2.1
          have heq : ((n2 : Int) == (k : Int)) = (s'.toList == t.toList) := by
            rw [ByteArray.toList_eq, ByteArray.toList_eq, F.out.2.2.2.2.2.2.2.2.1, F.out.2.2.2.2.1, ← ht2]
            by_cases hnk : n2 = k
            · subst hnk
              have := Cal.InM.unique hin2 hKK
              subst this
              simp
            · rw [beq_eq_false_iff_ne.2 (by omega), beq_eq_false_iff_ne.2 (fun e => hnk (dtext_inj hin2 hKK e))]
          have G := Lib.hid (And.intro hin2 hts2)
          clear hin2 hi2 ht2 hts2 hKK
          have hr1 := HB.out wp hBp
          have hr2 : (convert 41 9 (.slice (some ⟨wt.heap.size, 0, none⟩) 10 cap)).run Tryd.prog wp.drew = .ok (.string s') wp.drew := HB.out wp.drew hBp.drew
          go_wp2_with fail
          go_region_held3 (fun w' => (convert 41 9 (.slice (some ⟨wt.heap.size, 0, none⟩) 10 cap)).run Tryd.prog w' = .ok (.string s') w')
            (go_keep)
            ((go_at_call 19; (with_reducible refine (textI n2 M2 _ s' rfl G.out.1 G.out.2 wp.drew (HT.out.go hBp'.drew)).mono ?_); rintro e wq ⟨rfl, hBq⟩; have hr3 := HB.out wq (bgo hBp.drew hBq)))
          all_goals
            clear hr1 hr2 hr3
            go_wp2_with fail
            go_ret
            exact ⟨rfl, bgo hBp'.drew hBq⟩
        · have hne : (e0 != 0) = true := by simpa using he
          obtain ⟨hi0, h12⟩ := par_err l' (by rw [F.out.2.2.2.2.2.2.2.2.2.2]; exact he)
          rw [F.out.2.2.2.2.2.2.2.2.2.1] at hi0
          rw [F.out.2.2.2.2.2.2.2.2.2.2] at h12
          subst hi0
          clear he
          rcases h12 with rfl | rfl
          · go_wp2_with fail
            go_ret
            exact ⟨rfl, hBp'⟩
          · go_wp2_with fail
            go_ret
            exact ⟨rfl, hBp'⟩
      · have t1 : n ≤ 36524 := by omega
        have t2 : n ≤ 1199 := by omega
        go_enter Tryd.func8, Tryd.ntmps8
        go_wp2_with fail
        refine (head_any _ HT.out).mono ?_
        rintro e w1 ⟨rfl, hB1⟩
        go_wp2_with fail
        refine (pick_any day 36525 36525 rfl (by omega) (by omega) hb k F.out.1 _).mono ?_
        rintro e w' ⟨rfl, rfl⟩
        go_wp2_with fail
        refine (textI k K _ t rfl F.out.2.2.1 F.out.2.2.2.1 _ (HT.out.go hB1)).mono ?_
        rintro e wt ⟨rfl, hB⟩
        have hBt := bgo hB1 hB
        clear hB1 hB
        obtain ⟨cap, C, fr, hconv, hC, hfr⟩ := conv_bytes wt t (dtext k K) F.out.2.2.2.2.1 rfl
        have HC := Lib.hid (And.intro hC hfr)
        clear hC hfr
        go_wp2_with fail
        refine (pick_any at_ 10 10 rfl (by omega) (by omega) hb2 j F.out.2.1 _).mono ?_
        rintro e w' ⟨rfl, hw'⟩
        subst hw'
        obtain ⟨wu, hwu⟩ : ∃ wu, wu = (wt.alloc (.cells C 5 fr)).drew := ⟨_, rfl⟩
        rw [← hwu]
        have hcu : ∀ q (hq : q < 10), wu.cell? ⟨wt.heap.size, q, none⟩ = some (.int .u8 (((dtext k K)[q]'(by rw [dtext_len]; exact hq)).toNat : Int)) := fun q hq => by rw [hwu]; exact (World.cell?_alloc_mark wt C _ fr q).trans (HC.out.1 q hq)
        have hfu : wu.frozen? ⟨wt.heap.size, j, none⟩ = false := by rw [hwu]; exact (World.frozen?_alloc_mark wt C _ fr.1 fr.2 j).trans (HC.out.2 j hj10)
        have hBu : Below w.heap.size w wu := by rw [hwu]; exact (bal hBt _).drew
        have hszu : wt.heap.size < wu.heap.size := by rw [hwu]; show wt.heap.size < (wt.alloc _).heap.size; simp
        have hcj := hcu j hj10
        obtain ⟨bj, hbj⟩ : ∃ b : Int, (((dtext k K)[j]'(by rw [dtext_len]; exact hj10)).toNat : Int) = b := ⟨_, rfl⟩
        rw [hbj] at hcj
        have hcell : ∀ q (hq : q < l'.length), (wu.setCell ⟨wt.heap.size, j, none⟩ (.int .u8 (cb.toNat : Int))).cell? ⟨wt.heap.size, q, none⟩ = some (.int .u8 ((l'[q]).toNat : Int)) := by
          intro q hq
          have hq10 : q < 10 := by rw [← F.out.2.2.2.2.2.2.1]; exact hq
          have e1 := F.out.2.2.2.2.2.1
          subst e1
          by_cases hqj : q = j
          · subst hqj
            rw [World.cell?_setCell_same' _ _ _ (by rw [hcu q hq10]; rfl), List.getElem_set_self]
          · rw [World.cell?_setCell_other _ _ _ _ (by first | (simp; done) | (simp; omega)), hcu q hq10, List.getElem_set_ne (by omega)]
        have hBv : Below w.heap.size w (wu.setCell ⟨wt.heap.size, j, none⟩ (.int .u8 (cb.toNat : Int))) := hBu.setCell hBt.size _
        have hszv : wt.heap.size < (wu.setCell ⟨wt.heap.size, j, none⟩ (.int .u8 (cb.toNat : Int))).heap.size := by simpa [World.setCell] using hszu
        clear hwu hcu hbj hconv hBu hBt hszu
        have hback : ∀ W, Below (wu.setCell ⟨wt.heap.size, j, none⟩ (.int .u8 (cb.toNat : Int))).heap.size (wu.setCell ⟨wt.heap.size, j, none⟩ (.int .u8 (cb.toNat : Int))) W → (convert 41 9 (.slice (some ⟨wt.heap.size, 0, none⟩) 10 cap)).run Tryd.prog W = .ok (.string s') W := by
          intro W hW
          have h1 := run_convert_bytes_back (P := Tryd.prog) W 41 9 5 ⟨wt.heap.size, 0, none⟩ cap l' Tryd.underlying41 Tryd.underlying5 Tryd.underlying9 (fun q hq => by
            rw [Addr.add_lit, Nat.zero_add]
            exact (hW.cell (p := ⟨wt.heap.size, q, none⟩) hszv).trans (hcell q hq))
          rw [F.out.2.2.2.2.2.2.1, F.out.2.2.2.2.2.2.2.1] at h1
          exact h1
        have HB := Lib.hid hback
        have hb0 := hback _ (Below.refl _ _)
        clear hback hcell
        go_wp2_with fail
        clear hb0 hcj hfu
        obtain ⟨wv, hwv⟩ : ∃ wv, wv = wu.setCell ⟨wt.heap.size, j, none⟩ (.int .u8 (cb.toNat : Int)) := ⟨_, rfl⟩
        rw [← hwv] at hBv HB ⊢
        clear hwv hszv
        refine (parse_at s' i e0 hss (by rw [F.out.2.2.2.2.2.2.2.2.1]; exact F.out.2.2.2.2.2.2.2.2.2.1) (by rw [F.out.2.2.2.2.2.2.2.2.1]; exact F.out.2.2.2.2.2.2.2.2.2.2) _ (HT.out.go hBv).1).mono ?_
        rintro e wp ⟨rfl, hBp⟩
        have hBp' := bgo hBv hBp
        by_cases he : e0 = 0
        · subst he
          obtain ⟨n2, M2, hin2, hi2, ht2⟩ := par_back F.out.2.2.2.2.2.2.2.2.2.2
          have hin : i = (n2 : Int) := by rw [← F.out.2.2.2.2.2.2.2.2.2.1]; exact hi2
          subst hin
          have hts2 : (⟨(Cal.text (2000 + M2 / 12) (M2 % 12 + 1) (Cal.dom n2 M2)).toArray⟩ : ByteArray) = s' := by have h0 := ht2; unfold dtext at h0; rw [h0]; exact F.out.2.2.2.2.2.2.2.1
          have hKK := F.out.2.2.1
          have heq : ((n2 : Int) == (k : Int)) = (s'.toList == t.toList) := by
            rw [ByteArray.toList_eq, ByteArray.toList_eq, F.out.2.2.2.2.2.2.2.2.1, F.out.2.2.2.2.1, ← ht2]
            by_cases hnk : n2 = k
            · subst hnk
              have := Cal.InM.unique hin2 hKK
              subst this
              simp
            · rw [beq_eq_false_iff_ne.2 (by omega), beq_eq_false_iff_ne.2 (fun e => hnk (dtext_inj hin2 hKK e))]
          have G := Lib.hid (And.intro hin2 hts2)
          clear hin2 hi2 ht2 hts2 hKK
          have hr1 := HB.out wp hBp
          have hr2 : (convert 41 9 (.slice (some ⟨wt.heap.size, 0, none⟩) 10 cap)).run Tryd.prog wp.drew = .ok (.string s') wp.drew := HB.out wp.drew hBp.drew
          go_wp2_with fail
          go_region_held3 (fun w' => (convert 41 9 (.slice (some ⟨wt.heap.size, 0, none⟩) 10 cap)).run Tryd.prog w' = .ok (.string s') w')
            (go_keep)
            ((go_at_call 19; (with_reducible refine (textI n2 M2 _ s' rfl G.out.1 G.out.2 wp.drew (HT.out.go hBp'.drew)).mono ?_); rintro e wq ⟨rfl, hBq⟩; have hr3 := HB.out wq (bgo hBp.drew hBq)))
          all_goals
            clear hr1 hr2 hr3
            go_wp2_with fail
            go_ret
            exact ⟨rfl, bgo hBp'.drew hBq⟩
        · have hne : (e0 != 0) = true := by simpa using he
          obtain ⟨hi0, h12⟩ := par_err l' (by rw [F.out.2.2.2.2.2.2.2.2.2.2]; exact he)
          rw [F.out.2.2.2.2.2.2.2.2.2.1] at hi0
          rw [F.out.2.2.2.2.2.2.2.2.2.2] at h12
          subst hi0
          clear he
          rcases h12 with rfl | rfl
          · go_wp2_with fail
            go_ret
            exact ⟨rfl, hBp'⟩
          · go_wp2_with fail
            go_ret
            exact ⟨rfl, hBp'⟩
end Go.Proofs.YtnfjpmchdbgonaaDoor
