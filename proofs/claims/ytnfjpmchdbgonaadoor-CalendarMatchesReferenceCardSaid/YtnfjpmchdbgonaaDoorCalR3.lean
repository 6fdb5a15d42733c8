/- The walks of the reference of calendar, third part: Day, two, Text, number, Parse. -/
import Derived.Test.YtnfjpmchdbgonaaDoorCalR2
namespace Go.Proofs.YtnfjpmchdbgonaaDoor
open Go.RowKit Go.Sort
set_option linter.unusedVariables false
theorem rday_any (y m d : Int) (w : World) (hd : -9223372036854775808 ≤ d ∧ d ≤ 9223372036854775807) : Calls Tryd.prog 26 #[.int .i64 y, .int .i64 m, .int .i64 d] w fun e w' => e = .returned (.tuple #[.int .i64 (dayI y m d), .int .i64 (dayE y m d)]) ∧ w = w' := by
  by_cases h1 : 2000 ≤ y
  · by_cases h2 : y ≤ 2099
    · by_cases h3 : 1 ≤ m
      · by_cases h4 : m ≤ 12
        · obtain ⟨Y, rfl⟩ : ∃ Y : Nat, y = 2000 + (Y : Int) := ⟨(y - 2000).toNat, by omega⟩
          obtain ⟨k, rfl⟩ : ∃ k : Nat, m = (k : Int) + 1 := ⟨(m - 1).toNat, by omega⟩
          have hY : Y ≤ 99 := by omega
          have hk : k < 12 := by omega
          have hP : dayP (2000 + (Y : Int)) ((k : Int) + 1) d ↔ 1 ≤ d ∧ d ≤ ((Cal.len Y k : Nat) : Int) := by
            unfold dayP
            rw [show ((2000 + (Y : Int)) - 2000).toNat = Y by omega, show (((k : Int) + 1) - 1).toNat = k by omega]
            constructor
            · exact fun h => h.2.2
            · exact fun h => ⟨⟨h1, h2⟩, ⟨h3, h4⟩, h⟩
          have hlen4 : Cal.len (2000 + Y) k = Cal.len Y k := Cal.len_4 Y k
          have hlb := Cal.lenM_bounds (Y * 12 + k)
          rw [Cal.lenM_year Y k hk] at hlb
          have hfb := Cal.first_bound (show Y * 12 + k ≤ 1200 by omega)
          obtain ⟨l, hl⟩ : ∃ l, Cal.len Y k = l := ⟨_, rfl⟩
          obtain ⟨f, hf⟩ : ∃ f, Cal.first (Y * 12 + k) = f := ⟨_, rfl⟩
          rw [hl] at hlen4 hlb hP
          rw [hf] at hfb
          have hc1 : (2000 : Int) + (Y : Int) = ((2000 + Y : Nat) : Int) := by omega
          have hc3 : (2000 + (Y : Int) - 2000) * 12 + ((k : Int) + 1) - 1 = ((Y * 12 + k : Nat) : Int) := by omega
          have hres : dayP (2000 + (Y : Int)) ((k : Int) + 1) d → dayI (2000 + (Y : Int)) ((k : Int) + 1) d = (f : Int) + d - 1 ∧ dayE (2000 + (Y : Int)) ((k : Int) + 1) d = 0 := by
            intro h
            unfold dayI dayE
            rw [if_pos h, if_pos h, show ((2000 + (Y : Int)) - 2000).toNat = Y by omega, show (((k : Int) + 1) - 1).toNat = k by omega, hf]
            exact ⟨rfl, rfl⟩
          have hno : ¬ dayP (2000 + (Y : Int)) ((k : Int) + 1) d → dayI (2000 + (Y : Int)) ((k : Int) + 1) d = 0 ∧ dayE (2000 + (Y : Int)) ((k : Int) + 1) d = 21 := by
            intro h
            unfold dayI dayE
            rw [if_neg h, if_neg h]
            exact ⟨rfl, rfl⟩
          have F := Lib.hid (And.intro hlen4 (And.intro hf (And.intro hc1 (And.intro hc3 (And.intro hres hno)))))
          clear hlen4 hl hf hc1 hc3 hres hno h1 h2 h3 h4
          by_cases h5 : 1 ≤ d
          · by_cases h6 : d ≤ (l : Int)
            · obtain ⟨e1, e2⟩ := F.out.2.2.2.2.1 (hP.2 ⟨h5, h6⟩)
              rw [e1, e2]
              clear hP e1 e2
              go_enter Tryd.func26, Tryd.ntmps26
              go_wp2_with fail
              refine (days_any Y k l (by omega) hk ((Cal.len_4 Y k).symm.trans F.out.1) _ _ rfl rfl _).mono ?_
              rintro e w' ⟨rfl, rfl⟩
              go_wp2_with fail
              rw [F.out.2.2.2.1]
              refine (rfirst_ok (Y * 12 + k) f (by omega) F.out.2.1 _).mono ?_
              rintro e w' ⟨rfl, rfl⟩
              go_wp2_with fail
              go_ret2
              exact ⟨rfl, rfl⟩
            · obtain ⟨e1, e2⟩ := F.out.2.2.2.2.2 (fun h => h6 (hP.1 h).2)
              rw [e1, e2]
              clear hP e1 e2
              have h6' : (l : Int) < d := by omega
              go_enter Tryd.func26, Tryd.ntmps26
              go_wp2_with fail
              refine (days_any Y k l (by omega) hk ((Cal.len_4 Y k).symm.trans F.out.1) _ _ rfl rfl _).mono ?_
              rintro e w' ⟨rfl, rfl⟩
              go_wp2_with fail
              go_ret2
              exact ⟨rfl, rfl⟩
          · obtain ⟨e1, e2⟩ := F.out.2.2.2.2.2 (fun h => h5 (hP.1 h).1)
            rw [e1, e2]
            clear hP e1 e2
            have h5' : d < 1 := by omega
            go_enter Tryd.func26, Tryd.ntmps26
            go_wp2_with fail
            go_ret2
            exact ⟨rfl, rfl⟩
        · have hbad : ¬ dayP y m d := fun h => h4 h.2.1.2
          have h4' : 12 < m := by omega
          rw [show dayI y m d = 0 from if_neg hbad, show dayE y m d = 21 from if_neg hbad]
          clear hbad
          go_enter Tryd.func26, Tryd.ntmps26
          go_wp2_with fail
          go_ret2
          exact ⟨rfl, rfl⟩
      · have hbad : ¬ dayP y m d := fun h => h3 h.2.1.1
        have h3' : m < 1 := by omega
        rw [show dayI y m d = 0 from if_neg hbad, show dayE y m d = 21 from if_neg hbad]
        clear hbad
        go_enter Tryd.func26, Tryd.ntmps26
        go_wp2_with fail
        go_ret2
        exact ⟨rfl, rfl⟩
    · have hbad : ¬ dayP y m d := fun h => h2 h.1.2
      have h2' : 2099 < y := by omega
      rw [show dayI y m d = 0 from if_neg hbad, show dayE y m d = 21 from if_neg hbad]
      clear hbad
      go_enter Tryd.func26, Tryd.ntmps26
      go_wp2_with fail
      go_ret2
      exact ⟨rfl, rfl⟩
  · have hbad : ¬ dayP y m d := fun h => h1 h.1.1
    have h1' : y < 2000 := by omega
    rw [show dayI y m d = 0 from if_neg hbad, show dayE y m d = 21 from if_neg hbad]
    clear hbad
    go_enter Tryd.func26, Tryd.ntmps26
    go_wp2_with fail
    go_ret2
    exact ⟨rfl, rfl⟩
theorem rday_at (y m d i e : Int) (hi : dayI y m d = i) (he : dayE y m d = e) (w : World) (hd : -9223372036854775808 ≤ d ∧ d ≤ 9223372036854775807) : Calls Tryd.prog 26 #[.int .i64 y, .int .i64 m, .int .i64 d] w fun r w' => r = .returned (.tuple #[.int .i64 i, .int .i64 e]) ∧ w = w' := by
  subst hi he
  exact rday_any y m d w hd
theorem two_back (W : World) (B : Nat) (n : Nat) (h0 : W.cell? ⟨B, 0, none⟩ = some (.int .u8 ((Cal.dig (n / 10)).toNat : Int))) (h1 : W.cell? ⟨B, 1, none⟩ = some (.int .u8 ((Cal.dig (n % 10)).toNat : Int))) :
    (convert 41 9 (.slice (some ⟨B, 0, none⟩) 2 2)).run Tryd.prog W = .ok (.string ⟨(Cal.two n).toArray⟩) W := by
  refine run_convert_bytes_back (P := Tryd.prog) W 41 9 5 ⟨B, 0, none⟩ 2 (Cal.two n) Tryd.underlying41 Tryd.underlying5 Tryd.underlying9 ?_
  intro j hj
  have hj : j < 2 := hj
  rcases (show j = 0 ∨ j = 1 by omega) with rfl | rfl
  · exact h0
  · exact h1
theorem rtwo_any (n : Nat) (h : n < 100) (i : Int) (hi : i = n) (w : World) : Calls Tryd.prog 34 #[.int .i64 i] w fun e w' => e = .returned (.string ⟨(Cal.two n).toArray⟩) ∧ Below w.heap.size w w' := by
  subst hi
  have hn0 : (0 : Int) ≤ (n : Int) := Int.natCast_nonneg _
  have e0 : (48 + (n : Int) / 10) % 256 = ((Cal.dig (n / 10)).toNat : Int) := by rw [dig_toNat _ (by omega)]; omega
  have e1 : (48 + (n : Int) % 10) % 256 = ((Cal.dig (n % 10)).toNat : Int) := by rw [dig_toNat _ (by omega)]; omega
  have f0 : 48 + (n : Int) / 10 = ((Cal.dig (n / 10)).toNat : Int) := by rw [dig_toNat _ (by omega)]; omega
  have f1 : 48 + (n : Int) % 10 = ((Cal.dig (n % 10)).toNat : Int) := by rw [dig_toNat _ (by omega)]; omega
  have l0 := (Cal.dig (n / 10)).toNat_lt
  have l1 := (Cal.dig (n % 10)).toNat_lt
  have k := two_back (w.alloc (.cells #[.int .u8 ((Cal.dig (n / 10)).toNat : Int), .int .u8 ((Cal.dig (n % 10)).toNat : Int)] 5)) w.heap.size n (by simp [go_sem]) (by simp [go_sem])
  go_enter Tryd.func34, Tryd.ntmps34
  go_wp2_with fail
  go_ret
  exact ⟨rfl, (Below.refl _ _).alloc (Nat.le_refl _) _⟩
theorem four_two (y : Nat) (h : y < 10000) : Cal.four y = Cal.two (y / 100) ++ Cal.two (y % 100) := by
  unfold Cal.four Cal.two
  rw [show y / 100 / 10 = y / 1000 by omega, show y % 100 / 10 = y / 10 % 10 by omega, show y % 100 % 10 = y % 10 by omega]
  rfl
theorem rtext_join (y m d : Nat) (h : y < 10000) : (⟨(Cal.two (y / 100)).toArray⟩ : ByteArray) ++ ⟨(Cal.two (y % 100)).toArray⟩ ++ ⟨#[45]⟩ ++ ⟨(Cal.two m).toArray⟩ ++ ⟨#[45]⟩ ++ ⟨(Cal.two d).toArray⟩ = ⟨(Cal.text y m d).toArray⟩ := by
  apply ByteArray.ext
  simp [ByteArray.data_append, Cal.text, four_two y h]
theorem rtext_ok (n M : Nat) (i : Int) (t : ByteArray) (hi : i = n) (h : Cal.InM n M) (ht : (⟨(Cal.text (2000 + M / 12) (M % 12 + 1) (Cal.dom n M)).toArray⟩ : ByteArray) = t) (w : World) : Calls Tryd.prog 20 #[.int .i64 i] w fun e w' => e = .returned (.string t) ∧ Below w.heap.size w w' := by
  subst hi
  have hM := h.1
  have hdb := h.dom
  have hlb := Cal.lenM_bounds M
  obtain ⟨y, hy⟩ : ∃ y, 2000 + M / 12 = y := ⟨_, rfl⟩
  obtain ⟨m, hm⟩ : ∃ m, M % 12 + 1 = m := ⟨_, rfl⟩
  obtain ⟨d, hd⟩ : ∃ d, Cal.dom n M = d := ⟨_, rfl⟩
  rw [hy, hm, hd] at ht
  have hd31 : d < 100 := by omega
  have hm12 : m < 100 := by omega
  have hy1 : 2000 ≤ y := by omega
  have hy2 : y < 2100 := by omega
  have hy0 : ((y : Int) == 0) = false := beq_eq_false_iff_ne.2 (by omega)
  have hj := rtext_join y m d (by omega)
  rw [ht] at hj
  have z1 : (⟨(Cal.two (y / 100)).toArray⟩ : ByteArray).size = 2 := rfl
  have z2 : (⟨(Cal.two (y % 100)).toArray⟩ : ByteArray).size = 2 := rfl
  have z3 : (⟨(Cal.two m).toArray⟩ : ByteArray).size = 2 := rfl
  have z4 : (⟨(Cal.two d).toArray⟩ : ByteArray).size = 2 := rfl
  have F := Lib.hid (And.intro h (And.intro hy (And.intro hm (And.intro hd hj))))
  clear h hy hm hd hj ht hdb hlb
  go_enter Tryd.func20, Tryd.ntmps20
  go_wp2_with fail
  refine (rdate_ok n M y m d F.out.1 F.out.2.1 F.out.2.2.1 F.out.2.2.2.1 _).mono ?_
  rintro e w' ⟨rfl, rfl⟩
  go_wp2_with fail
  refine (rtwo_any (y / 100) (by omega) _ (by omega) _).mono ?_
  rintro e w1 ⟨rfl, hB1⟩
  go_wp2_with fail
  refine (rtwo_any (y % 100) (by omega) _ (by omega) _).mono ?_
  rintro e w2 ⟨rfl, hB⟩
  have hB2 := bgo hB1 hB
  clear hB1 hB
  go_wp2_with fail
  refine (rtwo_any m hm12 _ rfl _).mono ?_
  rintro e w3 ⟨rfl, hB⟩
  have hB3 := bgo hB2 hB
  clear hB2 hB
  go_wp2_with fail
  refine (rtwo_any d hd31 _ rfl _).mono ?_
  rintro e w4 ⟨rfl, hB⟩
  have hB4 := bgo hB3 hB
  clear hB3 hB
  go_wp2_with fail
  go_ret
  rw [← F.out.2.2.2.2]
  exact ⟨rfl, hB4⟩
theorem rtext_no (n : Int) (h : validB n = false) (w : World) : Calls Tryd.prog 20 #[.int .i64 n] w fun e w' => e = .returned (.string ⟨#[]⟩) ∧ Below w.heap.size w w' := by
  have H := Lib.hid h
  clear h
  go_enter Tryd.func20, Tryd.ntmps20
  go_wp2_with fail
  refine (rdate_no n H.out _).mono ?_
  rintro e w' ⟨rfl, rfl⟩
  go_wp2_with fail
  go_ret
  exact ⟨rfl, Below.refl _ _⟩
end Go.Proofs.YtnfjpmchdbgonaaDoor
