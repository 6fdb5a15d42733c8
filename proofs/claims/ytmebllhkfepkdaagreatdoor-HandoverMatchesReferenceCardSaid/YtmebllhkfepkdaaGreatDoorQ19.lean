/- The reference's Text and First of layer 02, in the namespace of calendar.Text. The reference's Number and Text (layer 29). -/
import Derived.Test.YtmebllhkfepkdaaGreatDoorQ08
import Derived.Laws.IdiomStrings
import Derived.Test.YtmebllhkfepkdaaGreatDoorQ18
import Derived.Deep.CutBlock
import Derived.Lib.ItoaLen
namespace Go.Proofs.YtmebllhkfepkdaaGreatDoor.CaT
open Go.RowKit Go.Sort Go.Proofs.YtmebllhkfepkdaaGreatDoor
set_option linter.unusedVariables false
theorem dig_toNat (a : Nat) (h : a < 10) : (Cal.dig a).toNat = 48 + a := by
  unfold Cal.dig
  rw [UInt8.toNat_ofNat']
  omega
theorem long_any (Y : Nat) (hY : Y < 100) (b : Bool) (hb : decide (Y % 4 = 0) = b) (w : World) : Calls Tryz.prog 81 #[.int .i64 ((2000 : Int) + (Y : Int))] w fun e w' => e = .returned (.bool b) ∧ w = w' := by
  subst hb
  by_cases h4 : Y % 4 = 0
  · rw [decide_eq_true h4]
    have d1 : (((2000 : Int) + (Y : Int)) % 4 == 0) = true := by simp; omega
    by_cases h0 : Y = 0
    · subst h0
      go_enter Tryz.func81, Tryz.ntmps81
      go_wp2
      go_ret
      exact ⟨rfl, rfl⟩
    · have d2 : (((2000 : Int) + (Y : Int)) % 100 != 0) = true := by simp; omega
      go_enter Tryz.func81, Tryz.ntmps81
      go_wp2
      go_ret
      exact ⟨rfl, rfl⟩
  · rw [decide_eq_false h4]
    have d1 : (((2000 : Int) + (Y : Int)) % 4 == 0) = false := by simp; omega
    go_enter Tryz.func81, Tryz.ntmps81
    go_wp2
    go_ret
    exact ⟨rfl, rfl⟩
theorem days_any (Y k l : Nat) (hY : Y < 100) (hk : k < 12) (hl : Cal.len Y k = l) (y m : Int) (hy : y = 2000 + (Y : Int)) (hm : m = (k : Int) + 1) (w : World) : Calls Tryz.prog 60 #[.int .i64 y, .int .i64 m] w fun e w' => e = .returned (.int .i64 (l : Int)) ∧ w = w' := by
  subst hy hm
  rcases Cal.k12 k hk with rfl | rfl | rfl | rfl | rfl | rfl | rfl | rfl | rfl | rfl | rfl | rfl
  · obtain rfl : l = 31 := by rw [← hl]; simp [Cal.len, Cal.bef]
    clear hl
    go_enter Tryz.func60, Tryz.ntmps60
    go_wp2_with fail
    go_ret
    exact ⟨rfl, rfl⟩
  · by_cases h4 : Y % 4 = 0
    · obtain rfl : l = 29 := by rw [← hl]; simp [Cal.len, Cal.bef, h4]
      clear hl
      go_enter Tryz.func60, Tryz.ntmps60
      go_wp2_with fail
      refine (long_any Y hY true (decide_eq_true h4) _).mono ?_
      rintro e w' ⟨rfl, rfl⟩
      go_wp2_with fail
      go_ret
      exact ⟨rfl, rfl⟩
    · obtain rfl : l = 28 := by rw [← hl]; simp [Cal.len, Cal.bef, h4]
      clear hl
      go_enter Tryz.func60, Tryz.ntmps60
      go_wp2_with fail
      refine (long_any Y hY false (decide_eq_false h4) _).mono ?_
      rintro e w' ⟨rfl, rfl⟩
      go_wp2_with fail
      go_ret
      exact ⟨rfl, rfl⟩
  · obtain rfl : l = 31 := by rw [← hl]; simp [Cal.len, Cal.bef]
    clear hl
    go_enter Tryz.func60, Tryz.ntmps60
    go_wp2_with fail
    go_ret
    exact ⟨rfl, rfl⟩
  · obtain rfl : l = 30 := by rw [← hl]; simp [Cal.len, Cal.bef]
    clear hl
    go_enter Tryz.func60, Tryz.ntmps60
    go_wp2_with fail
    go_ret
    exact ⟨rfl, rfl⟩
  · obtain rfl : l = 31 := by rw [← hl]; simp [Cal.len, Cal.bef]
    clear hl
    go_enter Tryz.func60, Tryz.ntmps60
    go_wp2_with fail
    go_ret
    exact ⟨rfl, rfl⟩
  · obtain rfl : l = 30 := by rw [← hl]; simp [Cal.len, Cal.bef]
    clear hl
    go_enter Tryz.func60, Tryz.ntmps60
    go_wp2_with fail
    go_ret
    exact ⟨rfl, rfl⟩
  · obtain rfl : l = 31 := by rw [← hl]; simp [Cal.len, Cal.bef]
    clear hl
    go_enter Tryz.func60, Tryz.ntmps60
    go_wp2_with fail
    go_ret
    exact ⟨rfl, rfl⟩
  · obtain rfl : l = 31 := by rw [← hl]; simp [Cal.len, Cal.bef]
    clear hl
    go_enter Tryz.func60, Tryz.ntmps60
    go_wp2_with fail
    go_ret
    exact ⟨rfl, rfl⟩
  · obtain rfl : l = 30 := by rw [← hl]; simp [Cal.len, Cal.bef]
    clear hl
    go_enter Tryz.func60, Tryz.ntmps60
    go_wp2_with fail
    go_ret
    exact ⟨rfl, rfl⟩
  · obtain rfl : l = 31 := by rw [← hl]; simp [Cal.len, Cal.bef]
    clear hl
    go_enter Tryz.func60, Tryz.ntmps60
    go_wp2_with fail
    go_ret
    exact ⟨rfl, rfl⟩
  · obtain rfl : l = 30 := by rw [← hl]; simp [Cal.len, Cal.bef]
    clear hl
    go_enter Tryz.func60, Tryz.ntmps60
    go_wp2_with fail
    go_ret
    exact ⟨rfl, rfl⟩
  · obtain rfl : l = 31 := by rw [← hl]; simp [Cal.len, Cal.bef]
    clear hl
    go_enter Tryz.func60, Tryz.ntmps60
    go_wp2_with fail
    go_ret
    exact ⟨rfl, rfl⟩
set_option maxRecDepth 100000 in
theorem rfirst_ok (m : Nat) (f : Nat) (hm : m < 1200) (hf : Cal.first m = f) (w : World) : Calls Tryz.prog 31 #[.int .i64 (m : Int)] w fun e w' => e = .returned (.int .i64 (f : Int)) ∧ w = w' := by
  have Hf := Lib.hid hf
  clear hf
  have h1 : ¬ ((m : Int) < 0) := by omega
  have h2 : ¬ ((1199 : Int) < (m : Int)) := by omega
  go_enter Tryz.func31, Tryz.ntmps31
  go_wp2_with fail
  go_loop [3, 4] (fun s i => ∃ j S : Nat, j ≤ m ∧ i = .int .i64 (j : Int) ∧ s = .int .i64 (S : Int) ∧ S = Cal.first j) (fun _ i => m - (intOf i).toNat)
  case atStart => exact ⟨0, 0, by omega, rfl, rfl, rfl⟩
  case round =>
    obtain ⟨j, S, hj, rfl, rfl, hS⟩ := hrel
    have hfb := Cal.first_bound (show j ≤ 1200 by omega)
    have hSb : S ≤ 36525 := by omega
    have HS := Lib.hid hS
    clear hS hfb
    by_cases hlt : j < m
    · have hfs := Cal.first_succ j
      have hlb := Cal.lenM_bounds j
      obtain ⟨l, hl⟩ : ∃ l, Cal.lenM j = l := ⟨_, rfl⟩
      rw [hl] at hfs hlb
      have Hl := Lib.hid (And.intro hl hfs)
      clear hl hfs
      have hj0 : (0 : Int) ≤ (j : Int) := Int.natCast_nonneg _
      go_wp2_with fail
      refine (days_any (j / 12) (j % 12) l (by omega) (by omega) Hl.out.1 _ _ (by omega) (by omega) _).mono ?_
      rintro e w' ⟨rfl, rfl⟩
      go_wp2_with fail
      go_round
      case rel => exact ⟨j + 1, S + l, by omega, by go_num, by go_num, by rw [Hl.out.2, HS.out]⟩
      case measure => simp [intOf]; omega
    · obtain rfl : j = m := by omega
      go_wp2_with fail
      go_ret
      rw [← Hf.out, HS.out]
      exact ⟨rfl, rfl⟩
set_option maxRecDepth 100000 in
set_option maxHeartbeats 1000000 in
theorem rdate_ok (n M y m d : Nat) (h : Cal.InM n M) (hy : 2000 + M / 12 = y) (hm : M % 12 + 1 = m) (hd : Cal.dom n M = d) (w : World) : Calls Tryz.prog 58 #[.int .i64 (n : Int)] w fun e w' => e = .returned (.tuple #[.int .i64 (y : Int), .int .i64 (m : Int), .int .i64 (d : Int)]) ∧ w = w' := by
  have hn := h.day
  have hM := h.1
  have H := Lib.hid (And.intro h (And.intro hy (And.intro hm hd)))
  clear h hy hm hd
  have h1 : ¬ ((n : Int) < 0) := by omega
  have h2 : ¬ ((36524 : Int) < (n : Int)) := by omega
  go_enter Tryz.func58, Tryz.ntmps58
  go_wp2_with fail
  go_loop [0, 5, 6] (fun r yy mm => ∃ Y k R : Nat, r = .int .i64 (R : Int) ∧ yy = .int .i64 ((2000 : Int) + (Y : Int)) ∧ mm = .int .i64 ((k : Int) + 1) ∧ k < 12 ∧ Y * 12 + k ≤ M ∧ Cal.first (Y * 12 + k) + R = n) (fun r _ _ => (intOf r).toNat)
  case atStart => exact ⟨0, 0, n, rfl, rfl, rfl, by omega, by omega, by simp [Cal.first_0]⟩
  case round =>
    obtain ⟨Y, k, R, rfl, rfl, rfl, hk, hKM, hR⟩ := hrel
    have hRn : R ≤ n := by omega
    have HR := Lib.hid hR
    clear hR
    have hlen := Cal.lenM_year Y k hk
    have hfs := Cal.first_succ (Y * 12 + k)
    have hlb := Cal.lenM_bounds (Y * 12 + k)
    obtain ⟨l, hl⟩ : ∃ l, Cal.len Y k = l := ⟨_, rfl⟩
    rw [hlen, hl] at hfs hlb
    have Hl := Lib.hid (And.intro hl hfs)
    clear hl hfs hlen
    by_cases hin : R < l
    · have hin' : ¬ ((l : Int) ≤ (R : Int)) := by omega
      have hMe : M = Y * 12 + k := by
        have h1 := HR.out
        have h2 := Hl.out.2
        exact Cal.InM.unique H.out.1 ⟨by omega, by omega, by omega⟩
      have hd : d = R + 1 := by
        rw [← H.out.2.2.2]
        unfold Cal.dom
        rw [hMe]
        have := HR.out
        omega
      have hy : y = 2000 + Y := by have := H.out.2.1; omega
      have hm : m = k + 1 := by have := H.out.2.2.1; omega
      have HX := Lib.hid (And.intro hd (And.intro hy hm))
      clear hMe hd hy hm
      go_wp2_with fail
      refine (days_any Y k l (by omega) hk Hl.out.1 _ _ rfl rfl _).mono ?_
      rintro e w' ⟨rfl, rfl⟩
      go_wp2_with fail
      go_ret3
      obtain ⟨hd, hy, hm⟩ := HX.out
      rw [hd, hy, hm]
      exact ⟨rfl, rfl⟩
    · have hin' : (l : Int) ≤ (R : Int) := by omega
      have hnext : Y * 12 + k + 1 ≤ M := inM_le H.out.1 (by rw [Hl.out.2]; have := HR.out; omega)
      by_cases hk11 : k = 11
      · subst hk11
        go_wp2_with fail
        refine (days_any Y 11 l (by omega) (by omega) Hl.out.1 _ _ rfl rfl _).mono ?_
        rintro e w' ⟨rfl, rfl⟩
        go_wp2_with fail
        refine (days_any Y 11 l (by omega) (by omega) Hl.out.1 _ _ rfl rfl _).mono ?_
        rintro e w' ⟨rfl, rfl⟩
        go_wp2_with fail
        go_round
        case rel => exact ⟨Y + 1, 0, R - l, by rw [show ((R - l : Nat) : Int) = (R : Int) - (l : Int) by omega], by go_num, rfl, by omega, by omega, by rw [show (Y + 1) * 12 + 0 = Y * 12 + 11 + 1 by omega, Hl.out.2]; have := HR.out; omega⟩
        case measure => simp [intOf]; omega
      · have hk12 : ¬ ((12 : Int) < (k : Int) + 1 + 1) := by omega
        go_wp2_with fail
        refine (days_any Y k l (by omega) hk Hl.out.1 _ _ rfl rfl _).mono ?_
        rintro e w' ⟨rfl, rfl⟩
        go_wp2_with fail
        refine (days_any Y k l (by omega) hk Hl.out.1 _ _ rfl rfl _).mono ?_
        rintro e w' ⟨rfl, rfl⟩
        go_wp2_with fail
        go_round
        case rel => exact ⟨Y, k + 1, R - l, by rw [show ((R - l : Nat) : Int) = (R : Int) - (l : Int) by omega], rfl, by go_num, by omega, by omega, by rw [← Nat.add_assoc, Hl.out.2]; have := HR.out; omega⟩
        case measure => simp [intOf]; omega
theorem two_back (W : World) (B : Nat) (n : Nat) (h0 : W.cell? ⟨B, 0, none⟩ = some (.int .u8 ((Cal.dig (n / 10)).toNat : Int))) (h1 : W.cell? ⟨B, 1, none⟩ = some (.int .u8 ((Cal.dig (n % 10)).toNat : Int))) :
    (convert 94 9 (.slice (some ⟨B, 0, none⟩) 2 2)).run Tryz.prog W = .ok (.string ⟨(Cal.two n).toArray⟩) W := by
  refine run_convert_bytes_back (P := Tryz.prog) W 94 9 5 ⟨B, 0, none⟩ 2 (Cal.two n) Tryz.underlying94 Tryz.underlying5 Tryz.underlying9 ?_
  intro j hj
  have hj : j < 2 := hj
  rcases (show j = 0 ∨ j = 1 by omega) with rfl | rfl
  · exact h0
  · exact h1
theorem rtwo_any (n : Nat) (h : n < 100) (i : Int) (hi : i = n) (w : World) : Calls Tryz.prog 59 #[.int .i64 i] w fun e w' => e = .returned (.string ⟨(Cal.two n).toArray⟩) ∧ Below w.heap.size w w' := by
  subst hi
  have hn0 : (0 : Int) ≤ (n : Int) := Int.natCast_nonneg _
  have e0 : (48 + (n : Int) / 10) % 256 = ((Cal.dig (n / 10)).toNat : Int) := by rw [dig_toNat _ (by omega)]; omega
  have e1 : (48 + (n : Int) % 10) % 256 = ((Cal.dig (n % 10)).toNat : Int) := by rw [dig_toNat _ (by omega)]; omega
  have f0 : 48 + (n : Int) / 10 = ((Cal.dig (n / 10)).toNat : Int) := by rw [dig_toNat _ (by omega)]; omega
  have f1 : 48 + (n : Int) % 10 = ((Cal.dig (n % 10)).toNat : Int) := by rw [dig_toNat _ (by omega)]; omega
  have l0 := (Cal.dig (n / 10)).toNat_lt
  have l1 := (Cal.dig (n % 10)).toNat_lt
  have k := two_back (w.alloc (.cells #[.int .u8 ((Cal.dig (n / 10)).toNat : Int), .int .u8 ((Cal.dig (n % 10)).toNat : Int)] 5)) w.heap.size n (by simp [go_sem]) (by simp [go_sem])
  go_enter Tryz.func59, Tryz.ntmps59
  go_wp2_with fail
  go_ret
  exact ⟨rfl, (Below.refl _ _).alloc (Nat.le_refl _) _⟩
theorem four_two (y : Nat) (h : y < 10000) : Cal.four y = Cal.two (y / 100) ++ Cal.two (y % 100) := by
  unfold Cal.four Cal.two
  rw [show y / 100 / 10 = y / 1000 by omega, show y % 100 / 10 = y / 10 % 10 by omega, show y % 100 % 10 = y % 10 by omega]
  rfl
theorem rtext_join (y m d : Nat) (h : y < 10000) : (⟨(Cal.two (y / 100)).toArray⟩ : ByteArray) ++ ⟨(Cal.two (y % 100)).toArray⟩ ++ ⟨#[45]⟩ ++ ⟨(Cal.two m).toArray⟩ ++ ⟨#[45]⟩ ++ ⟨(Cal.two d).toArray⟩ = ⟨(Cal.text y m d).toArray⟩ := by
  apply ByteArray.ext
  simp [ByteArray.data_append, Cal.text, four_two y h]
theorem rtext_ok (n M : Nat) (i : Int) (t : ByteArray) (hi : i = n) (h : Cal.InM n M) (ht : (⟨(Cal.text (2000 + M / 12) (M % 12 + 1) (Cal.dom n M)).toArray⟩ : ByteArray) = t) (w : World) : Calls Tryz.prog 30 #[.int .i64 i] w fun e w' => e = .returned (.string t) ∧ Below w.heap.size w w' := by
  subst hi
  have hM := h.1
  have hdb := h.dom
  have hlb := Cal.lenM_bounds M
  obtain ⟨y, hy⟩ : ∃ y, 2000 + M / 12 = y := ⟨_, rfl⟩
  obtain ⟨m, hm⟩ : ∃ m, M % 12 + 1 = m := ⟨_, rfl⟩
  obtain ⟨d, hd⟩ : ∃ d, Cal.dom n M = d := ⟨_, rfl⟩
  rw [hy, hm, hd] at ht
  have hd31 : d < 100 := by omega
  have hm12 : m < 100 := by omega
  have hy1 : 2000 ≤ y := by omega
  have hy2 : y < 2100 := by omega
  have hy0 : ((y : Int) == 0) = false := beq_eq_false_iff_ne.2 (by omega)
  have hj := rtext_join y m d (by omega)
  rw [ht] at hj
  have z1 : (⟨(Cal.two (y / 100)).toArray⟩ : ByteArray).size = 2 := rfl
  have z2 : (⟨(Cal.two (y % 100)).toArray⟩ : ByteArray).size = 2 := rfl
  have z3 : (⟨(Cal.two m).toArray⟩ : ByteArray).size = 2 := rfl
  have z4 : (⟨(Cal.two d).toArray⟩ : ByteArray).size = 2 := rfl
  have F := Lib.hid (And.intro h (And.intro hy (And.intro hm (And.intro hd hj))))
  clear h hy hm hd hj ht hdb hlb
  go_enter Tryz.func30, Tryz.ntmps30
  go_wp2_with fail
  refine (rdate_ok n M y m d F.out.1 F.out.2.1 F.out.2.2.1 F.out.2.2.2.1 _).mono ?_
  rintro e w' ⟨rfl, rfl⟩
  go_wp2_with fail
  refine (rtwo_any (y / 100) (by omega) _ (by omega) _).mono ?_
  rintro e w1 ⟨rfl, hB1⟩
  go_wp2_with fail
  refine (rtwo_any (y % 100) (by omega) _ (by omega) _).mono ?_
  rintro e w2 ⟨rfl, hB⟩
  have hB2 := bgo hB1 hB
  clear hB1 hB
  go_wp2_with fail
  refine (rtwo_any m hm12 _ rfl _).mono ?_
  rintro e w3 ⟨rfl, hB⟩
  have hB3 := bgo hB2 hB
  clear hB2 hB
  go_wp2_with fail
  refine (rtwo_any d hd31 _ rfl _).mono ?_
  rintro e w4 ⟨rfl, hB⟩
  have hB4 := bgo hB3 hB
  clear hB3 hB
  go_wp2_with fail
  go_ret
  rw [← F.out.2.2.2.2]
  exact ⟨rfl, hB4⟩
end Go.Proofs.YtmebllhkfepkdaaGreatDoor.CaT
namespace Go.Proofs.YtmebllhkfepkdaaGreatDoor
open Go.RowKit Go.Shelf
set_option linter.unusedVariables false
set_option linter.unusedSimpArgs false
set_option maxRecDepth 100000
def dgN (k : Nat) : UInt8 := UInt8.ofNat (48 + k % 10)
theorem dgN_nat (k : Nat) : (dgN k).toNat = 48 + k % 10 := by unfold dgN; rw [UInt8.toNat_ofNat']; omega
theorem numN_small (k : Nat) (h : k < 10) : itoaB (k : Int) = ⟨[dgN k].toArray⟩ := by
  unfold itoaB Lib.itoa
  rw [if_neg (by omega), Int.toNat_natCast, Lib.decDigits, dif_pos h]
  unfold dgN
  rw [Nat.mod_eq_of_lt h]
theorem numN_big (k : Nat) (h : 10 ≤ k) : itoaB (k : Int) = itoaB ((k / 10 : Nat) : Int) ++ ⟨[dgN k].toArray⟩ := by
  unfold itoaB Lib.itoa
  rw [if_neg (by omega), if_neg (by omega), Int.toNat_natCast, Int.toNat_natCast, Lib.decDigits, dif_neg (by omega)]
  unfold dgN
  apply ByteArray.ext
  simp [ByteArray.data_append]
theorem numN_neg (k : Nat) (h0 : 0 < k) : itoaB (-(k : Int)) = ⟨#[45]⟩ ++ itoaB (k : Int) := by
  unfold itoaB Lib.itoa
  rw [if_pos (by omega), if_neg (by omega), Int.natAbs_neg, Int.natAbs_natCast, Int.toNat_natCast]
  apply ByteArray.ext
  simp [ByteArray.data_append]
/-- The digits that are written, and those that are left. -/
def NumJ (k q : Nat) (t : ByteArray) : Prop := (q = 0 ∧ itoaB (k : Int) = t) ∨ (0 < q ∧ itoaB (k : Int) = itoaB (q : Int) ++ t)
theorem NumJ.first (k : Nat) : NumJ k (k / 10) ⟨[dgN k].toArray⟩ := by
  by_cases h : k < 10
  · exact .inl ⟨by omega, numN_small k h⟩
  · exact .inr ⟨by omega, numN_big k (by omega)⟩
theorem NumJ.next {k q : Nat} {t : ByteArray} (h : NumJ k q t) (hq : 0 < q) : NumJ k (q / 10) (⟨[dgN q].toArray⟩ ++ t) := by
  rcases h with ⟨h, _⟩ | ⟨_, h⟩
  · omega
  · by_cases h10 : q < 10
    · exact .inl ⟨by omega, by rw [h, numN_small q h10]⟩
    · exact .inr ⟨by omega, by rw [h, numN_big q (by omega), ByteArray.append_assoc]⟩
theorem NumJ.size {k q : Nat} {t : ByteArray} (h : NumJ k q t) : t.size ≤ (itoaB (k : Int)).size := by
  rcases h with ⟨_, h⟩ | ⟨_, h⟩
  · rw [h]; exact Nat.le_refl _
  · rw [h, ByteArray.size_append]; omega
set_option maxHeartbeats 2000000 in
theorem rnumN_pos (k : Nat) (hk : k ≤ 1000000000000) (w : World) : Calls Tryz.prog 32 #[.int .i64 (k : Int)] w fun e w' => e = .returned (.string (itoaB (k : Int))) ∧ Below w.heap.size w w' := by
  have hlen := itoaB_size (k : Int) (by omega) (by omega)
  have e0 : (48 + (k : Int) % 10) % 256 = ((dgN k).toNat : Int) := by rw [dgN_nat]; omega
  have f0 : 48 + (k : Int) % 10 = ((dgN k).toNat : Int) := by rw [dgN_nat]; omega
  have l0 := (dgN k).toNat_lt
  have kb := byte_back (w.alloc (.cells #[.int .u8 ((dgN k).toNat : Int)] 5)) w.heap.size (dgN k) (by simp [go_sem])
  have hn0 : ¬ (k : Int) < 0 := by omega
  go_enter Tryz.func32, Tryz.ntmps32
  go_wp2_with fail
  obtain ⟨W1, hW1⟩ : ∃ W, W = w.alloc (.cells #[.int .u8 ((dgN k).toNat : Int)] 5) := ⟨_, rfl⟩
  rw [← hW1]
  have hB1 : Below w.heap.size w W1 := by rw [hW1]; exact bal (Below.refl _ _) _
  clear hW1 kb e0 f0 l0 hn0
  go_loopw [0, 3] (fun n s wr => ∃ q : Nat, q ≤ k ∧ n = .int .i64 (q : Int) ∧ ∃ t : ByteArray, s = .string t ∧ NumJ k q t ∧ Below w.heap.size w wr) (fun n _ _ => (intOf n).toNat)
  case atStart => exact ⟨k / 10, by omega, by first | rfl | (congr 1; omega), _, rfl, NumJ.first k, hB1⟩
  case round =>
    clear hB1
    obtain ⟨q, hqk, rfl, t, rfl, hJ, hB⟩ := hrel
    have hts := hJ.size
    by_cases hq : 0 < q
    · have hq1 : (0 : Int) < (q : Int) := by omega
      have e0 : (48 + (q : Int) % 10) % 256 = ((dgN q).toNat : Int) := by rw [dgN_nat]; omega
      have f0 : 48 + (q : Int) % 10 = ((dgN q).toNat : Int) := by rw [dgN_nat]; omega
      have l0 := (dgN q).toNat_lt
      have kb := byte_back (wr.alloc (.cells #[.int .u8 ((dgN q).toNat : Int)] 5)) wr.heap.size (dgN q) (by simp [go_sem])
      have hs1 : ([dgN q].toArray).size = 1 := rfl
      have Hnext := Lib.hid (hJ.next hq)
      have HB2 := Lib.hid (show Below w.heap.size w (wr.alloc (.cells #[.int .u8 ((dgN q).toNat : Int)] 5)) from bal hB _)
      have hts2 : t.size ≤ 30 := by omega
      clear hJ
      go_wp2_with fail
      go_roundw
      case rel => exact ⟨q / 10, by omega, by first | rfl | (congr 1; omega), _, rfl, Hnext.out, HB2.out⟩
      case measure => simp [intOf]; omega
    · obtain rfl : q = 0 := by omega
      have hfin : itoaB (k : Int) = t := by
        rcases hJ with ⟨_, h⟩ | ⟨h, _⟩
        · exact h
        · omega
      have Hfin := Lib.hid hfin
      clear hfin hJ
      go_wp2_with fail
      go_ret
      exact ⟨by (rw [Hfin.out]; try rfl), hB⟩
set_option maxHeartbeats 2000000 in
theorem rnumN_any (n : Int) (h1 : -1000000000000 ≤ n) (h2 : n ≤ 1000000000000) (v : ByteArray) (hv : Hid (itoaB n = v)) (w : World) : Calls Tryz.prog 32 #[.int .i64 n] w fun e w' => e = .returned (.string v) ∧ Below w.heap.size w w' := by
  rw [← hv.out]
  clear hv
  by_cases h : 0 ≤ n
  · obtain ⟨k, rfl⟩ := Int.eq_ofNat_of_zero_le h
    exact rnumN_pos k (by omega) w
  · obtain ⟨k, hk⟩ : ∃ k : Nat, n = -(k : Int) := ⟨(-n).toNat, by omega⟩
    subst hk
    have hk0 : 0 < k := by omega
    have hlen := itoaB_size (k : Int) (by omega) (by omega)
    have hneg := numN_neg k hk0
    have Hneg := Lib.hid hneg
    have hlt : -(k : Int) < 0 := by omega
    have hw1 : IntKind.i64.wrap (k : Int) = (k : Int) := IntWalk.i64_in _ (by omega)
    obtain ⟨v, hv⟩ : ∃ v, itoaB (k : Int) = v := ⟨_, rfl⟩
    rw [hv] at hlen hneg
    have Hv := Lib.hid hv
    have Hn2 := Lib.hid hneg
    clear hneg hv Hneg
    go_enter Tryz.func32, Tryz.ntmps32
    go_wp2_with fail
    refine (rnumN_pos k (by omega) w).mono ?_
    rintro e w2 ⟨rfl, hB⟩
    rw [Hv.out]
    go_wp2_with fail
    go_ret
    exact ⟨by (rw [Hn2.out]; try rfl), hB⟩
theorem join_six (a b c d e f : ByteArray) : joinS [a, b, c, d, e, f] = a ++ ⟨#[32]⟩ ++ b ++ ⟨#[32]⟩ ++ c ++ ⟨#[32]⟩ ++ d ++ ⟨#[32]⟩ ++ e ++ ⟨#[32]⟩ ++ f := by
  unfold joinS
  apply ByteArray.ext
  simp only [List.map_cons, List.map_nil, join_two, join_one, ByteArray.data_append]
  simp
set_option maxHeartbeats 8000000 in
theorem rtext29_any (te tp : ByteArray) (tm tg tx : Int) (t : ByteArray) (ht : Hid (textT ⟨te, tp, tm, tg, tx⟩ = t)) (w : World) (he : te.size ≤ maxLen) (hp : tp.size ≤ maxLen) :
    Calls Tryz.prog 14 #[.agg #[.string te, .string tp, .int .i64 tm, .int .i64 tg, .int .i64 tx]] w fun e w' => e = .returned (.string t) ∧ Below w.heap.size w w' := by
  obtain ⟨b, hb⟩ : ∃ b, validTB ⟨te, tp, tm, tg, tx⟩ = b := ⟨_, rfl⟩
  have Hb := Lib.hid hb
  cases b with
  | false =>
    have h0 : t = ⟨#[]⟩ := by
      rw [← ht.out]
      unfold textT
      rw [hb]
      rfl
    subst h0
    clear ht hb
    go_enter Tryz.func14, Tryz.ntmps14
    go_upto_region 1 with fail
    obtain ⟨W, hW⟩ : ∃ W, W = w.alloc (.cells #[.string te, .string tp, .int .i64 tm, .int .i64 tg, .int .i64 tx] 25) := ⟨_, rfl⟩
    obtain ⟨X, hX⟩ : ∃ x, x = w.heap.size := ⟨_, rfl⟩
    have g : W.heap[X]? = some (.cells #[.string te, .string tp, .int .i64 tm, .int .i64 tg, .int .i64 tx] 25) := by rw [hW, hX]; exact World.alloc_heap_new _ _
    have hBW : Below w.heap.size w W := by rw [hW]; exact bal (Below.refl _ _) _
    rw [← hW, ← hX]
    clear hW hX
    have x0 : W.cell? ⟨X, 0, none⟩ = some (.string te) := by rw [Lib.cell_of_heap g]; rfl
    have x1 : W.cell? ⟨X, 1, none⟩ = some (.string tp) := by rw [Lib.cell_of_heap g]; rfl
    have x2 : W.cell? ⟨X, 2, none⟩ = some (.int .i64 tm) := by rw [Lib.cell_of_heap g]; rfl
    have x3 : W.cell? ⟨X, 3, none⟩ = some (.int .i64 tg) := by rw [Lib.cell_of_heap g]; rfl
    have x4 : W.cell? ⟨X, 4, none⟩ = some (.int .i64 tx) := by rw [Lib.cell_of_heap g]; rfl
    go_wp2_with fail
    refine (rvalid29_any te tp tm tg tx false Hb W he hp).mono ?_
    rintro e w2 ⟨rfl, hB2⟩
    go_wp2_with fail
    go_ret
    exact ⟨rfl, bgo hBW hB2⟩
  | true =>
    obtain ⟨v1, v2, v3, v4, v5⟩ := valid_out hb
    dsimp only at v1 v2 v3 v4 v5
    have h0 := ht.out
    unfold textT at h0
    rw [if_pos hb] at h0
    obtain ⟨mn, hmn⟩ : ∃ n : Nat, tm = (n : Int) := ⟨tm.toNat, by omega⟩
    subst hmn
    have hmn2 : mn < 1200 := by omega
    unfold totL at h0
    dsimp only at h0
    rw [Int.toNat_natCast] at h0
    obtain ⟨d, hd⟩ : ∃ d : ByteArray, (⟨(Cal.text (2000 + mn / 12) (mn % 12 + 1) (Cal.dom (Cal.first mn) mn)).toArray⟩ : ByteArray) = d := ⟨_, rfl⟩
    have Hd := Lib.hid hd
    have q1 : d.extract 0 7 = monthB mn := by rw [← hd]; exact month_cut mn _
    have q2 : d.size = 10 := by rw [← hd]; rfl
    obtain ⟨mb, hmb⟩ : ∃ m, monthB mn = m := ⟨_, rfl⟩
    have hmz : mb.size = 7 := by rw [← hmb]; rfl
    rw [hmb] at h0 q1
    have hsg := itoaB_size tg (by omega) (by omega)
    have hsx := itoaB_size tx (by omega) (by omega)
    obtain ⟨ga, hga⟩ : ∃ m, itoaB tg = m := ⟨_, rfl⟩
    obtain ⟨xa, hxa⟩ : ∃ m, itoaB tx = m := ⟨_, rfl⟩
    rw [hga] at hsg
    rw [hxa] at hsx
    rw [hga, hxa, join_six] at h0
    have H0 := Lib.hid h0
    have Hga := Lib.hid hga
    have Hxa := Lib.hid hxa
    obtain ⟨f, hf⟩ : ∃ f, Cal.first mn = f := ⟨_, rfl⟩
    have hin : Cal.InM (Cal.first mn) mn := by
      unfold Cal.InM
      exact ⟨by omega, Nat.le_refl _, Cal.first_lt (by omega)⟩
    rw [hf] at Hd hin
    have Hin := Lib.hid hin
    have Hf := Lib.hid hf
    have hex : (d.extract 0 7) = mb := q1
    have hdl : (7 : Int) ≤ (d.size : Int) := by omega
    have hse := name_size v1
    have hsp := name_size v2
    have hmz2 : mb.size ≤ 7 := by omega
    clear ht hb h0 hd q1 hmb hga hxa hf hin v1 v2 hmz
    go_enter Tryz.func14, Tryz.ntmps14
    go_upto_region 1 with fail
    obtain ⟨W, hW⟩ : ∃ W, W = w.alloc (.cells #[.string te, .string tp, .int .i64 (mn : Int), .int .i64 tg, .int .i64 tx] 25) := ⟨_, rfl⟩
    obtain ⟨X, hX⟩ : ∃ x, x = w.heap.size := ⟨_, rfl⟩
    have g : W.heap[X]? = some (.cells #[.string te, .string tp, .int .i64 (mn : Int), .int .i64 tg, .int .i64 tx] 25) := by rw [hW, hX]; exact World.alloc_heap_new _ _
    have hBW : Below w.heap.size w W := by rw [hW]; exact bal (Below.refl _ _) _
    rw [← hW, ← hX]
    clear hW hX
    have x0 : W.cell? ⟨X, 0, none⟩ = some (.string te) := by rw [Lib.cell_of_heap g]; rfl
    have x1 : W.cell? ⟨X, 1, none⟩ = some (.string tp) := by rw [Lib.cell_of_heap g]; rfl
    have x2 : W.cell? ⟨X, 2, none⟩ = some (.int .i64 (mn : Int)) := by rw [Lib.cell_of_heap g]; rfl
    have x3 : W.cell? ⟨X, 3, none⟩ = some (.int .i64 tg) := by rw [Lib.cell_of_heap g]; rfl
    have x4 : W.cell? ⟨X, 4, none⟩ = some (.int .i64 tx) := by rw [Lib.cell_of_heap g]; rfl
    go_wp2_with fail
    refine (rvalid29_any te tp (mn : Int) tg tx true Hb W he hp).mono ?_
    rintro e w2 ⟨rfl, hB2⟩
    have g2 := (hB2.block _ (Array.getElem?_eq_some_iff.1 g).1).trans g
    have hBw2 := bgo hBW hB2
    clear x0 x1 x2 x3 x4
    have x2 : w2.cell? ⟨X, 2, none⟩ = some (.int .i64 (mn : Int)) := by rw [Lib.cell_of_heap g2]; rfl
    go_wp2_with fail
    (with_reducible refine (CaT.rfirst_ok mn f hmn2 Hf.out w2).mono ?_)
    rintro e wq ⟨rfl, hwq⟩
    obtain rfl := hwq
    clear x2
    go_wp2_with fail
    (with_reducible refine (CaT.rtext_ok f mn (f : Int) d rfl Hin.out Hd.out w2).mono ?_)
    rintro e w4 ⟨rfl, hB4⟩
    have g4 := (hB4.block _ (Array.getElem?_eq_some_iff.1 g2).1).trans g2
    have hBw4 := bgo hBw2 hB4
    go_upto_region 5 with fail
    have GX := Lib.hid (show w4.drew.heap[X]? = some (.cells #[.string te, .string tp, .int .i64 (mn : Int), .int .i64 tg, .int .i64 tx] 25) from g4)
    have hXl : X < w4.drew.heap.size := (Array.getElem?_eq_some_iff.1 g4).1
    refine wp_region_noPanic ?_
    refine wp_region_held_drew (S := fun W' => W'.heap[X]? = some (.cells #[.string te, .string tp, .int .i64 (mn : Int), .int .i64 tg, .int .i64 tx] 25)) (by kernel_rfl) GX.out (fun hHeld => ?_)
    refine wpAnyH_take (i := 0) (v := ?_) rfl (by kernel_rfl) (by kernel_rfl) (by kernel_rfl) (fun _ _ _ h => h) (Or.inl ⟨by kernel_rfl, ?_⟩) (by assumption) ?_
    rotate_left
    · intro w hSw
      (try dsimp only at hSw)
      go_simp
      first | done | with_reducible rfl
    simp only [List.getElem_toArray, List.getElem_cons_zero, List.getElem_cons_succ, Act.put, List.setIfInBounds_toArray, List.set_cons_zero, List.set_cons_succ]
    refine wpAnyH_take (i := 1) (v := ?_) rfl (by kernel_rfl) (by kernel_rfl) (by kernel_rfl) (fun _ _ _ h => h) (Or.inl ⟨by kernel_rfl, ?_⟩) (by assumption) ?_
    rotate_left
    · intro w hSw
      (try dsimp only at hSw)
      have z0 : w.cell? ⟨X, 0, none⟩ = some (.string te) := by rw [Lib.cell_of_heap hSw]; rfl
      clear hSw
      go_simp
      first | done | with_reducible rfl
    simp only [List.getElem_toArray, List.getElem_cons_zero, List.getElem_cons_succ, Act.put, List.setIfInBounds_toArray, List.set_cons_zero, List.set_cons_succ]
    refine wpAnyH_take (i := 2) (v := ?_) rfl (by kernel_rfl) (by kernel_rfl) (by kernel_rfl) (fun _ _ _ h => h) (Or.inl ⟨by kernel_rfl, ?_⟩) (by assumption) ?_
    rotate_left
    · intro w hSw
      (try dsimp only at hSw)
      go_simp
      first | done | with_reducible rfl | (rw [if_neg (by omega)])
    simp only [List.getElem_toArray, List.getElem_cons_zero, List.getElem_cons_succ, Act.put, List.setIfInBounds_toArray, List.set_cons_zero, List.set_cons_succ]
    refine wpAnyH_take (i := 3) (v := ?_) rfl (by kernel_rfl) (by kernel_rfl) (by kernel_rfl) (fun _ _ _ h => h) (Or.inl ⟨by kernel_rfl, ?_⟩) (by assumption) ?_
    rotate_left
    · intro w hSw
      (try dsimp only at hSw)
      go_simp
      first | done | with_reducible rfl | (rw [if_neg (by omega)])
    simp only [List.getElem_toArray, List.getElem_cons_zero, List.getElem_cons_succ, Act.put, List.setIfInBounds_toArray, List.set_cons_zero, List.set_cons_succ]
    refine wpAnyH_take (i := 4) (v := ?_) rfl (by kernel_rfl) (by kernel_rfl) (by kernel_rfl) (fun _ _ _ h => h) (Or.inl ⟨by kernel_rfl, ?_⟩) (by assumption) ?_
    rotate_left
    · intro w hSw
      (try dsimp only at hSw)
      go_simp
      first | done | with_reducible rfl
    simp only [List.getElem_toArray, List.getElem_cons_zero, List.getElem_cons_succ, Act.put, List.setIfInBounds_toArray, List.set_cons_zero, List.set_cons_succ]
    refine wpAnyH_take (i := 5) (v := ?_) rfl (by kernel_rfl) (by kernel_rfl) (by kernel_rfl) (fun _ _ _ h => h) (Or.inl ⟨by kernel_rfl, ?_⟩) (by assumption) ?_
    rotate_left
    · intro w hSw
      (try dsimp only at hSw)
      have z1 : w.cell? ⟨X, 1, none⟩ = some (.string tp) := by rw [Lib.cell_of_heap hSw]; rfl
      clear hSw
      go_simp
      first | done | with_reducible rfl
    simp only [List.getElem_toArray, List.getElem_cons_zero, List.getElem_cons_succ, Act.put, List.setIfInBounds_toArray, List.set_cons_zero, List.set_cons_succ]
    refine wpAnyH_take (i := 6) (v := ?_) rfl (by kernel_rfl) (by kernel_rfl) (by kernel_rfl) (fun _ _ _ h => h) (Or.inl ⟨by kernel_rfl, ?_⟩) (by assumption) ?_
    rotate_left
    · intro w hSw
      (try dsimp only at hSw)
      go_simp
      first | done | with_reducible rfl | (rw [if_neg (by omega)])
    simp only [List.getElem_toArray, List.getElem_cons_zero, List.getElem_cons_succ, Act.put, List.setIfInBounds_toArray, List.set_cons_zero, List.set_cons_succ]
    refine wpAnyH_take (i := 7) (v := ?_) rfl (by kernel_rfl) (by kernel_rfl) (by kernel_rfl) (fun _ _ _ h => h) (Or.inl ⟨by kernel_rfl, ?_⟩) (by assumption) ?_
    rotate_left
    · intro w hSw
      (try dsimp only at hSw)
      go_simp
      first | done | with_reducible rfl | (rw [if_neg (by omega)])
    simp only [List.getElem_toArray, List.getElem_cons_zero, List.getElem_cons_succ, Act.put, List.setIfInBounds_toArray, List.set_cons_zero, List.set_cons_succ]
    refine wpAnyH_take (i := 8) (v := ?_) rfl (by kernel_rfl) (by kernel_rfl) (by kernel_rfl) (fun _ _ _ h => h) (Or.inl ⟨by kernel_rfl, ?_⟩) (by assumption) ?_
    rotate_left
    · intro w hSw
      (try dsimp only at hSw)
      go_simp
      first | done | with_reducible rfl
    simp only [List.getElem_toArray, List.getElem_cons_zero, List.getElem_cons_succ, Act.put, List.setIfInBounds_toArray, List.set_cons_zero, List.set_cons_succ]
    refine wpAnyH_take (i := 9) (v := ?_) rfl (by kernel_rfl) (by kernel_rfl) (by kernel_rfl) (fun _ _ _ h => h) (Or.inl ⟨by kernel_rfl, ?_⟩) (by assumption) ?_
    rotate_left
    · intro w hSw
      (try dsimp only at hSw)
      go_simp
      first | done | with_reducible rfl
    simp only [List.getElem_toArray, List.getElem_cons_zero, List.getElem_cons_succ, Act.put, List.setIfInBounds_toArray, List.set_cons_zero, List.set_cons_succ]
    refine wpAnyH_take (i := 10) (v := ?_) rfl (by kernel_rfl) (by kernel_rfl) (by kernel_rfl) (fun _ _ _ h => h) (Or.inl ⟨by kernel_rfl, ?_⟩) (by assumption) ?_
    rotate_left
    · intro w hSw
      (try dsimp only at hSw)
      go_simp
      first | done | with_reducible rfl | (rw [if_neg (by omega)])
    simp only [List.getElem_toArray, List.getElem_cons_zero, List.getElem_cons_succ, Act.put, List.setIfInBounds_toArray, List.set_cons_zero, List.set_cons_succ]
    refine wpAnyH_take (i := 11) (v := ?_) rfl (by kernel_rfl) (by kernel_rfl) (by kernel_rfl) (fun _ _ _ h => h) (Or.inl ⟨by kernel_rfl, ?_⟩) (by assumption) ?_
    rotate_left
    · intro w hSw
      (try dsimp only at hSw)
      go_simp
      first | done | with_reducible rfl | (rw [if_neg (by omega)])
    simp only [List.getElem_toArray, List.getElem_cons_zero, List.getElem_cons_succ, Act.put, List.setIfInBounds_toArray, List.set_cons_zero, List.set_cons_succ]
    refine wpAnyH_take (i := 12) (v := ?_) rfl (by kernel_rfl) (by kernel_rfl) (by kernel_rfl) (fun _ _ _ h => h) (Or.inl ⟨by kernel_rfl, ?_⟩) (by assumption) ?_
    rotate_left
    · intro w hSw
      (try dsimp only at hSw)
      go_simp
      first | done | with_reducible rfl
    simp only [List.getElem_toArray, List.getElem_cons_zero, List.getElem_cons_succ, Act.put, List.setIfInBounds_toArray, List.set_cons_zero, List.set_cons_succ]
    refine wpAnyH_take (i := 13) (v := ?_) rfl (by kernel_rfl) (by kernel_rfl) (by kernel_rfl) (fun _ _ _ h => h) (Or.inl ⟨by kernel_rfl, ?_⟩) (by assumption) ?_
    rotate_left
    · intro w hSw
      (try dsimp only at hSw)
      have z3 : w.cell? ⟨X, 3, none⟩ = some (.int .i64 tg) := by rw [Lib.cell_of_heap hSw]; rfl
      clear hSw
      go_simp
      first | done | with_reducible rfl
    simp only [List.getElem_toArray, List.getElem_cons_zero, List.getElem_cons_succ, Act.put, List.setIfInBounds_toArray, List.set_cons_zero, List.set_cons_succ]
    refine wpAnyH_take (i := 17) (v := ?_) rfl (by kernel_rfl) (by kernel_rfl) (by kernel_rfl) (fun _ _ _ h => h) (Or.inl ⟨by kernel_rfl, ?_⟩) (by assumption) ?_
    rotate_left
    · intro w hSw
      (try dsimp only at hSw)
      go_simp
      first | done | with_reducible rfl
    simp only [List.getElem_toArray, List.getElem_cons_zero, List.getElem_cons_succ, Act.put, List.setIfInBounds_toArray, List.set_cons_zero, List.set_cons_succ]
    refine wpAnyH_take (i := 18) (v := ?_) rfl (by kernel_rfl) (by kernel_rfl) (by kernel_rfl) (fun _ _ _ h => h) (Or.inl ⟨by kernel_rfl, ?_⟩) (by assumption) ?_
    rotate_left
    · intro w hSw
      (try dsimp only at hSw)
      have z4 : w.cell? ⟨X, 4, none⟩ = some (.int .i64 tx) := by rw [Lib.cell_of_heap hSw]; rfl
      clear hSw
      go_simp
      first | done | with_reducible rfl
    simp only [List.getElem_toArray, List.getElem_cons_zero, List.getElem_cons_succ, Act.put, List.setIfInBounds_toArray, List.set_cons_zero, List.set_cons_succ]
    refine wpAnyH_ready (rs := [14]) (by kernel_rfl) (by simp) ?_
    refine AllReadyH.cons rfl (fun K hK => ?_) ?_
    · simp only [List.getElem_toArray, List.getElem_cons_zero, List.getElem_cons_succ]
      go_simp
      (with_reducible refine (rnumN_any tg (by omega) (by omega) ga Hga w4.drew).mono ?_)
      rintro e w_14 ⟨rfl, hB_14⟩
      dsimp only
      have bel_14 : Below w4.heap.size w4 w_14 := bgo (Below.refl w4.heap.size w4).drew hB_14
      refine hK.out _ w_14 ((bel_14.block _ hXl).trans g4) (fun hHeld => ?_)
      clear hK K
      try simp only [List.getElem_toArray, List.getElem_cons_zero, List.getElem_cons_succ, Act.put, List.setIfInBounds_toArray, List.set_cons_zero, List.set_cons_succ]
      refine wpAnyH_take (i := 15) (v := ?_) rfl (by kernel_rfl) (by kernel_rfl) (by kernel_rfl) (fun _ _ _ h => h) (Or.inl ⟨by kernel_rfl, ?_⟩) (by assumption) ?_
      rotate_left
      · intro w hSw
        (try dsimp only at hSw)
        go_simp
        first | done | with_reducible rfl | (rw [if_neg (by omega)])
      simp only [List.getElem_toArray, List.getElem_cons_zero, List.getElem_cons_succ, Act.put, List.setIfInBounds_toArray, List.set_cons_zero, List.set_cons_succ]
      refine wpAnyH_take (i := 16) (v := ?_) rfl (by kernel_rfl) (by kernel_rfl) (by kernel_rfl) (fun _ _ _ h => h) (Or.inl ⟨by kernel_rfl, ?_⟩) (by assumption) ?_
      rotate_left
      · intro w hSw
        (try dsimp only at hSw)
        go_simp
        first | done | with_reducible rfl | (rw [if_neg (by omega)])
      simp only [List.getElem_toArray, List.getElem_cons_zero, List.getElem_cons_succ, Act.put, List.setIfInBounds_toArray, List.set_cons_zero, List.set_cons_succ]
      refine wpAnyH_ready (rs := [19]) (by kernel_rfl) (by simp) ?_
      refine AllReadyH.cons rfl (fun K hK => ?_) ?_
      · simp only [List.getElem_toArray, List.getElem_cons_zero, List.getElem_cons_succ]
        go_simp
        (with_reducible refine (rnumN_any tx (by omega) (by omega) xa Hxa w_14).mono ?_)
        rintro e w_14_19 ⟨rfl, hB_14_19⟩
        dsimp only
        have bel_14_19 : Below w4.heap.size w4 w_14_19 := bgo bel_14 hB_14_19
        refine hK.out _ w_14_19 ((bel_14_19.block _ hXl).trans g4) (fun hHeld => ?_)
        clear hK K
        try simp only [List.getElem_toArray, List.getElem_cons_zero, List.getElem_cons_succ, Act.put, List.setIfInBounds_toArray, List.set_cons_zero, List.set_cons_succ]
        refine wpAnyH_take (i := 20) (v := ?_) rfl (by kernel_rfl) (by kernel_rfl) (by kernel_rfl) (fun _ _ _ h => h) (Or.inl ⟨by kernel_rfl, ?_⟩) (by assumption) ?_
        rotate_left
        · intro w hSw
          (try dsimp only at hSw)
          go_simp
          first | done | with_reducible rfl | (rw [if_neg (by omega)])
        simp only [List.getElem_toArray, List.getElem_cons_zero, List.getElem_cons_succ, Act.put, List.setIfInBounds_toArray, List.set_cons_zero, List.set_cons_succ]
        refine wpAnyH_take (i := 21) (v := ?_) rfl (by kernel_rfl) (by kernel_rfl) (by kernel_rfl) (fun _ _ _ h => h) (Or.inl ⟨by kernel_rfl, ?_⟩) (by assumption) ?_
        rotate_left
        · intro w hSw
          (try dsimp only at hSw)
          go_simp
          first | done | with_reducible rfl
        simp only [List.getElem_toArray, List.getElem_cons_zero, List.getElem_cons_succ, Act.put, List.setIfInBounds_toArray, List.set_cons_zero, List.set_cons_succ]
        refine wpAnyH_done (by kernel_rfl) ?_ _
        dsimp only [NoPanic]
        clear hHeld
        go_wp2_with fail
        go_ret
        exact ⟨by rw [← H0.out]; rfl, bgo hBw4 bel_14_19⟩
      exact AllReadyH.nil
    exact AllReadyH.nil
end Go.Proofs.YtmebllhkfepkdaaGreatDoor
