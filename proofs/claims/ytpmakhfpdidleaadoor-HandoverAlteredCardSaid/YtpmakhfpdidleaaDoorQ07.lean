/- The walks behind calendar.Text: lengthOf, valid, Date, two, Text. The walks of package payslip, second part: isIndex, inRange, join, Leaf, listed, reason. The data of payslip in plain words; the walks of listed and reason. Decimal digits: what they denote, and back. -/
import Derived.Test.YtpmakhfpdidleaaDoorQ01
import Derived.Test.YtpmakhfpdidleaaDoorQ06
import Derived.WalkKit
import Derived.WalkLawsBesides
import Derived.WalkSpells
import Derived.WalkMore
import Derived.Outline
import Derived.Lib.Hide
import Derived.IntWalk
import Derived.Handy
import Derived.BigQuiet
import Derived.Deep.LoopGhost
import Derived.Deep.QuietTactic
import Derived.Below
import Derived.Lib.LaidTab
import Derived.Deep.RegionHeld
import Derived.Lib.Join
import Derived.Deep.DeepCutAuto
import Derived.Lib.ItoaNum
import Derived.Lib.ItoaMem
namespace Go.Proofs.YtpmakhfpdidleaaDoor.CaT
open Go.RowKit Go.Sort Go.Proofs.YtpmakhfpdidleaaDoor
set_option linter.unusedVariables false
/-- The table of the days before each month lies in the world. -/
def befCells : Array Value := #[.int .i64 0, .int .i64 31, .int .i64 59, .int .i64 90, .int .i64 120, .int .i64 151, .int .i64 181, .int .i64 212, .int .i64 243, .int .i64 273, .int .i64 304, .int .i64 334, .int .i64 365]
def BTab (w : World) : Prop := ∃ t fr, w.heap[0]? = some (.cells befCells t fr)
theorem befCells_at (n : Nat) (h : n ≤ 12) : befCells[n]? = some (.int .i64 (Cal.bef n)) := by
  rcases (show n = 0 ∨ n = 1 ∨ n = 2 ∨ n = 3 ∨ n = 4 ∨ n = 5 ∨ n = 6 ∨ n = 7 ∨ n = 8 ∨ n = 9 ∨ n = 10 ∨ n = 11 ∨ n = 12 by omega) with rfl | rfl | rfl | rfl | rfl | rfl | rfl | rfl | rfl | rfl | rfl | rfl | rfl <;> rfl
theorem BTab.cell {w : World} (h : BTab w) (n : Nat) (hn : n ≤ 12) : w.cell? ⟨0, n, none⟩ = some (.int .i64 (Cal.bef n)) := by
  obtain ⟨t, fr, h⟩ := h
  simp only [World.cell?, h]
  exact befCells_at n hn
theorem BTab.go {w w' : World} (h : BTab w) (hb : Below w.heap.size w w') : BTab w' := by
  obtain ⟨t, fr, h'⟩ := h
  exact ⟨t, fr, (hb.block _ (Array.getElem?_eq_some_iff.1 h').1).trans h'⟩
theorem bef_le (k : Nat) (h : k < 12) : Cal.bef k ≤ Cal.bef (k + 1) ∧ Cal.bef (k + 1) ≤ 365 := by
  rcases Cal.k12 k h with rfl | rfl | rfl | rfl | rfl | rfl | rfl | rfl | rfl | rfl | rfl | rfl <;> decide
set_option maxRecDepth 100000 in
theorem lengthOf_any (y k : Nat) (hk : k < 12) (hy : y ≤ 1000000) (w : World) (hT : BTab w) : Calls Tryd.prog 62 #[.int .i64 (y : Int), .int .i64 (k : Int)] w fun e w' => e = .returned (.int .i64 (Cal.len y k : Nat)) ∧ Below w.heap.size w w' := by
  have hc0 := hT.cell k (by omega)
  have hc1 := hT.cell (k + 1) (by omega)
  have hb := bef_le k hk
  have hlen : Cal.len y k = Cal.bef (k + 1) - Cal.bef k + (if k = 1 ∧ y % 4 = 0 then 1 else 0) := rfl
  obtain ⟨a, ha⟩ : ∃ a, Cal.bef k = a := ⟨_, rfl⟩
  obtain ⟨b, hb'⟩ : ∃ b, Cal.bef (k + 1) = b := ⟨_, rfl⟩
  obtain ⟨l, hl⟩ : ∃ l, Cal.len y k = l := ⟨_, rfl⟩
  rw [ha] at hc0 hb hlen
  rw [hb'] at hc1 hb hlen
  rw [hl] at hlen ⊢
  have Hlen := Lib.hid hlen
  clear hT ha hb' hl hlen
  have h1 : (0 : Int) ≤ (k : Int) := Int.natCast_nonneg _
  have h2 : (k : Int) < 13 := by omega
  have h3 : (k : Int) + 1 < 13 := by omega
  have h4 : (0 : Int) ≤ (k : Int) + 1 := by omega
  have hwr : IntKind.i64.wrap ((k : Int) + 1) = (k : Int) + 1 := IntWalk.i64_in _ (by omega)
  have hwr2 : IntKind.i64.wrap ((b : Int) - (a : Int)) = (b : Int) - (a : Int) := IntWalk.i64_in _ (by omega)
  have htn : ((k : Int) + 1).toNat = k + 1 := by omega
  have hy0 : (0 : Int) ≤ (y : Int) := Int.natCast_nonneg _
  by_cases hk1 : k = 1
  · have hd1 : ((k : Int) == 1) = true := by simp [hk1]
    by_cases hy4 : y % 4 = 0
    · have hd2 : (((y : Int) % 4) == 0) = true := by simp; omega
      have hres : (l : Int) = (b : Int) - (a : Int) + 1 := by rw [Hlen.out, if_pos ⟨hk1, hy4⟩]; omega
      have HR := Lib.hid hres
      clear hres hk1 hy4
      go_enter Tryd.func62, Tryd.ntmps62
      go_wp2
      go_quiet (fail)
      clear hwr hwr2 htn
      go_wp2
      go_ret
      rw [HR.out]
      exact ⟨rfl, below_drewN (Below.refl _ _) _⟩
    · have hd2 : (((y : Int) % 4) == 0) = false := by simp; omega
      have hres : (l : Int) = (b : Int) - (a : Int) := by rw [Hlen.out, if_neg (fun h => hy4 h.2)]; omega
      have HR := Lib.hid hres
      clear hres hk1 hy4
      go_enter Tryd.func62, Tryd.ntmps62
      go_wp2
      go_quiet (fail)
      clear hwr hwr2 htn
      go_wp2
      go_ret
      rw [HR.out]
      exact ⟨rfl, below_drewN (Below.refl _ _) _⟩
  · have hd1 : ((k : Int) == 1) = false := by simp; omega
    have hres : (l : Int) = (b : Int) - (a : Int) := by rw [Hlen.out, if_neg (fun h => hk1 h.1)]; omega
    have HR := Lib.hid hres
    clear hres hk1
    go_enter Tryd.func62, Tryd.ntmps62
    go_wp2
    go_quiet (fail)
    clear hwr hwr2 htn
    go_wp2
    go_ret
    rw [HR.out]
    exact ⟨rfl, below_drewN (Below.refl _ _) _⟩
def validB (n : Int) : Bool := decide (0 ≤ n ∧ n ≤ 36524)
theorem valid_any (n : Int) (b : Bool) (hb : validB n = b) (w : World) : Calls Tryd.prog 35 #[.int .i64 n] w fun e w' => e = .returned (.bool b) ∧ w = w' := by
  subst hb
  by_cases h1 : 0 ≤ n
  · by_cases h2 : n ≤ 36524
    · have e : validB n = true := decide_eq_true ⟨h1, h2⟩
      rw [e]
      go_enter Tryd.func35, Tryd.ntmps35
      go_wp2
      go_ret
      exact ⟨rfl, rfl⟩
    · have e : validB n = false := decide_eq_false fun h => h2 h.2
      rw [e]
      have h2' : 36524 < n := by omega
      go_enter Tryd.func35, Tryd.ntmps35
      go_wp2
      go_ret
      exact ⟨rfl, rfl⟩
  · have e : validB n = false := decide_eq_false fun h => h1 h.1
    rw [e]
    have h2' : n < 0 := by omega
    go_enter Tryd.func35, Tryd.ntmps35
    go_wp2
    go_ret
    exact ⟨rfl, rfl⟩
theorem inM_le {n M K : Nat} (h : Cal.InM n M) (hK : Cal.first K ≤ n) : K ≤ M := by
  rcases Nat.lt_or_ge M K with hl | hl
  · have := Cal.first_le (show M + 1 ≤ K from hl)
    have := h.2.2
    omega
  · exact hl
theorem le_first {n M K : Nat} (h : Cal.InM n M) (hK : K ≤ M) : Cal.first K ≤ n := Nat.le_trans (Cal.first_le hK) h.2.1
theorem validB_yes (n : Nat) (h : n < 36525) : validB (n : Int) = true := decide_eq_true ⟨by omega, by omega⟩
theorem lengthOf_at (y k l : Nat) (hk : k < 12) (hy : y ≤ 1000000) (hl : Cal.len y k = l) (w : World) (hT : BTab w) : Calls Tryd.prog 62 #[.int .i64 (y : Int), .int .i64 (k : Int)] w fun e w' => e = .returned (.int .i64 (l : Int)) ∧ Below w.heap.size w w' := by
  subst hl; exact lengthOf_any y k hk hy w hT
set_option maxRecDepth 100000 in
set_option maxHeartbeats 1000000 in
theorem date_ok (n M : Nat) (h : Cal.InM n M) (w : World) (hT : BTab w) : Calls Tryd.prog 36 #[.int .i64 (n : Int)] w fun e w' => e = .returned (.tuple #[.int .i64 ((2000 + M / 12 : Nat) : Int), .int .i64 ((M % 12 + 1 : Nat) : Int), .int .i64 ((Cal.dom n M : Nat) : Int)]) ∧ Below w.heap.size w w' := by
  have hn := h.day
  have hM : M < 1200 := h.1
  have H := Lib.hid h
  have HT := Lib.hid hT
  have hv := validB_yes n hn
  have Hv := Lib.hid hv
  clear h hT hv
  have hq : (n : Int) / 1461 * 4 = ((n / 1461 * 4 : Nat) : Int) := by omega
  have hr : (n : Int) % 1461 = ((n % 1461 : Nat) : Int) := by omega
  have HQ := Lib.hid (And.intro hq hr)
  clear hq hr
  go_enter Tryd.func36, Tryd.ntmps36
  go_wp2_with fail
  go_step3
  go_wp2_with fail
  refine (valid_any _ true Hv.out _).mono ?_
  rintro e w' ⟨rfl, rfl⟩
  go_wp2_with fail
  go_step3
  go_wp2_with fail
  go_loopg [5, 6] (M / 12 + 1) (fun g y r wr => ∃ Y R : Nat, y = .int .i64 ((2000 : Int) + (Y : Int)) ∧ r = .int .i64 (R : Int) ∧ Y * 12 ≤ M ∧ Cal.first (Y * 12) + R = n ∧ M / 12 + 1 ≤ Y + g ∧ Below w.heap.size w wr)
  case atStart =>
    have hf := Cal.first_48 (n / 1461)
    have h48 : 48 * (n / 1461) = n / 1461 * 4 * 12 := by omega
    rw [h48] at hf
    have hle : n / 1461 * 4 * 12 ≤ M := inM_le H.out (by omega)
    have h2 : (n : Int) % 1461 = ((n % 1461 : Nat) : Int) := HQ.out.2
    exact ⟨n / 1461 * 4, n % 1461, by rw [HQ.out.1], by rw [h2], hle, by omega, by omega, Below.refl _ _⟩
  case round =>
    obtain ⟨gOut, hgo⟩ : ∃ g, g = gk := ⟨_, rfl⟩
    subst hgo
    obtain ⟨Y, R, rfl, rfl, hY, hR, hg, hB⟩ := hrel
    have HR := Lib.hid hR
    clear hR
    have hY99 : Y ≤ 99 := by omega
    have hRn : R ≤ n := by have := HR.out; omega
    go_wp2_with fail
    go_loopg [6, 19] 13 (fun g r c wx => ∃ m S : Nat, r = .int .i64 (S : Int) ∧ c = .int .i64 (m : Int) ∧ m ≤ 12 ∧ Y * 12 + m ≤ M ∧ Cal.first (Y * 12 + m) + S = n ∧ m + g = 13 ∧ Below w.heap.size w wx)
    case atStart => exact ⟨0, R, rfl, rfl, by omega, by omega, HR.out, by omega, hB⟩
    case round =>
      clear HR hB hRn
      obtain ⟨m, S, rfl, rfl, hm, hmM, hS, hg2, hB⟩ := hrel
      have HS := Lib.hid hS
      clear hS
      have hSn : S ≤ n := by have := HS.out; omega
      by_cases hlt : m < 12
      · have hcast : (2000 : Int) + (Y : Int) = ((2000 + Y : Nat) : Int) := by omega
        have hll : Cal.len (2000 + Y) m = Cal.lenM (Y * 12 + m) := by rw [Cal.len_4, Cal.lenM_year _ _ hlt]
        have hfs := Cal.first_succ (Y * 12 + m)
        have hlb := Cal.lenM_bounds (Y * 12 + m)
        obtain ⟨l, hl⟩ : ∃ l, Cal.lenM (Y * 12 + m) = l := ⟨_, rfl⟩
        rw [hl] at hll hfs hlb
        have Hl := Lib.hid (And.intro hll hfs)
        have Hc := Lib.hid hcast
        clear hll hfs hl hcast
        go_wp2_with fail
        rw [Hc.out]
        refine (lengthOf_at (2000 + Y) m l hlt (by omega) Hl.out.1 _ (HT.out.go hB)).mono ?_
        rintro e w3 ⟨rfl, hB3⟩
        have hB' := bgo hB hB3
        clear hB hB3
        rw [← Hc.out]
        by_cases hin : S < l
        · have hin' : (S : Int) < (l : Int) := by omega
          have hMe : M = Y * 12 + m := by
            have h1 := HS.out
            have h2 := Hl.out.2
            exact Cal.InM.unique H.out ⟨by omega, by omega, by omega⟩
          have hd : Cal.dom n M = S + 1 := by
            unfold Cal.dom
            rw [hMe]
            have := HS.out
            omega
          have hy : M / 12 = Y := by omega
          have hm12 : M % 12 = m := by omega
          have HX := Lib.hid (And.intro hd (And.intro hy hm12))
          clear hMe hd hy hm12
          go_wp2_with fail
          rw [Exit.noGoto_ret]
          go_ret3
          obtain ⟨hd, hy, hm12⟩ := HX.out
          rw [hd, hy, hm12]
          exact ⟨rfl, hB'⟩
        · have hin' : ¬ ((S : Int) < (l : Int)) := by omega
          have hnext : Y * 12 + m + 1 ≤ M := inM_le H.out (by rw [Hl.out.2]; have := HS.out; omega)
          go_wp2_with fail
          go_roundg (gk - 1)
          case measure => omega
          case rel => exact ⟨m + 1, S - l, by rw [show ((S - l : Nat) : Int) = (S : Int) - (l : Int) by omega], by go_num, by omega, by omega, by rw [← Nat.add_assoc, Hl.out.2]; have := HS.out; omega, by omega, hB'⟩
      · have hm12 : m = 12 := by omega
        subst hm12
        go_wp2_with fail
        go_roundg (gOut - 1)
        case measure => omega
        case rel => exact ⟨Y + 1, S, by go_num, rfl, by omega, by rw [show (Y + 1) * 12 = Y * 12 + 12 by omega]; exact HS.out, by omega, hB⟩
theorem date_at (n M y m d : Nat) (h : Cal.InM n M) (hy : 2000 + M / 12 = y) (hm : M % 12 + 1 = m) (hd : Cal.dom n M = d) (w : World) (hT : BTab w) : Calls Tryd.prog 36 #[.int .i64 (n : Int)] w fun e w' => e = .returned (.tuple #[.int .i64 (y : Int), .int .i64 (m : Int), .int .i64 (d : Int)]) ∧ Below w.heap.size w w' := by
  subst hy hm hd
  exact date_ok n M h w hT
theorem date_no (n : Int) (h : validB n = false) (w : World) : Calls Tryd.prog 36 #[.int .i64 n] w fun e w' => e = .returned (.tuple #[.int .i64 0, .int .i64 0, .int .i64 0]) ∧ Below w.heap.size w w' := by
  have H := Lib.hid h
  clear h
  go_enter Tryd.func36, Tryd.ntmps36
  go_wp2_with fail
  go_step3
  go_wp2_with fail
  refine (valid_any _ false H.out _).mono ?_
  rintro e w' ⟨rfl, rfl⟩
  go_wp2_with fail
  rw [Exit.noGoto_ret]
  go_ret3
  exact ⟨rfl, Below.refl _ _⟩
/-- The tables that the calendar reads lie in the world. -/
def Tabs (w : World) : Prop := BTab w ∧ PTab w
theorem Tabs.go {w w' : World} (h : Tabs w) (hb : Below w.heap.size w w') : Tabs w' := ⟨h.1.go hb, h.2.go hb⟩
theorem dec_small (n : Nat) (h : n < 100) : (n < 10 → Lib.decDigits n = [Cal.dig n]) ∧ (10 ≤ n → Lib.decDigits n = Cal.two n) := by
  have key : ∀ k : Fin 100, (k.val < 10 → Lib.decDigits k.val = [Cal.dig k.val]) ∧ (10 ≤ k.val → Lib.decDigits k.val = Cal.two k.val) := by decide +kernel
  exact key ⟨n, h⟩
theorem dec_year (n : Nat) (h1 : 2000 ≤ n) (h2 : n < 2100) : Lib.decDigits n = Cal.four n := by
  have key : ∀ k : Fin 100, Lib.decDigits (2000 + k.val) = Cal.four (2000 + k.val) := by decide +kernel
  have := key ⟨n - 2000, by omega⟩
  simpa [show 2000 + (n - 2000) = n by omega] using this
theorem two_any (n : Nat) (h : n < 100) (w : World) : Calls Tryd.prog 37 #[.int .i64 (n : Int)] w fun e w' => e = .returned (.string ⟨(Cal.two n).toArray⟩) ∧ w = w' := by
  have hd := dec_small n h
  by_cases h10 : n < 10
  · have e1 := hd.1 h10
    have e2 : (⟨#[48]⟩ : ByteArray) ++ ⟨(Lib.decDigits n).toArray⟩ = ⟨(Cal.two n).toArray⟩ := by
      rw [e1]
      apply ByteArray.ext
      simp [ByteArray.data_append, Cal.two, show n / 10 = 0 by omega, show n % 10 = n by omega, Cal.dig]
    have hsz : (⟨(Lib.decDigits n).toArray⟩ : ByteArray).size = 1 := by rw [e1]; rfl
    have HE := Lib.hid e2
    have h10' : (n : Int) < 10 := by omega
    clear hd e1 e2 h10
    go_enter Tryd.func37, Tryd.ntmps37
    go_wp2_with fail
    refine (Tryd.strconv_Itoa_small n h _).mono ?_
    rintro e w' ⟨rfl, hw⟩
    subst hw
    go_wp2_with fail
    go_ret
    rw [← HE.out]
    exact ⟨rfl, rfl⟩
  · have e1 := hd.2 (by omega)
    have HE := Lib.hid e1
    have h10' : ¬ ((n : Int) < 10) := by omega
    clear hd e1
    go_enter Tryd.func37, Tryd.ntmps37
    go_wp2_with fail
    refine (Tryd.strconv_Itoa_small n h _).mono ?_
    rintro e w' ⟨rfl, hw⟩
    subst hw
    go_wp2_with fail
    go_ret
    rw [← HE.out]
    exact ⟨rfl, rfl⟩
theorem text_join (y m d : Nat) : (⟨(Cal.four y).toArray⟩ : ByteArray) ++ ⟨#[45]⟩ ++ ⟨(Cal.two m).toArray⟩ ++ ⟨#[45]⟩ ++ ⟨(Cal.two d).toArray⟩ = ⟨(Cal.text y m d).toArray⟩ := by
  apply ByteArray.ext
  simp [ByteArray.data_append, Cal.text]
theorem text_ok (n M y m d : Nat) (h : Cal.InM n M) (hy : 2000 + M / 12 = y) (hm : M % 12 + 1 = m) (hd : Cal.dom n M = d) (w : World) (hT : Tabs w) : Calls Tryd.prog 19 #[.int .i64 (n : Int)] w fun e w' => e = .returned (.string ⟨(Cal.text y m d).toArray⟩) ∧ Below w.heap.size w w' := by
  have hM := h.1
  have hdb := h.dom
  have hlb := Cal.lenM_bounds M
  have hd31 : d < 100 := by omega
  have hm12 : m < 100 := by omega
  have hy1 : 2000 ≤ y := by omega
  have hy2 : y < 2100 := by omega
  have hit : Lib.itoa (y : Int) = Cal.four y := by
    unfold Lib.itoa
    rw [if_neg (by omega), Int.toNat_natCast, dec_year y hy1 hy2]
  have hs1 : (⟨(Cal.four y).toArray⟩ : ByteArray).size = 4 := rfl
  have hs2 : (⟨(Cal.two m).toArray⟩ : ByteArray).size = 2 := rfl
  have hs3 : (⟨(Cal.two d).toArray⟩ : ByteArray).size = 2 := rfl
  have F := Lib.hid (And.intro h (And.intro hy (And.intro hm (And.intro hd (And.intro hT (And.intro (validB_yes n h.day) hit))))))
  clear h hy hm hd hT hit hdb hlb
  go_enter Tryd.func19, Tryd.ntmps19
  go_wp2_with fail
  refine (valid_any _ true F.out.2.2.2.2.2.1 _).mono ?_
  rintro e w' ⟨rfl, rfl⟩
  go_wp2_with fail
  refine (date_at n M y m d F.out.1 F.out.2.1 F.out.2.2.1 F.out.2.2.2.1 _ F.out.2.2.2.2.1.1).mono ?_
  rintro e w1 ⟨rfl, hB1⟩
  go_wp2_with fail
  refine (Tryd.strconv_Itoa (y : Int) (by omega) (by omega) _ (F.out.2.2.2.2.1.go hB1).2).mono ?_
  rintro e w2 ⟨rfl, k, os, hw2⟩
  have hB : Below w1.heap.size w1 w2 := by rw [hw2]; exact below_grow k os
  have hB2 := bgo hB1 hB
  clear hw2 hB hB1
  rw [F.out.2.2.2.2.2.2]
  go_wp2_with fail
  refine (two_any m hm12 _).mono ?_
  rintro e w' ⟨rfl, rfl⟩
  go_wp2_with fail
  refine (two_any d hd31 _).mono ?_
  rintro e w' ⟨rfl, rfl⟩
  go_wp2_with fail
  go_ret
  rw [← text_join]
  exact ⟨rfl, hB2⟩
theorem text_no (n : Int) (h : validB n = false) (w : World) : Calls Tryd.prog 19 #[.int .i64 n] w fun e w' => e = .returned (.string ⟨#[]⟩) ∧ Below w.heap.size w w' := by
  have H := Lib.hid h
  clear h
  go_enter Tryd.func19, Tryd.ntmps19
  go_wp2_with fail
  refine (valid_any _ false H.out _).mono ?_
  rintro e w' ⟨rfl, rfl⟩
  go_wp2_with fail
  go_ret
  exact ⟨rfl, Below.refl _ _⟩
end Go.Proofs.YtpmakhfpdidleaaDoor.CaT
namespace Go.Proofs.YtpmakhfpdidleaaDoor
open Go.RowKit Go.Shelf
set_option linter.unusedVariables false
set_option linter.unusedSimpArgs false
set_option maxRecDepth 100000
/-- Texts, one behind the other. -/
def catB : List ByteArray → ByteArray
  | [] => ⟨#[]⟩
  | s :: l => s ++ catB l
theorem catB_data (l : List ByteArray) : (catB l).data.toList = (l.map (·.data.toList)).flatten := by
  induction l with
  | nil => rfl
  | cons s l ih => rw [catB, app_data, ih]; rfl
theorem join_nil : ∀ l : List (List UInt8), Lib.join l [] = l.flatten
  | [] => rfl
  | [a] => by simp [Lib.join, List.intercalate]
  | a :: b :: l => by
    have := join_nil (b :: l)
    unfold Lib.join List.intercalate at this ⊢
    rw [List.flatten_cons, ← this]
    rfl
theorem catB_size (l : List ByteArray) : (catB l).size = (l.map ByteArray.size).sum := by
  induction l with
  | nil => rfl
  | cons s l ih => rw [catB, app_size, ih]; rfl
def colon : ByteArray := ⟨#[58]⟩
def blank : ByteArray := ⟨#[32]⟩
/-- The leaf of a row. -/
def leafB (label : ByteArray) (c : Int) (reason : ByteArray) : ByteArray := catB [itoaB label.size, colon, label, itoaB c, blank, reason]
end Go.Proofs.YtpmakhfpdidleaaDoor
namespace Go.Proofs.YtpmakhfpdidleaaDoor
open Go.RowKit Go.Shelf
set_option linter.unusedVariables false
set_option linter.unusedSimpArgs false
set_option maxRecDepth 100000
def I64 (x : Int) : Prop := -9223372036854775808 ≤ x ∧ x ≤ 9223372036854775807
def intV (xs : List Int) : List Value := xs.map fun x => Value.int .i64 x
theorem intV_get (xs : List Int) (j : Nat) (h : j < xs.length) : (intV xs)[j]? = some (.int .i64 (xs.getD j 0)) := by
  simp [intV, h, List.getD]
theorem intV_snoc (l : List Int) (x : Int) : intV (l ++ [x]) = intV l ++ [.int .i64 x] := by simp [intV]
theorem info_str : (Tryd.prog.info? 9).map (fun i => (i.zero, i.size, i.bytes)) = some (some (.string ⟨#[]⟩), 1, 16) := by kernel_rfl
theorem strV_snoc (l : List ByteArray) (x : ByteArray) : strV (l ++ [x]) = strV l ++ [.string x] := by simp [strV]
theorem itoas_snoc (xs : List Int) (k : Nat) (h : k < xs.length) : (xs.map itoaB).take (k + 1) = (xs.map itoaB).take k ++ [itoaB (xs.getD k 0)] := by
  rw [List.take_succ_eq_append_getElem (by simpa using h)]
  simp [List.getD, h]
/-- Numbers, separated by blanks. -/
def textI (xs : List Int) : ByteArray := ⟨(Lib.join (xs.map Lib.itoa) [32]).toArray⟩
theorem join_len (l : List (List UInt8)) (h : ∀ x ∈ l, x.length ≤ 21) : (Lib.join l [32]).length ≤ 22 * l.length := by
  match l with
  | [] => simp [Lib.join, List.intercalate]
  | [a] => have := h a (by simp); simp [Lib.join, List.intercalate]; omega
  | a :: b :: l =>
    have ih := join_len (b :: l) (fun x hx => h x (List.mem_cons_of_mem _ hx))
    have ha := h a (by simp)
    have e : Lib.join (a :: b :: l) [32] = a ++ [32] ++ Lib.join (b :: l) [32] := by
      unfold Lib.join List.intercalate
      simp [List.intersperse]
    rw [e]
    simp only [List.length_append, List.length_cons, List.length_nil] at ih ⊢
    omega
theorem textI_size (xs : List Int) (h : ∀ x ∈ xs, I64 x) : (textI xs).size ≤ 22 * xs.length := by
  have := join_len (xs.map Lib.itoa) (fun y hy => by
    obtain ⟨x, hx, rfl⟩ := List.mem_map.1 hy
    exact Lib.itoa_length_le x (h x hx).1 (h x hx).2)
  rw [List.length_map] at this
  show (Lib.join (xs.map Lib.itoa) [32]).toArray.size ≤ _
  simpa using this
/-- The text of a list. -/
def listedB (xs : List Int) : ByteArray := if xs.length = 0 then ⟨#[45]⟩ else textI xs
theorem listedB_size (xs : List Int) (h : ∀ x ∈ xs, I64 x) : (listedB xs).size ≤ 22 * xs.length + 1 := by
  unfold listedB
  split
  · have : (⟨#[45]⟩ : ByteArray).size = 1 := rfl
    omega
  · have := textI_size xs h
    omega
theorem slice_cap {W : World} {base : Nat} {e : TypeId} {size n : Nat} {A : Option Addr} {c : Nat} {xs : List Value} (h : W.ownsRow base e size (.slice A n c) n xs) : n ≤ c ∧ c ≤ maxLen := by
  rcases h.2 with ⟨h1, h0⟩ | ⟨g, cap', cur, h1, _, _, h2, h3, _⟩
  · injection h1 with _ _ h1
    subst h1 h0
    exact ⟨Nat.le_refl _, Nat.zero_le _⟩
  · injection h1 with _ _ h1
    subst h1
    exact ⟨h2, h3⟩
/-- The text of a day. -/
noncomputable def dayB (n : Int) : ByteArray := by
  classical
  exact if h : ∃ M, Cal.InM n.toNat M ∧ 0 ≤ n then ⟨(Cal.text (2000 + h.choose / 12) (h.choose % 12 + 1) (Cal.dom n.toNat h.choose)).toArray⟩ else ⟨#[]⟩
theorem dayB_eq {n M : Nat} (h : Cal.InM n M) : dayB (n : Int) = ⟨(Cal.text (2000 + M / 12) (M % 12 + 1) (Cal.dom n M)).toArray⟩ := by
  have hx : ∃ M, Cal.InM ((n : Int).toNat) M ∧ (0 : Int) ≤ (n : Int) := ⟨M, by simpa using h, by omega⟩
  unfold dayB
  rw [dif_pos hx]
  have hc : Cal.InM n hx.choose := hx.choose_spec.1
  have e : hx.choose = M := Cal.InM.unique hc h
  rw [e]
  rfl
theorem dayB_size (n : Int) : (dayB n).size ≤ 10 := by
  unfold dayB
  split
  · show (Cal.text _ _ _).toArray.size ≤ 10
    simp [Cal.text, Cal.four, Cal.two]
  · exact Nat.zero_le _
theorem caltext_any (n : Int) (t : ByteArray) (ht : Hid (dayB n = t)) (h0 : 0 ≤ n) (h1 : n ≤ 36524) (w : World) (hT : CaT.Tabs w) : Calls Tryd.prog 19 #[.int .i64 n] w fun e w' => e = .returned (.string t) ∧ Below w.heap.size w w' := by
  obtain ⟨k, rfl⟩ := Int.eq_ofNat_of_zero_le h0
  obtain ⟨M, hM⟩ := Cal.exists_month k (by omega)
  rw [← ht.out, dayB_eq hM]
  exact CaT.text_ok k M _ _ _ hM rfl rfl rfl w hT
theorem itoa_at (n : Int) (t : ByteArray) (ht : Hid (itoaB n = t)) (hn : I64 n) (w : World) (hT : CaT.Tabs w) : Calls Tryd.prog 22 #[.int .i64 n] w fun e w' => e = .returned (.string t) ∧ Below w.heap.size w w' :=
  itoa_any n hn.1 hn.2 t ht w hT.2
/-- A declared line. -/
structure DeclD where
  name : ByteArray
  unit : ByteArray
  role : Int
def declV (d : DeclD) : List Value := [.string d.name, .string d.unit, .int .i64 d.role]
/-- A line of a result, with the places of its lists. -/
structure LineM where
  day : Int
  line : Int
  art : Int
  amt : Int
  FA : Option Addr
  fc : Nat
  facts : List Int
  RA : Option Addr
  rc : Nat
  rests : List Int
def lineV (x : LineM) : List Value := [.int .i64 x.day, .int .i64 x.line, .int .i64 x.art, .int .i64 x.amt, .slice x.FA x.facts.length x.fc, .slice x.RA x.rests.length x.rc]
/-- A row. -/
structure RowD where
  l : ByteArray
  c : Int
  r : ByteArray
def rowV (x : RowD) : List Value := [.string x.l, .int .i64 x.c, .string x.r]
def rowA (x : RowD) : Value := .agg #[.string x.l, .int .i64 x.c, .string x.r]
def rowsV (l : List RowD) : List Value := l.flatMap rowV
theorem flat_len {α : Type} (f : α → List Value) (k : Nat) (hf : ∀ x, (f x).length = k) (l : List α) : (l.flatMap f).length = l.length * k := by
  induction l with
  | nil => simp
  | cons a l ih => rw [List.flatMap_cons, List.length_append, ih, hf, List.length_cons, Nat.add_mul, Nat.one_mul, Nat.add_comm]
theorem flat_get {α : Type} (f : α → List Value) (k : Nat) (hf : ∀ x, (f x).length = k) (l : List α) : ∀ (i : Nat) (hi : i < l.length) (j : Nat), j < k → (l.flatMap f)[i * k + j]? = (f l[i])[j]? := by
  induction l with
  | nil => intro i hi; exact absurd hi (Nat.not_lt_zero i)
  | cons a l ih =>
    intro i hi j hj
    rw [List.flatMap_cons]
    cases i with
    | zero => rw [Nat.zero_mul, Nat.zero_add, List.getElem?_append_left (by rw [hf]; exact hj)]; rfl
    | succ i =>
      rw [List.getElem?_append_right (by rw [hf, Nat.add_mul, Nat.one_mul]; omega), hf, show (i + 1) * k + j - k = i * k + j by rw [Nat.add_mul, Nat.one_mul]; omega, ih i (by simpa using hi) j hj]
      rfl
/-- A case: what the payslip reads of it, and the rest as it is. -/
structure CaseM where
  f0 : Value
  LA : Option Addr
  lc : Nat
  ds : List DeclD
  AA : Option Addr
  ac : Nat
  nums : List Int
  v3 : Value
  v4 : Value
  v5 : Value
  v6 : Value
  cur : ByteArray
  fst : Int
def caseV (c : CaseM) : Value := .agg #[c.f0, .slice c.LA c.ds.length c.lc, .slice c.AA c.nums.length c.ac, c.v3, c.v4, c.v5, c.v6, .string c.cur, .int .i64 c.fst]
/-- The numbers of the articles lie in the world. -/
def ArtAt (W : World) (A : Option Addr) (nums : List Int) : Prop := 0 < nums.length → ∃ b off, A = some ⟨b, off, none⟩ ∧ b < W.heap.size ∧ ∀ k, k < nums.length → W.cell? ⟨b, off + k * 14, none⟩ = some (.int .i64 (nums.getD k 0))
theorem ArtAt.go {W W' : World} {A : Option Addr} {nums : List Int} (h : ArtAt W A nums) (k : Below W.heap.size W W') : ArtAt W' A nums := fun h0 => by
  obtain ⟨b, off, e, hb, hc⟩ := h h0
  exact ⟨b, off, e, Nat.lt_of_lt_of_le hb k.size, fun j hj => (k.cell (p := ⟨b, off + j * 14, none⟩) hb).trans (hc j hj)⟩
structure CaseOk (W : World) (c : CaseM) : Prop where
  ld : Sl W W.heap.size 3 c.LA c.ds.length (c.ds.flatMap declV)
  la : ArtAt W c.AA c.nums
  cd : c.ds.length ≤ maxLen
  ca : c.nums.length ≤ maxLen
  nu : ∀ x ∈ c.nums, I64 x
  nm : ∀ d ∈ c.ds, d.name.size ≤ 70000000000000
theorem CaseOk.go {W W' : World} {c : CaseM} (h : CaseOk W c) (k : Below W.heap.size W W') : CaseOk W' c := ⟨h.ld.go k, h.la.go k, h.cd, h.ca, h.nu, h.nm⟩
structure LineOk (W : World) (x : LineM) : Prop where
  sf : Sl W W.heap.size 1 x.FA x.facts.length (intV x.facts)
  sr : Sl W W.heap.size 1 x.RA x.rests.length (intV x.rests)
  lf : x.facts.length ≤ 1000
  lr : x.rests.length ≤ 1000
  bf : ∀ y ∈ x.facts, I64 y
  br : ∀ y ∈ x.rests, I64 y
  ba : I64 x.amt
theorem LineOk.go {W W' : World} {x : LineM} (h : LineOk W x) (k : Below W.heap.size W W') : LineOk W' x := ⟨h.sf.go k, h.sr.go k, h.lf, h.lr, h.bf, h.br, h.ba⟩
def tVersion : ByteArray := ⟨#[118, 101, 114, 115, 105, 111, 110, 32]⟩
def tArticle : ByteArray := ⟨#[32, 111, 102, 32, 97, 114, 116, 105, 99, 108, 101, 32]⟩
def tOn : ByteArray := ⟨#[32, 111, 110, 32]⟩
def tFacts : ByteArray := ⟨#[59, 32, 102, 97, 99, 116, 115, 32]⟩
def tVersions : ByteArray := ⟨#[59, 32, 118, 101, 114, 115, 105, 111, 110, 115, 32]⟩
/-- The reason of a line. -/
noncomputable def reasonB (nums : List Int) (x : LineM) : ByteArray := catB [tVersion, itoaB x.art, tArticle, itoaB (nums.getD x.art.toNat 0), tOn, dayB x.day, tFacts, listedB x.facts, tVersions, listedB x.rests]
theorem reasonB_size (nums : List Int) (x : LineM) (h1 : I64 x.art) (h2 : I64 (nums.getD x.art.toNat 0)) (hf : ∀ y ∈ x.facts, I64 y) (hr : ∀ y ∈ x.rests, I64 y) (lf : x.facts.length ≤ 1000) (lr : x.rests.length ≤ 1000) : (reasonB nums x).size ≤ 45000 := by
  have a1 := itoaB_size x.art h1.1 h1.2
  have a2 := itoaB_size _ h2.1 h2.2
  have a3 := dayB_size x.day
  have a4 := listedB_size x.facts hf
  have a5 := listedB_size x.rests hr
  rw [reasonB, catB_size]
  have e1 : tVersion.size = 8 := rfl
  have e2 : tArticle.size = 12 := rfl
  have e3 : tOn.size = 4 := rfl
  have e4 : tFacts.size = 8 := rfl
  have e5 : tVersions.size = 11 := rfl
  simp only [List.map_cons, List.map_nil, List.sum_cons, List.sum_nil, e1, e2, e3, e4, e5]
  omega
end Go.Proofs.YtpmakhfpdidleaaDoor
namespace Go.Proofs.YtpmakhfpdidleaaDoor
theorem dec_mem (u : Nat) : ∀ c ∈ Lib.decDigits u, 48 ≤ c.toNat ∧ c.toNat ≤ 57 := by
  induction u using Nat.strongRecOn with
  | _ u ih =>
    intro c hc
    rw [Lib.decDigits] at hc
    split at hc
    · rename_i h
      obtain rfl := List.mem_singleton.1 hc
      rw [UInt8.toNat_ofNat']
      omega
    · rename_i h
      rcases List.mem_append.1 hc with hc | hc
      · exact ih (u / 10) (by omega) c hc
      · obtain rfl := List.mem_singleton.1 hc
        rw [UInt8.toNat_ofNat']
        omega
def decVal (l : List UInt8) : Nat := l.foldl (fun a c => 10 * a + (c.toNat - 48)) 0
theorem dec_val (u : Nat) : decVal (Lib.decDigits u) = u := by
  induction u using Nat.strongRecOn with
  | _ u ih =>
    rw [Lib.decDigits]
    split
    · rename_i h
      simp only [decVal, List.foldl_cons, List.foldl_nil, UInt8.toNat_ofNat']
      omega
    · rename_i h
      have := ih (u / 10) (by omega)
      unfold decVal at this ⊢
      rw [List.foldl_append, this]
      simp only [List.foldl_cons, List.foldl_nil, UInt8.toNat_ofNat']
      omega
theorem dec_inj {u v : Nat} (h : Lib.decDigits u = Lib.decDigits v) : u = v := by
  rw [← dec_val u, h, dec_val]
theorem itoa_mem (n : Int) : ∀ c ∈ Lib.itoa n, c.toNat = 45 ∨ (48 ≤ c.toNat ∧ c.toNat ≤ 57) := by
  intro c hc
  unfold Lib.itoa at hc
  split at hc
  · rcases List.mem_cons.1 hc with rfl | hc
    · exact .inl rfl
    · exact .inr (dec_mem _ c hc)
  · exact .inr (dec_mem _ c hc)
theorem itoa_inj {n m : Int} (h : Lib.itoa n = Lib.itoa m) : n = m := by
  unfold Lib.itoa at h
  split at h <;> split at h
  · injection h with _ h
    have := dec_inj h
    omega
  · rename_i h1 h2
    have : (45 : UInt8) ∈ Lib.decDigits m.toNat := by rw [← h]; exact List.mem_cons_self
    have := (dec_mem _ _ this).1
    exact absurd this (by decide)
  · rename_i h1 h2
    have : (45 : UInt8) ∈ Lib.decDigits n.toNat := by rw [h]; exact List.mem_cons_self
    have := (dec_mem _ _ this).1
    exact absurd this (by decide)
  · have := dec_inj h
    omega
theorem dec_len {u : Nat} (h : 10 ≤ u) : 1 < (Lib.decDigits u).length := by
  rw [Lib.decDigits, dif_neg (by omega)]
  have : (Lib.decDigits (u / 10)).length ≠ 0 := by
    intro e
    have e' := List.eq_nil_of_length_eq_zero e
    rw [Lib.decDigits] at e'
    split at e' <;> simp at e'
  simp only [List.length_append, List.length_cons, List.length_nil]
  omega
theorem dec_ne (u : Nat) : Lib.decDigits u ≠ [] := by
  intro e
  rw [Lib.decDigits] at e
  split at e <;> simp at e
theorem dec_lead (u : Nat) (h : (Lib.decDigits u).headD 0 = 48) : u = 0 := by
  induction u using Nat.strongRecOn with
  | _ u ih =>
    rw [Lib.decDigits] at h
    split at h
    · rename_i h1
      simp only [List.headD_cons] at h
      have := congrArg UInt8.toNat h
      rw [UInt8.toNat_ofNat'] at this
      have e : (48 : UInt8).toNat = 48 := rfl
      omega
    · rename_i h1
      have h2 : (Lib.decDigits (u / 10)).headD 0 = 48 := by
        cases hd : Lib.decDigits (u / 10) with
        | nil => exact absurd hd (dec_ne _)
        | cons a l => rw [hd] at h; exact h
      have := ih (u / 10) (by omega) h2
      omega
theorem decVal_snoc (l : List UInt8) (c : UInt8) : decVal (l ++ [c]) = 10 * decVal l + (c.toNat - 48) := by
  simp [decVal]
theorem decVal_app (l m : List UInt8) : decVal (l ++ m) = m.foldl (fun a c => 10 * a + (c.toNat - 48)) (decVal l) := by
  simp [decVal]
theorem decVal_pos (l : List UInt8) (hd : ∀ c ∈ l, 48 ≤ c.toNat ∧ c.toNat ≤ 57) (hn : l ≠ []) (h : l.headD 0 ≠ 48) : 1 ≤ decVal l := by
  obtain ⟨c, l', rfl⟩ := List.exists_cons_of_ne_nil hn
  have hc := hd c List.mem_cons_self
  have hne : c.toNat ≠ 48 := fun e => h (by simp only [List.headD_cons]; exact UInt8.toNat_inj.1 (by rw [e]; rfl))
  unfold decVal
  rw [List.foldl_cons]
  suffices hh : ∀ (m : List UInt8) a, 1 ≤ a → 1 ≤ m.foldl (fun a c => 10 * a + (c.toNat - 48)) a from hh l' _ (by show 1 ≤ 10 * 0 + (c.toNat - 48); omega)
  intro m
  induction m with
  | nil => intro a ha; exact ha
  | cons x m ih =>
    intro a ha
    rw [List.foldl_cons]
    exact ih _ (by show 1 ≤ 10 * a + (x.toNat - 48); omega)
/-- A numeral without needless zeros is the numeral of its value. -/
theorem dec_back (l : List UInt8) : (∀ c ∈ l, 48 ≤ c.toNat ∧ c.toNat ≤ 57) → l ≠ [] → (1 < l.length → l.headD 0 ≠ 48) → Lib.decDigits (decVal l) = l := by
  suffices h : ∀ r : List UInt8, (∀ c ∈ r.reverse, 48 ≤ c.toNat ∧ c.toNat ≤ 57) → r.reverse ≠ [] → (1 < r.reverse.length → r.reverse.headD 0 ≠ 48) → Lib.decDigits (decVal r.reverse) = r.reverse by
    have := h l.reverse
    rwa [List.reverse_reverse] at this
  intro r
  induction r with
  | nil => intro _ h; exact absurd rfl h
  | cons c r ih =>
    rw [List.reverse_cons]
    intro hd hn hl
    have hc := hd c (by simp)
    have hb : UInt8.ofNat (48 + (c.toNat - 48)) = c := by
      apply UInt8.toNat_inj.1
      rw [UInt8.toNat_ofNat']
      have := c.toNat_lt
      omega
    rw [decVal_snoc]
    by_cases hr : r.reverse = []
    · rw [hr] at hl ⊢
      have e : decVal ([] : List UInt8) = 0 := rfl
      rw [e, Lib.decDigits, dif_pos (by omega)]
      simp only [Nat.mul_zero, Nat.zero_add, List.nil_append, hb]
    · have hlen : 1 < (r.reverse ++ [c]).length := by
        have : r.reverse.length ≠ 0 := fun e => hr (List.eq_nil_of_length_eq_zero e)
        simp only [List.length_append, List.length_cons, List.length_nil]
        omega
      have hh : r.reverse.headD 0 ≠ 48 := by
        have := hl hlen
        cases hx : r.reverse with
        | nil => exact absurd hx hr
        | cons a t => rw [hx] at this; exact this
      have hp := decVal_pos r.reverse (fun x hx => hd x (by simp only [List.mem_append]; exact .inl hx)) hr hh
      have hi := ih (fun x hx => hd x (by simp only [List.mem_append]; exact .inl hx)) hr (fun _ => hh)
      rw [Lib.decDigits, dif_neg (by omega)]
      have e1 : (10 * decVal r.reverse + (c.toNat - 48)) / 10 = decVal r.reverse := by omega
      have e2 : (10 * decVal r.reverse + (c.toNat - 48)) % 10 = c.toNat - 48 := by omega
      rw [e1, e2, hi, hb]
end Go.Proofs.YtpmakhfpdidleaaDoor
