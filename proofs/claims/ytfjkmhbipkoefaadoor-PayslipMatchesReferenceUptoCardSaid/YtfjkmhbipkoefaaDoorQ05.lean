/- The walks behind calendar.Text: lengthOf, valid, Date, two, Text. The walks of package payslip, second part: isIndex, inRange, join, Leaf, listed, reason. -/
import Derived.Test.YtfjkmhbipkoefaaDoorQ01
import Derived.Test.YtfjkmhbipkoefaaDoorQ04
import Derived.WalkKit
import Derived.WalkLawsBesides
import Derived.WalkSpells
import Derived.WalkMore
import Derived.Outline
import Derived.Lib.Hide
import Derived.IntWalk
import Derived.Handy
import Derived.BigQuiet
import Derived.Deep.LoopGhost
import Derived.Deep.QuietTactic
import Derived.Below
import Derived.Lib.LaidTab
namespace Go.Proofs.YtfjkmhbipkoefaaDoor.CaT
open Go.RowKit Go.Sort Go.Proofs.YtfjkmhbipkoefaaDoor
set_option linter.unusedVariables false
/-- The table of the days before each month lies in the world. -/
def befCells : Array Value := #[.int .i64 0, .int .i64 31, .int .i64 59, .int .i64 90, .int .i64 120, .int .i64 151, .int .i64 181, .int .i64 212, .int .i64 243, .int .i64 273, .int .i64 304, .int .i64 334, .int .i64 365]
def BTab (w : World) : Prop := ∃ t fr, w.heap[2]? = some (.cells befCells t fr)
theorem befCells_at (n : Nat) (h : n ≤ 12) : befCells[n]? = some (.int .i64 (Cal.bef n)) := by
  rcases (show n = 0 ∨ n = 1 ∨ n = 2 ∨ n = 3 ∨ n = 4 ∨ n = 5 ∨ n = 6 ∨ n = 7 ∨ n = 8 ∨ n = 9 ∨ n = 10 ∨ n = 11 ∨ n = 12 by omega) with rfl | rfl | rfl | rfl | rfl | rfl | rfl | rfl | rfl | rfl | rfl | rfl | rfl <;> rfl
theorem BTab.cell {w : World} (h : BTab w) (n : Nat) (hn : n ≤ 12) : w.cell? ⟨2, n, none⟩ = some (.int .i64 (Cal.bef n)) := by
  obtain ⟨t, fr, h⟩ := h
  simp only [World.cell?, h]
  exact befCells_at n hn
theorem BTab.go {w w' : World} (h : BTab w) (hb : Below w.heap.size w w') : BTab w' := by
  obtain ⟨t, fr, h'⟩ := h
  exact ⟨t, fr, (hb.block _ (Array.getElem?_eq_some_iff.1 h').1).trans h'⟩
theorem bef_le (k : Nat) (h : k < 12) : Cal.bef k ≤ Cal.bef (k + 1) ∧ Cal.bef (k + 1) ≤ 365 := by
  rcases Cal.k12 k h with rfl | rfl | rfl | rfl | rfl | rfl | rfl | rfl | rfl | rfl | rfl | rfl <;> decide
set_option maxRecDepth 100000 in
theorem lengthOf_any (y k : Nat) (hk : k < 12) (hy : y ≤ 1000000) (w : World) (hT : BTab w) : Calls Tryd.prog 88 #[.int .i64 (y : Int), .int .i64 (k : Int)] w fun e w' => e = .returned (.int .i64 (Cal.len y k : Nat)) ∧ Below w.heap.size w w' := by
  have hc0 := hT.cell k (by omega)
  have hc1 := hT.cell (k + 1) (by omega)
  have hb := bef_le k hk
  have hlen : Cal.len y k = Cal.bef (k + 1) - Cal.bef k + (if k = 1 ∧ y % 4 = 0 then 1 else 0) := rfl
  obtain ⟨a, ha⟩ : ∃ a, Cal.bef k = a := ⟨_, rfl⟩
  obtain ⟨b, hb'⟩ : ∃ b, Cal.bef (k + 1) = b := ⟨_, rfl⟩
  obtain ⟨l, hl⟩ : ∃ l, Cal.len y k = l := ⟨_, rfl⟩
  rw [ha] at hc0 hb hlen
  rw [hb'] at hc1 hb hlen
  rw [hl] at hlen ⊢
  have Hlen := Lib.hid hlen
  clear hT ha hb' hl hlen
  have h1 : (0 : Int) ≤ (k : Int) := Int.natCast_nonneg _
  have h2 : (k : Int) < 13 := by omega
  have h3 : (k : Int) + 1 < 13 := by omega
  have h4 : (0 : Int) ≤ (k : Int) + 1 := by omega
  have hwr : IntKind.i64.wrap ((k : Int) + 1) = (k : Int) + 1 := IntWalk.i64_in _ (by omega)
  have hwr2 : IntKind.i64.wrap ((b : Int) - (a : Int)) = (b : Int) - (a : Int) := IntWalk.i64_in _ (by omega)
  have htn : ((k : Int) + 1).toNat = k + 1 := by omega
  have hy0 : (0 : Int) ≤ (y : Int) := Int.natCast_nonneg _
  by_cases hk1 : k = 1
  · have hd1 : ((k : Int) == 1) = true := by simp [hk1]
    by_cases hy4 : y % 4 = 0
    · have hd2 : (((y : Int) % 4) == 0) = true := by simp; omega
      have hres : (l : Int) = (b : Int) - (a : Int) + 1 := by rw [Hlen.out, if_pos ⟨hk1, hy4⟩]; omega
      have HR := Lib.hid hres
      clear hres hk1 hy4
      go_enter Tryd.func88, Tryd.ntmps88
      go_wp2
      go_quiet (fail)
      clear hwr hwr2 htn
      go_wp2
      go_ret
      rw [HR.out]
      exact ⟨rfl, below_drewN (Below.refl _ _) _⟩
    · have hd2 : (((y : Int) % 4) == 0) = false := by simp; omega
      have hres : (l : Int) = (b : Int) - (a : Int) := by rw [Hlen.out, if_neg (fun h => hy4 h.2)]; omega
      have HR := Lib.hid hres
      clear hres hk1 hy4
      go_enter Tryd.func88, Tryd.ntmps88
      go_wp2
      go_quiet (fail)
      clear hwr hwr2 htn
      go_wp2
      go_ret
      rw [HR.out]
      exact ⟨rfl, below_drewN (Below.refl _ _) _⟩
  · have hd1 : ((k : Int) == 1) = false := by simp; omega
    have hres : (l : Int) = (b : Int) - (a : Int) := by rw [Hlen.out, if_neg (fun h => hk1 h.1)]; omega
    have HR := Lib.hid hres
    clear hres hk1
    go_enter Tryd.func88, Tryd.ntmps88
    go_wp2
    go_quiet (fail)
    clear hwr hwr2 htn
    go_wp2
    go_ret
    rw [HR.out]
    exact ⟨rfl, below_drewN (Below.refl _ _) _⟩
def validB (n : Int) : Bool := decide (0 ≤ n ∧ n ≤ 36524)
theorem valid_any (n : Int) (b : Bool) (hb : validB n = b) (w : World) : Calls Tryd.prog 74 #[.int .i64 n] w fun e w' => e = .returned (.bool b) ∧ w = w' := by
  subst hb
  by_cases h1 : 0 ≤ n
  · by_cases h2 : n ≤ 36524
    · have e : validB n = true := decide_eq_true ⟨h1, h2⟩
      rw [e]
      go_enter Tryd.func74, Tryd.ntmps74
      go_wp2
      go_ret
      exact ⟨rfl, rfl⟩
    · have e : validB n = false := decide_eq_false fun h => h2 h.2
      rw [e]
      have h2' : 36524 < n := by omega
      go_enter Tryd.func74, Tryd.ntmps74
      go_wp2
      go_ret
      exact ⟨rfl, rfl⟩
  · have e : validB n = false := decide_eq_false fun h => h1 h.1
    rw [e]
    have h2' : n < 0 := by omega
    go_enter Tryd.func74, Tryd.ntmps74
    go_wp2
    go_ret
    exact ⟨rfl, rfl⟩
theorem inM_le {n M K : Nat} (h : Cal.InM n M) (hK : Cal.first K ≤ n) : K ≤ M := by
  rcases Nat.lt_or_ge M K with hl | hl
  · have := Cal.first_le (show M + 1 ≤ K from hl)
    have := h.2.2
    omega
  · exact hl
theorem le_first {n M K : Nat} (h : Cal.InM n M) (hK : K ≤ M) : Cal.first K ≤ n := Nat.le_trans (Cal.first_le hK) h.2.1
theorem validB_yes (n : Nat) (h : n < 36525) : validB (n : Int) = true := decide_eq_true ⟨by omega, by omega⟩
theorem lengthOf_at (y k l : Nat) (hk : k < 12) (hy : y ≤ 1000000) (hl : Cal.len y k = l) (w : World) (hT : BTab w) : Calls Tryd.prog 88 #[.int .i64 (y : Int), .int .i64 (k : Int)] w fun e w' => e = .returned (.int .i64 (l : Int)) ∧ Below w.heap.size w w' := by
  subst hl; exact lengthOf_any y k hk hy w hT
set_option maxRecDepth 100000 in
set_option maxHeartbeats 1000000 in
theorem date_ok (n M : Nat) (h : Cal.InM n M) (w : World) (hT : BTab w) : Calls Tryd.prog 75 #[.int .i64 (n : Int)] w fun e w' => e = .returned (.tuple #[.int .i64 ((2000 + M / 12 : Nat) : Int), .int .i64 ((M % 12 + 1 : Nat) : Int), .int .i64 ((Cal.dom n M : Nat) : Int)]) ∧ Below w.heap.size w w' := by
  have hn := h.day
  have hM : M < 1200 := h.1
  have H := Lib.hid h
  have HT := Lib.hid hT
  have hv := validB_yes n hn
  have Hv := Lib.hid hv
  clear h hT hv
  have hq : (n : Int) / 1461 * 4 = ((n / 1461 * 4 : Nat) : Int) := by omega
  have hr : (n : Int) % 1461 = ((n % 1461 : Nat) : Int) := by omega
  have HQ := Lib.hid (And.intro hq hr)
  clear hq hr
  go_enter Tryd.func75, Tryd.ntmps75
  go_wp2_with fail
  go_step3
  go_wp2_with fail
  refine (valid_any _ true Hv.out _).mono ?_
  rintro e w' ⟨rfl, rfl⟩
  go_wp2_with fail
  go_step3
  go_wp2_with fail
  go_loopg [5, 6] (M / 12 + 1) (fun g y r wr => ∃ Y R : Nat, y = .int .i64 ((2000 : Int) + (Y : Int)) ∧ r = .int .i64 (R : Int) ∧ Y * 12 ≤ M ∧ Cal.first (Y * 12) + R = n ∧ M / 12 + 1 ≤ Y + g ∧ Below w.heap.size w wr)
  case atStart =>
    have hf := Cal.first_48 (n / 1461)
    have h48 : 48 * (n / 1461) = n / 1461 * 4 * 12 := by omega
    rw [h48] at hf
    have hle : n / 1461 * 4 * 12 ≤ M := inM_le H.out (by omega)
    have h2 : (n : Int) % 1461 = ((n % 1461 : Nat) : Int) := HQ.out.2
    exact ⟨n / 1461 * 4, n % 1461, by rw [HQ.out.1], by rw [h2], hle, by omega, by omega, Below.refl _ _⟩
  case round =>
    obtain ⟨gOut, hgo⟩ : ∃ g, g = gk := ⟨_, rfl⟩
    subst hgo
    obtain ⟨Y, R, rfl, rfl, hY, hR, hg, hB⟩ := hrel
    have HR := Lib.hid hR
    clear hR
    have hY99 : Y ≤ 99 := by omega
    have hRn : R ≤ n := by have := HR.out; omega
    go_wp2_with fail
    go_loopg [6, 19] 13 (fun g r c wx => ∃ m S : Nat, r = .int .i64 (S : Int) ∧ c = .int .i64 (m : Int) ∧ m ≤ 12 ∧ Y * 12 + m ≤ M ∧ Cal.first (Y * 12 + m) + S = n ∧ m + g = 13 ∧ Below w.heap.size w wx)
    case atStart => exact ⟨0, R, rfl, rfl, by omega, by omega, HR.out, by omega, hB⟩
    case round =>
      clear HR hB hRn
      obtain ⟨m, S, rfl, rfl, hm, hmM, hS, hg2, hB⟩ := hrel
      have HS := Lib.hid hS
      clear hS
      have hSn : S ≤ n := by have := HS.out; omega
      by_cases hlt : m < 12
      · have hcast : (2000 : Int) + (Y : Int) = ((2000 + Y : Nat) : Int) := by omega
        have hll : Cal.len (2000 + Y) m = Cal.lenM (Y * 12 + m) := by rw [Cal.len_4, Cal.lenM_year _ _ hlt]
        have hfs := Cal.first_succ (Y * 12 + m)
        have hlb := Cal.lenM_bounds (Y * 12 + m)
        obtain ⟨l, hl⟩ : ∃ l, Cal.lenM (Y * 12 + m) = l := ⟨_, rfl⟩
        rw [hl] at hll hfs hlb
        have Hl := Lib.hid (And.intro hll hfs)
        have Hc := Lib.hid hcast
        clear hll hfs hl hcast
        go_wp2_with fail
        rw [Hc.out]
        refine (lengthOf_at (2000 + Y) m l hlt (by omega) Hl.out.1 _ (HT.out.go hB)).mono ?_
        rintro e w3 ⟨rfl, hB3⟩
        have hB' := bgo hB hB3
        clear hB hB3
        rw [← Hc.out]
        by_cases hin : S < l
        · have hin' : (S : Int) < (l : Int) := by omega
          have hMe : M = Y * 12 + m := by
            have h1 := HS.out
            have h2 := Hl.out.2
            exact Cal.InM.unique H.out ⟨by omega, by omega, by omega⟩
          have hd : Cal.dom n M = S + 1 := by
            unfold Cal.dom
            rw [hMe]
            have := HS.out
            omega
          have hy : M / 12 = Y := by omega
          have hm12 : M % 12 = m := by omega
          have HX := Lib.hid (And.intro hd (And.intro hy hm12))
          clear hMe hd hy hm12
          go_wp2_with fail
          rw [Exit.noGoto_ret]
          go_ret3
          obtain ⟨hd, hy, hm12⟩ := HX.out
          rw [hd, hy, hm12]
          exact ⟨rfl, hB'⟩
        · have hin' : ¬ ((S : Int) < (l : Int)) := by omega
          have hnext : Y * 12 + m + 1 ≤ M := inM_le H.out (by rw [Hl.out.2]; have := HS.out; omega)
          go_wp2_with fail
          go_roundg (gk - 1)
          case measure => omega
          case rel => exact ⟨m + 1, S - l, by rw [show ((S - l : Nat) : Int) = (S : Int) - (l : Int) by omega], by go_num, by omega, by omega, by rw [← Nat.add_assoc, Hl.out.2]; have := HS.out; omega, by omega, hB'⟩
      · have hm12 : m = 12 := by omega
        subst hm12
        go_wp2_with fail
        go_roundg (gOut - 1)
        case measure => omega
        case rel => exact ⟨Y + 1, S, by go_num, rfl, by omega, by rw [show (Y + 1) * 12 = Y * 12 + 12 by omega]; exact HS.out, by omega, hB⟩
theorem date_at (n M y m d : Nat) (h : Cal.InM n M) (hy : 2000 + M / 12 = y) (hm : M % 12 + 1 = m) (hd : Cal.dom n M = d) (w : World) (hT : BTab w) : Calls Tryd.prog 75 #[.int .i64 (n : Int)] w fun e w' => e = .returned (.tuple #[.int .i64 (y : Int), .int .i64 (m : Int), .int .i64 (d : Int)]) ∧ Below w.heap.size w w' := by
  subst hy hm hd
  exact date_ok n M h w hT
theorem date_no (n : Int) (h : validB n = false) (w : World) : Calls Tryd.prog 75 #[.int .i64 n] w fun e w' => e = .returned (.tuple #[.int .i64 0, .int .i64 0, .int .i64 0]) ∧ Below w.heap.size w w' := by
  have H := Lib.hid h
  clear h
  go_enter Tryd.func75, Tryd.ntmps75
  go_wp2_with fail
  go_step3
  go_wp2_with fail
  refine (valid_any _ false H.out _).mono ?_
  rintro e w' ⟨rfl, rfl⟩
  go_wp2_with fail
  rw [Exit.noGoto_ret]
  go_ret3
  exact ⟨rfl, Below.refl _ _⟩
/-- The tables that the calendar reads lie in the world. -/
def Tabs (w : World) : Prop := BTab w ∧ PTab w
theorem Tabs.go {w w' : World} (h : Tabs w) (hb : Below w.heap.size w w') : Tabs w' := ⟨h.1.go hb, h.2.go hb⟩
theorem dec_small (n : Nat) (h : n < 100) : (n < 10 → Lib.decDigits n = [Cal.dig n]) ∧ (10 ≤ n → Lib.decDigits n = Cal.two n) := by
  have key : ∀ k : Fin 100, (k.val < 10 → Lib.decDigits k.val = [Cal.dig k.val]) ∧ (10 ≤ k.val → Lib.decDigits k.val = Cal.two k.val) := by decide +kernel
  exact key ⟨n, h⟩
theorem dec_year (n : Nat) (h1 : 2000 ≤ n) (h2 : n < 2100) : Lib.decDigits n = Cal.four n := by
  have key : ∀ k : Fin 100, Lib.decDigits (2000 + k.val) = Cal.four (2000 + k.val) := by decide +kernel
  have := key ⟨n - 2000, by omega⟩
  simpa [show 2000 + (n - 2000) = n by omega] using this
theorem two_any (n : Nat) (h : n < 100) (w : World) : Calls Tryd.prog 76 #[.int .i64 (n : Int)] w fun e w' => e = .returned (.string ⟨(Cal.two n).toArray⟩) ∧ w = w' := by
  have hd := dec_small n h
  by_cases h10 : n < 10
  · have e1 := hd.1 h10
    have e2 : (⟨#[48]⟩ : ByteArray) ++ ⟨(Lib.decDigits n).toArray⟩ = ⟨(Cal.two n).toArray⟩ := by
      rw [e1]
      apply ByteArray.ext
      simp [ByteArray.data_append, Cal.two, show n / 10 = 0 by omega, show n % 10 = n by omega, Cal.dig]
    have hsz : (⟨(Lib.decDigits n).toArray⟩ : ByteArray).size = 1 := by rw [e1]; rfl
    have HE := Lib.hid e2
    have h10' : (n : Int) < 10 := by omega
    clear hd e1 e2 h10
    go_enter Tryd.func76, Tryd.ntmps76
    go_wp2_with fail
    refine (Tryd.strconv_Itoa_small n h _).mono ?_
    rintro e w' ⟨rfl, hw⟩
    subst hw
    go_wp2_with fail
    go_ret
    rw [← HE.out]
    exact ⟨rfl, rfl⟩
  · have e1 := hd.2 (by omega)
    have HE := Lib.hid e1
    have h10' : ¬ ((n : Int) < 10) := by omega
    clear hd e1
    go_enter Tryd.func76, Tryd.ntmps76
    go_wp2_with fail
    refine (Tryd.strconv_Itoa_small n h _).mono ?_
    rintro e w' ⟨rfl, hw⟩
    subst hw
    go_wp2_with fail
    go_ret
    rw [← HE.out]
    exact ⟨rfl, rfl⟩
theorem text_join (y m d : Nat) : (⟨(Cal.four y).toArray⟩ : ByteArray) ++ ⟨#[45]⟩ ++ ⟨(Cal.two m).toArray⟩ ++ ⟨#[45]⟩ ++ ⟨(Cal.two d).toArray⟩ = ⟨(Cal.text y m d).toArray⟩ := by
  apply ByteArray.ext
  simp [ByteArray.data_append, Cal.text]
theorem text_ok (n M y m d : Nat) (h : Cal.InM n M) (hy : 2000 + M / 12 = y) (hm : M % 12 + 1 = m) (hd : Cal.dom n M = d) (w : World) (hT : Tabs w) : Calls Tryd.prog 58 #[.int .i64 (n : Int)] w fun e w' => e = .returned (.string ⟨(Cal.text y m d).toArray⟩) ∧ Below w.heap.size w w' := by
  have hM := h.1
  have hdb := h.dom
  have hlb := Cal.lenM_bounds M
  have hd31 : d < 100 := by omega
  have hm12 : m < 100 := by omega
  have hy1 : 2000 ≤ y := by omega
  have hy2 : y < 2100 := by omega
  have hit : Lib.itoa (y : Int) = Cal.four y := by
    unfold Lib.itoa
    rw [if_neg (by omega), Int.toNat_natCast, dec_year y hy1 hy2]
  have hs1 : (⟨(Cal.four y).toArray⟩ : ByteArray).size = 4 := rfl
  have hs2 : (⟨(Cal.two m).toArray⟩ : ByteArray).size = 2 := rfl
  have hs3 : (⟨(Cal.two d).toArray⟩ : ByteArray).size = 2 := rfl
  have F := Lib.hid (And.intro h (And.intro hy (And.intro hm (And.intro hd (And.intro hT (And.intro (validB_yes n h.day) hit))))))
  clear h hy hm hd hT hit hdb hlb
  go_enter Tryd.func58, Tryd.ntmps58
  go_wp2_with fail
  refine (valid_any _ true F.out.2.2.2.2.2.1 _).mono ?_
  rintro e w' ⟨rfl, rfl⟩
  go_wp2_with fail
  refine (date_at n M y m d F.out.1 F.out.2.1 F.out.2.2.1 F.out.2.2.2.1 _ F.out.2.2.2.2.1.1).mono ?_
  rintro e w1 ⟨rfl, hB1⟩
  go_wp2_with fail
  refine (Tryd.strconv_Itoa (y : Int) (by omega) (by omega) _ (F.out.2.2.2.2.1.go hB1).2).mono ?_
  rintro e w2 ⟨rfl, k, os, hw2⟩
  have hB : Below w1.heap.size w1 w2 := by rw [hw2]; exact below_grow k os
  have hB2 := bgo hB1 hB
  clear hw2 hB hB1
  rw [F.out.2.2.2.2.2.2]
  go_wp2_with fail
  refine (two_any m hm12 _).mono ?_
  rintro e w' ⟨rfl, rfl⟩
  go_wp2_with fail
  refine (two_any d hd31 _).mono ?_
  rintro e w' ⟨rfl, rfl⟩
  go_wp2_with fail
  go_ret
  rw [← text_join]
  exact ⟨rfl, hB2⟩
theorem text_no (n : Int) (h : validB n = false) (w : World) : Calls Tryd.prog 58 #[.int .i64 n] w fun e w' => e = .returned (.string ⟨#[]⟩) ∧ Below w.heap.size w w' := by
  have H := Lib.hid h
  clear h
  go_enter Tryd.func58, Tryd.ntmps58
  go_wp2_with fail
  refine (valid_any _ false H.out _).mono ?_
  rintro e w' ⟨rfl, rfl⟩
  go_wp2_with fail
  go_ret
  exact ⟨rfl, Below.refl _ _⟩
end Go.Proofs.YtfjkmhbipkoefaaDoor.CaT
namespace Go.Proofs.YtfjkmhbipkoefaaDoor
open Go.RowKit Go.Shelf
set_option linter.unusedVariables false
set_option linter.unusedSimpArgs false
set_option maxRecDepth 100000
theorem isIndex_at (n m : Int) (r : Bool) (hr : Hid (decide (0 ≤ n ∧ n < m) = r)) (w : World) : Calls Tryd.prog 38 #[.int .i64 n, .int .i64 m] w fun e w' => e = .returned (.bool r) ∧ w = w' := by
  rw [← hr.out]
  clear hr
  by_cases h0 : 0 ≤ n
  · by_cases h1 : n < m
    · rw [decide_eq_true ⟨h0, h1⟩]
      go_enter Tryd.func38, Tryd.ntmps38
      go_wp2_with fail
      go_ret
      exact ⟨rfl, rfl⟩
    · rw [decide_eq_false (fun h => h1 h.2)]
      have h1' : decide (n < m) = false := decide_eq_false h1
      clear h1
      go_enter Tryd.func38, Tryd.ntmps38
      go_wp2_with fail
      go_ret
      exact ⟨rfl, rfl⟩
  · rw [decide_eq_false (fun h => h0 h.1)]
    have h0' : n < 0 := by omega
    clear h0
    go_enter Tryd.func38, Tryd.ntmps38
    go_wp2_with fail
    go_ret
    exact ⟨rfl, rfl⟩
theorem inRange_at (n : Int) (r : Bool) (hr : Hid (decide (-500000000 ≤ n ∧ n ≤ 500000000) = r)) (w : World) : Calls Tryd.prog 48 #[.int .i64 n] w fun e w' => e = .returned (.bool r) ∧ w = w' := by
  rw [← hr.out]
  clear hr
  by_cases h0 : -500000000 ≤ n
  · by_cases h1 : n ≤ 500000000
    · rw [decide_eq_true ⟨h0, h1⟩]
      go_enter Tryd.func48, Tryd.ntmps48
      go_wp2_with fail
      go_ret
      exact ⟨rfl, rfl⟩
    · rw [decide_eq_false (fun h => h1 h.2)]
      have h1' : decide (n ≤ 500000000) = false := decide_eq_false h1
      clear h1
      go_enter Tryd.func48, Tryd.ntmps48
      go_wp2_with fail
      go_ret
      exact ⟨rfl, rfl⟩
  · rw [decide_eq_false (fun h => h0 h.1)]
    have h0' : n < -500000000 := by omega
    clear h0
    go_enter Tryd.func48, Tryd.ntmps48
    go_wp2_with fail
    go_ret
    exact ⟨rfl, rfl⟩
/-- Texts, one behind the other. -/
def catB : List ByteArray → ByteArray
  | [] => ⟨#[]⟩
  | s :: l => s ++ catB l
theorem catB_data (l : List ByteArray) : (catB l).data.toList = (l.map (·.data.toList)).flatten := by
  induction l with
  | nil => rfl
  | cons s l ih => rw [catB, app_data, ih]; rfl
theorem join_nil : ∀ l : List (List UInt8), Lib.join l [] = l.flatten
  | [] => rfl
  | [a] => by simp [Lib.join, List.intercalate]
  | a :: b :: l => by
    have := join_nil (b :: l)
    unfold Lib.join List.intercalate at this ⊢
    rw [List.flatten_cons, ← this]
    rfl
theorem catB_size (l : List ByteArray) : (catB l).size = (l.map ByteArray.size).sum := by
  induction l with
  | nil => rfl
  | cons s l ih => rw [catB, app_size, ih]; rfl
theorem join_at (A : Option Addr) (ca n : Nat) (ss : List ByteArray) (t : ByteArray) (hn : ss.length = n) (ht : Hid (catB ss = t)) (h0 : 0 < n) (hc : n ≤ ca) (hl : n ≤ 1000) (hs : t.size ≤ 140737488355328) (w : World) (hA : Sl w w.heap.size 1 A n (strV ss)) :
    Calls Tryd.prog 25 #[.slice A n ca] w fun e w' => e = .returned (.string t) ∧ Below w.heap.size w w' := by
  subst hn
  obtain ⟨b, off, rfl, hb, hcell⟩ := hA.2 h0
  have hcal := Tryd.strings_Join b off ca ss ⟨#[]⟩ w (fun j x hx => hcell j _ (by simp [strV, hx])) hb (by omega) hc (by
    show (Lib.join (ss.map (·.data.toList)) []).length ≤ _
    rw [join_nil, ← catB_data, ht.out]
    exact hs)
  have hfin : (⟨(Lib.join (ss.map (fun x => x.data.toList)) (⟨#[]⟩ : ByteArray).data.toList).toArray⟩ : ByteArray) = t := by
    show (⟨(Lib.join (ss.map (fun x => x.data.toList)) []).toArray⟩ : ByteArray) = t
    rw [join_nil, ← ht.out]
    apply WideShapes.bytes_inj
    rw [catB_data]
  rw [hfin] at hcal
  have HC := Lib.hid hcal
  clear hcal hfin hcell hA ht
  go_enter Tryd.func25, Tryd.ntmps25
  go_wp2_with fail
  refine HC.out.mono ?_
  rintro e w2 ⟨rfl, hB2⟩
  go_wp2
  go_ret
  exact ⟨rfl, hB2⟩
def colon : ByteArray := ⟨#[58]⟩
def blank : ByteArray := ⟨#[32]⟩
/-- The leaf of a row. -/
def leafB (label : ByteArray) (c : Int) (reason : ByteArray) : ByteArray := catB [itoaB label.size, colon, label, itoaB c, blank, reason]
theorem leafP_any (label : ByteArray) (c : Int) (reason t : ByteArray) (ht : Hid (leafB label c reason = t)) (hc : -9223372036854775808 ≤ c ∧ c ≤ 9223372036854775807) (hl : label.size ≤ 70368744177000) (hr : reason.size ≤ 70368744177000) (w : World) (hT : PTab w) :
    Calls Tryd.prog 16 #[.string label, .int .i64 c, .string reason] w fun e w' => e = .returned (.string t) ∧ Below w.heap.size w w' := by
  obtain ⟨a, ha⟩ : ∃ a, itoaB label.size = a := ⟨_, rfl⟩
  obtain ⟨b, hb⟩ : ∃ b, itoaB c = b := ⟨_, rfl⟩
  have ha1 := itoaB_size label.size (by omega) (by omega)
  have hb1 := itoaB_size c hc.1 hc.2
  have hts : t.size ≤ 140737488355328 := by
    rw [← ht.out, leafB, catB_size, ha, hb]
    rw [ha] at ha1
    rw [hb] at hb1
    have e1 : colon.size = 1 := rfl
    have e2 : blank.size = 1 := rfl
    simp only [List.map_cons, List.map_nil, List.sum_cons, List.sum_nil, e1, e2]
    omega
  have Ha := Lib.hid ha
  have Hb := Lib.hid hb
  have Ht : Hid (catB [a, colon, label, b, blank, reason] = t) := Lib.hid (by rw [← ha, ← hb]; exact ht.out)
  clear ha1 hb1 ha hb ht
  go_enter Tryd.func16, Tryd.ntmps16
  go_wp2_with fail
  refine (itoa_any label.size (by omega) (by omega) a Ha _ hT).mono ?_
  rintro e w1 ⟨rfl, hB1⟩
  go_wp2_with fail
  refine (itoa_any c hc.1 hc.2 b Hb _ (hT.go hB1)).mono ?_
  rintro e w2 ⟨rfl, hB2⟩
  have hBw := bgo hB1 hB2
  clear hB1 hB2
  go_wp2_with fail
  refine (join_at _ 6 6 [a, colon, label, b, blank, reason] t rfl Ht (by decide) (by decide) (by decide) hts _ (sl_cells (World.alloc_heap_new _ _) rfl rfl)).mono ?_
  rintro e w3 ⟨rfl, hB3⟩
  go_wp2_with fail
  go_ret
  exact ⟨rfl, bgo (bal hBw _) hB3⟩
end Go.Proofs.YtfjkmhbipkoefaaDoor
