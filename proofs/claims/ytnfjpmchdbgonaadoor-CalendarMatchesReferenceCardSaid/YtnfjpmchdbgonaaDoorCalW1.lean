/- The walks of package calendar, first part: lengthOf, yearStart, valid, First, Length, Day, Weekday. -/
import Derived.Test.YtnfjpmchdbgonaaDoorProg
import Derived.Test.YtnfjpmchdbgonaaDoorCalMath
import Derived.WalkKit
import Derived.WalkLawsBesides
import Derived.WalkSpells
import Derived.WalkMore
import Derived.Outline
import Derived.Lib.Hide
import Derived.IntWalk
import Derived.Handy
import Derived.BigQuiet
import Derived.Deep.QuietTactic
import Derived.Below
namespace Go.Proofs.YtnfjpmchdbgonaaDoor
open Go.RowKit
set_option linter.unusedVariables false
theorem below_drewN {B : Nat} {a w : World} (h : Below B a w) (n : Nat) : Below B a (w.drewN n) := ⟨h.os, h.tape, h.output, h.size, h.block⟩
theorem bgo {w W W' : World} (h : Below w.heap.size w W) (k : Below W.heap.size W W') : Below w.heap.size w W' := h.trans (k.mono h.size)
theorem bal {w W : World} (h : Below w.heap.size w W) (o : Obj) : Below w.heap.size w (W.alloc o) := h.alloc h.size o
theorem quiet_left {P : Program} {f : FuncId} {args : Array Value} {w : World} {n : Nat} {v : Value}
    (h : Calls P f args (w.drewN n) fun e w' => e = .returned v ∧ w.drewN n = w') : Calls P f args (w.drewN n) fun e w'' => e = .returned v ∧ ∃ m, w'' = w.drewN m :=
  h.mono fun _ _ ⟨he, hm⟩ => ⟨he, n, hm.symm⟩
/-- The table of the days before each month lies in the world. -/
def befCells : Array Value := #[.int .i64 0, .int .i64 31, .int .i64 59, .int .i64 90, .int .i64 120, .int .i64 151, .int .i64 181, .int .i64 212, .int .i64 243, .int .i64 273, .int .i64 304, .int .i64 334, .int .i64 365]
def BTab (w : World) : Prop := ∃ t fr, w.heap[0]? = some (.cells befCells t fr)
theorem befCells_at (n : Nat) (h : n ≤ 12) : befCells[n]? = some (.int .i64 (Cal.bef n)) := by
  rcases (show n = 0 ∨ n = 1 ∨ n = 2 ∨ n = 3 ∨ n = 4 ∨ n = 5 ∨ n = 6 ∨ n = 7 ∨ n = 8 ∨ n = 9 ∨ n = 10 ∨ n = 11 ∨ n = 12 by omega) with rfl | rfl | rfl | rfl | rfl | rfl | rfl | rfl | rfl | rfl | rfl | rfl | rfl <;> rfl
theorem BTab.cell {w : World} (h : BTab w) (n : Nat) (hn : n ≤ 12) : w.cell? ⟨0, n, none⟩ = some (.int .i64 (Cal.bef n)) := by
  obtain ⟨t, fr, h⟩ := h
  simp only [World.cell?, h]
  exact befCells_at n hn
theorem BTab.go {w w' : World} (h : BTab w) (hb : Below w.heap.size w w') : BTab w' := by
  obtain ⟨t, fr, h'⟩ := h
  exact ⟨t, fr, (hb.block _ (Array.getElem?_eq_some_iff.1 h').1).trans h'⟩
theorem bef_le (k : Nat) (h : k < 12) : Cal.bef k ≤ Cal.bef (k + 1) ∧ Cal.bef (k + 1) ≤ 365 := by
  rcases Cal.k12 k h with rfl | rfl | rfl | rfl | rfl | rfl | rfl | rfl | rfl | rfl | rfl | rfl <;> decide
set_option maxRecDepth 100000 in
theorem lengthOf_any (y k : Nat) (hk : k < 12) (hy : y ≤ 1000000) (w : World) (hT : BTab w) : Calls Tryd.prog 30 #[.int .i64 (y : Int), .int .i64 (k : Int)] w fun e w' => e = .returned (.int .i64 (Cal.len y k : Nat)) ∧ Below w.heap.size w w' := by
  have hc0 := hT.cell k (by omega)
  have hc1 := hT.cell (k + 1) (by omega)
  have hb := bef_le k hk
  have hlen : Cal.len y k = Cal.bef (k + 1) - Cal.bef k + (if k = 1 ∧ y % 4 = 0 then 1 else 0) := rfl
  obtain ⟨a, ha⟩ : ∃ a, Cal.bef k = a := ⟨_, rfl⟩
  obtain ⟨b, hb'⟩ : ∃ b, Cal.bef (k + 1) = b := ⟨_, rfl⟩
  obtain ⟨l, hl⟩ : ∃ l, Cal.len y k = l := ⟨_, rfl⟩
  rw [ha] at hc0 hb hlen
  rw [hb'] at hc1 hb hlen
  rw [hl] at hlen ⊢
  have Hlen := Lib.hid hlen
  clear hT ha hb' hl hlen
  have h1 : (0 : Int) ≤ (k : Int) := Int.natCast_nonneg _
  have h2 : (k : Int) < 13 := by omega
  have h3 : (k : Int) + 1 < 13 := by omega
  have h4 : (0 : Int) ≤ (k : Int) + 1 := by omega
  have hwr : IntKind.i64.wrap ((k : Int) + 1) = (k : Int) + 1 := IntWalk.i64_in _ (by omega)
  have hwr2 : IntKind.i64.wrap ((b : Int) - (a : Int)) = (b : Int) - (a : Int) := IntWalk.i64_in _ (by omega)
  have htn : ((k : Int) + 1).toNat = k + 1 := by omega
  have hy0 : (0 : Int) ≤ (y : Int) := Int.natCast_nonneg _
  by_cases hk1 : k = 1
  · have hd1 : ((k : Int) == 1) = true := by simp [hk1]
    by_cases hy4 : y % 4 = 0
    · have hd2 : (((y : Int) % 4) == 0) = true := by simp; omega
      have hres : (l : Int) = (b : Int) - (a : Int) + 1 := by rw [Hlen.out, if_pos ⟨hk1, hy4⟩]; omega
      have HR := Lib.hid hres
      clear hres hk1 hy4
      go_enter Tryd.func30, Tryd.ntmps30
      go_wp2
      go_quiet (fail)
      clear hwr hwr2 htn
      go_wp2
      go_ret
      rw [HR.out]
      exact ⟨rfl, below_drewN (Below.refl _ _) _⟩
    · have hd2 : (((y : Int) % 4) == 0) = false := by simp; omega
      have hres : (l : Int) = (b : Int) - (a : Int) := by rw [Hlen.out, if_neg (fun h => hy4 h.2)]; omega
      have HR := Lib.hid hres
      clear hres hk1 hy4
      go_enter Tryd.func30, Tryd.ntmps30
      go_wp2
      go_quiet (fail)
      clear hwr hwr2 htn
      go_wp2
      go_ret
      rw [HR.out]
      exact ⟨rfl, below_drewN (Below.refl _ _) _⟩
  · have hd1 : ((k : Int) == 1) = false := by simp; omega
    have hres : (l : Int) = (b : Int) - (a : Int) := by rw [Hlen.out, if_neg (fun h => hk1 h.1)]; omega
    have HR := Lib.hid hres
    clear hres hk1
    go_enter Tryd.func30, Tryd.ntmps30
    go_wp2
    go_quiet (fail)
    clear hwr hwr2 htn
    go_wp2
    go_ret
    rw [HR.out]
    exact ⟨rfl, below_drewN (Below.refl _ _) _⟩
theorem yearStart_any (y : Nat) (hy : y ≤ 1000000) (w : World) : Calls Tryd.prog 35 #[.int .i64 (2000 + (y : Int))] w fun e w' => e = .returned (.int .i64 ((y * 365 + (y + 3) / 4 : Nat) : Int)) ∧ w = w' := by
  have h : (2000 + (y : Int)) - 2000 = (y : Int) := by omega
  have h2 : (y : Int) * 365 + ((y : Int) + 3) / 4 = ((y * 365 + (y + 3) / 4 : Nat) : Int) := by omega
  have H2 := Lib.hid h2
  clear h2
  go_enter Tryd.func35, Tryd.ntmps35
  go_wp2
  go_ret
  rw [← H2.out]
  exact ⟨rfl, rfl⟩
def validB (n : Int) : Bool := decide (0 ≤ n ∧ n ≤ 36524)
theorem valid_any (n : Int) (b : Bool) (hb : validB n = b) (w : World) : Calls Tryd.prog 29 #[.int .i64 n] w fun e w' => e = .returned (.bool b) ∧ w = w' := by
  subst hb
  by_cases h1 : 0 ≤ n
  · by_cases h2 : n ≤ 36524
    · have e : validB n = true := decide_eq_true ⟨h1, h2⟩
      rw [e]
      go_enter Tryd.func29, Tryd.ntmps29
      go_wp2
      go_ret
      exact ⟨rfl, rfl⟩
    · have e : validB n = false := decide_eq_false fun h => h2 h.2
      rw [e]
      have h2' : 36524 < n := by omega
      go_enter Tryd.func29, Tryd.ntmps29
      go_wp2
      go_ret
      exact ⟨rfl, rfl⟩
  · have e : validB n = false := decide_eq_false fun h => h1 h.1
    rw [e]
    have h2' : n < 0 := by omega
    go_enter Tryd.func29, Tryd.ntmps29
    go_wp2
    go_ret
    exact ⟨rfl, rfl⟩
theorem first_no (m : Int) (h : m < 0 ∨ 1199 < m) (w : World) : Calls Tryd.prog 21 #[.int .i64 m] w fun e w' => e = .returned (.int .i64 (-1)) ∧ Below w.heap.size w w' := by
  rcases h with h | h
  · go_enter Tryd.func21, Tryd.ntmps21
    go_wp2
    go_ret
    exact ⟨rfl, Below.refl _ _⟩
  · have h' : ¬ m < 0 := by omega
    go_enter Tryd.func21, Tryd.ntmps21
    go_wp2
    go_ret
    exact ⟨rfl, Below.refl _ _⟩
set_option maxRecDepth 100000 in
theorem first_ok (m : Nat) (hm : m < 1200) (w : World) (hT : BTab w) : Calls Tryd.prog 21 #[.int .i64 (m : Int)] w fun e w' => e = .returned (.int .i64 (Cal.first m : Nat)) ∧ Below w.heap.size w w' := by
  have hfm : Cal.first m = m / 12 * 365 + (m / 12 + 3) / 4 + Cal.bef (m % 12) + (if 1 < m % 12 ∧ m / 12 % 4 = 0 then 1 else 0) := rfl
  obtain ⟨y, hy⟩ : ∃ y, m / 12 = y := ⟨_, rfl⟩
  obtain ⟨k, hk⟩ : ∃ k, m % 12 = k := ⟨_, rfl⟩
  have hk12 : k < 12 := by omega
  have hc0 := hT.cell k (by omega)
  have hb := bef_le k hk12
  obtain ⟨a, ha⟩ : ∃ a, Cal.bef k = a := ⟨_, rfl⟩
  obtain ⟨f, hf⟩ : ∃ f, Cal.first m = f := ⟨_, rfl⟩
  rw [hy, hk, ha, hf] at hfm
  rw [ha] at hc0 hb
  rw [hf]
  have hyi : (m : Int) / 12 = (y : Int) := by omega
  have hki : (m : Int) % 12 = (k : Int) := by omega
  have hy100 : y ≤ 100 := by omega
  have ha365 : a ≤ 365 := by omega
  have HF := Lib.hid hfm
  have hm0 : (0 : Int) ≤ (m : Int) := Int.natCast_nonneg _
  have hm1 : (m : Int) ≤ 1199 := by omega
  clear hT hf ha hfm hy hk hb
  obtain ⟨s, hs⟩ : ∃ s : Nat, y * 365 + (y + 3) / 4 = s := ⟨_, rfl⟩
  have hs2 : s ≤ 40000 := by omega
  have Hs := Lib.hid hs
  have hk0 : (0 : Int) ≤ (k : Int) := Int.natCast_nonneg _
  have hk13 : (k : Int) < 13 := by omega
  have hwr : IntKind.i64.wrap ((s : Int) + (a : Int)) = (s : Int) + (a : Int) := IntWalk.i64_in _ (by omega)
  have hy4 : ((2000 : Int) + (y : Int)) % 4 = (y : Int) % 4 := by omega
  have hys : ∀ w : World, Calls Tryd.prog 35 #[.int .i64 (2000 + (y : Int))] w fun e w' => e = .returned (.int .i64 (s : Int)) ∧ w = w' := fun w => by rw [← hs]; exact yearStart_any y (by omega) w
  have Hys := Lib.hid hys
  have htm : (m : Int).tmod 12 = (k : Int) := by rw [← hki]; exact Int.tmod_eq_emod_of_nonneg hm0
  clear hs hys
  by_cases hk1 : 1 < k
  · have hd1 : (1 : Int) < (k : Int) := by omega
    by_cases hyy : y % 4 = 0
    · have hd2 : (((y : Int) % 4) == 0) = true := by simp; omega
      have hres : (f : Int) = (s : Int) + (a : Int) + 1 := by rw [HF.out, if_pos ⟨hk1, hyy⟩, ← Hs.out]; omega
      have HR := Lib.hid hres
      clear hres hyy hk1
      go_enter Tryd.func21, Tryd.ntmps21
      go_wp2_with fail
      go_quiet ((go_at_call 35; exact quiet_left (Hys.out _)))
      clear hwr htm
      go_wp2
      go_ret
      rw [HR.out]
      exact ⟨rfl, below_drewN (Below.refl _ _) _⟩
    · have hd2 : (((y : Int) % 4) == 0) = false := by simp; omega
      have hres : (f : Int) = (s : Int) + (a : Int) := by rw [HF.out, if_neg (fun h => hyy h.2), ← Hs.out]; omega
      have HR := Lib.hid hres
      clear hres hyy hk1
      go_enter Tryd.func21, Tryd.ntmps21
      go_wp2_with fail
      go_quiet ((go_at_call 35; exact quiet_left (Hys.out _)))
      clear hwr htm
      go_wp2
      go_ret
      rw [HR.out]
      exact ⟨rfl, below_drewN (Below.refl _ _) _⟩
  · have hd1 : decide ((1 : Int) < (k : Int)) = false := decide_eq_false (by omega)
    have hres : (f : Int) = (s : Int) + (a : Int) := by rw [HF.out, if_neg (fun h => hk1 h.1), ← Hs.out]; omega
    have HR := Lib.hid hres
    clear hres hk1
    go_enter Tryd.func21, Tryd.ntmps21
    go_wp2_with fail
    go_quiet ((go_at_call 35; exact quiet_left (Hys.out _)))
    clear hwr htm
    go_wp2
    go_ret
    rw [HR.out]
    exact ⟨rfl, below_drewN (Below.refl _ _) _⟩
theorem length_no (m : Int) (h : m < 0 ∨ 1199 < m) (w : World) : Calls Tryd.prog 23 #[.int .i64 m] w fun e w' => e = .returned (.int .i64 0) ∧ Below w.heap.size w w' := by
  rcases h with h | h
  · go_enter Tryd.func23, Tryd.ntmps23
    go_wp2
    go_ret
    exact ⟨rfl, Below.refl _ _⟩
  · have h' : ¬ m < 0 := by omega
    go_enter Tryd.func23, Tryd.ntmps23
    go_wp2
    go_ret
    exact ⟨rfl, Below.refl _ _⟩
theorem length_ok (m : Nat) (hm : m < 1200) (w : World) (hT : BTab w) : Calls Tryd.prog 23 #[.int .i64 (m : Int)] w fun e w' => e = .returned (.int .i64 (Cal.lenM m : Nat)) ∧ Below w.heap.size w w' := by
  have hyi : (2000 : Int) + (m : Int) / 12 = ((2000 + m / 12 : Nat) : Int) := by omega
  have hki : (m : Int) % 12 = ((m % 12 : Nat) : Int) := by omega
  have hm0 : (0 : Int) ≤ (m : Int) := Int.natCast_nonneg _
  have hm1 : (m : Int) ≤ 1199 := by omega
  have hL : Cal.len (2000 + m / 12) (m % 12) = Cal.lenM m := Cal.len_4 _ _
  have HL := Lib.hid hL
  have HT := Lib.hid hT
  have H1 := Lib.hid (And.intro hyi hki)
  clear hL hT hyi hki
  go_enter Tryd.func23, Tryd.ntmps23
  go_wp2_with fail
  rw [H1.out.1, H1.out.2]
  refine (lengthOf_any _ _ (by omega) (by omega) _ HT.out).mono ?_
  rintro e w1 ⟨rfl, hB⟩
  rw [HL.out]
  go_wp2
  go_ret
  exact ⟨rfl, hB⟩
end Go.Proofs.YtnfjpmchdbgonaaDoor
