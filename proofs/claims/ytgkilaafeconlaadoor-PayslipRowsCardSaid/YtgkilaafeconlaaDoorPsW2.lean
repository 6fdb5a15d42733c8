/- The walks of package payslip, second part: isIndex, inRange, join, Leaf, listed, reason. -/
import Derived.Test.YtgkilaafeconlaaDoorPsW1
import Derived.Test.YtgkilaafeconlaaDoorCaT
namespace Go.Proofs.YtgkilaafeconlaaDoor
open Go.RowKit Go.Shelf
set_option linter.unusedVariables false
set_option linter.unusedSimpArgs false
set_option maxRecDepth 100000
theorem isIndex_at (n m : Int) (r : Bool) (hr : Hid (decide (0 ≤ n ∧ n < m) = r)) (w : World) : Calls Tryd.prog 52 #[.int .i64 n, .int .i64 m] w fun e w' => e = .returned (.bool r) ∧ w = w' := by
  rw [← hr.out]
  clear hr
  by_cases h0 : 0 ≤ n
  · by_cases h1 : n < m
    · rw [decide_eq_true ⟨h0, h1⟩]
      go_enter Tryd.func52, Tryd.ntmps52
      go_wp2_with fail
      go_ret
      exact ⟨rfl, rfl⟩
    · rw [decide_eq_false (fun h => h1 h.2)]
      have h1' : decide (n < m) = false := decide_eq_false h1
      clear h1
      go_enter Tryd.func52, Tryd.ntmps52
      go_wp2_with fail
      go_ret
      exact ⟨rfl, rfl⟩
  · rw [decide_eq_false (fun h => h0 h.1)]
    have h0' : n < 0 := by omega
    clear h0
    go_enter Tryd.func52, Tryd.ntmps52
    go_wp2_with fail
    go_ret
    exact ⟨rfl, rfl⟩
theorem inRange_at (n : Int) (r : Bool) (hr : Hid (decide (-500000000 ≤ n ∧ n ≤ 500000000) = r)) (w : World) : Calls Tryd.prog 62 #[.int .i64 n] w fun e w' => e = .returned (.bool r) ∧ w = w' := by
  rw [← hr.out]
  clear hr
  by_cases h0 : -500000000 ≤ n
  · by_cases h1 : n ≤ 500000000
    · rw [decide_eq_true ⟨h0, h1⟩]
      go_enter Tryd.func62, Tryd.ntmps62
      go_wp2_with fail
      go_ret
      exact ⟨rfl, rfl⟩
    · rw [decide_eq_false (fun h => h1 h.2)]
      have h1' : decide (n ≤ 500000000) = false := decide_eq_false h1
      clear h1
      go_enter Tryd.func62, Tryd.ntmps62
      go_wp2_with fail
      go_ret
      exact ⟨rfl, rfl⟩
  · rw [decide_eq_false (fun h => h0 h.1)]
    have h0' : n < -500000000 := by omega
    clear h0
    go_enter Tryd.func62, Tryd.ntmps62
    go_wp2_with fail
    go_ret
    exact ⟨rfl, rfl⟩
/-- Texts, one behind the other. -/
def catB : List ByteArray → ByteArray
  | [] => ⟨#[]⟩
  | s :: l => s ++ catB l
theorem catB_data (l : List ByteArray) : (catB l).data.toList = (l.map (·.data.toList)).flatten := by
  induction l with
  | nil => rfl
  | cons s l ih => rw [catB, app_data, ih]; rfl
theorem join_nil : ∀ l : List (List UInt8), Lib.join l [] = l.flatten
  | [] => rfl
  | [a] => by simp [Lib.join, List.intercalate]
  | a :: b :: l => by
    have := join_nil (b :: l)
    unfold Lib.join List.intercalate at this ⊢
    rw [List.flatten_cons, ← this]
    rfl
theorem catB_size (l : List ByteArray) : (catB l).size = (l.map ByteArray.size).sum := by
  induction l with
  | nil => rfl
  | cons s l ih => rw [catB, app_size, ih]; rfl
theorem join_at (A : Option Addr) (ca n : Nat) (ss : List ByteArray) (t : ByteArray) (hn : ss.length = n) (ht : Hid (catB ss = t)) (h0 : 0 < n) (hc : n ≤ ca) (hl : n ≤ 1000) (hs : t.size ≤ 140737488355328) (w : World) (hA : Sl w w.heap.size 1 A n (strV ss)) :
    Calls Tryd.prog 35 #[.slice A n ca] w fun e w' => e = .returned (.string t) ∧ Below w.heap.size w w' := by
  subst hn
  obtain ⟨b, off, rfl, hb, hcell⟩ := hA.2 h0
  have hcal := Tryd.strings_Join b off ca ss ⟨#[]⟩ w (fun j x hx => hcell j _ (by simp [strV, hx])) hb (by omega) hc (by
    show (Lib.join (ss.map (·.data.toList)) []).length ≤ _
    rw [join_nil, ← catB_data, ht.out]
    exact hs)
  have hfin : (⟨(Lib.join (ss.map (fun x => x.data.toList)) (⟨#[]⟩ : ByteArray).data.toList).toArray⟩ : ByteArray) = t := by
    show (⟨(Lib.join (ss.map (fun x => x.data.toList)) []).toArray⟩ : ByteArray) = t
    rw [join_nil, ← ht.out]
    apply WideShapes.bytes_inj
    rw [catB_data]
  rw [hfin] at hcal
  have HC := Lib.hid hcal
  clear hcal hfin hcell hA ht
  go_enter Tryd.func35, Tryd.ntmps35
  go_wp2_with fail
  refine HC.out.mono ?_
  rintro e w2 ⟨rfl, hB2⟩
  go_wp2
  go_ret
  exact ⟨rfl, hB2⟩
def colon : ByteArray := ⟨#[58]⟩
def blank : ByteArray := ⟨#[32]⟩
/-- The leaf of a row. -/
def leafB (label : ByteArray) (c : Int) (reason : ByteArray) : ByteArray := catB [itoaB label.size, colon, label, itoaB c, blank, reason]
theorem leafP_any (label : ByteArray) (c : Int) (reason t : ByteArray) (ht : Hid (leafB label c reason = t)) (hc : -9223372036854775808 ≤ c ∧ c ≤ 9223372036854775807) (hl : label.size ≤ 70368744177000) (hr : reason.size ≤ 70368744177000) (w : World) (hT : PTab w) :
    Calls Tryd.prog 20 #[.string label, .int .i64 c, .string reason] w fun e w' => e = .returned (.string t) ∧ Below w.heap.size w w' := by
  obtain ⟨a, ha⟩ : ∃ a, itoaB label.size = a := ⟨_, rfl⟩
  obtain ⟨b, hb⟩ : ∃ b, itoaB c = b := ⟨_, rfl⟩
  have ha1 := itoaB_size label.size (by omega) (by omega)
  have hb1 := itoaB_size c hc.1 hc.2
  have hts : t.size ≤ 140737488355328 := by
    rw [← ht.out, leafB, catB_size, ha, hb]
    rw [ha] at ha1
    rw [hb] at hb1
    have e1 : colon.size = 1 := rfl
    have e2 : blank.size = 1 := rfl
    simp only [List.map_cons, List.map_nil, List.sum_cons, List.sum_nil, e1, e2]
    omega
  have Ha := Lib.hid ha
  have Hb := Lib.hid hb
  have Ht : Hid (catB [a, colon, label, b, blank, reason] = t) := Lib.hid (by rw [← ha, ← hb]; exact ht.out)
  clear ha1 hb1 ha hb ht
  go_enter Tryd.func20, Tryd.ntmps20
  go_wp2_with fail
  refine (itoa_any label.size (by omega) (by omega) a Ha _ hT).mono ?_
  rintro e w1 ⟨rfl, hB1⟩
  go_wp2_with fail
  refine (itoa_any c hc.1 hc.2 b Hb _ (hT.go hB1)).mono ?_
  rintro e w2 ⟨rfl, hB2⟩
  have hBw := bgo hB1 hB2
  clear hB1 hB2
  go_wp2_with fail
  refine (join_at _ 6 6 [a, colon, label, b, blank, reason] t rfl Ht (by decide) (by decide) (by decide) hts _ (sl_cells (World.alloc_heap_new _ _) rfl rfl)).mono ?_
  rintro e w3 ⟨rfl, hB3⟩
  go_wp2_with fail
  go_ret
  exact ⟨rfl, bgo (bal hBw _) hB3⟩
end Go.Proofs.YtgkilaafeconlaaDoor
