/- The reference's in, Selection, Ints and Small (layers 35, 36). -/
import Derived.Test.YtfjkmhbipkoefaaGreatDoorQ17
import Derived.Test.YtfjkmhbipkoefaaGreatDoorQ23
import Derived.Deep.QuietTactic
import Derived.BigQuiet
namespace Go.Proofs.YtfjkmhbipkoefaaGreatDoor
open Go.RowKit Go.Shelf
set_option linter.unusedVariables false
set_option linter.unusedSimpArgs false
set_option maxRecDepth 100000
set_option maxHeartbeats 2000000 in
theorem rin_any (A : Option Addr) (ca n : Nat) (xs : List Int) (x : Int) (r : Bool) (hxn : xs.length = n) (hr : Hid (decide (x ∈ xs) = r)) (hn : n ≤ maxLen) (w : World) (hA : Sl w w.heap.size 1 A n (intV xs)) :
    Calls Tryz.prog 29 #[.slice A n ca, .int .i64 x] w fun e w' => e = .returned (.bool r) ∧ w = w' := by
  have HA := Lib.hid hA
  have Hxn := Lib.hid hxn
  unfold maxLen at hn
  clear hA hxn
  go_enter Tryz.func29, Tryz.ntmps29
  go_wp2_with fail
  go_loop [5] (fun i => ∃ k : Nat, k ≤ n ∧ i = .int .i64 (k : Int) ∧ ∀ j, j < k → xs.getD j 0 ≠ x) (fun i => n - (intOf i).toNat)
  case atStart => exact ⟨0, Nat.zero_le _, rfl, fun j hj => absurd hj (Nat.not_lt_zero j)⟩
  case round =>
    obtain ⟨k, hk, rfl, hok⟩ := hrel
    have Hok := Lib.hid hok
    clear hok
    by_cases hlt : k < n
    · obtain ⟨b, off, rfl, hb, hcell⟩ := (HA.out).2 (by omega)
      have hlx : k < xs.length := by rw [Hxn.out]; exact hlt
      have hc : w.cell? ⟨b, off + k, none⟩ = some (.int .i64 (xs.getD k 0)) := hcell k _ (intV_get xs k hlx)
      have hlt' : (k : Int) < (n : Int) := by omega
      obtain ⟨y, hy⟩ : ∃ y, xs.getD k 0 = y := ⟨_, rfl⟩
      have Hmem : Hid (y ∈ xs) := Lib.hid (by rw [← hy, List.getD_eq_getElem?_getD, List.getElem?_eq_getElem hlx]; exact List.getElem_mem hlx)
      rw [hy] at hc
      have Hy := Lib.hid hy
      clear hcell hy
      by_cases he : y = x
      · subst he
        have hF : Hid (r = true) := Lib.hid (by rw [← hr.out]; exact decide_eq_true Hmem.out)
        have he' : (y == y) = true := beq_self_eq_true y
        go_wp2
        go_ret
        exact ⟨by rw [hF.out] <;> rfl, rfl⟩
      · have he' : (y == x) = false := beq_eq_false_iff_ne.2 he
        have Hn : Hid (∀ j, j < k + 1 → xs.getD j 0 ≠ x) := Lib.hid (fun j hj => by
          rcases Nat.lt_succ_iff_lt_or_eq.1 hj with h | h
          · exact Hok.out j h
          · rw [h, Hy.out]; exact he)
        go_wp2
        go_round
        case rel => exact ⟨k + 1, by omega, by go_num, Hn.out⟩
        case measure => simp [intOf]; omega
    · obtain rfl : k = n := by omega
      have hF : Hid (r = false) := Lib.hid (by
        rw [← hr.out]
        refine decide_eq_false fun h => ?_
        obtain ⟨j, hj, e⟩ := List.getElem_of_mem h
        refine Hok.out j (by rw [← Hxn.out]; exact hj) ?_
        rw [List.getD_eq_getElem?_getD, List.getElem?_eq_getElem hj]
        exact e)
      go_wp2
      go_ret
      exact ⟨by rw [hF.out] <;> rfl, rfl⟩
set_option maxHeartbeats 4000000 in
theorem rsel_any (person : ByteArray) (month : Int) (root : UInt64) (A B E : Option Addr) (ca cb ce m mb n : Nat) (xs : List Int) (r : Bool) (hxn : xs.length = n) (hr : Hid (selB xs (m : Int) = r)) (hn : n ≤ maxLen) (hm : m ≤ maxLen) (w : World) (hA : Sl w w.heap.size 1 E n (intV xs)) :
    Calls Tryz.prog 25 #[.agg #[.string person, .int .i64 month, .slice A m ca, .slice B mb cb, .int .u64 root.toNat], .slice E n ce] w fun e w' => e = .returned (.bool r) ∧ Below w.heap.size w w' := by
  have HA := Lib.hid hA
  have Hxn := Lib.hid hxn
  unfold maxLen at hn hm
  clear hA hxn
  go_enter Tryz.func25, Tryz.ntmps25
  go_wp2_with fail
  obtain ⟨V, hV⟩ : ∃ V, V = w.alloc (.cells #[.string person, .int .i64 month, .slice A m ca, .slice B mb cb, .int .u64 root.toNat] 27) := ⟨_, rfl⟩
  obtain ⟨X, hX⟩ : ∃ X, X = w.heap.size := ⟨_, rfl⟩
  rw [← hV]
  try rw [← hX]
  have gX : V.heap[X]? = some (.cells #[.string person, .int .i64 month, .slice A m ca, .slice B mb cb, .int .u64 root.toNat] 27 (0, 0)) := by rw [hV, hX]; exact World.alloc_heap_new _ _
  have hBV : Below w.heap.size w V := by rw [hV]; exact bal (Below.refl _ _) _
  have HV := Lib.hid (And.intro hBV gX)
  clear hV hX gX hBV
  go_loopw [5] (fun i wr => ∃ k : Nat, k ≤ n ∧ i = .int .i64 (k : Int) ∧ (∀ j, j < k → selAt xs (m : Int) j) ∧ Below V.heap.size V wr) (fun i _ => n - (intOf i).toNat)
  case atStart => exact ⟨0, Nat.zero_le _, rfl, (fun j hj => absurd hj (Nat.not_lt_zero j)), Below.refl _ _⟩
  case round =>
    obtain ⟨k, hk, rfl, hok, hBr⟩ := hrel
    have Hok := Lib.hid hok
    clear hok
    have HB := Lib.hid (And.intro hBr (bgo HV.out.1 hBr))
    have c2 : wr.cell? ⟨X, 2, none⟩ = some (.slice A m ca) := by rw [Lib.cell_of_heap ((hBr.block _ (Array.getElem?_eq_some_iff.1 HV.out.2).1).trans HV.out.2)]; rfl
    clear hBr
    by_cases hlt : k < n
    · obtain ⟨b, off, rfl, hb, hcell⟩ := (HA.out.go HB.out.2).2 (by omega)
      have hlx : k < xs.length := by rw [Hxn.out]; exact hlt
      have hc : wr.cell? ⟨b, off + k, none⟩ = some (.int .i64 (xs.getD k 0)) := hcell k _ (intV_get xs k hlx)
      have hlt' : (k : Int) < (n : Int) := by omega
      have hk0' : (0 : Int) ≤ (k : Int) := by omega
      have hm0' : (0 : Int) ≤ (m : Int) := by omega
      by_cases hs : selAt xs (m : Int) k
      · have Hy : Hid (∀ j, j < k + 1 → selAt xs (m : Int) j) := Lib.hid (fun j hj => by
          rcases Nat.lt_succ_iff_lt_or_eq.1 hj with h | h
          · exact Hok.out j h
          · rw [h]; exact hs)
        obtain ⟨h1, h2, h3⟩ := hs
        by_cases hk0 : k = 0
        · subst hk0
          obtain ⟨x, hx⟩ : ∃ x, xs.getD 0 0 = x := ⟨_, rfl⟩
          rw [hx, Nat.add_zero] at hc
          rw [hx] at h1 h2
          have d1 : decide (x < 0) = false := decide_eq_false (by omega)
          have d2 : decide ((m : Int) ≤ x) = false := decide_eq_false (by omega)
          have d3 : decide ((0 : Int) < ((0 : Nat) : Int)) = false := decide_eq_false (by omega)
          clear hx h3 hcell
          go_wp2_with fail
          go_quiet (fail)
          go_wp2_with fail
          go_roundw
          case rel => exact ⟨1, by omega, by go_num, Hy.out, below_drewN HB.out.1 _⟩
          case measure => simp [intOf]; omega
        · have h4 := h3 (by omega)
          obtain ⟨q, hq⟩ : ∃ q, k - 1 = q := ⟨_, rfl⟩
          rw [hq] at h4
          have hc2 : wr.cell? ⟨b, off + q, none⟩ = some (.int .i64 (xs.getD q 0)) := hcell q _ (intV_get xs q (by omega))
          obtain ⟨x, hx⟩ : ∃ x, xs.getD k 0 = x := ⟨_, rfl⟩
          obtain ⟨y, hy⟩ : ∃ x, xs.getD q 0 = x := ⟨_, rfl⟩
          rw [hx] at hc h1 h2 h4
          rw [hy] at hc2 h4
          have e1 : (k : Int) - 1 = (q : Int) := by omega
          have e1' : IntKind.i64.wrap ((k : Int) - 1) = (q : Int) := by rw [e1]; exact IntWalk.i64_in _ (by omega)
          have e2 : (0 : Int) < (k : Int) := by omega
          have e3 : (q : Int) < (n : Int) := by omega
          have e4 : (0 : Int) ≤ (q : Int) := by omega
          have d1 : decide (x < 0) = false := decide_eq_false (by omega)
          have d2 : decide ((m : Int) ≤ x) = false := decide_eq_false (by omega)
          have d3 : decide (0 < k) = true := decide_eq_true (by omega)
          have d4 : decide (x ≤ y) = false := decide_eq_false (by omega)
          clear hx hy h3 hcell hq
          go_wp2_with fail
          go_quiet (fail)
          go_wp2_with fail
          go_roundw
          case rel => exact ⟨k + 1, by omega, by go_num, Hy.out, below_drewN HB.out.1 _⟩
          case measure => simp [intOf]; omega
      · have hF : Hid (r = false) := Lib.hid (by rw [← hr.out]; exact selB_no hlx hs)
        unfold selAt at hs
        obtain ⟨x, hx⟩ : ∃ x, xs.getD k 0 = x := ⟨_, rfl⟩
        rw [hx] at hc hs
        by_cases h1 : 0 ≤ x
        · have d1 : decide (x < 0) = false := decide_eq_false (by omega)
          by_cases h2 : x < m
          · have h3 : 0 < k ∧ x ≤ xs.getD (k - 1) 0 := by omega
            have d2 : decide ((m : Int) ≤ x) = false := decide_eq_false (by omega)
            obtain ⟨q, hq⟩ : ∃ q, k - 1 = q := ⟨_, rfl⟩
            have h4 := h3.2
            rw [hq] at h4
            have e1 : (k : Int) - 1 = (q : Int) := by omega
            have e1' : IntKind.i64.wrap ((k : Int) - 1) = (q : Int) := by rw [e1]; exact IntWalk.i64_in _ (by omega)
            have e2 : (0 : Int) < (k : Int) := by omega
            have e3 : (q : Int) < (n : Int) := by omega
            have e4 : (0 : Int) ≤ (q : Int) := by omega
            have hc2 : wr.cell? ⟨b, off + q, none⟩ = some (.int .i64 (xs.getD q 0)) := hcell q _ (intV_get xs q (by omega))
            obtain ⟨y, hy⟩ : ∃ x, xs.getD q 0 = x := ⟨_, rfl⟩
            rw [hy] at hc2 h4
            have d3 : decide (0 < k) = true := decide_eq_true (by omega)
            have d4 : decide (x ≤ y) = true := decide_eq_true h4
            clear hx hy h3 hcell hs hq
            go_wp2_with fail
            go_quiet (fail)
            go_wp2_with fail
            go_ret
            exact ⟨by rw [hF.out] <;> rfl, below_drewN HB.out.2 _⟩
          · have h2' : (m : Int) ≤ x := by omega
            have d2 : decide ((m : Int) ≤ x) = true := decide_eq_true h2'
            clear hx hcell hs h2
            go_wp2_with fail
            go_quiet (fail)
            go_wp2_with fail
            go_ret
            exact ⟨by rw [hF.out] <;> rfl, below_drewN HB.out.2 _⟩
        · have h1' : x < 0 := by omega
          have d1 : decide (x < 0) = true := decide_eq_true h1'
          clear hx hcell hs h1
          go_wp2_with fail
          go_quiet (fail)
          go_wp2_with fail
          go_ret
          exact ⟨by rw [hF.out] <;> rfl, below_drewN HB.out.2 _⟩
    · obtain rfl : k = n := by omega
      have hF : Hid (r = true) := Lib.hid (by rw [← hr.out]; exact decide_eq_true (fun i hi => Hok.out i (by rw [← Hxn.out]; exact hi)))
      go_wp2_with fail
      go_ret
      exact ⟨by rw [hF.out] <;> rfl, HB.out.2⟩
set_option maxHeartbeats 2000000 in
theorem rints_eq (A B : Option Addr) (ca cb n : Nat) (xs : List Int) (hxn : xs.length = n) (hn : n ≤ maxLen) (w : World) (hA : Sl w w.heap.size 1 A n (intV xs)) (hB : Sl w w.heap.size 1 B n (intV xs)) :
    Calls Tryz.prog 32 #[.slice A n ca, .slice B n cb] w fun e w' => e = .returned (.bool true) ∧ Below w.heap.size w w' := by
  have HA := Lib.hid hA
  have HB := Lib.hid hB
  have Hxn := Lib.hid hxn
  have hne : ((n : Int) != (n : Int)) = false := by simp
  unfold maxLen at hn
  clear hA hB hxn
  go_enter Tryz.func32, Tryz.ntmps32
  go_wp2_with fail
  go_loopw [5] (fun i wr => ∃ k : Nat, k ≤ n ∧ i = .int .i64 (k : Int) ∧ Below w.heap.size w wr) (fun i _ => n - (intOf i).toNat)
  case atStart => exact ⟨0, Nat.zero_le _, rfl, Below.refl _ _⟩
  case round =>
    obtain ⟨k, hk, rfl, hBr⟩ := hrel
    by_cases hlt : k < n
    · obtain ⟨b, off, rfl, hb, hcell⟩ := (HA.out.go hBr).2 (by omega)
      obtain ⟨b2, off2, rfl, hb2, hcell2⟩ := (HB.out.go hBr).2 (by omega)
      have hlx : k < xs.length := by rw [Hxn.out]; exact hlt
      have hc : wr.cell? ⟨b, off + k, none⟩ = some (.int .i64 (xs.getD k 0)) := hcell k _ (intV_get xs k hlx)
      have hc2 : wr.cell? ⟨b2, off2 + k, none⟩ = some (.int .i64 (xs.getD k 0)) := hcell2 k _ (intV_get xs k hlx)
      obtain ⟨y, hy⟩ : ∃ y, xs.getD k 0 = y := ⟨_, rfl⟩
      rw [hy] at hc hc2
      have hlt' : (k : Int) < (n : Int) := by omega
      have hk0' : (0 : Int) ≤ (k : Int) := by omega
      have he : (y != y) = false := by simp
      clear hcell hcell2 hy hlx
      have Hb := Lib.hid hBr
      clear hBr
      go_wp2_with fail
      go_quiet (fail)
      go_wp2_with fail
      go_roundw
      case rel => exact ⟨k + 1, by omega, by go_num, below_drewN Hb.out _⟩
      case measure => simp [intOf]; omega
    · obtain rfl : k = n := by omega
      go_wp2_with fail
      go_ret
      exact ⟨rfl, hBr⟩
end Go.Proofs.YtfjkmhbipkoefaaGreatDoor
