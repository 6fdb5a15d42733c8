/- The walks of the reference package 27, fifth part: Product, Verify. -/
import Derived.Test.YthebahahpkficaaDoorRpRef4
namespace Go.Proofs.YthebahahpkficaaDoor
open Go.RowKit
set_option linter.unusedVariables false
theorem power2_at (n : Nat) (v : Int) (hv : Hid (((2 ^ n : Nat) : Int) = v)) (hn : n ≤ 60) (w : World) : Calls Tryd.prog 27 #[.int .i64 (n : Int)] w fun e w' => e = .returned (.int .i64 v) ∧ w = w' := by
  rw [← hv.out]
  exact power2_v n hn w
set_option maxHeartbeats 8000000 in
set_option maxRecDepth 100000 in
theorem rproduct_v (l : List BP) (A : Option Addr) (cap : Nat) (v : Int) (hv : Hid (prodI (cAt l) l.length = v)) (w : World) (hA : Sl w w.heap.size 7 A l.length (bpsC l)) (hn : l.length ≤ 40) (hc : ∀ k, k < l.length → 0 ≤ cAt l k ∧ cAt l k < 2147483579) :
    Calls Tryd.prog 37 #[.slice A l.length cap] w fun e w' => e = .returned (.int .i64 v) ∧ Below w.heap.size w w' := by
  have HA := Lib.hid hA
  have HC := Lib.hid hc
  clear hA hc
  go_enter Tryd.func37, Tryd.ntmps37
  go_wp2
  go_loopw [3, 4] (fun n i wr => ∃ (k : Nat) (pr : Int), k ≤ l.length ∧ i = .int .i64 k ∧ n = .int .i64 pr ∧ Hid (prodI (cAt l) k = pr) ∧ Below w.heap.size w wr) (fun _ i _ => l.length - (intOf i).toNat)
  case atStart => exact ⟨0, 1, by omega, rfl, rfl, Lib.hid rfl, Below.refl _ _⟩
  case round =>
    obtain ⟨k, pr, hk, rfl, rfl, HP, hB⟩ := hrel
    by_cases hlt : k < l.length
    · obtain ⟨b, off, rfl, hb, hcell⟩ := (HA.out).2 (by omega)
      have hg0 := (hB.cell (p := ⟨b, off + (k * 7 + 0), none⟩) hb).trans (hcell (k * 7 + 0) ((bpC (l.getD k zeroBP)).getD 0 undef) (by rw [bpsC_get l k 0 hlt (by omega)]; rfl))
      have hcb := HC.out k hlt
      have hg1 : wr.cell? ⟨b, off + k * 7, none⟩ = some (.int .i64 (cAt l k)) := hg0
      obtain ⟨c0, hc0⟩ : ∃ c0, cAt l k = c0 := ⟨_, rfl⟩
      rw [hc0] at hcb hg1
      have hpb := prodI_bd (cAt l) k
      rw [HP.out] at hpb
      obtain ⟨E, hE⟩ : ∃ E : Int, ((2 ^ k : Nat) : Int) = E := ⟨_, rfl⟩
      have hEb : 0 ≤ E ∧ E ≤ 1099511627776 := by
        have h28 : 2 ^ k ≤ 1099511627776 := (Nat.pow_le_pow_right (by omega) (by omega) : 2 ^ k ≤ 2 ^ 40)
        rw [← hE]
        exact ⟨Int.natCast_nonneg _, Int.ofNat_le.2 h28⟩
      obtain ⟨y, hy⟩ : ∃ y, pwI c0 E = y := ⟨_, rfl⟩
      have hyb := pwI_bd c0 E
      rw [hy] at hyb
      obtain ⟨q, hq⟩ : ∃ q, pr * y % 2147483579 = q := ⟨_, rfl⟩
      have HN : Hid (prodI (cAt l) (k + 1) = q) := Lib.hid (by rw [prodI, HP.out, hc0, hE, hy, hq])
      have HE := Lib.hid hE
      have Hy := Lib.hid hy
      have Hq := Lib.hid hq
      clear hcell hg0 hc0 hE hy hq
      have hg2 : wr.drew.cell? ⟨b, off + k * 7, none⟩ = some (.int .i64 c0) := hg1
      go_wp2_with fail
      go_region_held3 (fun w' => w'.cell? ⟨b, off + k * 7, none⟩ = some (.int .i64 c0))
        (go_keep)
        (first
          | (go_at_call 27; (with_reducible refine (power2_at k E HE (by omega) wr.drew).mono ?_); rintro e w' ⟨rfl, rfl⟩)
          | (go_at_call 50; (with_reducible refine (rpower_v c0 E y wr.drew (by omega) (by omega) (by omega) (by omega) Hy).mono ?_); rintro e w' ⟨rfl, rfl⟩)
          | (go_at_call 49; (with_reducible refine (times_v pr y q Hq wr.drew hpb.1 hpb.2 hyb.1 hyb.2).mono ?_); rintro e w' ⟨rfl, rfl⟩))
      all_goals
        go_wp2
        go_roundw
        case rel => exact ⟨k + 1, _, by omega, by go_num, rfl, HN, hB.drew⟩
        case measure => simp [intOf]; omega
    · obtain rfl : k = l.length := by omega
      have : pr = v := by rw [← HP.out, hv.out]
      subst this
      go_wp2
      go_ret
      exact ⟨rfl, hB⟩
set_option maxHeartbeats 8000000 in
set_option maxRecDepth 100000 in
theorem rverify_any (commit bits : Int) (l : List BP) (A : Option Addr) (c : Nat) (r : Bool) (hr : Hid (verifyB commit bits l = r)) (w : World) (hA : Sl w w.heap.size 7 A l.length (bpsC l)) (hn : l.length ≤ maxLen) :
    Calls Tryd.prog 16 #[.int .i64 commit, .int .i64 bits, .slice A l.length c] w fun e w' => e = .returned (.bool r) ∧ Below w.heap.size w w' := by
  unfold maxLen at hn
  have HA := Lib.hid hA
  clear hA
  by_cases h1 : 1 ≤ bits
  · by_cases h2 : bits ≤ 28
    · by_cases h3 : (l.length : Int) = bits
      · subst h3
        have hne : ((l.length : Int) != (l.length : Int)) = false := by simp
        have hl1 : 1 ≤ l.length := by omega
        have hl28 : l.length ≤ 28 := by omega
        clear h1 h2
        go_enter Tryd.func16, Tryd.ntmps16
        go_wp2
        go_loopw [7] (fun i wr => ∃ k : Nat, k ≤ l.length ∧ i = .int .i64 k ∧ Hid (∀ j, j < k → validB (l.getD j zeroBP) = true) ∧ Below w.heap.size w wr) (fun i _ => l.length - (intOf i).toNat)
        case atStart => exact ⟨0, by omega, rfl, Lib.hid (fun j hj => absurd hj (Nat.not_lt_zero j)), Below.refl _ _⟩
        case round =>
          obtain ⟨k, hk, rfl, HV, hB⟩ := hrel
          by_cases hlt : k < l.length
          · obtain ⟨b, off, rfl, hb, hcell⟩ := (HA.out).2 (by omega)
            have hg := fun j (hj : j < 7) => (hB.cell (p := ⟨b, off + (k * 7 + j), none⟩) hb).trans (hcell (k * 7 + j) ((bpC (l.getD k zeroBP)).getD j undef) (by rw [bpsC_get l k j hlt hj]; rcases (show j = 0 ∨ j = 1 ∨ j = 2 ∨ j = 3 ∨ j = 4 ∨ j = 5 ∨ j = 6 by omega) with rfl | rfl | rfl | rfl | rfl | rfl | rfl <;> rfl))
            have hg0 := hg 0 (by omega)
            have hg1 := hg 1 (by omega)
            have hg2 := hg 2 (by omega)
            have hg3 := hg 3 (by omega)
            have hg4 := hg 4 (by omega)
            have hg5 := hg 5 (by omega)
            have hg6 := hg 6 (by omega)
            clear hcell hg
            obtain ⟨p, hp⟩ : ∃ p, l.getD k zeroBP = p := ⟨_, rfl⟩
            rw [hp] at hg0 hg1 hg2 hg3 hg4 hg5 hg6
            obtain ⟨c0, f0, f1, e0, e1, z0, z1⟩ := p
            simp only [bpC, List.getD_cons_zero, List.getD_cons_succ] at hg0 hg1 hg2 hg3 hg4 hg5 hg6
            rw [Nat.add_zero] at hg0
            rw [← Nat.add_assoc] at hg1 hg2 hg3 hg4 hg5 hg6
            have Hp := Lib.hid hp
            clear hp
            cases hvb : validB ⟨c0, f0, f1, e0, e1, z0, z1⟩ with
            | false =>
              have hr' : r = false := by
                rw [← hr.out]
                refine verify_no _ _ _ k hlt ?_
                rw [Hp.out]; exact hvb
              subst hr'
              have HVB := Lib.hid hvb
              clear hvb hr
              go_wp2_with fail
              refine (rvalid_lit c0 f0 f1 e0 e1 z0 z1 false HVB _).mono ?_
              rintro e w1 ⟨rfl, hb1⟩
              have hB1 := bgo hB hb1
              clear hb1 hB hg0 hg1 hg2 hg3 hg4 hg5 hg6
              go_wp2
              go_ret
              exact ⟨rfl, hB1⟩
            | true =>
              have HVB := Lib.hid hvb
              have HVk : Hid (validB (l.getD k zeroBP) = true) := Lib.hid (by rw [Hp.out]; exact hvb)
              clear hvb
              go_wp2_with fail
              refine (rvalid_lit c0 f0 f1 e0 e1 z0 z1 true HVB _).mono ?_
              rintro e w1 ⟨rfl, hb1⟩
              have hB1 := bgo hB hb1
              clear hb1 hB hg0 hg1 hg2 hg3 hg4 hg5 hg6
              go_wp2
              go_roundw
              case rel =>
                refine ⟨k + 1, by omega, by go_num, Lib.hid ?_, hB1⟩
                intro j hj
                rcases Nat.lt_succ_iff_lt_or_eq.1 hj with h | h
                · exact HV.out j h
                · rw [h]; exact HVk.out
              case measure => simp [intOf]; omega
          · obtain rfl : k = l.length := by omega
            obtain ⟨pr, hpr⟩ : ∃ pr, prodI (cAt l) l.length = pr := ⟨_, rfl⟩
            have hall : l.all validB = true := by
              rw [List.all_eq_true]
              intro p hp
              obtain ⟨j, hj, rfl⟩ := List.getElem_of_mem hp
              have := HV.out j hj
              simpa [List.getD, hj] using this
            have hr' : (pr == commit) = r := by
              rw [← hr.out]
              unfold verifyB
              rw [hall, hpr]
              simp
              omega
            have hcs : ∀ k, k < l.length → 0 ≤ cAt l k ∧ cAt l k < 2147483579 := by
              intro k hk
              have h := (right_parts (validB_right (HV.out k hk))).1
              unfold cAt
              omega
            have HR := Lib.hid hr'
            have HPR := Lib.hid hpr
            have HCS := Lib.hid hcs
            have hS := HA.out.go hB
            clear hr hr' hall hpr hcs
            go_wp2_with fail
            refine (rproduct_v l A c pr HPR _ hS (by omega) HCS.out).mono ?_
            rintro e w1 ⟨rfl, hb1⟩
            have hB1 := bgo hB hb1
            go_wp2
            go_ret
            exact ⟨by rw [← HR.out]; rfl, hB1⟩
      · have hne : ((l.length : Int) != bits) = true := by simp [h3]
        have hr' : r = false := by rw [← hr.out]; unfold verifyB; simp [h3]
        subst hr'
        clear hr h3
        go_enter Tryd.func16, Tryd.ntmps16
        go_wp2
        go_ret
        exact ⟨rfl, Below.refl _ _⟩
    · have hr' : r = false := by rw [← hr.out]; unfold verifyB; simp [h2]
      subst hr'
      clear hr
      go_enter Tryd.func16, Tryd.ntmps16
      go_wp2
      go_ret
      exact ⟨rfl, Below.refl _ _⟩
  · have hr' : r = false := by rw [← hr.out]; unfold verifyB; simp [h1]
    subst hr'
    clear hr
    go_enter Tryd.func16, Tryd.ntmps16
    go_wp2
    go_ret
    exact ⟨rfl, Below.refl _ _⟩
end Go.Proofs.YthebahahpkficaaDoor
