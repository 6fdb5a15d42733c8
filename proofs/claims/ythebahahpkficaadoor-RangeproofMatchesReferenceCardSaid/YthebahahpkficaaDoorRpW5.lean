/- The walk of package rangeproof: Verify. -/
import Derived.Test.YthebahahpkficaaDoorRpW4
namespace Go.Proofs.YthebahahpkficaaDoor
open Go.RowKit
set_option linter.unusedVariables false
/-- The cells of a list of bit proofs. -/
def bpsC : List BP → List Value
  | [] => []
  | p :: l => bpC p ++ bpsC l
theorem bpC_len (p : BP) : (bpC p).length = 7 := rfl
theorem bpsC_len : ∀ l : List BP, (bpsC l).length = l.length * 7
  | [] => rfl
  | p :: l => by rw [bpsC, List.length_append, bpC_len, bpsC_len l, List.length_cons]; omega
theorem bpsC_get : ∀ (l : List BP) (k j : Nat), k < l.length → j < 7 → (bpsC l)[k * 7 + j]? = (bpC (l.getD k zeroBP))[j]?
  | [], k, j, h, _ => absurd h (Nat.not_lt_zero k)
  | p :: l, 0, j, _, hj => by
    rw [bpsC, Nat.zero_mul, Nat.zero_add, List.getElem?_append_left (by rw [bpC_len]; exact hj)]; rfl
  | p :: l, k + 1, j, h, hj => by
    rw [bpsC, List.getElem?_append_right (by rw [bpC_len]; omega), bpC_len, show (k + 1) * 7 + j - 7 = k * 7 + j by omega, bpsC_get l k j (by simpa using h) hj]
    rfl
theorem bpsC_snoc : ∀ (l : List BP) (p : BP), bpsC (l ++ [p]) = bpsC l ++ bpC p
  | [], p => by simp [bpsC]
  | q :: l, p => by rw [List.cons_append, bpsC, bpsC_snoc l p, bpsC, List.append_assoc]
theorem validB_right {p : BP} (h : validB p = true) : rightB p = true := by unfold validB at h; simp at h; exact h.1
theorem right_parts {p : BP} (h : rightB p = true) : (1 ≤ p.c ∧ p.c < 2147483579) ∧ (1 ≤ p.f0 ∧ p.f0 < 2147483579) ∧ (1 ≤ p.f1 ∧ p.f1 < 2147483579) ∧ (0 ≤ p.e0 ∧ p.e0 < 1073741789) ∧ (0 ≤ p.e1 ∧ p.e1 < 1073741789) ∧ (0 ≤ p.z0 ∧ p.z0 < 1073741789) ∧ (0 ≤ p.z1 ∧ p.z1 < 1073741789) := by
  unfold rightB elB sideB inFB at h
  simp only [Bool.and_eq_true, decide_eq_true_eq] at h
  obtain ⟨⟨a, b, c⟩, d, e⟩ := h
  exact ⟨⟨a.1, a.2.1⟩, ⟨b.1, b.2.1⟩, ⟨c.1, c.2.1⟩, d.1, e.1, d.2.1, e.2.1⟩
theorem verify_no (commit bits : Int) (l : List BP) (k : Nat) (hk : k < l.length) (h : validB (l.getD k zeroBP) = false) : verifyB commit bits l = false := by
  have : l.all validB = false := by
    rw [List.all_eq_false]
    refine ⟨l.getD k zeroBP, ?_, by rw [h]; simp⟩
    simp [List.getD, hk]
  unfold verifyB
  rw [this]
  simp
theorem right_lit (c f0 f1 e0 e1 z0 z1 : Int) (r : Bool) (hr : Hid (rightB ⟨c, f0, f1, e0, e1, z0, z1⟩ = r)) (w : World) :
    Calls Tryd.prog 30 #[.agg #[.int .i64 c, .int .i64 f0, .int .i64 f1, .int .i64 e0, .int .i64 e1, .int .i64 z0, .int .i64 z1]] w fun e w' => e = .returned (.bool r) ∧ Below w.heap.size w w' :=
  right_any ⟨c, f0, f1, e0, e1, z0, z1⟩ r hr w
theorem chal_lit (c f0 f1 e0 e1 z0 z1 v : Int) (hv : Hid (chalI c f0 f1 = v)) (w : World) (hT : PTab w) (hc : I64 c) (hf0 : I64 f0) (hf1 : I64 f1) :
    Calls Tryd.prog 34 #[.agg #[.int .i64 c, .int .i64 f0, .int .i64 f1, .int .i64 e0, .int .i64 e1, .int .i64 z0, .int .i64 z1]] w fun e w' => e = .returned (.int .i64 v) ∧ Below w.heap.size w w' :=
  challenge_any ⟨c, f0, f1, e0, e1, z0, z1⟩ v hv w hT hc hf0 hf1
theorem i64_P {x : Int} (h : 1 ≤ x ∧ x < 2147483579) : I64 x := ⟨by omega, by omega⟩
set_option maxHeartbeats 8000000 in
set_option maxRecDepth 100000 in
theorem verify_any (commit bits : Int) (l : List BP) (A : Option Addr) (c : Nat) (r : Bool) (hr : Hid (verifyB commit bits l = r)) (w : World) (hT : PTab w) (hA : Sl w w.heap.size 7 A l.length (bpsC l)) (hn : l.length ≤ maxLen) :
    Calls Tryd.prog 15 #[.int .i64 commit, .int .i64 bits, .slice A l.length c] w fun e w' => e = .returned (.bool r) ∧ Below w.heap.size w w' := by
  unfold maxLen at hn
  have HT := Lib.hid hT
  have HA := Lib.hid hA
  clear hT hA
  by_cases h1 : 1 ≤ bits
  · by_cases h2 : bits ≤ 28
    · by_cases h3 : (l.length : Int) = bits
      · subst h3
        have hne : ((l.length : Int) != (l.length : Int)) = false := by simp
        have hl1 : 1 ≤ l.length := by omega
        have hl28 : l.length ≤ 28 := by omega
        clear h1 h2
        go_enter Tryd.func15, Tryd.ntmps15
        go_wp2
        go_loopw [7, 24] (fun v i wr => ∃ k : Nat, k ≤ l.length ∧ i = .int .i64 k ∧ v = .int .i64 (prodI (cAt l) k) ∧ Hid (∀ j, j < k → validB (l.getD j zeroBP) = true) ∧ Below w.heap.size w wr) (fun _ i _ => l.length - (intOf i).toNat)
        case atStart => exact ⟨0, by omega, rfl, rfl, Lib.hid (fun j hj => absurd hj (Nat.not_lt_zero j)), Below.refl _ _⟩
        case round =>
          obtain ⟨k, hk, rfl, rfl, HV, hB⟩ := hrel
          have hpb := prodI_bd (cAt l) k
          obtain ⟨pr, hpr⟩ : ∃ pr, prodI (cAt l) k = pr := ⟨_, rfl⟩
          rw [hpr] at hpb
          by_cases hlt : k < l.length
          · obtain ⟨b, off, rfl, hb, hcell⟩ := (HA.out).2 (by omega)
            have hg := fun j (hj : j < 7) => (hB.cell (p := ⟨b, off + (k * 7 + j), none⟩) hb).trans (hcell (k * 7 + j) ((bpC (l.getD k zeroBP)).getD j undef) (by rw [bpsC_get l k j hlt hj]; rcases (show j = 0 ∨ j = 1 ∨ j = 2 ∨ j = 3 ∨ j = 4 ∨ j = 5 ∨ j = 6 by omega) with rfl | rfl | rfl | rfl | rfl | rfl | rfl <;> rfl))
            have hg0 := hg 0 (by omega)
            have hg1 := hg 1 (by omega)
            have hg2 := hg 2 (by omega)
            have hg3 := hg 3 (by omega)
            have hg4 := hg 4 (by omega)
            have hg5 := hg 5 (by omega)
            have hg6 := hg 6 (by omega)
            clear hcell hg
            obtain ⟨p, hp⟩ : ∃ p, l.getD k zeroBP = p := ⟨_, rfl⟩
            rw [hp] at hg0 hg1 hg2 hg3 hg4 hg5 hg6
            obtain ⟨c0, f0, f1, e0, e1, z0, z1⟩ := p
            simp only [bpC, List.getD_cons_zero, List.getD_cons_succ] at hg0 hg1 hg2 hg3 hg4 hg5 hg6
            rw [Nat.add_zero] at hg0
            rw [← Nat.add_assoc] at hg1 hg2 hg3 hg4 hg5 hg6
            rw [hpr]
            have Hpr := Lib.hid hpr
            have Hp := Lib.hid hp
            clear hpr hp
            go_wp2_with fail
            obtain ⟨w1, hw1⟩ : ∃ w1, w1 = wr.alloc (.cells #[.int .i64 c0, .int .i64 f0, .int .i64 f1, .int .i64 e0, .int .i64 e1, .int .i64 z0, .int .i64 z1] 25) := ⟨_, rfl⟩
            rw [← hw1]
            have hB1 : Below w.heap.size w w1 := by rw [hw1]; exact bal hB _
            have hP1 : BPAt w1 wr.heap.size ⟨c0, f0, f1, e0, e1, z0, z1⟩ := ⟨_, _, by rw [hw1]; exact World.alloc_heap_new wr _⟩
            have hP0 : BPAt w1.drew wr.heap.size ⟨c0, f0, f1, e0, e1, z0, z1⟩ := hP1
            have k0 := hP1.c0
            have k1 := hP1.c1
            have k2 := hP1.c2
            have k3 := hP1.c3
            have k4 := hP1.c4
            have k5 := hP1.c5
            have k6 := hP1.c6
            simp only [] at k0 k1 k2 k3 k4 k5 k6
            clear hw1 hg0 hg1 hg2 hg3 hg4 hg5 hg6 hB
            cases hrb : rightB ⟨c0, f0, f1, e0, e1, z0, z1⟩ with
            | false =>
              have hr' : r = false := by
                rw [← hr.out]
                refine verify_no _ _ _ k hlt ?_
                rw [Hp.out]; unfold validB; rw [hrb]; rfl
              subst hr'
              have H1 := Lib.hid hrb
              clear hrb hr
              refine wp_region_noPanic ?_
              refine wp_region_held_drew (S := fun w' => w'.cell? ⟨wr.heap.size, 0, none⟩ = some (.int .i64 c0) ∧ w'.cell? ⟨wr.heap.size, 1, none⟩ = some (.int .i64 f0) ∧ w'.cell? ⟨wr.heap.size, 2, none⟩ = some (.int .i64 f1) ∧ w'.cell? ⟨wr.heap.size, 3, none⟩ = some (.int .i64 e0) ∧ w'.cell? ⟨wr.heap.size, 4, none⟩ = some (.int .i64 e1) ∧ w'.cell? ⟨wr.heap.size, 5, none⟩ = some (.int .i64 z0) ∧ w'.cell? ⟨wr.heap.size, 6, none⟩ = some (.int .i64 z1)) (by kernel_rfl) ⟨k0, k1, k2, k3, k4, k5, k6⟩ (fun hHeld => ?_)
              refine wpAnyH_take (i := 0) (v := ?_) rfl (by kernel_rfl) (by kernel_rfl) (by kernel_rfl) (fun _ _ _ h => h) (Or.inl ⟨by rfl, ?_⟩) (by assumption) ?_
              rotate_left
              · intro w hSw
                (try dsimp only at hSw)
                go_simp
                first | done | with_reducible rfl
              simp only [List.getElem_toArray, List.getElem_cons_zero, List.getElem_cons_succ, Act.put, List.setIfInBounds_toArray, List.set_cons_zero, List.set_cons_succ]
              refine wpAnyH_ready (rs := [1]) (by kernel_rfl) (by simp) ?_
              refine AllReadyH.cons rfl (fun K hK => ?_) ?_
              · simp only [List.getElem_toArray, List.getElem_cons_zero, List.getElem_cons_succ]
                go_simp
                (with_reducible refine (right_lit c0 f0 f1 e0 e1 z0 z1 false H1 w1.drew).mono ?_)
                rintro e wp ⟨rfl, hbp⟩
                have hP2 := hP0.go hbp
                dsimp only
                refine hK.out _ _ ⟨hP2.c0, hP2.c1, hP2.c2, hP2.c3, hP2.c4, hP2.c5, hP2.c6⟩ (fun hHeld => ?_)
                clear hK K
                try simp only [List.getElem_toArray, List.getElem_cons_zero, List.getElem_cons_succ, Act.put, List.setIfInBounds_toArray, List.set_cons_zero, List.set_cons_succ]
                refine wpAnyH_take (i := 2) (v := ?_) rfl (by kernel_rfl) (by kernel_rfl) (by kernel_rfl) (fun _ _ _ h => h) (Or.inl ⟨by rfl, ?_⟩) (by assumption) ?_
                rotate_left
                · intro w hSw
                  (try dsimp only at hSw)
                  go_simp
                  first | done | with_reducible rfl
                simp only [List.getElem_toArray, List.getElem_cons_zero, List.getElem_cons_succ, Act.put, List.setIfInBounds_toArray, List.set_cons_zero, List.set_cons_succ]
                refine wpAnyH_take (i := 3) (v := ?_) rfl (by kernel_rfl) (by kernel_rfl) (by kernel_rfl) (fun _ _ _ h => h) (Or.inl ⟨by rfl, ?_⟩) (by assumption) ?_
                rotate_left
                · intro w hSw
                  (try dsimp only at hSw)
                  go_simp
                  first | done | with_reducible rfl
                simp only [List.getElem_toArray, List.getElem_cons_zero, List.getElem_cons_succ, Act.put, List.setIfInBounds_toArray, List.set_cons_zero, List.set_cons_succ]
                refine wpAnyH_take (i := 4) (v := undef) rfl (by kernel_rfl) (by kernel_rfl) (by kernel_rfl) (fun _ _ _ h => h) (Or.inr ⟨by rfl, rfl⟩) (by assumption) ?_
                simp only [List.getElem_toArray, List.getElem_cons_zero, List.getElem_cons_succ, Act.put, List.setIfInBounds_toArray, List.set_cons_zero, List.set_cons_succ]
                refine wpAnyH_take (i := 5) (v := undef) rfl (by kernel_rfl) (by kernel_rfl) (by kernel_rfl) (fun _ _ _ h => h) (Or.inr ⟨by rfl, rfl⟩) (by assumption) ?_
                simp only [List.getElem_toArray, List.getElem_cons_zero, List.getElem_cons_succ, Act.put, List.setIfInBounds_toArray, List.set_cons_zero, List.set_cons_succ]
                refine wpAnyH_take (i := 6) (v := undef) rfl (by kernel_rfl) (by kernel_rfl) (by kernel_rfl) (fun _ _ _ h => h) (Or.inr ⟨by rfl, rfl⟩) (by assumption) ?_
                simp only [List.getElem_toArray, List.getElem_cons_zero, List.getElem_cons_succ, Act.put, List.setIfInBounds_toArray, List.set_cons_zero, List.set_cons_succ]
                refine wpAnyH_take (i := 7) (v := undef) rfl (by kernel_rfl) (by kernel_rfl) (by kernel_rfl) (fun _ _ _ h => h) (Or.inr ⟨by rfl, rfl⟩) (by assumption) ?_
                simp only [List.getElem_toArray, List.getElem_cons_zero, List.getElem_cons_succ, Act.put, List.setIfInBounds_toArray, List.set_cons_zero, List.set_cons_succ]
                refine wpAnyH_take (i := 8) (v := undef) rfl (by kernel_rfl) (by kernel_rfl) (by kernel_rfl) (fun _ _ _ h => h) (Or.inr ⟨by rfl, rfl⟩) (by assumption) ?_
                simp only [List.getElem_toArray, List.getElem_cons_zero, List.getElem_cons_succ, Act.put, List.setIfInBounds_toArray, List.set_cons_zero, List.set_cons_succ]
                refine wpAnyH_take (i := 9) (v := undef) rfl (by kernel_rfl) (by kernel_rfl) (by kernel_rfl) (fun _ _ _ h => h) (Or.inr ⟨by rfl, rfl⟩) (by assumption) ?_
                simp only [List.getElem_toArray, List.getElem_cons_zero, List.getElem_cons_succ, Act.put, List.setIfInBounds_toArray, List.set_cons_zero, List.set_cons_succ]
                refine wpAnyH_take (i := 10) (v := undef) rfl (by kernel_rfl) (by kernel_rfl) (by kernel_rfl) (fun _ _ _ h => h) (Or.inr ⟨by rfl, rfl⟩) (by assumption) ?_
                simp only [List.getElem_toArray, List.getElem_cons_zero, List.getElem_cons_succ, Act.put, List.setIfInBounds_toArray, List.set_cons_zero, List.set_cons_succ]
                refine wpAnyH_take (i := 11) (v := undef) rfl (by kernel_rfl) (by kernel_rfl) (by kernel_rfl) (fun _ _ _ h => h) (Or.inr ⟨by rfl, rfl⟩) (by assumption) ?_
                simp only [List.getElem_toArray, List.getElem_cons_zero, List.getElem_cons_succ, Act.put, List.setIfInBounds_toArray, List.set_cons_zero, List.set_cons_succ]
                refine wpAnyH_take (i := 12) (v := undef) rfl (by kernel_rfl) (by kernel_rfl) (by kernel_rfl) (fun _ _ _ h => h) (Or.inr ⟨by rfl, rfl⟩) (by assumption) ?_
                simp only [List.getElem_toArray, List.getElem_cons_zero, List.getElem_cons_succ, Act.put, List.setIfInBounds_toArray, List.set_cons_zero, List.set_cons_succ]
                refine wpAnyH_take (i := 13) (v := undef) rfl (by kernel_rfl) (by kernel_rfl) (by kernel_rfl) (fun _ _ _ h => h) (Or.inr ⟨by rfl, rfl⟩) (by assumption) ?_
                simp only [List.getElem_toArray, List.getElem_cons_zero, List.getElem_cons_succ, Act.put, List.setIfInBounds_toArray, List.set_cons_zero, List.set_cons_succ]
                refine wpAnyH_take (i := 14) (v := undef) rfl (by kernel_rfl) (by kernel_rfl) (by kernel_rfl) (fun _ _ _ h => h) (Or.inr ⟨by rfl, rfl⟩) (by assumption) ?_
                simp only [List.getElem_toArray, List.getElem_cons_zero, List.getElem_cons_succ, Act.put, List.setIfInBounds_toArray, List.set_cons_zero, List.set_cons_succ]
                refine wpAnyH_take (i := 15) (v := ?_) rfl (by kernel_rfl) (by kernel_rfl) (by kernel_rfl) (fun _ _ _ h => h) (Or.inl ⟨by rfl, ?_⟩) (by assumption) ?_
                rotate_left
                · intro w hSw
                  (try dsimp only at hSw)
                  go_simp
                  first | done | with_reducible rfl
                simp only [List.getElem_toArray, List.getElem_cons_zero, List.getElem_cons_succ, Act.put, List.setIfInBounds_toArray, List.set_cons_zero, List.set_cons_succ]
                refine wpAnyH_done (by kernel_rfl) ?_ _
                have hB2 := bgo hB1 (below_undrew hbp)
                dsimp only [NoPanic]
                go_wp2
                go_ret
                exact ⟨rfl, hB2⟩
              · exact AllReadyH.nil
            | true =>
              have HTd : PTab w1.drew := HT.out.go (below_drewN hB1 1)
              have hrp := right_parts hrb
              simp only [] at hrp
              obtain ⟨hq0, hq1, hq2, hq3, hq4, hq5, hq6⟩ := hrp
              obtain ⟨ch, hch⟩ : ∃ ch, chalI c0 f0 f1 = ch := ⟨_, rfl⟩
              have hvb : validB ⟨c0, f0, f1, e0, e1, z0, z1⟩ = ((e0 + e1) % 1073741789 == ch) := by unfold validB; rw [hrb]; simp only []; rw [hch]; rfl
              have H1 := Lib.hid hrb
              have Hch := Lib.hid hch
              have Hvb := Lib.hid hvb
              have hwr : IntKind.i64.wrap (e0 + e1) = e0 + e1 := IntWalk.i64_in _ (by omega)
              have htm : (e0 + e1).tmod 1073741789 = (e0 + e1) % 1073741789 := Int.tmod_eq_emod_of_nonneg (by omega)
              have I0 := i64_P hq0
              have I1 := i64_P hq1
              have I2 := i64_P hq2
              have HI := Lib.hid (And.intro I0 (And.intro I1 I2))
              clear hrb hch hvb I0 I1 I2
              go_region_held3 (fun w' => w'.cell? ⟨wr.heap.size, 0, none⟩ = some (.int .i64 c0) ∧ w'.cell? ⟨wr.heap.size, 1, none⟩ = some (.int .i64 f0) ∧ w'.cell? ⟨wr.heap.size, 2, none⟩ = some (.int .i64 f1) ∧ w'.cell? ⟨wr.heap.size, 3, none⟩ = some (.int .i64 e0) ∧ w'.cell? ⟨wr.heap.size, 4, none⟩ = some (.int .i64 e1) ∧ w'.cell? ⟨wr.heap.size, 5, none⟩ = some (.int .i64 z0) ∧ w'.cell? ⟨wr.heap.size, 6, none⟩ = some (.int .i64 z1))
                (go_keep)
                (first
                  | (go_at_call 30; (with_reducible refine (right_lit c0 f0 f1 e0 e1 z0 z1 true H1 w1.drew).mono ?_); rintro e wp ⟨rfl, hbp⟩; have hT2 : PTab wp := HTd.go hbp; have hP2 := hP0.go hbp; have m0 := hP2.c0; have m1 := hP2.c1; have m2 := hP2.c2; have m3 := hP2.c3; have m4 := hP2.c4; have m5 := hP2.c5; have m6 := hP2.c6; simp only [] at m0 m1 m2 m3 m4 m5 m6)
                  | (go_at_call 34; (with_reducible refine (chal_lit c0 f0 f1 e0 e1 z0 z1 ch Hch wp hT2 HI.out.1 HI.out.2.1 HI.out.2.2).mono ?_); rintro e wq ⟨rfl, hbq⟩; have hP3 := hP2.go hbq; have n0 := hP3.c0; have n1 := hP3.c1; have n2 := hP3.c2; have n3 := hP3.c3; have n4 := hP3.c4; have n5 := hP3.c5; have n6 := hP3.c6; simp only [] at n0 n1 n2 n3 n4 n5 n6))
              have hB3 := bgo hB1 (bgo (below_undrew hbp) hbq)
              clear hwr htm hbp hbq hP0 hP1 hP2 hB1 HTd hT2 m0 m1 m2 m3 m4 m5 m6 k0 k1 k2 k3 k4 k5 k6 n1 n2 n3 n4 n5 n6
              by_cases heq : (e0 + e1) % 1073741789 = ch
              · have hne : ((e0 + e1) % 1073741789 != ch) = false := by simp [heq]
                have HVk : Hid (validB (l.getD k zeroBP) = true) := Lib.hid (by rw [Hp.out, Hvb.out]; simp [heq])
                have hck : cAt l k = c0 := by unfold cAt; rw [Hp.out]
                have HCk := Lib.hid hck
                clear heq hck
                obtain ⟨E, hE⟩ : ∃ E : Int, E = ((2 ^ k : Nat) : Int) := ⟨_, rfl⟩
                have hEb : 0 ≤ E ∧ E ≤ 268435456 := by
                  have h28 : 2 ^ k ≤ 268435456 := (Nat.pow_le_pow_right (by omega) (by omega) : 2 ^ k ≤ 2 ^ 28)
                  rw [hE]
                  exact ⟨Int.natCast_nonneg _, Int.ofNat_le.2 h28⟩
                obtain ⟨y, hy⟩ : ∃ y, pwI c0 E = y := ⟨_, rfl⟩
                have hyb := pwI_bd c0 E
                rw [hy] at hyb
                have hmul := mulB hpb.1 hpb.2 hyb.1 hyb.2
                have Hy := Lib.hid hy
                have HE := Lib.hid hE
                clear hy
                have hP4 : BPAt wq.drew wr.heap.size ⟨c0, f0, f1, e0, e1, z0, z1⟩ := hP3
                have hsh : IntKind.i64.wrap ((2 : Int) ^ k) = E := by
                  have e2 : (2 : Int) ^ k = E := by rw [hE, Int.natCast_pow]; rfl
                  rw [e2]; exact IntWalk.i64_in _ (by omega)
                clear hE
                go_wp2_with fail
                have hwr : IntKind.i64.wrap (pr * y) = pr * y := IntWalk.i64_in _ (by omega)
                have htm : (pr * y).tmod 2147483579 = pr * y % 2147483579 := Int.tmod_eq_emod_of_nonneg hmul.1
                go_region_held3 (fun w' => w'.cell? ⟨wr.heap.size, 0, none⟩ = some (.int .i64 c0))
                  (go_keep)
                  (first
                    | (go_at_call 35; (with_reducible refine (inGroup_v c0 E y wq.drew (by omega) (by omega) (by omega) (by omega) Hy).mono ?_); rintro e wt ⟨rfl, hbt⟩; have hP5 := hP4.go hbt; have t0 := hP5.c0; simp only [] at t0))
                have hB5 := bgo hB3 (below_undrew hbt)
                clear hwr htm hsh hbt hP4 hP5 t0 hP3 hB3
                go_wp2
                go_roundw
                case rel =>
                  refine ⟨k + 1, by omega, by go_num, ?_, Lib.hid ?_, hB5⟩
                  · rw [prodI, Hpr.out, HCk.out, ← HE.out, Hy.out]
                  · intro j hj
                    rcases Nat.lt_succ_iff_lt_or_eq.1 hj with h | h
                    · exact HV.out j h
                    · rw [h]; exact HVk.out
                case measure => simp [intOf]; omega
              · have hne : ((e0 + e1) % 1073741789 != ch) = true := by simp [heq]
                have hr' : r = false := by
                  rw [← hr.out]
                  refine verify_no _ _ _ k hlt ?_
                  rw [Hp.out, Hvb.out]; simp [heq]
                subst hr'
                clear heq hr
                go_wp2
                go_ret
                exact ⟨rfl, hB3⟩
          · obtain rfl : k = l.length := by omega
            have hall : l.all validB = true := by
              rw [List.all_eq_true]
              intro p hp
              obtain ⟨j, hj, rfl⟩ := List.getElem_of_mem hp
              have := HV.out j hj
              simpa [List.getD, hj] using this
            have hr' : (pr == commit) = r := by
              rw [← hr.out]
              unfold verifyB
              rw [hall, hpr]
              simp
              omega
            rw [hpr]
            have HR := Lib.hid hr'
            clear hr hr' hall hpr
            go_wp2
            go_ret
            exact ⟨by rw [← HR.out]; rfl, hB⟩
      · have hne : ((l.length : Int) != bits) = true := by simp [h3]
        have hr' : r = false := by rw [← hr.out]; unfold verifyB; simp [h3]
        subst hr'
        clear hr h3
        go_enter Tryd.func15, Tryd.ntmps15
        go_wp2
        go_ret
        exact ⟨rfl, Below.refl _ _⟩
    · have hr' : r = false := by rw [← hr.out]; unfold verifyB; simp [h2]
      subst hr'
      clear hr
      go_enter Tryd.func15, Tryd.ntmps15
      go_wp2
      go_ret
      exact ⟨rfl, Below.refl _ _⟩
  · have hr' : r = false := by rw [← hr.out]; unfold verifyB; simp [h1]
    subst hr'
    clear hr
    go_enter Tryd.func15, Tryd.ntmps15
    go_wp2
    go_ret
    exact ⟨rfl, Below.refl _ _⟩
end Go.Proofs.YthebahahpkficaaDoor
