/- The walks of the reference package 27, fourth part: powerQ, Valid. -/
import Derived.Test.YthebahahpkficaaDoorRpRef3
import Derived.Test.YthebahahpkficaaDoorRpWC
namespace Go.Proofs.YthebahahpkficaaDoor
open Go.RowKit
set_option linter.unusedVariables false
set_option maxHeartbeats 2000000 in
set_option maxRecDepth 100000 in
theorem powerQ_v (b e v : Int) (w : World) (hb0 : 0 ≤ b) (hb1 : b < 1073741789) (he0 : 0 ≤ e) (he1 : e ≤ 9223372036854775807) (hv : Hid (fpI b e = v)) :
    Calls Tryd.prog 33 #[.int .i64 b, .int .i64 e] w fun r w' => r = .returned (.int .i64 v) ∧ w = w' := by
  obtain ⟨V, hV⟩ : ∃ V, V = b.toNat ^ e.toNat % Grp.Q := ⟨_, rfl⟩
  have hst : FpRel V e 1 b := ⟨he0, he1, by omega, by omega, hb0, hb1, by rw [hV, show (1 : Int).toNat = 1 from rfl, Nat.one_mul]⟩
  have HV : Hid ((V : Int) = v) := Lib.hid (by rw [← hv.out, hV]; rfl)
  have HST := Lib.hid hst
  clear hV hv hst
  go_enter Tryd.func33, Tryd.ntmps33
  go_wp2
  go_loop [1, 0, 5] (fun s0 s1 s5 => ∃ e r b : Int, s0 = .int .i64 e ∧ s1 = .int .i64 b ∧ s5 = .int .i64 r ∧ FpRel V e r b) (fun s0 _ _ => (intOf s0).toNat)
  case atStart => exact ⟨e, 1, b, rfl, rfl, rfl, HST.out⟩
  case round =>
    clear HST he0 he1 hb0 hb1
    obtain ⟨e, r, b, rfl, rfl, rfl, hF⟩ := hrel
    have e0 := hF.e0
    have e1 := hF.e1
    have r0 := hF.r0
    have r1 := hF.r1
    have b0 := hF.b0
    have b1 := hF.b1
    have hm := mulQ r0 r1 b0 b1
    have hbb := mulQ b0 b1 b0 b1
    by_cases hp : 0 < e
    · have hd : decide (0 < e) = true := by simpa using hp
      by_cases hodd : e.toNat % 2 = 1
      · have ht : (e % 2 == 1) = true := by
          have : e % 2 = 1 := by omega
          simp [this]
        have HF := Lib.hid (hF.step (r * b % 1073741789) (by rw [if_pos hodd]))
        clear hF
        go_wp2
        go_round
        case rel => exact ⟨_, _, _, rfl, rfl, rfl, HF.out⟩
        case measure => simp [intOf]; omega
      · have ht : (e % 2 == 1) = false := by
          have : e % 2 = 0 := by omega
          simp [this]
        have HF := Lib.hid (hF.step r (by rw [if_neg hodd]))
        clear hF
        go_wp2
        go_round
        case rel => exact ⟨_, _, _, rfl, rfl, rfl, HF.out⟩
        case measure => simp [intOf]; omega
    · obtain rfl : e = 0 := by omega
      have hr : r = v := by
        have := hF.hv
        rw [show (0 : Int).toNat = 0 from rfl, Nat.pow_zero, Nat.mul_one, Nat.mod_eq_of_lt (by show r.toNat < 1073741789; omega)] at this
        rw [← HV.out, ← this]; omega
      subst hr
      clear hF
      go_wp2
      go_ret
      exact ⟨rfl, rfl⟩
set_option maxHeartbeats 8000000 in
set_option maxRecDepth 100000 in
theorem rvalid_lit (c f0 f1 e0 e1 z0 z1 : Int) (r : Bool) (hr : Hid (validB ⟨c, f0, f1, e0, e1, z0, z1⟩ = r)) (w : World) :
    Calls Tryd.prog 36 #[.agg #[.int .i64 c, .int .i64 f0, .int .i64 f1, .int .i64 e0, .int .i64 e1, .int .i64 z0, .int .i64 z1]] w fun e w' => e = .returned (.bool r) ∧ Below w.heap.size w w' := by
  obtain ⟨w1, hw1⟩ : ∃ w1, w1 = w.alloc (.cells #[.int .i64 c, .int .i64 f0, .int .i64 f1, .int .i64 e0, .int .i64 e1, .int .i64 z0, .int .i64 z1] 25) := ⟨_, rfl⟩
  have hB1 : Below w.heap.size w w1 := by rw [hw1]; exact bal (Below.refl _ _) _
  have hP1 : BPAt w1 w.heap.size ⟨c, f0, f1, e0, e1, z0, z1⟩ := ⟨_, _, by rw [hw1]; exact World.alloc_heap_new w _⟩
  have hP0 : BPAt w1.drew w.heap.size ⟨c, f0, f1, e0, e1, z0, z1⟩ := hP1
  have k0 := hP1.c0
  have k1 := hP1.c1
  have k2 := hP1.c2
  have k3 := hP1.c3
  have k4 := hP1.c4
  have k5 := hP1.c5
  have k6 := hP1.c6
  simp only [] at k0 k1 k2 k3 k4 k5 k6
  cases hrb : rightB ⟨c, f0, f1, e0, e1, z0, z1⟩ with
  | false =>
    have hr' : r = false := by
      rw [← hr.out]; unfold validB; rw [hrb]; rfl
    subst hr'
    have H1 := Lib.hid hrb
    clear hrb hr
    go_enter Tryd.func36, Tryd.ntmps36
    go_wp2_with fail
    rw [← hw1]
    clear hw1
    refine wp_region_noPanic ?_
    refine wp_region_held_drew (S := fun w' => w'.cell? ⟨w.heap.size, 0, none⟩ = some (.int .i64 c) ∧ w'.cell? ⟨w.heap.size, 1, none⟩ = some (.int .i64 f0) ∧ w'.cell? ⟨w.heap.size, 2, none⟩ = some (.int .i64 f1) ∧ w'.cell? ⟨w.heap.size, 3, none⟩ = some (.int .i64 e0) ∧ w'.cell? ⟨w.heap.size, 4, none⟩ = some (.int .i64 e1) ∧ w'.cell? ⟨w.heap.size, 5, none⟩ = some (.int .i64 z0) ∧ w'.cell? ⟨w.heap.size, 6, none⟩ = some (.int .i64 z1)) (by kernel_rfl) ⟨k0, k1, k2, k3, k4, k5, k6⟩ (fun hHeld => ?_)
    refine wpAnyH_take (i := 0) (v := ?_) rfl (by kernel_rfl) (by kernel_rfl) (by kernel_rfl) (fun _ _ _ h => h) (Or.inl ⟨by rfl, ?_⟩) (by assumption) ?_
    rotate_left
    · intro w hSw
      (try dsimp only at hSw)
      go_simp
      first | done | with_reducible rfl
    simp only [List.getElem_toArray, List.getElem_cons_zero, List.getElem_cons_succ, Act.put, List.setIfInBounds_toArray, List.set_cons_zero, List.set_cons_succ]
    refine wpAnyH_ready (rs := [1]) (by kernel_rfl) (by simp) ?_
    refine AllReadyH.cons rfl (fun K hK => ?_) ?_
    · simp only [List.getElem_toArray, List.getElem_cons_zero, List.getElem_cons_succ]
      go_simp
      (with_reducible refine (rright_lit c f0 f1 e0 e1 z0 z1 false H1 w1.drew).mono ?_)
      rintro e wp ⟨rfl, hbp⟩
      have hP2 := hP0.go hbp
      dsimp only
      refine hK.out _ _ ⟨hP2.c0, hP2.c1, hP2.c2, hP2.c3, hP2.c4, hP2.c5, hP2.c6⟩ (fun hHeld => ?_)
      clear hK K
      try simp only [List.getElem_toArray, List.getElem_cons_zero, List.getElem_cons_succ, Act.put, List.setIfInBounds_toArray, List.set_cons_zero, List.set_cons_succ]
      refine wpAnyH_take (i := 2) (v := ?_) rfl (by kernel_rfl) (by kernel_rfl) (by kernel_rfl) (fun _ _ _ h => h) (Or.inl ⟨by rfl, ?_⟩) (by assumption) ?_
      rotate_left
      · intro w hSw
        (try dsimp only at hSw)
        go_simp
        first | done | with_reducible rfl
      simp only [List.getElem_toArray, List.getElem_cons_zero, List.getElem_cons_succ, Act.put, List.setIfInBounds_toArray, List.set_cons_zero, List.set_cons_succ]
      refine wpAnyH_take (i := 3) (v := undef) rfl (by kernel_rfl) (by kernel_rfl) (by kernel_rfl) (fun _ _ _ h => h) (Or.inr ⟨by rfl, rfl⟩) (by assumption) ?_
      simp only [List.getElem_toArray, List.getElem_cons_zero, List.getElem_cons_succ, Act.put, List.setIfInBounds_toArray, List.set_cons_zero, List.set_cons_succ]
      refine wpAnyH_take (i := 4) (v := undef) rfl (by kernel_rfl) (by kernel_rfl) (by kernel_rfl) (fun _ _ _ h => h) (Or.inr ⟨by rfl, rfl⟩) (by assumption) ?_
      simp only [List.getElem_toArray, List.getElem_cons_zero, List.getElem_cons_succ, Act.put, List.setIfInBounds_toArray, List.set_cons_zero, List.set_cons_succ]
      refine wpAnyH_take (i := 5) (v := undef) rfl (by kernel_rfl) (by kernel_rfl) (by kernel_rfl) (fun _ _ _ h => h) (Or.inr ⟨by rfl, rfl⟩) (by assumption) ?_
      simp only [List.getElem_toArray, List.getElem_cons_zero, List.getElem_cons_succ, Act.put, List.setIfInBounds_toArray, List.set_cons_zero, List.set_cons_succ]
      refine wpAnyH_take (i := 6) (v := undef) rfl (by kernel_rfl) (by kernel_rfl) (by kernel_rfl) (fun _ _ _ h => h) (Or.inr ⟨by rfl, rfl⟩) (by assumption) ?_
      simp only [List.getElem_toArray, List.getElem_cons_zero, List.getElem_cons_succ, Act.put, List.setIfInBounds_toArray, List.set_cons_zero, List.set_cons_succ]
      refine wpAnyH_take (i := 7) (v := undef) rfl (by kernel_rfl) (by kernel_rfl) (by kernel_rfl) (fun _ _ _ h => h) (Or.inr ⟨by rfl, rfl⟩) (by assumption) ?_
      simp only [List.getElem_toArray, List.getElem_cons_zero, List.getElem_cons_succ, Act.put, List.setIfInBounds_toArray, List.set_cons_zero, List.set_cons_succ]
      refine wpAnyH_take (i := 8) (v := undef) rfl (by kernel_rfl) (by kernel_rfl) (by kernel_rfl) (fun _ _ _ h => h) (Or.inr ⟨by rfl, rfl⟩) (by assumption) ?_
      simp only [List.getElem_toArray, List.getElem_cons_zero, List.getElem_cons_succ, Act.put, List.setIfInBounds_toArray, List.set_cons_zero, List.set_cons_succ]
      refine wpAnyH_take (i := 9) (v := undef) rfl (by kernel_rfl) (by kernel_rfl) (by kernel_rfl) (fun _ _ _ h => h) (Or.inr ⟨by rfl, rfl⟩) (by assumption) ?_
      simp only [List.getElem_toArray, List.getElem_cons_zero, List.getElem_cons_succ, Act.put, List.setIfInBounds_toArray, List.set_cons_zero, List.set_cons_succ]
      refine wpAnyH_take (i := 10) (v := undef) rfl (by kernel_rfl) (by kernel_rfl) (by kernel_rfl) (fun _ _ _ h => h) (Or.inr ⟨by rfl, rfl⟩) (by assumption) ?_
      simp only [List.getElem_toArray, List.getElem_cons_zero, List.getElem_cons_succ, Act.put, List.setIfInBounds_toArray, List.set_cons_zero, List.set_cons_succ]
      refine wpAnyH_take (i := 11) (v := undef) rfl (by kernel_rfl) (by kernel_rfl) (by kernel_rfl) (fun _ _ _ h => h) (Or.inr ⟨by rfl, rfl⟩) (by assumption) ?_
      simp only [List.getElem_toArray, List.getElem_cons_zero, List.getElem_cons_succ, Act.put, List.setIfInBounds_toArray, List.set_cons_zero, List.set_cons_succ]
      refine wpAnyH_take (i := 12) (v := undef) rfl (by kernel_rfl) (by kernel_rfl) (by kernel_rfl) (fun _ _ _ h => h) (Or.inr ⟨by rfl, rfl⟩) (by assumption) ?_
      simp only [List.getElem_toArray, List.getElem_cons_zero, List.getElem_cons_succ, Act.put, List.setIfInBounds_toArray, List.set_cons_zero, List.set_cons_succ]
      refine wpAnyH_take (i := 13) (v := undef) rfl (by kernel_rfl) (by kernel_rfl) (by kernel_rfl) (fun _ _ _ h => h) (Or.inr ⟨by rfl, rfl⟩) (by assumption) ?_
      simp only [List.getElem_toArray, List.getElem_cons_zero, List.getElem_cons_succ, Act.put, List.setIfInBounds_toArray, List.set_cons_zero, List.set_cons_succ]
      refine wpAnyH_take (i := 14) (v := undef) rfl (by kernel_rfl) (by kernel_rfl) (by kernel_rfl) (fun _ _ _ h => h) (Or.inr ⟨by rfl, rfl⟩) (by assumption) ?_
      simp only [List.getElem_toArray, List.getElem_cons_zero, List.getElem_cons_succ, Act.put, List.setIfInBounds_toArray, List.set_cons_zero, List.set_cons_succ]
      refine wpAnyH_take (i := 15) (v := undef) rfl (by kernel_rfl) (by kernel_rfl) (by kernel_rfl) (fun _ _ _ h => h) (Or.inr ⟨by rfl, rfl⟩) (by assumption) ?_
      simp only [List.getElem_toArray, List.getElem_cons_zero, List.getElem_cons_succ, Act.put, List.setIfInBounds_toArray, List.set_cons_zero, List.set_cons_succ]
      refine wpAnyH_take (i := 16) (v := undef) rfl (by kernel_rfl) (by kernel_rfl) (by kernel_rfl) (fun _ _ _ h => h) (Or.inr ⟨by rfl, rfl⟩) (by assumption) ?_
      simp only [List.getElem_toArray, List.getElem_cons_zero, List.getElem_cons_succ, Act.put, List.setIfInBounds_toArray, List.set_cons_zero, List.set_cons_succ]
      refine wpAnyH_take (i := 17) (v := undef) rfl (by kernel_rfl) (by kernel_rfl) (by kernel_rfl) (fun _ _ _ h => h) (Or.inr ⟨by rfl, rfl⟩) (by assumption) ?_
      simp only [List.getElem_toArray, List.getElem_cons_zero, List.getElem_cons_succ, Act.put, List.setIfInBounds_toArray, List.set_cons_zero, List.set_cons_succ]
      refine wpAnyH_take (i := 18) (v := undef) rfl (by kernel_rfl) (by kernel_rfl) (by kernel_rfl) (fun _ _ _ h => h) (Or.inr ⟨by rfl, rfl⟩) (by assumption) ?_
      simp only [List.getElem_toArray, List.getElem_cons_zero, List.getElem_cons_succ, Act.put, List.setIfInBounds_toArray, List.set_cons_zero, List.set_cons_succ]
      refine wpAnyH_take (i := 19) (v := undef) rfl (by kernel_rfl) (by kernel_rfl) (by kernel_rfl) (fun _ _ _ h => h) (Or.inr ⟨by rfl, rfl⟩) (by assumption) ?_
      simp only [List.getElem_toArray, List.getElem_cons_zero, List.getElem_cons_succ, Act.put, List.setIfInBounds_toArray, List.set_cons_zero, List.set_cons_succ]
      refine wpAnyH_take (i := 20) (v := undef) rfl (by kernel_rfl) (by kernel_rfl) (by kernel_rfl) (fun _ _ _ h => h) (Or.inr ⟨by rfl, rfl⟩) (by assumption) ?_
      simp only [List.getElem_toArray, List.getElem_cons_zero, List.getElem_cons_succ, Act.put, List.setIfInBounds_toArray, List.set_cons_zero, List.set_cons_succ]
      refine wpAnyH_take (i := 21) (v := ?_) rfl (by kernel_rfl) (by kernel_rfl) (by kernel_rfl) (fun _ _ _ h => h) (Or.inl ⟨by rfl, ?_⟩) (by assumption) ?_
      rotate_left
      · intro w hSw
        (try dsimp only at hSw)
        go_simp
        first | done | with_reducible rfl
      simp only [List.getElem_toArray, List.getElem_cons_zero, List.getElem_cons_succ, Act.put, List.setIfInBounds_toArray, List.set_cons_zero, List.set_cons_succ]
      refine wpAnyH_take (i := 22) (v := ?_) rfl (by kernel_rfl) (by kernel_rfl) (by kernel_rfl) (fun _ _ _ h => h) (Or.inl ⟨by rfl, ?_⟩) (by assumption) ?_
      rotate_left
      · intro w hSw
        (try dsimp only at hSw)
        go_simp
        first | done | with_reducible rfl
      simp only [List.getElem_toArray, List.getElem_cons_zero, List.getElem_cons_succ, Act.put, List.setIfInBounds_toArray, List.set_cons_zero, List.set_cons_succ]
      refine wpAnyH_done (by kernel_rfl) ?_ _
      have hB2 := bgo hB1 (below_undrew hbp)
      dsimp only [NoPanic]
      go_wp2
      go_ret
      exact ⟨rfl, hB2⟩
    · exact AllReadyH.nil
  | true =>
    have hrp := right_parts hrb
    simp only [] at hrp
    obtain ⟨hq0, hq1, hq2, hq3, hq4, hq5, hq6⟩ := hrp
    obtain ⟨ch, hch⟩ : ∃ ch, chalI c f0 f1 = ch := ⟨_, rfl⟩
    have hvb : ((e0 + e1) % 1073741789 == ch) = r := by rw [← hr.out]; unfold validB; rw [hrb]; simp only []; rw [hch]; rfl
    have H1 := Lib.hid hrb
    have Hch := Lib.hid hch
    have HR := Lib.hid hvb
    have hwr : IntKind.i64.wrap (e0 + e1) = e0 + e1 := IntWalk.i64_in _ (by omega)
    have htm : (e0 + e1).tmod 1073741789 = (e0 + e1) % 1073741789 := Int.tmod_eq_emod_of_nonneg (by omega)
    have hz0 : 0 ≤ c ∧ c < 2147483579 := by omega
    have hz1 : 0 ≤ f0 ∧ f0 < 2147483579 := by omega
    have hz2 : 0 ≤ f1 ∧ f1 < 2147483579 := by omega
    clear hrb hch hvb hr hq0 hq1 hq2
    go_enter Tryd.func36, Tryd.ntmps36
    go_wp2_with fail
    rw [← hw1]
    clear hw1
    go_region_held3 (fun w' => w'.cell? ⟨w.heap.size, 0, none⟩ = some (.int .i64 c) ∧ w'.cell? ⟨w.heap.size, 1, none⟩ = some (.int .i64 f0) ∧ w'.cell? ⟨w.heap.size, 2, none⟩ = some (.int .i64 f1) ∧ w'.cell? ⟨w.heap.size, 3, none⟩ = some (.int .i64 e0) ∧ w'.cell? ⟨w.heap.size, 4, none⟩ = some (.int .i64 e1) ∧ w'.cell? ⟨w.heap.size, 5, none⟩ = some (.int .i64 z0) ∧ w'.cell? ⟨w.heap.size, 6, none⟩ = some (.int .i64 z1))
      (go_keep)
      (first
        | (go_at_call 32; (with_reducible refine (rright_lit c f0 f1 e0 e1 z0 z1 true H1 w1.drew).mono ?_); rintro e wp ⟨rfl, hbp⟩; have hP2 := hP0.go hbp; have m0 := hP2.c0; have m1 := hP2.c1; have m2 := hP2.c2; have m3 := hP2.c3; have m4 := hP2.c4; have m5 := hP2.c5; have m6 := hP2.c6; simp only [] at m0 m1 m2 m3 m4 m5 m6)
        | (go_at_call 53; (with_reducible refine (rchal_v c f0 f1 ch Hch wp hz0 hz1 hz2).mono ?_); rintro e wq ⟨rfl, hbq⟩; have hP3 := hP2.go hbq; have n0 := hP3.c0; have n1 := hP3.c1; have n2 := hP3.c2; have n3 := hP3.c3; have n4 := hP3.c4; have n5 := hP3.c5; have n6 := hP3.c6; simp only [] at n0 n1 n2 n3 n4 n5 n6))
    have hB3 := bgo hB1 (bgo (below_undrew hbp) hbq)
    clear hwr htm hbp hbq hP0 hP1 hP2 hB1 m0 m1 m2 m3 m4 m5 m6 k0 k1 k2 k3 k4 k5 k6 n1 n2 n3 n4 n5 n6
    go_wp2
    go_ret
    exact ⟨by rw [← HR.out]; rfl, hB3⟩
end Go.Proofs.YthebahahpkficaaDoor
