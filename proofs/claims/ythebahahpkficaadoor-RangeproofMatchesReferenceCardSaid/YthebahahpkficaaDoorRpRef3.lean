/- The walks of the reference package 27, third part: Right. -/
import Derived.Test.YthebahahpkficaaDoorRpRef2
namespace Go.Proofs.YthebahahpkficaaDoor
open Go.RowKit
set_option linter.unusedVariables false
set_option maxHeartbeats 8000000 in
set_option maxRecDepth 100000 in
theorem rright_lit (c f0 f1 e0 e1 z0 z1 : Int) (r : Bool) (hr : Hid (rightB ⟨c, f0, f1, e0, e1, z0, z1⟩ = r)) (w : World) :
    Calls Tryd.prog 32 #[.agg #[.int .i64 c, .int .i64 f0, .int .i64 f1, .int .i64 e0, .int .i64 e1, .int .i64 z0, .int .i64 z1]] w fun e w' => e = .returned (.bool r) ∧ Below w.heap.size w w' := by
  obtain ⟨w0, hw0⟩ : ∃ w0, w0 = w.alloc (.cells #[.int .i64 c, .int .i64 f0, .int .i64 f1, .int .i64 e0, .int .i64 e1, .int .i64 z0, .int .i64 z1] 25) := ⟨_, rfl⟩
  have hB0 : Below w.heap.size w w0 := by rw [hw0]; exact bal (Below.refl _ _) _
  have hP0 : BPAt w0 w.heap.size ⟨c, f0, f1, e0, e1, z0, z1⟩ := ⟨_, _, by rw [hw0]; exact World.alloc_heap_new w _⟩
  cases hel : elB c with
  | false =>
    have hr' : r = false := by rw [← hr.out]; unfold rightB; simp only []; rw [hel]; rfl
    subst hr'
    have H1 := Lib.hid hel
    clear hr hel
    go_enter Tryd.func32, Tryd.ntmps32
    go_wp2_with fail
    rw [← hw0]
    clear hw0
    refine (relement_v c false H1 _).mono ?_
    rintro e w1 ⟨rfl, rfl⟩
    go_wp2
    go_ret
    exact ⟨rfl, hB0⟩
  | true =>
    have H1 := Lib.hid hel
    obtain ⟨cn, hcn, hcn1, _⟩ := elB_get hel
    have hcb : 0 ≤ c ∧ c < 2147483579 := by have : cn < 2147483579 := hcn1; omega
    have hr2 : ((elB f0 && elB f1) && (sideB c f0 e0 z0 0 && sideB c f1 e1 z1 1)) = r := by
      rw [← hr.out]; unfold rightB; simp only []; rw [hel]; simp
    have HR := Lib.hid hr2
    clear hr hel hr2 hcn hcn1
    go_enter Tryd.func32, Tryd.ntmps32
    go_wp2_with fail
    rw [← hw0]
    clear hw0
    refine (relement_v c true H1 _).mono ?_
    rintro e w1 ⟨rfl, rfl⟩
    go_wp2
    go_loopw [3] (fun i wr => ∃ k : Nat, k ≤ 2 ∧ i = .int .i64 k ∧ Hid (0 < k → elB f0 = true ∧ sideB c f0 e0 z0 0 = true) ∧ Hid (1 < k → elB f1 = true ∧ sideB c f1 e1 z1 1 = true) ∧ BPAt wr w.heap.size ⟨c, f0, f1, e0, e1, z0, z1⟩ ∧ Below w.heap.size w wr) (fun i _ => 2 - (intOf i).toNat)
    case atStart => exact ⟨0, by omega, rfl, Lib.hid (fun h => by omega), Lib.hid (fun h => by omega), hP0, hB0⟩
    case round =>
      clear hP0 hB0
      obtain ⟨k, hk, rfl, HS0, HS1, hP, hB⟩ := hrel
      rcases (show k = 0 ∨ k = 1 ∨ k = 2 by omega) with rfl | rfl | rfl
      · have hke := hP.c3
        have hkz := hP.c5
        have hkf := hP.c1
        have hkc := hP.c0
        simp only [] at hke hkz hkf hkc
        cases hif : elB f0 with
        | false =>
          have hr' : r = false := by rw [← HR.out, hif]; simp
          subst hr'
          have HF := Lib.hid hif
          clear hif HR
          go_wp2_with fail
          refine (relement_v f0 false HF _).mono ?_
          rintro e w' ⟨rfl, rfl⟩
          go_wp2
          go_ret
          exact ⟨rfl, hB⟩
        | true =>
          have HF := Lib.hid hif
          obtain ⟨fn, hfn, hfn1, _⟩ := elB_get hif
          have hfb : 0 ≤ f0 ∧ f0 < 2147483579 := by have : fn < 2147483579 := hfn1; omega
          clear hfn hfn1
          cases hie : inFB e0 with
          | false =>
            have hs : sideB c f0 e0 z0 0 = false := by unfold sideB; rw [hie]; rfl
            have hr' : r = false := by rw [← HR.out, hs]; simp
            subst hr'
            have HE := Lib.hid hie
            clear hie hs HR hif
            go_wp2_with fail
            refine (relement_v f0 true HF _).mono ?_
            rintro e w' ⟨rfl, rfl⟩
            go_wp2_with fail
            refine (rnumber_v e0 false HE _).mono ?_
            rintro e w' ⟨rfl, rfl⟩
            go_wp2
            go_ret
            exact ⟨rfl, hB⟩
          | true =>
            have HE := Lib.hid hie
            cases hiz : inFB z0 with
            | false =>
              have hs : sideB c f0 e0 z0 0 = false := by unfold sideB; rw [hie, hiz]; rfl
              have hr' : r = false := by rw [← HR.out, hs]; simp
              subst hr'
              have HZ := Lib.hid hiz
              clear hie hiz hs HR hif
              go_wp2_with fail
              refine (relement_v f0 true HF _).mono ?_
              rintro e w' ⟨rfl, rfl⟩
              go_wp2_with fail
              refine (rnumber_v e0 true HE _).mono ?_
              rintro e w' ⟨rfl, rfl⟩
              go_wp2_with fail
              refine (rnumber_v z0 false HZ _).mono ?_
              rintro e w' ⟨rfl, rfl⟩
              go_wp2
              go_ret
              exact ⟨rfl, hB⟩
            | true =>
              have HZ := Lib.hid hiz
              obtain ⟨en, hen, hen1⟩ := inFB_get hie
              obtain ⟨zn, hzn, hzn1⟩ := inFB_get hiz
              have heb : 0 ≤ e0 ∧ e0 < 1073741789 := by have : en < 1073741789 := hen1; omega
              have hzb : 0 ≤ z0 ∧ z0 < 1073741789 := by have : zn < 1073741789 := hzn1; omega
              obtain ⟨d, hd⟩ : ∃ d, divI c 0 = d := ⟨_, rfl⟩
              have hdb := divI_bd c 0
              rw [hd] at hdb
              obtain ⟨y, hy⟩ : ∃ y, pwI d e0 = y := ⟨_, rfl⟩
              have hyb := pwI_bd d e0
              rw [hy] at hyb
              obtain ⟨v, hv⟩ : ∃ v, pwI 9 z0 = v := ⟨_, rfl⟩
              obtain ⟨g, hg⟩ : ∃ g, f0 * y % 2147483579 = g := ⟨_, rfl⟩
              have hs : sideB c f0 e0 z0 0 = (v == g) := by unfold sideB; rw [hie, hiz, hd, hy, hv, hg]; rfl
              have HSd := Lib.hid hs
              have Hd := Lib.hid hd
              have Hy := Lib.hid hy
              have Hv := Lib.hid hv
              have Hg := Lib.hid hg
              clear hie hiz hen hen1 hzn hzn1 hd hy hv hs hg
              go_wp2_with fail
              refine (relement_v f0 true HF _).mono ?_
              rintro e w' ⟨rfl, rfl⟩
              go_wp2_with fail
              refine (rnumber_v e0 true HE _).mono ?_
              rintro e w' ⟨rfl, rfl⟩
              go_wp2_with fail
              refine (rnumber_v z0 true HZ _).mono ?_
              rintro e w' ⟨rfl, rfl⟩
              go_wp2_with fail
              go_region_held3 (fun w' => w'.cell? ⟨w.heap.size, 5, none⟩ = some (.int .i64 z0) ∧ w'.cell? ⟨w.heap.size, 1, none⟩ = some (.int .i64 f0) ∧ w'.cell? ⟨w.heap.size, 0, none⟩ = some (.int .i64 c) ∧ w'.cell? ⟨w.heap.size, 3, none⟩ = some (.int .i64 e0))
                (go_keep)
                (first
                  | (go_at_call 50; (with_reducible refine (rpower_v 9 z0 v wr.drew (by omega) (by omega) (by omega) (by omega) Hv).mono ?_); rintro e w' ⟨rfl, rfl⟩)
                  | (go_at_call 52; (with_reducible refine (shifted_v c 0 d (by omega) Hd wr.drew hcb.1 hcb.2).mono ?_); rintro e w' ⟨rfl, rfl⟩)
                  | (go_at_call 50; (with_reducible refine (rpower_v d e0 y wr.drew (by omega) (by omega) (by omega) (by omega) Hy).mono ?_); rintro e w' ⟨rfl, rfl⟩)
                  | (go_at_call 49; (with_reducible refine (times_v f0 y g Hg wr.drew hfb.1 hfb.2 hyb.1 hyb.2).mono ?_); rintro e w' ⟨rfl, rfl⟩))
              all_goals
                by_cases heq : v = g
                · have hne : (v != g) = false := by simp [heq]
                  have HT' : Hid (elB f0 = true ∧ sideB c f0 e0 z0 0 = true) := Lib.hid ⟨hif, by rw [HSd.out]; simp [heq]⟩
                  clear heq hif
                  go_wp2
                  go_roundw
                  case rel => exact ⟨1, by omega, by go_num, Lib.hid (fun _ => ⟨trivial, HT'.out.2⟩), Lib.hid (fun h => by omega), hP, hB.drew⟩
                  case measure => simp [intOf]
                · have hne : (v != g) = true := by simp [heq]
                  have hs : sideB c f0 e0 z0 0 = false := by rw [HSd.out]; simp [heq]
                  have hr' : r = false := by rw [← HR.out, hs]; simp
                  subst hr'
                  clear heq hs HR hif
                  go_wp2
                  go_ret
                  exact ⟨rfl, hB.drew⟩
      · have hke := hP.c4
        have hkz := hP.c6
        have hkf := hP.c2
        have hkc := hP.c0
        simp only [] at hke hkz hkf hkc
        cases hif : elB f1 with
        | false =>
          have hr' : r = false := by rw [← HR.out, hif]; simp
          subst hr'
          have HF := Lib.hid hif
          clear hif HR
          go_wp2_with fail
          refine (relement_v f1 false HF _).mono ?_
          rintro e w' ⟨rfl, rfl⟩
          go_wp2
          go_ret
          exact ⟨rfl, hB⟩
        | true =>
          have HF := Lib.hid hif
          obtain ⟨fn, hfn, hfn1, _⟩ := elB_get hif
          have hfb : 0 ≤ f1 ∧ f1 < 2147483579 := by have : fn < 2147483579 := hfn1; omega
          clear hfn hfn1
          cases hie : inFB e1 with
          | false =>
            have hs : sideB c f1 e1 z1 1 = false := by unfold sideB; rw [hie]; rfl
            have hr' : r = false := by rw [← HR.out, hs]; simp
            subst hr'
            have HE := Lib.hid hie
            clear hie hs HR hif
            go_wp2_with fail
            refine (relement_v f1 true HF _).mono ?_
            rintro e w' ⟨rfl, rfl⟩
            go_wp2_with fail
            refine (rnumber_v e1 false HE _).mono ?_
            rintro e w' ⟨rfl, rfl⟩
            go_wp2
            go_ret
            exact ⟨rfl, hB⟩
          | true =>
            have HE := Lib.hid hie
            cases hiz : inFB z1 with
            | false =>
              have hs : sideB c f1 e1 z1 1 = false := by unfold sideB; rw [hie, hiz]; rfl
              have hr' : r = false := by rw [← HR.out, hs]; simp
              subst hr'
              have HZ := Lib.hid hiz
              clear hie hiz hs HR hif
              go_wp2_with fail
              refine (relement_v f1 true HF _).mono ?_
              rintro e w' ⟨rfl, rfl⟩
              go_wp2_with fail
              refine (rnumber_v e1 true HE _).mono ?_
              rintro e w' ⟨rfl, rfl⟩
              go_wp2_with fail
              refine (rnumber_v z1 false HZ _).mono ?_
              rintro e w' ⟨rfl, rfl⟩
              go_wp2
              go_ret
              exact ⟨rfl, hB⟩
            | true =>
              have HZ := Lib.hid hiz
              obtain ⟨en, hen, hen1⟩ := inFB_get hie
              obtain ⟨zn, hzn, hzn1⟩ := inFB_get hiz
              have heb : 0 ≤ e1 ∧ e1 < 1073741789 := by have : en < 1073741789 := hen1; omega
              have hzb : 0 ≤ z1 ∧ z1 < 1073741789 := by have : zn < 1073741789 := hzn1; omega
              obtain ⟨d, hd⟩ : ∃ d, divI c 1 = d := ⟨_, rfl⟩
              have hdb := divI_bd c 1
              rw [hd] at hdb
              obtain ⟨y, hy⟩ : ∃ y, pwI d e1 = y := ⟨_, rfl⟩
              have hyb := pwI_bd d e1
              rw [hy] at hyb
              obtain ⟨v, hv⟩ : ∃ v, pwI 9 z1 = v := ⟨_, rfl⟩
              obtain ⟨g, hg⟩ : ∃ g, f1 * y % 2147483579 = g := ⟨_, rfl⟩
              have hs : sideB c f1 e1 z1 1 = (v == g) := by unfold sideB; rw [hie, hiz, hd, hy, hv, hg]; rfl
              have HSd := Lib.hid hs
              have Hd := Lib.hid hd
              have Hy := Lib.hid hy
              have Hv := Lib.hid hv
              have Hg := Lib.hid hg
              clear hie hiz hen hen1 hzn hzn1 hd hy hv hs hg
              go_wp2_with fail
              refine (relement_v f1 true HF _).mono ?_
              rintro e w' ⟨rfl, rfl⟩
              go_wp2_with fail
              refine (rnumber_v e1 true HE _).mono ?_
              rintro e w' ⟨rfl, rfl⟩
              go_wp2_with fail
              refine (rnumber_v z1 true HZ _).mono ?_
              rintro e w' ⟨rfl, rfl⟩
              go_wp2_with fail
              go_region_held3 (fun w' => w'.cell? ⟨w.heap.size, 6, none⟩ = some (.int .i64 z1) ∧ w'.cell? ⟨w.heap.size, 2, none⟩ = some (.int .i64 f1) ∧ w'.cell? ⟨w.heap.size, 0, none⟩ = some (.int .i64 c) ∧ w'.cell? ⟨w.heap.size, 4, none⟩ = some (.int .i64 e1))
                (go_keep)
                (first
                  | (go_at_call 50; (with_reducible refine (rpower_v 9 z1 v wr.drew (by omega) (by omega) (by omega) (by omega) Hv).mono ?_); rintro e w' ⟨rfl, rfl⟩)
                  | (go_at_call 52; (with_reducible refine (shifted_v c 1 d (by omega) Hd wr.drew hcb.1 hcb.2).mono ?_); rintro e w' ⟨rfl, rfl⟩)
                  | (go_at_call 50; (with_reducible refine (rpower_v d e1 y wr.drew (by omega) (by omega) (by omega) (by omega) Hy).mono ?_); rintro e w' ⟨rfl, rfl⟩)
                  | (go_at_call 49; (with_reducible refine (times_v f1 y g Hg wr.drew hfb.1 hfb.2 hyb.1 hyb.2).mono ?_); rintro e w' ⟨rfl, rfl⟩))
              all_goals
                by_cases heq : v = g
                · have hne : (v != g) = false := by simp [heq]
                  have HT' : Hid (elB f1 = true ∧ sideB c f1 e1 z1 1 = true) := Lib.hid ⟨hif, by rw [HSd.out]; simp [heq]⟩
                  clear heq hif
                  go_wp2
                  go_roundw
                  case rel => exact ⟨2, by omega, by go_num, Lib.hid (fun _ => HS0.out (by omega)), Lib.hid (fun _ => ⟨trivial, HT'.out.2⟩), hP, hB.drew⟩
                  case measure => simp [intOf]
                · have hne : (v != g) = true := by simp [heq]
                  have hs : sideB c f1 e1 z1 1 = false := by rw [HSd.out]; simp [heq]
                  have hr' : r = false := by rw [← HR.out, hs]; simp
                  subst hr'
                  clear heq hs HR hif
                  go_wp2
                  go_ret
                  exact ⟨rfl, hB.drew⟩
      · have hr' : r = true := by rw [← HR.out, (HS0.out (by omega)).1, (HS1.out (by omega)).1, (HS0.out (by omega)).2, (HS1.out (by omega)).2]; rfl
        subst hr'
        clear HR HS0 HS1
        go_wp2
        go_ret
        exact ⟨rfl, hB⟩
end Go.Proofs.YthebahahpkficaaDoor

