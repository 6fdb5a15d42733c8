/- The walk of package rangeproof: right. -/
import Derived.Test.YthebahahpkficaaDoorRpW3
namespace Go.Proofs.YthebahahpkficaaDoor
open Go.RowKit
set_option linter.unusedVariables false
/-- A bit proof that lies in a block of its own. -/
def BPAt (W : World) (B : Nat) (p : BP) : Prop := ∃ t fr, W.heap[B]? = some (.cells #[.int .i64 p.c, .int .i64 p.f0, .int .i64 p.f1, .int .i64 p.e0, .int .i64 p.e1, .int .i64 p.z0, .int .i64 p.z1] t fr)
theorem BPAt.go {W W' : World} {B : Nat} {p : BP} (h : BPAt W B p) (hb : Below W.heap.size W W') : BPAt W' B p := by
  obtain ⟨t, fr, h'⟩ := h
  exact ⟨t, fr, (hb.block _ (Array.getElem?_eq_some_iff.1 h').1).trans h'⟩
theorem BPAt.c0 {W : World} {B : Nat} {p : BP} (h : BPAt W B p) : W.cell? ⟨B, 0, none⟩ = some (.int .i64 p.c) := by
  obtain ⟨t, fr, h⟩ := h
  simp only [World.cell?, h]
  rfl
theorem BPAt.c1 {W : World} {B : Nat} {p : BP} (h : BPAt W B p) : W.cell? ⟨B, 1, none⟩ = some (.int .i64 p.f0) := by
  obtain ⟨t, fr, h⟩ := h
  simp only [World.cell?, h]
  rfl
theorem BPAt.c2 {W : World} {B : Nat} {p : BP} (h : BPAt W B p) : W.cell? ⟨B, 2, none⟩ = some (.int .i64 p.f1) := by
  obtain ⟨t, fr, h⟩ := h
  simp only [World.cell?, h]
  rfl
theorem BPAt.c3 {W : World} {B : Nat} {p : BP} (h : BPAt W B p) : W.cell? ⟨B, 3, none⟩ = some (.int .i64 p.e0) := by
  obtain ⟨t, fr, h⟩ := h
  simp only [World.cell?, h]
  rfl
theorem BPAt.c4 {W : World} {B : Nat} {p : BP} (h : BPAt W B p) : W.cell? ⟨B, 4, none⟩ = some (.int .i64 p.e1) := by
  obtain ⟨t, fr, h⟩ := h
  simp only [World.cell?, h]
  rfl
theorem BPAt.c5 {W : World} {B : Nat} {p : BP} (h : BPAt W B p) : W.cell? ⟨B, 5, none⟩ = some (.int .i64 p.z0) := by
  obtain ⟨t, fr, h⟩ := h
  simp only [World.cell?, h]
  rfl
theorem BPAt.c6 {W : World} {B : Nat} {p : BP} (h : BPAt W B p) : W.cell? ⟨B, 6, none⟩ = some (.int .i64 p.z1) := by
  obtain ⟨t, fr, h⟩ := h
  simp only [World.cell?, h]
  rfl
theorem BPAt.lt {W : World} {B : Nat} {p : BP} (h : BPAt W B p) : B < W.heap.size := by
  obtain ⟨t, fr, h⟩ := h
  exact (Array.getElem?_eq_some_iff.1 h).1
set_option maxHeartbeats 8000000 in
set_option maxRecDepth 100000 in
theorem right_any (p : BP) (r : Bool) (hr : Hid (rightB p = r)) (w : World) :
    Calls Tryd.prog 30 #[bpVal p] w fun e w' => e = .returned (.bool r) ∧ Below w.heap.size w w' := by
  obtain ⟨c, f0, f1, e0, e1, z0, z1⟩ := p
  unfold bpVal
  simp only []
  obtain ⟨w0, hw0⟩ : ∃ w0, w0 = w.alloc (.cells #[.int .i64 c, .int .i64 f0, .int .i64 f1, .int .i64 e0, .int .i64 e1, .int .i64 z0, .int .i64 z1] 25) := ⟨_, rfl⟩
  have hB0 : Below w.heap.size w w0 := by rw [hw0]; exact bal (Below.refl _ _) _
  have hP0 : BPAt w0 w.heap.size ⟨c, f0, f1, e0, e1, z0, z1⟩ := ⟨_, _, by rw [hw0]; exact World.alloc_heap_new w _⟩
  cases hel : elB c with
  | false =>
    have hr' : r = false := by rw [← hr.out]; unfold rightB; simp only []; rw [hel]; rfl
    subst hr'
    have H1 := Lib.hid hel
    clear hr hel
    go_enter Tryd.func30, Tryd.ntmps30
    go_wp2_with fail
    rw [← hw0]
    clear hw0
    refine (relem_any c false H1 _).mono ?_
    rintro e w1 ⟨rfl, hB1⟩
    go_wp2
    go_ret
    exact ⟨rfl, bgo hB0 hB1⟩
  | true =>
    have H1 := Lib.hid hel
    cases hel2 : elB f0 with
    | false =>
      have hr' : r = false := by rw [← hr.out]; unfold rightB; simp only []; rw [hel2]; simp
      subst hr'
      have H2 := Lib.hid hel2
      clear hr hel hel2
      have hk1 := hP0.c1
      have hlt := hP0.lt
      go_enter Tryd.func30, Tryd.ntmps30
      go_wp2_with fail
      rw [← hw0]
      clear hw0
      refine (relem_any c true H1 _).mono ?_
      rintro e w1 ⟨rfl, hB1⟩
      have hc1 := (hP0.go hB1).c1
      clear hk1
      go_wp2_with fail
      refine (relem_any f0 false H2 _).mono ?_
      rintro e w2 ⟨rfl, hB2⟩
      go_wp2
      go_ret
      exact ⟨rfl, bgo hB0 (bgo hB1 hB2)⟩
    | true =>
      have H2 := Lib.hid hel2
      cases hel3 : elB f1 with
      | false =>
        have hr' : r = false := by rw [← hr.out]; unfold rightB; simp only []; rw [hel3]; simp
        subst hr'
        have H3 := Lib.hid hel3
        clear hr hel hel2 hel3
        go_enter Tryd.func30, Tryd.ntmps30
        go_wp2_with fail
        rw [← hw0]
        clear hw0
        refine (relem_any c true H1 _).mono ?_
        rintro e w1 ⟨rfl, hB1⟩
        have hP1 := hP0.go hB1
        have hc1 := hP1.c1
        go_wp2_with fail
        refine (relem_any f0 true H2 _).mono ?_
        rintro e w2 ⟨rfl, hB2⟩
        have hP2 := hP1.go hB2
        have hc2 := hP2.c2
        go_wp2_with fail
        refine (relem_any f1 false H3 _).mono ?_
        rintro e w3 ⟨rfl, hB3⟩
        go_wp2
        go_ret
        exact ⟨rfl, bgo hB0 (bgo (bgo hB1 hB2) hB3)⟩
      | true =>
        have H3 := Lib.hid hel3
        obtain ⟨cn, hcn, hcn1, _⟩ := elB_get hel
        obtain ⟨f0n, hf0n, hf0n1, _⟩ := elB_get hel2
        obtain ⟨f1n, hf1n, hf1n1, _⟩ := elB_get hel3
        have hcb : 0 ≤ c ∧ c < 2147483579 := by have : cn < 2147483579 := hcn1; omega
        have hf0b : 0 ≤ f0 ∧ f0 < 2147483579 := by have : f0n < 2147483579 := hf0n1; omega
        have hf1b : 0 ≤ f1 ∧ f1 < 2147483579 := by have : f1n < 2147483579 := hf1n1; omega
        clear hcn hcn1 hf0n hf0n1 hf1n hf1n1
        have hr2 : (sideB c f0 e0 z0 0 && sideB c f1 e1 z1 1) = r := by
          rw [← hr.out]; unfold rightB; simp only []; rw [hel, hel2, hel3]; simp
        have HR := Lib.hid hr2
        clear hr hel hel2 hel3 hr2
        go_enter Tryd.func30, Tryd.ntmps30
        go_wp2_with fail
        rw [← hw0]
        clear hw0
        refine (relem_any c true H1 _).mono ?_
        rintro e w1 ⟨rfl, hB1⟩
        have hP1 := hP0.go hB1
        have hc1 := hP1.c1
        go_wp2_with fail
        refine (relem_any f0 true H2 _).mono ?_
        rintro e w2 ⟨rfl, hB2⟩
        have hP2 := hP1.go hB2
        have hc2 := hP2.c2
        go_wp2_with fail
        refine (relem_any f1 true H3 _).mono ?_
        rintro e w3 ⟨rfl, hB3⟩
        have hP3 := hP2.go hB3
        have hBw := bgo hB0 (bgo (bgo hB1 hB2) hB3)
        clear hB1 hB2 hB3 hc1 hc2 hP0 hP1 hP2 hB0
        go_wp2
        go_loopw [23] (fun i wr => ∃ k : Nat, k ≤ 2 ∧ i = .int .i64 k ∧ Hid (0 < k → sideB c f0 e0 z0 0 = true) ∧ Hid (1 < k → sideB c f1 e1 z1 1 = true) ∧ BPAt wr w.heap.size ⟨c, f0, f1, e0, e1, z0, z1⟩ ∧ Below w.heap.size w wr) (fun i _ => 2 - (intOf i).toNat)
        case atStart => exact ⟨0, by omega, rfl, Lib.hid (fun h => by omega), Lib.hid (fun h => by omega), hP3, hBw⟩
        case round =>
          clear hP3 hBw
          obtain ⟨k, hk, rfl, HS0, HS1, hP, hB⟩ := hrel
          rcases (show k = 0 ∨ k = 1 ∨ k = 2 by omega) with rfl | rfl | rfl
          · have hke := hP.c3
            have hkz := hP.c5
            have hkf := hP.c1
            have hkc := hP.c0
            have hlt := hP.lt
            simp only [] at hke hkz hkf hkc
            cases hie : inFB e0 with
            | false =>
              have hs : sideB c f0 e0 z0 0 = false := by unfold sideB; rw [hie]; rfl
              have hr' : r = false := by rw [← HR.out, hs]; rfl
              subst hr'
              have HE := Lib.hid hie
              clear hie hs HR
              go_wp2_with fail
              refine (inF_any e0 false HE _).mono ?_
              rintro e w' ⟨rfl, rfl⟩
              go_wp2
              go_ret
              exact ⟨rfl, hB⟩
            | true =>
              have HE := Lib.hid hie
              cases hiz : inFB z0 with
              | false =>
                have hs : sideB c f0 e0 z0 0 = false := by unfold sideB; rw [hie, hiz]; rfl
                have hr' : r = false := by rw [← HR.out, hs]; rfl
                subst hr'
                have HZ := Lib.hid hiz
                clear hie hiz hs HR
                go_wp2_with fail
                refine (inF_any e0 true HE _).mono ?_
                rintro e w' ⟨rfl, rfl⟩
                go_wp2_with fail
                refine (inF_any z0 false HZ _).mono ?_
                rintro e w' ⟨rfl, rfl⟩
                go_wp2
                go_ret
                exact ⟨rfl, hB⟩
              | true =>
                have HZ := Lib.hid hiz
                obtain ⟨en, hen, hen1⟩ := inFB_get hie
                obtain ⟨zn, hzn, hzn1⟩ := inFB_get hiz
                have heb : 0 ≤ e0 ∧ e0 < 1073741789 := by have : en < 1073741789 := hen1; omega
                have hzb : 0 ≤ z0 ∧ z0 < 1073741789 := by have : zn < 1073741789 := hzn1; omega
                obtain ⟨d, hd⟩ : ∃ d, divI c 0 = d := ⟨_, rfl⟩
                have hdb := divI_bd c 0
                rw [hd] at hdb
                obtain ⟨y, hy⟩ : ∃ y, pwI d e0 = y := ⟨_, rfl⟩
                have hyb := pwI_bd d e0
                rw [hy] at hyb
                obtain ⟨v, hv⟩ : ∃ v, pwI 9 z0 = v := ⟨_, rfl⟩
                have hfy := mulB hf0b.1 hf0b.2 hyb.1 hyb.2
                have hs : sideB c f0 e0 z0 0 = (v == f0 * y % 2147483579) := by unfold sideB; rw [hie, hiz, hd, hy, hv]; rfl
                have HSd := Lib.hid hs
                have Hd := Lib.hid hd
                have Hy := Lib.hid hy
                have Hv := Lib.hid hv
                clear hie hiz hen hen1 hzn hzn1 hd hy hv hs
                go_wp2_with fail
                refine (inF_any e0 true HE _).mono ?_
                rintro e w' ⟨rfl, rfl⟩
                go_wp2_with fail
                refine (inF_any z0 true HZ _).mono ?_
                rintro e w' ⟨rfl, rfl⟩
                go_wp2_with fail
                have hP0 : BPAt wr.drew w.heap.size ⟨c, f0, f1, e0, e1, z0, z1⟩ := hP
                go_region_held3 (fun w' => w'.cell? ⟨w.heap.size, 3, none⟩ = some (.int .i64 e0) ∧ w'.cell? ⟨w.heap.size, 0, none⟩ = some (.int .i64 c))
                  (go_keep)
                  (first
                    | (go_at_call 56; (with_reducible refine (divided_any c 0 d Hd (by omega) (by omega) (by omega) (by omega) wr.drew).mono ?_); rintro e wp ⟨rfl, hbp⟩; have hP1 := hP0.go hbp; have hp1 := hP1.c3; have hp2 := hP1.c0; simp only [] at hp1 hp2)
                    | (go_at_call 35; (with_reducible refine (inGroup_v d e0 y wp (by omega) (by omega) (by omega) (by omega) Hy).mono ?_); rintro e wq ⟨rfl, hbq⟩; have hP2 := hP1.go hbq; have hq1 := hP2.c3; have hq2 := hP2.c0; simp only [] at hq1 hq2))
                have hBq := bgo hB (bgo (below_undrew hbp) hbq)
                clear hbp hbq hP0 hP1 hp1 hp2 hke hkz hkf hkc hP hB
                have hkz := hP2.c5
                have hkf := hP2.c1
                simp only [] at hkz hkf
                go_wp2_with fail
                have hP0 : BPAt wq.drew w.heap.size ⟨c, f0, f1, e0, e1, z0, z1⟩ := hP2
                have hwr : IntKind.i64.wrap (f0 * y) = f0 * y := IntWalk.i64_in _ (by omega)
                have htm : (f0 * y).tmod 2147483579 = f0 * y % 2147483579 := Int.tmod_eq_emod_of_nonneg hfy.1
                go_region_held3 (fun w' => w'.cell? ⟨w.heap.size, 5, none⟩ = some (.int .i64 z0) ∧ w'.cell? ⟨w.heap.size, 1, none⟩ = some (.int .i64 f0))
                  (go_keep)
                  (first
                    | (go_at_call 35; (with_reducible refine (inGroup_v 9 z0 v wq.drew (by omega) (by omega) (by omega) (by omega) Hv).mono ?_); rintro e wt ⟨rfl, hbt⟩; have hP3 := hP0.go hbt; have hp1 := hP3.c5; have hp2 := hP3.c1; simp only [] at hp1 hp2))
                have hBt := bgo hBq (below_undrew hbt)
                clear hwr htm hbt hBq hP0 hp1 hp2 hkz hkf hq1 hq2 hP2
                by_cases heq : v = f0 * y % 2147483579
                · have hne : (v != f0 * y % 2147483579) = false := by simp [heq]
                  have HT' : Hid (sideB c f0 e0 z0 0 = true) := Lib.hid (by rw [HSd.out]; simp [heq])
                  clear heq
                  go_wp2
                  go_roundw
                  case rel => exact ⟨1, by omega, by go_num, Lib.hid (fun _ => HT'.out), Lib.hid (fun h => by omega), hP3, hBt⟩
                  case measure => simp [intOf]
                · have hne : (v != f0 * y % 2147483579) = true := by simp [heq]
                  have hs : sideB c f0 e0 z0 0 = false := by rw [HSd.out]; simp [heq]
                  have hr' : r = false := by rw [← HR.out, hs]; rfl
                  subst hr'
                  clear heq hs HR
                  go_wp2
                  go_ret
                  exact ⟨rfl, hBt⟩
          · have hke := hP.c4
            have hkz := hP.c6
            have hkf := hP.c2
            have hkc := hP.c0
            have hlt := hP.lt
            simp only [] at hke hkz hkf hkc
            cases hie : inFB e1 with
            | false =>
              have hs : sideB c f1 e1 z1 1 = false := by unfold sideB; rw [hie]; rfl
              have hr' : r = false := by rw [← HR.out, hs]; simp
              subst hr'
              have HE := Lib.hid hie
              clear hie hs HR
              go_wp2_with fail
              refine (inF_any e1 false HE _).mono ?_
              rintro e w' ⟨rfl, rfl⟩
              go_wp2
              go_ret
              exact ⟨rfl, hB⟩
            | true =>
              have HE := Lib.hid hie
              cases hiz : inFB z1 with
              | false =>
                have hs : sideB c f1 e1 z1 1 = false := by unfold sideB; rw [hie, hiz]; rfl
                have hr' : r = false := by rw [← HR.out, hs]; simp
                subst hr'
                have HZ := Lib.hid hiz
                clear hie hiz hs HR
                go_wp2_with fail
                refine (inF_any e1 true HE _).mono ?_
                rintro e w' ⟨rfl, rfl⟩
                go_wp2_with fail
                refine (inF_any z1 false HZ _).mono ?_
                rintro e w' ⟨rfl, rfl⟩
                go_wp2
                go_ret
                exact ⟨rfl, hB⟩
              | true =>
                have HZ := Lib.hid hiz
                obtain ⟨en, hen, hen1⟩ := inFB_get hie
                obtain ⟨zn, hzn, hzn1⟩ := inFB_get hiz
                have heb : 0 ≤ e1 ∧ e1 < 1073741789 := by have : en < 1073741789 := hen1; omega
                have hzb : 0 ≤ z1 ∧ z1 < 1073741789 := by have : zn < 1073741789 := hzn1; omega
                obtain ⟨d, hd⟩ : ∃ d, divI c 1 = d := ⟨_, rfl⟩
                have hdb := divI_bd c 1
                rw [hd] at hdb
                obtain ⟨y, hy⟩ : ∃ y, pwI d e1 = y := ⟨_, rfl⟩
                have hyb := pwI_bd d e1
                rw [hy] at hyb
                obtain ⟨v, hv⟩ : ∃ v, pwI 9 z1 = v := ⟨_, rfl⟩
                have hfy := mulB hf1b.1 hf1b.2 hyb.1 hyb.2
                have hs : sideB c f1 e1 z1 1 = (v == f1 * y % 2147483579) := by unfold sideB; rw [hie, hiz, hd, hy, hv]; rfl
                have HSd := Lib.hid hs
                have Hd := Lib.hid hd
                have Hy := Lib.hid hy
                have Hv := Lib.hid hv
                clear hie hiz hen hen1 hzn hzn1 hd hy hv hs
                go_wp2_with fail
                refine (inF_any e1 true HE _).mono ?_
                rintro e w' ⟨rfl, rfl⟩
                go_wp2_with fail
                refine (inF_any z1 true HZ _).mono ?_
                rintro e w' ⟨rfl, rfl⟩
                go_wp2_with fail
                have hP0 : BPAt wr.drew w.heap.size ⟨c, f0, f1, e0, e1, z0, z1⟩ := hP
                go_region_held3 (fun w' => w'.cell? ⟨w.heap.size, 4, none⟩ = some (.int .i64 e1) ∧ w'.cell? ⟨w.heap.size, 0, none⟩ = some (.int .i64 c))
                  (go_keep)
                  (first
                    | (go_at_call 56; (with_reducible refine (divided_any c 1 d Hd (by omega) (by omega) (by omega) (by omega) wr.drew).mono ?_); rintro e wp ⟨rfl, hbp⟩; have hP1 := hP0.go hbp; have hp1 := hP1.c4; have hp2 := hP1.c0; simp only [] at hp1 hp2)
                    | (go_at_call 35; (with_reducible refine (inGroup_v d e1 y wp (by omega) (by omega) (by omega) (by omega) Hy).mono ?_); rintro e wq ⟨rfl, hbq⟩; have hP2 := hP1.go hbq; have hq1 := hP2.c4; have hq2 := hP2.c0; simp only [] at hq1 hq2))
                have hBq := bgo hB (bgo (below_undrew hbp) hbq)
                clear hbp hbq hP0 hP1 hp1 hp2 hke hkz hkf hkc hP hB
                have hkz := hP2.c6
                have hkf := hP2.c2
                simp only [] at hkz hkf
                go_wp2_with fail
                have hP0 : BPAt wq.drew w.heap.size ⟨c, f0, f1, e0, e1, z0, z1⟩ := hP2
                have hwr : IntKind.i64.wrap (f1 * y) = f1 * y := IntWalk.i64_in _ (by omega)
                have htm : (f1 * y).tmod 2147483579 = f1 * y % 2147483579 := Int.tmod_eq_emod_of_nonneg hfy.1
                go_region_held3 (fun w' => w'.cell? ⟨w.heap.size, 6, none⟩ = some (.int .i64 z1) ∧ w'.cell? ⟨w.heap.size, 2, none⟩ = some (.int .i64 f1))
                  (go_keep)
                  (first
                    | (go_at_call 35; (with_reducible refine (inGroup_v 9 z1 v wq.drew (by omega) (by omega) (by omega) (by omega) Hv).mono ?_); rintro e wt ⟨rfl, hbt⟩; have hP3 := hP0.go hbt; have hp1 := hP3.c6; have hp2 := hP3.c2; simp only [] at hp1 hp2))
                have hBt := bgo hBq (below_undrew hbt)
                clear hwr htm hbt hBq hP0 hp1 hp2 hkz hkf hq1 hq2 hP2
                by_cases heq : v = f1 * y % 2147483579
                · have hne : (v != f1 * y % 2147483579) = false := by simp [heq]
                  have HT' : Hid (sideB c f1 e1 z1 1 = true) := Lib.hid (by rw [HSd.out]; simp [heq])
                  clear heq
                  go_wp2
                  go_roundw
                  case rel => exact ⟨2, by omega, by go_num, Lib.hid (fun _ => HS0.out (by omega)), Lib.hid (fun _ => HT'.out), hP3, hBt⟩
                  case measure => simp [intOf]
                · have hne : (v != f1 * y % 2147483579) = true := by simp [heq]
                  have hs : sideB c f1 e1 z1 1 = false := by rw [HSd.out]; simp [heq]
                  have hr' : r = false := by rw [← HR.out, hs]; simp
                  subst hr'
                  clear heq hs HR
                  go_wp2
                  go_ret
                  exact ⟨rfl, hBt⟩
          · have hr' : r = true := by rw [← HR.out, HS0.out (by omega), HS1.out (by omega)]; rfl
            subst hr'
            clear HR HS0 HS1
            go_wp2
            go_ret
            exact ⟨rfl, hB⟩
end Go.Proofs.YthebahahpkficaaDoor

