/- The walks of the reference's Blind and Seal (layer 35). -/
import Derived.Test.YtfjkmhbipkoefaaDoorQ21
import Derived.Test.YtfjkmhbipkoefaaDoorQ23
import Derived.Test.YtfjkmhbipkoefaaDoorQ15
namespace Go.Proofs.YtfjkmhbipkoefaaDoor
open Go.RowKit Go.Shelf
set_option linter.unusedVariables false
set_option linter.unusedSimpArgs false
set_option maxRecDepth 100000
theorem rsum35_at (s : ByteArray) (v : UInt64) (hv : Hid (Dig.sum s.data.toList = v)) (hs : s.size ≤ maxLen) (w : World) : Calls Tryd.prog 52 #[.string s] w fun e w' => e = .returned (.int .u64 v.toNat) ∧ w = w' := by
  rw [← hv.out]; exact rsum_any s w hs
set_option maxHeartbeats 2000000 in
theorem rblind_at (person : ByteArray) (month : Int) (k : Nat) (seed : ByteArray) (bv : Int) (hb : Hid (blindI person month seed k = bv)) (hp : person.size ≤ 16) (hm : I64 month) (hs : seed.size ≤ 64) (hk : k ≤ 1024) (w : World) :
    Calls Tryd.prog 31 #[.string person, .int .i64 month, .int .i64 (k : Int), .string seed] w fun e w' => e = .returned (.int .i64 bv) ∧ Below w.heap.size w w' := by
  obtain ⟨t1, ht1⟩ : ∃ t, itoaB (k : Int) = t := ⟨_, rfl⟩
  obtain ⟨t2, ht2⟩ : ∃ t, itoaB month = t := ⟨_, rfl⟩
  obtain ⟨t, ht⟩ : ∃ t, blindT person month seed k = t := ⟨_, rfl⟩
  obtain ⟨d, hd⟩ : ∃ d, Dig.sum t.data.toList = d := ⟨_, rfl⟩
  have htz : t.size ≤ 200 := by rw [← ht]; exact blindT_size _ _ _ _ hp hm hs hk
  have hbb := blindI_bd person month seed k
  rw [hb.out] at hbb
  have htm : (d.toNat : Int).tmod 1073741789 = bv := by rw [Int.tmod_eq_emod_of_nonneg (by omega), ← hb.out, blindI, ht, hd]
  have hcv : IntKind.i64.wrap bv = bv := IntWalk.i64_in _ (by omega)
  have a1 := itoaB_size (k : Int) (by omega) (by omega)
  have a2 := itoaB_size month hm.1 hm.2
  rw [ht1] at a1
  rw [ht2] at a2
  have Ht2 : Hid ((((((⟨#[5]⟩ : ByteArray) ++ t1) ++ ⟨#[32]⟩) ++ person) ++ ⟨#[32]⟩ ++ t2) ++ ⟨#[32]⟩ ++ seed = t) := Lib.hid (by
    rw [← ht, blindT, ht1, ht2]
    have he : ∀ t : ByteArray, t ++ ⟨#[]⟩ = t := fun t => ByteArray.ext (by simp [ByteArray.data_append])
    simp [catB, blank, ByteArray.append_assoc, he])
  have H1 := Lib.hid ht1
  have H2 := Lib.hid ht2
  have Hd := Lib.hid hd
  have HTM := Lib.hid (And.intro htm hcv)
  have hkI : I64 (k : Int) := ⟨by omega, by omega⟩
  have e1 : (⟨#[5]⟩ : ByteArray).size = 1 := rfl
  have e2 : (⟨#[32]⟩ : ByteArray).size = 1 := rfl
  clear ht1 ht2 ht hd htm hcv hb hbb
  go_enter Tryd.func31, Tryd.ntmps31
  go_wp2_with fail
  refine (rnumber_at (k : Int) t1 H1 hkI w).mono ?_
  rintro e w1 ⟨rfl, hB1⟩
  have s1 : ¬ 9223372036854775807 < 1 + t1.size := by omega
  have s2 : ¬ 9223372036854775807 < 1 + t1.size + 1 := by omega
  have s3 : ¬ 9223372036854775807 < 1 + t1.size + 1 + person.size := by omega
  have s4 : ¬ 9223372036854775807 < 1 + t1.size + 1 + person.size + 1 := by omega
  go_wp2_with fail
  refine (rnumber_at month t2 H2 hm w1).mono ?_
  rintro e w2 ⟨rfl, hB2⟩
  have s5 : ¬ 9223372036854775807 < 1 + t1.size + 1 + person.size + 1 + t2.size := by omega
  have s6 : ¬ 9223372036854775807 < 1 + t1.size + 1 + person.size + 1 + t2.size + 1 := by omega
  have s7 : ¬ 9223372036854775807 < 1 + t1.size + 1 + person.size + 1 + t2.size + 1 + seed.size := by omega
  have HB2 := Lib.hid (bgo hB1 hB2)
  clear hB1 hB2
  go_wp2_with fail
  have Ht3 := Ht2.out
  rw [Ht3]
  refine (rsum35_at t d Hd (by unfold maxLen; omega) w2).mono ?_
  rintro e w' ⟨rfl, hw'⟩
  obtain rfl := hw'
  obtain ⟨htm, hcv⟩ := HTM.out
  clear s1 s2 s3 s4 s5 s6 s7
  go_wp2_with fail
  go_ret
  exact ⟨rfl, HB2.out⟩
theorem rRows_at (c : CaseM) (s : SlipM) (cv sv : Value) (hcv : Hid (caseV c = cv)) (hsv : Hid (slipV s = sv)) (R : List RowD) (n : Nat) (E : Int) (hR : Hid (rowsR c s = R)) (hn : Hid (R.length = n)) (hE : Hid (rowsE (fitsB c s) (rowsL c s).length = E)) (w : World) (hc : CaseOk w c) (hs : SlipOk w s) :
    Calls Tryd.prog 9 #[cv, sv] w fun e w' => ∃ A ca, e = .returned (.tuple #[.slice A n ca, .int .i64 E]) ∧ (n ≤ ca ∧ ca ≤ maxLen) ∧ w'.ownsRow w.heap.size 64 3 (.slice A n ca) n (rowsV R) ∧ Below w.heap.size w w' := by
  rw [← hcv.out, ← hsv.out, ← hE.out, ← hn.out]
  refine (rRows_any c s w hc hs).mono ?_
  rintro e w' ⟨v, rfl, hown, hB⟩
  rw [hR.out] at hown
  obtain ⟨A, ca, rfl, hA⟩ := own_slice hown
  exact ⟨A, ca, rfl, slice_cap hown, hown, hB⟩
theorem fits_out {c : CaseM} {s : SlipM} (h : fitsB c s = true) : s.person.size ≤ 16 ∧ 0 ≤ s.month ∧ s.month ≤ 1199 := by
  unfold fitsB at h
  rw [Bool.and_eq_true, Bool.and_eq_true] at h
  exact ⟨(of_decide_eq_true h.1.1).2.1, of_decide_eq_true h.1.2⟩
theorem share4 {G : Prop} {A0 A1 A2 A3 : Type} (F : A0 → A1 → A2 → A3 → Prop) {P : A0 → A1 → A2 → A3 → Prop} (h1 : (∀ x0 x1 x2 x3, F x0 x1 x2 x3 → P x0 x1 x2 x3) → G) (h2 : ∀ x0 x1 x2 x3, F x0 x1 x2 x3 → P x0 x1 x2 x3) : G := h1 h2
set_option maxHeartbeats 16000000 in
theorem rSeal_any (c : CaseM) (s : SlipM) (seed : ByteArray) (w : World) (hc : CaseOk w c) (hs : SlipOk w s) (hz : seed.size ≤ maxLen) :
    Calls Tryd.prog 11 #[caseV c, slipV s, .string seed] w (SheetIs w (sealS c s seed) (sealE c s seed)) := by
  obtain ⟨SS, hSS⟩ : ∃ x, sealS c s seed = x := ⟨_, rfl⟩
  obtain ⟨SE, hSE⟩ : ∃ x, sealE c s seed = x := ⟨_, rfl⟩
  obtain ⟨RR, hRR⟩ : ∃ x, rowsR c s = x := ⟨_, rfl⟩
  obtain ⟨E, hE⟩ : ∃ x, rowsE (fitsB c s) (rowsL c s).length = x := ⟨_, rfl⟩
  obtain ⟨n, hn⟩ : ∃ x, RR.length = x := ⟨_, rfl⟩
  have Hss : Hid (SE ≠ 0 → SS = ⟨⟨#[]⟩, 0, [], [], 0⟩) := Lib.hid (fun h => by rw [← hSS]; unfold sealS; rw [hSE, if_neg h])
  have Hss0 : Hid (SE = 0 → SS = ⟨s.person, s.month, RR, blindL s.person s.month seed n, rootV (leafK RR (blindL s.person s.month seed n) n)⟩) := Lib.hid (fun h => by rw [← hSS]; unfold sealS; rw [hSE, if_pos h, hRR, hn])
  have Hse : Hid ((64 < seed.size → SE = 1) ∧ (¬ 64 < seed.size → E ≠ 0 → SE = E) ∧ (¬ 64 < seed.size → E = 0 → SE = if okK RR (blindL s.person s.month seed n) n = true then 0 else 3)) := Lib.hid (by
    rw [← hSE]
    unfold sealE
    rw [hE, hRR, hn]
    refine ⟨fun h => by rw [if_pos h], fun h h' => by rw [if_neg h, if_pos h'], fun h h' => by rw [if_neg h, if_neg (fun k => k h')]⟩)
  have hE0 : E = 0 → fitsB c s = true ∧ (rowsL c s).length ≤ 1024 := by
    intro h2
    rw [← hE] at h2
    unfold rowsE at h2
    split at h2
    · rename_i hf
      split at h2
      · rename_i hl; exact ⟨hf, hl⟩
      · cases h2
    · cases h2
  have Hz : Hid (E = 0 → (s.person.size ≤ 16 ∧ 0 ≤ s.month ∧ s.month ≤ 1199) ∧ n ≤ 1024 ∧ 1 ≤ n ∧ ∀ x ∈ RR, x.l.size ≤ 70368744177000 ∧ x.r.size ≤ 70368744177000 ∧ I64 x.c) := Lib.hid (fun h => by
    obtain ⟨hf, hl⟩ := hE0 h
    have e : rowsR c s = rowsL c s := by unfold rowsR; rw [if_pos ⟨hf, hl⟩]
    have e1 : RR.length ≤ 1024 := by rw [← hRR, e]; exact hl
    have e2 : 1 ≤ RR.length := by rw [← hRR, e]; unfold rowsL tailR netR; simp; omega
    refine ⟨fits_out hf, by omega, by omega, ?_⟩
    rw [← hRR, e]
    exact rowsL_size hc hs hf)
  have hrows : ∀ W, Below w.heap.size w W → Calls Tryd.prog 9 #[caseV c, slipV s] W fun e w' => ∃ A ca, e = .returned (.tuple #[.slice A n ca, .int .i64 E]) ∧ (n ≤ ca ∧ ca ≤ maxLen) ∧ w'.ownsRow W.heap.size 64 3 (.slice A n ca) n (rowsV RR) ∧ Below W.heap.size W w' := fun W hW =>
    rRows_at c s _ _ (Lib.hid rfl) (Lib.hid rfl) RR n E (Lib.hid hRR) (Lib.hid hn) (Lib.hid hE) W (hc.go hW) (hs.go hW)
  rw [hSS, hSE]
  clear hSS hSE hRR hE hE0 hc hs
  have Hn := Lib.hid hn
  clear hn
  obtain ⟨person, month, LA, lc, lines, gross, tax, deduct, floor, TA, tc, taken, net⟩ := s
  obtain ⟨f0, DA, dc, ds, AA, ac, nums, v3, v4, v5, v6, cur, fst⟩ := c
  dsimp only [slipV, caseV] at hrows Hss0 Hse Hz ⊢
  obtain ⟨dn, hdn⟩ : ∃ n, ds.length = n := ⟨_, rfl⟩
  obtain ⟨an, han⟩ : ∃ n, nums.length = n := ⟨_, rfl⟩
  obtain ⟨ln, hln⟩ : ∃ n, lines.length = n := ⟨_, rfl⟩
  obtain ⟨tn, htn⟩ : ∃ n, taken.length = n := ⟨_, rfl⟩
  rw [hdn, han, hln, htn] at hrows ⊢
  have Hrows := Lib.hid hrows
  clear hrows hdn han hln htn
  unfold maxLen at hz
  go_enter Tryd.func11, Tryd.ntmps11
  go_upto_region 1 with fail
  obtain ⟨W, hW⟩ : ∃ W, W = ((w.alloc (.cells #[f0, .slice DA dn dc, .slice AA an ac, v3, v4, v5, v6, .string cur, .int .i64 fst] 33)).alloc (.cells #[.string person, .int .i64 month, .slice LA ln lc, .int .i64 gross, .int .i64 tax, .int .i64 deduct, .int .i64 floor, .slice TA tn tc, .int .i64 net] 37)).alloc (.cells #[.string ⟨#[]⟩, .int .i64 0, .slice none 0 0, .slice none 0 0, .int .u64 0] 43) := ⟨_, rfl⟩
  rw [← hW]
  have g0 : W.heap[w.heap.size]? = some (.cells #[f0, .slice DA dn dc, .slice AA an ac, v3, v4, v5, v6, .string cur, .int .i64 fst] 33 (0, 0)) := by rw [hW]; exact (Below.heap_alloc _ _ _ (by simp; omega)).trans (heap_alloc2_old w _ _)
  have g1 : W.heap[w.heap.size + 1]? = some (.cells #[.string person, .int .i64 month, .slice LA ln lc, .int .i64 gross, .int .i64 tax, .int .i64 deduct, .int .i64 floor, .slice TA tn tc, .int .i64 net] 37 (0, 0)) := by rw [hW]; exact (Below.heap_alloc _ _ _ (by simp)).trans (heap_alloc2_new w _ _)
  have g2 : W.heap[w.heap.size + 2]? = some (.cells #[.string ⟨#[]⟩, .int .i64 0, .slice none 0 0, .slice none 0 0, .int .u64 0] 43 (0, 0)) := by
    rw [hW]
    have := World.alloc_heap_new ((w.alloc (.cells #[f0, .slice DA dn dc, .slice AA an ac, v3, v4, v5, v6, .string cur, .int .i64 fst] 33)).alloc (.cells #[.string person, .int .i64 month, .slice LA ln lc, .int .i64 gross, .int .i64 tax, .int .i64 deduct, .int .i64 floor, .slice TA tn tc, .int .i64 net] 37)) (.cells #[.string ⟨#[]⟩, .int .i64 0, .slice none 0 0, .slice none 0 0, .int .u64 0] 43)
    rw [World.size_alloc, World.size_alloc] at this
    exact this
  have hBW : Below w.heap.size w W := by rw [hW]; exact bal (bal (bal (Below.refl _ _) _) _) _
  have hsW : W.heap.size = w.heap.size + 3 := by rw [hW]; simp
  clear hW
  by_cases h64 : 64 < seed.size
  · have hse := Hse.out.1 h64
    subst hse
    have hss := Hss.out (by decide)
    subst hss
    have h64' : (64 : Int) < (seed.size : Int) := by omega
    have r0 : W.cell? ⟨w.heap.size + 2, 0, none⟩ = some (.string ⟨#[]⟩) := by rw [Lib.cell_of_heap g2]; rfl
    have r1 : W.cell? ⟨w.heap.size + 2, 1, none⟩ = some (.int .i64 0) := by rw [Lib.cell_of_heap g2]; rfl
    have r2 : W.cell? ⟨w.heap.size + 2, 2, none⟩ = some (.slice none 0 0) := by rw [Lib.cell_of_heap g2]; rfl
    have r3 : W.cell? ⟨w.heap.size + 2, 3, none⟩ = some (.slice none 0 0) := by rw [Lib.cell_of_heap g2]; rfl
    have r4 : W.cell? ⟨w.heap.size + 2, 4, none⟩ = some (.int .u64 0) := by rw [Lib.cell_of_heap g2]; rfl
    have f0_ : ∀ j, W.frozen? ⟨w.heap.size + 2, j, none⟩ = false := fun j => Lib.frozen_of_heap g2 j
    have Bz := Lib.hid (hBW)
    clear g0 g1 g2 Hrows
    go_wp2_with fail
    have b0 := Bz.out
    have b1 := b0.setCell (p := ⟨w.heap.size + 2, 0, none⟩) (by show w.heap.size ≤ w.heap.size + 2; omega) (.string ⟨#[]⟩)
    have b2 := b1.setCell (p := ⟨w.heap.size + 2, 1, none⟩) (by show w.heap.size ≤ w.heap.size + 2; omega) (.int .i64 0)
    have b3 := b2.setCell (p := ⟨w.heap.size + 2, 2, none⟩) (by show w.heap.size ≤ w.heap.size + 2; omega) (.slice none 0 0)
    have b4 := b3.setCell (p := ⟨w.heap.size + 2, 3, none⟩) (by show w.heap.size ≤ w.heap.size + 2; omega) (.slice none 0 0)
    have b5 := b4.setCell (p := ⟨w.heap.size + 2, 4, none⟩) (by show w.heap.size ≤ w.heap.size + 2; omega) (.int .u64 0)
    refine bodyPost_ret (v := .tuple #[.agg #[.string ⟨#[]⟩, .int .i64 0, .slice none 0 0, .slice none 0 0, .int .u64 0], .int .i64 1]) (by simp [results, Tryd.results11, go_sem, r0, r1, r2, r3, r4]) rfl (SheetIs.zero b5)
  · have h64i : ¬ (64 : Int) < (seed.size : Int) := by omega
    have d0 : W.cell? ⟨w.heap.size, 0, none⟩ = some (f0) := by rw [Lib.cell_of_heap g0]; rfl
    have d1 : W.cell? ⟨w.heap.size, 1, none⟩ = some (.slice DA dn dc) := by rw [Lib.cell_of_heap g0]; rfl
    have d2 : W.cell? ⟨w.heap.size, 2, none⟩ = some (.slice AA an ac) := by rw [Lib.cell_of_heap g0]; rfl
    have d3 : W.cell? ⟨w.heap.size, 3, none⟩ = some (v3) := by rw [Lib.cell_of_heap g0]; rfl
    have d4 : W.cell? ⟨w.heap.size, 4, none⟩ = some (v4) := by rw [Lib.cell_of_heap g0]; rfl
    have d5 : W.cell? ⟨w.heap.size, 5, none⟩ = some (v5) := by rw [Lib.cell_of_heap g0]; rfl
    have d6 : W.cell? ⟨w.heap.size, 6, none⟩ = some (v6) := by rw [Lib.cell_of_heap g0]; rfl
    have d7 : W.cell? ⟨w.heap.size, 7, none⟩ = some (.string cur) := by rw [Lib.cell_of_heap g0]; rfl
    have d8 : W.cell? ⟨w.heap.size, 8, none⟩ = some (.int .i64 fst) := by rw [Lib.cell_of_heap g0]; rfl
    have e0 : W.cell? ⟨w.heap.size + 1, 0, none⟩ = some (.string person) := by rw [Lib.cell_of_heap g1]; rfl
    have e1 : W.cell? ⟨w.heap.size + 1, 1, none⟩ = some (.int .i64 month) := by rw [Lib.cell_of_heap g1]; rfl
    have e2 : W.cell? ⟨w.heap.size + 1, 2, none⟩ = some (.slice LA ln lc) := by rw [Lib.cell_of_heap g1]; rfl
    have e3 : W.cell? ⟨w.heap.size + 1, 3, none⟩ = some (.int .i64 gross) := by rw [Lib.cell_of_heap g1]; rfl
    have e4 : W.cell? ⟨w.heap.size + 1, 4, none⟩ = some (.int .i64 tax) := by rw [Lib.cell_of_heap g1]; rfl
    have e5 : W.cell? ⟨w.heap.size + 1, 5, none⟩ = some (.int .i64 deduct) := by rw [Lib.cell_of_heap g1]; rfl
    have e6 : W.cell? ⟨w.heap.size + 1, 6, none⟩ = some (.int .i64 floor) := by rw [Lib.cell_of_heap g1]; rfl
    have e7 : W.cell? ⟨w.heap.size + 1, 7, none⟩ = some (.slice TA tn tc) := by rw [Lib.cell_of_heap g1]; rfl
    have e8 : W.cell? ⟨w.heap.size + 1, 8, none⟩ = some (.int .i64 net) := by rw [Lib.cell_of_heap g1]; rfl
    have G := Lib.hid (And.intro g1 (And.intro g2 hBW))
    clear g0 g1 g2 hBW
    go_wp2_with fail
    refine (Hrows.out W G.out.2.2).mono ?_
    rintro e w1 ⟨A, ca, rfl, hcap, hA, hB1⟩
    have g1 := (hB1.block _ (Array.getElem?_eq_some_iff.1 G.out.1).1).trans G.out.1
    have g2 := (hB1.block _ (Array.getElem?_eq_some_iff.1 G.out.2.1).1).trans G.out.2.1
    have hBw1 := bgo G.out.2.2 hB1
    have hs1 := hB1.size
    have h1w : w.heap.size + 3 ≤ w1.heap.size := by omega
    clear d0 d1 d2 d3 d4 d5 d6 d7 d8 e0 e1 e2 e3 e4 e5 e6 e7 e8 hB1 G Hrows hs1 hsW
    have HA := Lib.hid (own_sl hA)
    have HAo := Lib.hid hA
    clear hA
    by_cases hE0 : E = 0
    · subst hE0
      obtain ⟨⟨hpz, hm0, hm1⟩, hn1, hn0, hsz⟩ := Hz.out rfl
      have Hse2 := Lib.hid (Hse.out.2.2 h64 rfl)
      have Hsz := Lib.hid hsz
      clear Hz Hse hsz
      have G1 := Lib.hid (And.intro g1 (And.intro g2 hBw1))
      have e0 : w1.cell? ⟨w.heap.size + 1, 0, none⟩ = some (.string person) := by rw [Lib.cell_of_heap g1]; rfl
      have e1 : w1.cell? ⟨w.heap.size + 1, 1, none⟩ = some (.int .i64 month) := by rw [Lib.cell_of_heap g1]; rfl
      clear g1 g2
      go_upto_region 7 with fail
      obtain ⟨W5, hW5⟩ : ∃ W, W = w1.alloc (.cells #[.string person, .int .i64 month, .slice A n ca, .slice none 0 0, .int .u64 0] 43) := ⟨_, rfl⟩
      rw [← hW5]
      obtain ⟨X, hX⟩ : ∃ X, X = w1.heap.size := ⟨_, rfl⟩
      rw [← hX]
      have gX : W5.heap[X]? = some (.cells #[.string person, .int .i64 month, .slice A n ca, .slice none 0 0, .int .u64 0] 43 (0, 0)) := by rw [hW5, hX]; exact World.alloc_heap_new _ _
      have hB15 : Below w1.heap.size w1 W5 := by rw [hW5]; exact bal (Below.refl _ _) _
      have HX := Lib.hid hX
      have hwX : w.heap.size + 3 ≤ X := by rw [hX]; exact h1w
      have G0 := Lib.hid (And.intro gX hB15)
      obtain ⟨i0, hi0, hz0, hz1, hz2⟩ := info_parts info_int
      clear hW5 gX hB15 hX e0 e1
      go_wp2_with fail
      go_loopw [11] (fun q wr => ∃ k : Nat, k ≤ n ∧ q = .int .i64 (k : Int) ∧ okK RR (blindL person month seed n) k = true ∧ SealJ w1 X person month A n ca seed k wr) (fun q _ => n - (intOf q).toNat)
      case atStart => exact ⟨0, Nat.zero_le _, rfl, rfl, ⟨⟨none, 0, G0.out.1, ⟨rfl, .inl ⟨rfl, rfl⟩⟩⟩, G0.out.2⟩⟩
      case round =>
        clear G0
        obtain ⟨k, hk, rfl, hok, ⟨⟨B, cb, hbk, hown⟩, hBr⟩⟩ := hrel
        have Hbk := Lib.hid hbk
        have Hown := Lib.hid hown
        have Hok := Lib.hid hok
        have hXl := (Array.getElem?_eq_some_iff.1 hbk).1
        have hsr := hBr.size
        have gs := (hBr.block _ (Array.getElem?_eq_some_iff.1 G1.out.1).1).trans G1.out.1
        have gr := (hBr.block _ (Array.getElem?_eq_some_iff.1 G1.out.2.1).1).trans G1.out.2.1
        have GS := Lib.hid gs
        have GR := Lib.hid gr
        clear hbk hown hok gs gr
        by_cases hlt : k < n
        · have hlt' : (k : Int) < (n : Int) := by omega
          have hkl : k < RR.length := by rw [Hn.out]; exact hlt
          obtain ⟨b1, o1, hA1, hb1, hc1⟩ := (HA.out.go hBr).2 (by omega)
          subst hA1
          obtain ⟨x, hx⟩ : ∃ x, RR[k] = x := ⟨_, rfl⟩
          have hxg : RR.getD k default = x := by rw [List.getD_eq_getElem?_getD, List.getElem?_eq_getElem hkl]; exact hx
          have hget := flat_get rowV 3 (fun _ => rfl) RR k hkl
          rw [hx] at hget
          obtain ⟨xl, xc, xr⟩ := x
          have y0 : wr.cell? ⟨b1, o1 + k * 3, none⟩ = some (.string xl) := hc1 _ _ (hget 0 (by decide))
          have y1 : wr.cell? ⟨b1, o1 + k * 3 + 1, none⟩ = some (.int .i64 xc) := hc1 _ _ (hget 1 (by decide))
          have y2 : wr.cell? ⟨b1, o1 + k * 3 + 2, none⟩ = some (.string xr) := hc1 _ _ (hget 2 (by decide))
          obtain ⟨sb, hsb⟩ : ∃ b, inR xc = b := ⟨_, rfl⟩
          obtain ⟨bv, hbv⟩ : ∃ b, blindI person month seed k = b := ⟨_, rfl⟩
          have hbg : (blindL person month seed n).getD k 0 = bv := by rw [← hbv]; simp [blindL, List.getD, hlt]
          have hbb := blindI_bd person month seed k
          rw [hbv] at hbb
          have Hnx : Hid (okK RR (blindL person month seed n) (k + 1) = sb) := Lib.hid (by rw [okK_snoc, Hok.out, hxg, hbg, comE_ok hbb, Bool.true_and, Bool.and_true]; exact hsb)
          have Hsb := Lib.hid hsb
          have Hbv := Lib.hid hbv
          have Hsn : Hid (blindL person month seed (k + 1) = blindL person month seed k ++ [bv]) := Lib.hid (by rw [blindL_snoc, hbv])
          clear hx hxg hget hc1 hkl hsb hbv hbg
          go_wp2_with fail
          refine (rsmall35_any xl xc xr sb Hsb wr).mono ?_
          rintro e w2 ⟨rfl, hB2⟩
          have gs := (hB2.block _ (Array.getElem?_eq_some_iff.1 GS.out).1).trans GS.out
          have gr := (hB2.block _ (Array.getElem?_eq_some_iff.1 GR.out).1).trans GR.out
          have gx := (hB2.block _ (Array.getElem?_eq_some_iff.1 Hbk.out).1).trans Hbk.out
          have ho := own_below Hown.out hB2
          have hBr2 := bgo hBr hB2
          have hBw2 := bgo G1.out.2.2 hBr2
          have hsr2 := hBr2.size
          clear y0 y1 y2 hB2 GS GR Hbk Hown
          cases sb with
          | false =>
            have hse : SE = 3 := by rw [Hse2.out, okK_no Hnx.out n (by omega)]; rfl
            subst hse
            have hss := Hss.out (by decide)
            subst hss
            have r0 : w2.cell? ⟨w.heap.size + 2, 0, none⟩ = some (.string ⟨#[]⟩) := by rw [Lib.cell_of_heap gr]; rfl
            have r1 : w2.cell? ⟨w.heap.size + 2, 1, none⟩ = some (.int .i64 0) := by rw [Lib.cell_of_heap gr]; rfl
            have r2 : w2.cell? ⟨w.heap.size + 2, 2, none⟩ = some (.slice none 0 0) := by rw [Lib.cell_of_heap gr]; rfl
            have r3 : w2.cell? ⟨w.heap.size + 2, 3, none⟩ = some (.slice none 0 0) := by rw [Lib.cell_of_heap gr]; rfl
            have r4 : w2.cell? ⟨w.heap.size + 2, 4, none⟩ = some (.int .u64 0) := by rw [Lib.cell_of_heap gr]; rfl
            have f0_ : ∀ j, w2.frozen? ⟨w.heap.size + 2, j, none⟩ = false := fun j => Lib.frozen_of_heap gr j
            have Bz := Lib.hid (hBw2)
            clear gs gr gx ho hBr hBr2 hXl hsr hsr2
            go_wp2_with fail
            have b0 := Bz.out
            have b1 := b0.setCell (p := ⟨w.heap.size + 2, 0, none⟩) (by show w.heap.size ≤ w.heap.size + 2; omega) (.string ⟨#[]⟩)
            have b2 := b1.setCell (p := ⟨w.heap.size + 2, 1, none⟩) (by show w.heap.size ≤ w.heap.size + 2; omega) (.int .i64 0)
            have b3 := b2.setCell (p := ⟨w.heap.size + 2, 2, none⟩) (by show w.heap.size ≤ w.heap.size + 2; omega) (.slice none 0 0)
            have b4 := b3.setCell (p := ⟨w.heap.size + 2, 3, none⟩) (by show w.heap.size ≤ w.heap.size + 2; omega) (.slice none 0 0)
            have b5 := b4.setCell (p := ⟨w.heap.size + 2, 4, none⟩) (by show w.heap.size ≤ w.heap.size + 2; omega) (.int .u64 0)
            refine bodyPost_ret (v := .tuple #[.agg #[.string ⟨#[]⟩, .int .i64 0, .slice none 0 0, .slice none 0 0, .int .u64 0], .int .i64 3]) (by simp [results, Tryd.results11, go_sem, r0, r1, r2, r3, r4]) rfl (SheetIs.zero b5)
          | true =>
            have hx3 : w2.cell? ⟨X, 3, none⟩ = some (.slice B k cb) := by rw [Lib.cell_of_heap gx]; rfl
            have HO := Lib.hid ho
            have GX := Lib.hid gx
            have GS2 := Lib.hid gs
            have HB2 := Lib.hid hBr2
            clear gs gr gx ho hBr2 hBw2 hx3
            go_upto_region 13 with fail
            refine wp_region_noPanic ?_
            refine wp_region_held_drew (S := fun W => W.heap[w.heap.size + 1]? = some (.cells #[.string person, .int .i64 month, .slice LA ln lc, .int .i64 gross, .int .i64 tax, .int .i64 deduct, .int .i64 floor, .slice TA tn tc, .int .i64 net] 37 (0, 0))) (by kernel_rfl) (show w2.drew.heap[w.heap.size + 1]? = some (.cells #[.string person, .int .i64 month, .slice LA ln lc, .int .i64 gross, .int .i64 tax, .int .i64 deduct, .int .i64 floor, .slice TA tn tc, .int .i64 net] 37 (0, 0)) from GS2.out) (fun hHeld => ?_)
            have hO0 : w2.drew.ownsRow w1.heap.size 3 1 (.slice B k cb) k (intV (blindL person month seed k)) := HO.out
            have hX0 : w2.drew.heap[X]? = some (.cells #[.string person, .int .i64 month, .slice (some ⟨b1, o1, none⟩) n ca, .slice B k cb, .int .u64 0] 43 (0, 0)) := GX.out
            have hL0 : Below w1.heap.size w1 w2.drew := HB2.out.drew
            have hmI : I64 month := ⟨by omega, by omega⟩
            have hsd : seed.size ≤ 64 := by omega
            have hk24 : k ≤ 1024 := by omega
            have hq0 : ∀ W : World, W.heap[w.heap.size + 1]? = some (.cells #[.string person, .int .i64 month, .slice LA ln lc, .int .i64 gross, .int .i64 tax, .int .i64 deduct, .int .i64 floor, .slice TA tn tc, .int .i64 net] 37 (0, 0)) → W.cell? ⟨w.heap.size + 1, 0, none⟩ = some (.string person) ∧ W.cell? ⟨w.heap.size + 1, 1, none⟩ = some (.int .i64 month) := fun W hW => ⟨by rw [Lib.cell_of_heap hW]; rfl, by rw [Lib.cell_of_heap hW]; rfl⟩
            have HQ0 := Lib.hid hq0
            clear hq0
            apply share4 (fun (U : World) (nb : Nat) (B7 : Option Addr) (c7 : Nat) => (U.heap[w.heap.size + 1]? = some (.cells #[.string person, .int .i64 month, .slice LA ln lc, .int .i64 gross, .int .i64 tax, .int .i64 deduct, .int .i64 floor, .slice TA tn tc, .int .i64 net] 37 (0, 0))) ∧ (SealJ w1 X person month (some ⟨b1, o1, none⟩) n ca seed (k + 1) U))
            case h1 =>
              intro g_1_8_9_10_12
              apply share4 (fun (U : World) (nb : Nat) (B7 : Option Addr) (c7 : Nat) => (U.heap[w.heap.size + 1]? = some (.cells #[.string person, .int .i64 month, .slice LA ln lc, .int .i64 gross, .int .i64 tax, .int .i64 deduct, .int .i64 floor, .slice TA tn tc, .int .i64 net] 37 (0, 0))) ∧ (U.heap[X]? = some (.cells #[.string person, .int .i64 month, .slice (some ⟨b1, o1, none⟩) n ca, .slice B k cb, .int .u64 0] 43 (0, 0))) ∧ (U.ownsRow w1.heap.size 3 1 (.slice B7 (k + 1) c7) (k + 1) (intV (blindL person month seed k) ++ [.int .i64 bv])) ∧ (Below w1.heap.size w1 U))
              case h1 =>
                intro g_1_8_9_10
                apply share2 (fun (U : World) (nb : Nat) => (U.heap[w.heap.size + 1]? = some (.cells #[.string person, .int .i64 month, .slice LA ln lc, .int .i64 gross, .int .i64 tax, .int .i64 deduct, .int .i64 floor, .slice TA tn tc, .int .i64 net] 37 (0, 0))) ∧ (U.ownsRow w1.heap.size 3 1 (.slice B k cb) k (intV (blindL person month seed k))) ∧ (U.heap[X]? = some (.cells #[.string person, .int .i64 month, .slice (some ⟨b1, o1, none⟩) n ca, .slice B k cb, .int .u64 0] 43 (0, 0))) ∧ (Below w1.heap.size w1 U) ∧ (Src U 1 (.slice (some ⟨nb, 0, none⟩) 1 1) 1 [.int .i64 bv]))
                case h1 =>
                  intro g_1_8_9
                  apply share2 (fun (U : World) (nb : Nat) => (U.heap[w.heap.size + 1]? = some (.cells #[.string person, .int .i64 month, .slice LA ln lc, .int .i64 gross, .int .i64 tax, .int .i64 deduct, .int .i64 floor, .slice TA tn tc, .int .i64 net] 37 (0, 0))) ∧ (U.ownsRow w1.heap.size 3 1 (.slice B k cb) k (intV (blindL person month seed k))) ∧ (U.heap[X]? = some (.cells #[.string person, .int .i64 month, .slice (some ⟨b1, o1, none⟩) n ca, .slice B k cb, .int .u64 0] 43 (0, 0))) ∧ (Below w1.heap.size w1 U) ∧ (Src U 1 (.slice (some ⟨nb, 0, none⟩) 1 1) 1 [.int .i64 bv]))
                  case h1 =>
                    intro g_8_9
                    apply share1 (fun (U : World) => (U.heap[w.heap.size + 1]? = some (.cells #[.string person, .int .i64 month, .slice LA ln lc, .int .i64 gross, .int .i64 tax, .int .i64 deduct, .int .i64 floor, .slice TA tn tc, .int .i64 net] 37 (0, 0))) ∧ (U.ownsRow w1.heap.size 3 1 (.slice B k cb) k (intV (blindL person month seed k))) ∧ (U.heap[X]? = some (.cells #[.string person, .int .i64 month, .slice (some ⟨b1, o1, none⟩) n ca, .slice B k cb, .int .u64 0] 43 (0, 0))) ∧ (Below w1.heap.size w1 U))
                    case h1 =>
                      intro g_1_8
                      apply share1 (fun (U : World) => (U.heap[w.heap.size + 1]? = some (.cells #[.string person, .int .i64 month, .slice LA ln lc, .int .i64 gross, .int .i64 tax, .int .i64 deduct, .int .i64 floor, .slice TA tn tc, .int .i64 net] 37 (0, 0))) ∧ (U.ownsRow w1.heap.size 3 1 (.slice B k cb) k (intV (blindL person month seed k))) ∧ (U.heap[X]? = some (.cells #[.string person, .int .i64 month, .slice (some ⟨b1, o1, none⟩) n ca, .slice B k cb, .int .u64 0] 43 (0, 0))) ∧ (Below w1.heap.size w1 U))
                      case h1 =>
                        intro g_8
                        apply share1 (fun (U : World) => (U.heap[w.heap.size + 1]? = some (.cells #[.string person, .int .i64 month, .slice LA ln lc, .int .i64 gross, .int .i64 tax, .int .i64 deduct, .int .i64 floor, .slice TA tn tc, .int .i64 net] 37 (0, 0))) ∧ (U.ownsRow w1.heap.size 3 1 (.slice B k cb) k (intV (blindL person month seed k))) ∧ (U.heap[X]? = some (.cells #[.string person, .int .i64 month, .slice (some ⟨b1, o1, none⟩) n ca, .slice B k cb, .int .u64 0] 43 (0, 0))) ∧ (Below w1.heap.size w1 U))
                        case h1 =>
                          intro g_1
                          refine wpAnyH_take (i := 0) (v := ?_) rfl (by kernel_rfl) (by kernel_rfl) (by kernel_rfl) (fun _ _ _ h => h) (Or.inl ⟨by kernel_rfl, ?_⟩) (by assumption) ?_
                          rotate_left
                          · intro w hSw
                            (try dsimp only at hSw)
                            go_simp
                            first | done | with_reducible rfl
                          simp only [List.getElem_toArray, List.getElem_cons_zero, List.getElem_cons_succ, Act.put, List.setIfInBounds_toArray, List.set_cons_zero, List.set_cons_succ]
                          refine wpAnyH_take (i := 2) (v := ?_) rfl (by kernel_rfl) (by kernel_rfl) (by kernel_rfl) (fun _ _ _ h => h) (Or.inl ⟨by kernel_rfl, ?_⟩) (by assumption) ?_
                          rotate_left
                          · intro w hSw
                            (try dsimp only at hSw)
                            go_simp
                            first | done | with_reducible rfl
                          simp only [List.getElem_toArray, List.getElem_cons_zero, List.getElem_cons_succ, Act.put, List.setIfInBounds_toArray, List.set_cons_zero, List.set_cons_succ]
                          refine wpAnyH_take (i := 3) (v := ?_) rfl (by kernel_rfl) (by kernel_rfl) (by kernel_rfl) (fun _ _ _ h => h) (Or.inl ⟨by kernel_rfl, ?_⟩) (by assumption) ?_
                          rotate_left
                          · intro w hSw
                            (try dsimp only at hSw)
                            obtain ⟨z0, z1⟩ := HQ0.out w hSw
                            go_simp
                            first | done | with_reducible rfl
                          simp only [List.getElem_toArray, List.getElem_cons_zero, List.getElem_cons_succ, Act.put, List.setIfInBounds_toArray, List.set_cons_zero, List.set_cons_succ]
                          refine wpAnyH_take (i := 4) (v := ?_) rfl (by kernel_rfl) (by kernel_rfl) (by kernel_rfl) (fun _ _ _ h => h) (Or.inl ⟨by kernel_rfl, ?_⟩) (by assumption) ?_
                          rotate_left
                          · intro w hSw
                            (try dsimp only at hSw)
                            go_simp
                            first | done | with_reducible rfl
                          simp only [List.getElem_toArray, List.getElem_cons_zero, List.getElem_cons_succ, Act.put, List.setIfInBounds_toArray, List.set_cons_zero, List.set_cons_succ]
                          refine wpAnyH_take (i := 5) (v := ?_) rfl (by kernel_rfl) (by kernel_rfl) (by kernel_rfl) (fun _ _ _ h => h) (Or.inl ⟨by kernel_rfl, ?_⟩) (by assumption) ?_
                          rotate_left
                          · intro w hSw
                            (try dsimp only at hSw)
                            obtain ⟨z0, z1⟩ := HQ0.out w hSw
                            go_simp
                            first | done | with_reducible rfl
                          simp only [List.getElem_toArray, List.getElem_cons_zero, List.getElem_cons_succ, Act.put, List.setIfInBounds_toArray, List.set_cons_zero, List.set_cons_succ]
                          refine wpAnyH_take (i := 6) (v := ?_) rfl (by kernel_rfl) (by kernel_rfl) (by kernel_rfl) (fun _ _ _ h => h) (Or.inl ⟨by kernel_rfl, ?_⟩) (by assumption) ?_
                          rotate_left
                          · intro w hSw
                            (try dsimp only at hSw)
                            go_simp
                            first | done | with_reducible rfl
                          simp only [List.getElem_toArray, List.getElem_cons_zero, List.getElem_cons_succ, Act.put, List.setIfInBounds_toArray, List.set_cons_zero, List.set_cons_succ]
                          refine wpAnyH_take (i := 7) (v := ?_) rfl (by kernel_rfl) (by kernel_rfl) (by kernel_rfl) (fun _ _ _ h => h) (Or.inl ⟨by kernel_rfl, ?_⟩) (by assumption) ?_
                          rotate_left
                          · intro w hSw
                            (try dsimp only at hSw)
                            go_simp
                            first | done | with_reducible rfl
                          simp only [List.getElem_toArray, List.getElem_cons_zero, List.getElem_cons_succ, Act.put, List.setIfInBounds_toArray, List.set_cons_zero, List.set_cons_succ]
                          refine wpAnyH_ready (rs := [1, 8]) (by kernel_rfl) (by simp) ?_
                          refine AllReadyH.cons rfl (fun K hK => ?_) ?_
                          · simp only [List.getElem_toArray, List.getElem_cons_zero, List.getElem_cons_succ]
                            have kc : w2.drew.cell? ⟨X, 3, none⟩ = some (.slice B k cb) := by rw [Lib.cell_of_heap hX0]; rfl
                            go_simp
                            refine hK.out _ _ GS2.out (fun hHeldn => ?_)
                            clear hK K
                            try simp only [List.getElem_toArray, List.getElem_cons_zero, List.getElem_cons_succ, Act.put, List.setIfInBounds_toArray, List.set_cons_zero, List.set_cons_succ]
                            exact g_1 w2.drew ⟨GS2.out, hO0, hX0, hL0⟩
                          refine AllReadyH.cons rfl (fun K hK => ?_) ?_
                          · simp only [List.getElem_toArray, List.getElem_cons_zero, List.getElem_cons_succ]
                            go_simp
                            (with_reducible refine (rblind_at person month k seed bv Hbv hpz hmI hsd hk24 w2.drew).mono ?_)
                            rintro e Un ⟨rfl, hBn⟩
                            dsimp only
                            have hHn : Un.heap[w.heap.size + 1]? = some (.cells #[.string person, .int .i64 month, .slice LA ln lc, .int .i64 gross, .int .i64 tax, .int .i64 deduct, .int .i64 floor, .slice TA tn tc, .int .i64 net] 37 (0, 0)) := (hBn.block _ (Array.getElem?_eq_some_iff.1 GS2.out).1).trans GS2.out
                            have hXn : Un.heap[X]? = some (.cells #[.string person, .int .i64 month, .slice (some ⟨b1, o1, none⟩) n ca, .slice B k cb, .int .u64 0] 43 (0, 0)) := (hBn.block _ (Array.getElem?_eq_some_iff.1 hX0).1).trans hX0
                            have hOn := own_below hO0 hBn
                            have hLn := bgo hL0 hBn
                            refine hK.out _ _ hHn (fun hHeldn => ?_)
                            clear hK K
                            try simp only [List.getElem_toArray, List.getElem_cons_zero, List.getElem_cons_succ, Act.put, List.setIfInBounds_toArray, List.set_cons_zero, List.set_cons_succ]
                            exact g_8 Un ⟨hHn, hOn, hXn, hLn⟩
                          exact AllReadyH.nil
                        case h2 =>
                          intro U hF
                          obtain ⟨hHeld, hO, hX, hL⟩ := hF
                          refine wpAnyH_ready (rs := [8]) (by kernel_rfl) (by simp) ?_
                          refine AllReadyH.cons rfl (fun K hK => ?_) ?_
                          · simp only [List.getElem_toArray, List.getElem_cons_zero, List.getElem_cons_succ]
                            go_simp
                            (with_reducible refine (rblind_at person month k seed bv Hbv hpz hmI hsd hk24 U).mono ?_)
                            rintro e Un ⟨rfl, hBn⟩
                            dsimp only
                            have hHn : Un.heap[w.heap.size + 1]? = some (.cells #[.string person, .int .i64 month, .slice LA ln lc, .int .i64 gross, .int .i64 tax, .int .i64 deduct, .int .i64 floor, .slice TA tn tc, .int .i64 net] 37 (0, 0)) := (hBn.block _ (Array.getElem?_eq_some_iff.1 hHeld).1).trans hHeld
                            have hXn : Un.heap[X]? = some (.cells #[.string person, .int .i64 month, .slice (some ⟨b1, o1, none⟩) n ca, .slice B k cb, .int .u64 0] 43 (0, 0)) := (hBn.block _ (Array.getElem?_eq_some_iff.1 hX).1).trans hX
                            have hOn := own_below hO hBn
                            have hLn := bgo hL hBn
                            refine hK.out _ _ hHn (fun hHeldn => ?_)
                            clear hK K
                            try simp only [List.getElem_toArray, List.getElem_cons_zero, List.getElem_cons_succ, Act.put, List.setIfInBounds_toArray, List.set_cons_zero, List.set_cons_succ]
                            exact g_1_8 Un ⟨hHn, hOn, hXn, hLn⟩
                          exact AllReadyH.nil
                      case h2 =>
                        intro U hF
                        obtain ⟨hHeld, hO, hX, hL⟩ := hF
                        refine wpAnyH_ready (rs := [1, 9]) (by kernel_rfl) (by simp) ?_
                        refine AllReadyH.cons rfl (fun K hK => ?_) ?_
                        · simp only [List.getElem_toArray, List.getElem_cons_zero, List.getElem_cons_succ]
                          have kc : U.cell? ⟨X, 3, none⟩ = some (.slice B k cb) := by rw [Lib.cell_of_heap hX]; rfl
                          go_simp
                          refine hK.out _ _ hHeld (fun hHeldn => ?_)
                          clear hK K
                          try simp only [List.getElem_toArray, List.getElem_cons_zero, List.getElem_cons_succ, Act.put, List.setIfInBounds_toArray, List.set_cons_zero, List.set_cons_succ]
                          exact g_1_8 U ⟨hHeld, hO, hX, hL⟩
                        refine AllReadyH.cons rfl (fun K hK => ?_) ?_
                        · simp only [List.getElem_toArray, List.getElem_cons_zero, List.getElem_cons_succ]
                          go_simp
                          obtain ⟨Un, hUn⟩ : ∃ x, x = U.alloc (.cells #[.int .i64 bv] 3) := ⟨_, rfl⟩
                          obtain ⟨nb, hnb⟩ : ∃ x, x = U.heap.size := ⟨_, rfl⟩
                          have hBn : Below U.heap.size U Un := by rw [hUn]; exact bal (Below.refl _ _) _
                          have hHn : Un.heap[w.heap.size + 1]? = some (.cells #[.string person, .int .i64 month, .slice LA ln lc, .int .i64 gross, .int .i64 tax, .int .i64 deduct, .int .i64 floor, .slice TA tn tc, .int .i64 net] 37 (0, 0)) := (hBn.block _ (Array.getElem?_eq_some_iff.1 hHeld).1).trans hHeld
                          have hXn : Un.heap[X]? = some (.cells #[.string person, .int .i64 month, .slice (some ⟨b1, o1, none⟩) n ca, .slice B k cb, .int .u64 0] 43 (0, 0)) := (hBn.block _ (Array.getElem?_eq_some_iff.1 hX).1).trans hX
                          have hOn := own_below hO hBn
                          have hLn := bgo hL hBn
                          have hsn : Src Un 1 (.slice (some ⟨nb, 0, none⟩) 1 1) 1 [.int .i64 bv] := by rw [hUn, hnb]; exact block_src U [.int .i64 bv] _ _ 1 1 1 rfl
                          rw [← hUn]
                          try rw [← hnb]
                          clear hUn hnb
                          refine hK.out _ _ hHn (fun hHeldn => ?_)
                          clear hK K
                          try simp only [List.getElem_toArray, List.getElem_cons_zero, List.getElem_cons_succ, Act.put, List.setIfInBounds_toArray, List.set_cons_zero, List.set_cons_succ]
                          exact g_8_9 Un nb ⟨hHn, hOn, hXn, hLn, hsn⟩
                        exact AllReadyH.nil
                    case h2 =>
                      intro U hF
                      obtain ⟨hHeld, hO, hX, hL⟩ := hF
                      refine wpAnyH_ready (rs := [9]) (by kernel_rfl) (by simp) ?_
                      refine AllReadyH.cons rfl (fun K hK => ?_) ?_
                      · simp only [List.getElem_toArray, List.getElem_cons_zero, List.getElem_cons_succ]
                        go_simp
                        obtain ⟨Un, hUn⟩ : ∃ x, x = U.alloc (.cells #[.int .i64 bv] 3) := ⟨_, rfl⟩
                        obtain ⟨nb, hnb⟩ : ∃ x, x = U.heap.size := ⟨_, rfl⟩
                        have hBn : Below U.heap.size U Un := by rw [hUn]; exact bal (Below.refl _ _) _
                        have hHn : Un.heap[w.heap.size + 1]? = some (.cells #[.string person, .int .i64 month, .slice LA ln lc, .int .i64 gross, .int .i64 tax, .int .i64 deduct, .int .i64 floor, .slice TA tn tc, .int .i64 net] 37 (0, 0)) := (hBn.block _ (Array.getElem?_eq_some_iff.1 hHeld).1).trans hHeld
                        have hXn : Un.heap[X]? = some (.cells #[.string person, .int .i64 month, .slice (some ⟨b1, o1, none⟩) n ca, .slice B k cb, .int .u64 0] 43 (0, 0)) := (hBn.block _ (Array.getElem?_eq_some_iff.1 hX).1).trans hX
                        have hOn := own_below hO hBn
                        have hLn := bgo hL hBn
                        have hsn : Src Un 1 (.slice (some ⟨nb, 0, none⟩) 1 1) 1 [.int .i64 bv] := by rw [hUn, hnb]; exact block_src U [.int .i64 bv] _ _ 1 1 1 rfl
                        rw [← hUn]
                        try rw [← hnb]
                        clear hUn hnb
                        refine hK.out _ _ hHn (fun hHeldn => ?_)
                        clear hK K
                        try simp only [List.getElem_toArray, List.getElem_cons_zero, List.getElem_cons_succ, Act.put, List.setIfInBounds_toArray, List.set_cons_zero, List.set_cons_succ]
                        exact g_1_8_9 Un nb ⟨hHn, hOn, hXn, hLn, hsn⟩
                      exact AllReadyH.nil
                  case h2 =>
                    intro U nb hF
                    obtain ⟨hHeld, hO, hX, hL, hS⟩ := hF
                    refine wpAnyH_ready (rs := [1]) (by kernel_rfl) (by simp) ?_
                    refine AllReadyH.cons rfl (fun K hK => ?_) ?_
                    · simp only [List.getElem_toArray, List.getElem_cons_zero, List.getElem_cons_succ]
                      have kc : U.cell? ⟨X, 3, none⟩ = some (.slice B k cb) := by rw [Lib.cell_of_heap hX]; rfl
                      go_simp
                      refine hK.out _ _ hHeld (fun hHeldn => ?_)
                      clear hK K
                      try simp only [List.getElem_toArray, List.getElem_cons_zero, List.getElem_cons_succ, Act.put, List.setIfInBounds_toArray, List.set_cons_zero, List.set_cons_succ]
                      exact g_1_8_9 U nb ⟨hHeld, hO, hX, hL, hS⟩
                    exact AllReadyH.nil
                case h2 =>
                  intro U nb hF
                  obtain ⟨hHeld, hO, hX, hL, hS⟩ := hF
                  refine wpAnyH_ready (rs := [10]) (by kernel_rfl) (by simp) ?_
                  refine AllReadyH.cons rfl (fun K hK => ?_) ?_
                  · refine step_src (w0 := w1) (by rfl) _ _ 39 (by rfl) 3 i0 (.int .i64 0) 1 8 Tryd.underlying39 hi0 hz0 hz1 hz2 (by rfl) (by decide) (.slice B k cb) k (intV (blindL person month seed k)) (by rfl) hO hL (.slice (some ⟨nb, 0, none⟩) 1 1) 1 [.int .i64 bv] (by rfl) hS (by simp [Value.oneCell']) (by unfold maxLen; omega) (by omega) ?_
                    intro v7 Un hown hBn hkn
                    obtain ⟨B7, c7, hv7, _⟩ := own_slice hown
                    subst hv7
                    have hXn : Un.heap[X]? = some (.cells #[.string person, .int .i64 month, .slice (some ⟨b1, o1, none⟩) n ca, .slice B k cb, .int .u64 0] 43 (0, 0)) := (hkn.2 X (Array.getElem?_eq_some_iff.1 hX).1 (Lib.ownBlock_ne hO hX (by decide))).trans hX
                    have hHn : Un.heap[w.heap.size + 1]? = some (.cells #[.string person, .int .i64 month, .slice LA ln lc, .int .i64 gross, .int .i64 tax, .int .i64 deduct, .int .i64 floor, .slice TA tn tc, .int .i64 net] 37 (0, 0)) := (hkn.2 _ (Array.getElem?_eq_some_iff.1 hHeld).1 (Lib.ownBlock_ne hO hHeld (by decide))).trans hHeld
                    refine hK.out _ _ hHn (fun hHeldn => ?_)
                    clear hK K
                    try simp only [List.getElem_toArray, List.getElem_cons_zero, List.getElem_cons_succ, Act.put, List.setIfInBounds_toArray, List.set_cons_zero, List.set_cons_succ]
                    refine wpAnyH_take (i := 11) (v := ?_) rfl (by kernel_rfl) (by kernel_rfl) (by kernel_rfl) (fun _ _ _ h => h) (Or.inl ⟨by kernel_rfl, ?_⟩) (by assumption) ?_
                    rotate_left
                    · intro w hSw
                      (try dsimp only at hSw)
                      go_simp
                      first | done | with_reducible rfl
                    simp only [List.getElem_toArray, List.getElem_cons_zero, List.getElem_cons_succ, Act.put, List.setIfInBounds_toArray, List.set_cons_zero, List.set_cons_succ]
                    exact g_1_8_9_10 Un nb B7 c7 ⟨hHn, hXn, hown, hBn⟩
                  exact AllReadyH.nil
              case h2 =>
                intro U nb B7 c7 hF
                obtain ⟨hHeld, hX, hO, hL⟩ := hF
                refine wpAnyH_ready (rs := [12]) (by kernel_rfl) (by simp) ?_
                refine AllReadyH.cons rfl (fun K hK => ?_) ?_
                · simp only [List.getElem_toArray, List.getElem_cons_zero, List.getElem_cons_succ]
                  have kc : U.cell? ⟨X, 3, none⟩ = some (.slice B k cb) := by rw [Lib.cell_of_heap hX]; rfl
                  have kf : U.frozen? ⟨X, 3, none⟩ = false := Lib.frozen_of_heap hX 3
                  go_simp
                  obtain ⟨Un, hUn⟩ : ∃ x, x = U.setCell ⟨X, 3, none⟩ (.slice B7 (k + 1) c7) := ⟨_, rfl⟩
                  have hJn : SealJ w1 X person month (some ⟨b1, o1, none⟩) n ca seed (k + 1) Un := by rw [hUn]; exact SealJ.put Hsn.out hX hO hL HX.out
                  have hHn : Un.heap[w.heap.size + 1]? = some (.cells #[.string person, .int .i64 month, .slice LA ln lc, .int .i64 gross, .int .i64 tax, .int .i64 deduct, .int .i64 floor, .slice TA tn tc, .int .i64 net] 37 (0, 0)) := by rw [hUn]; exact (Below.heap_setCell _ _ _ _ (by show w.heap.size + 1 ≠ X; omega)).trans hHeld
                  rw [← hUn]
                  clear hUn kc kf
                  refine hK.out _ _ hHn (fun hHeldn => ?_)
                  clear hK K
                  try simp only [List.getElem_toArray, List.getElem_cons_zero, List.getElem_cons_succ, Act.put, List.setIfInBounds_toArray, List.set_cons_zero, List.set_cons_succ]
                  exact g_1_8_9_10_12 Un nb B7 c7 ⟨hHn, hJn⟩
                exact AllReadyH.nil
            case h2 =>
              intro U nb B7 c7 hF
              obtain ⟨hHeld, hJ⟩ := hF
              refine wpAnyH_done (by kernel_rfl) ?_ _
              dsimp only [NoPanic]
              have HJ := Lib.hid hJ
              clear hJ hHeld
              go_wp2_with fail
              go_roundw
              case rel => exact ⟨k + 1, by omega, by go_num, Hnx.out, HJ.out⟩
              case measure => simp [intOf]; omega
        · obtain rfl : n = k := by omega
          have hse : SE = 0 := by rw [Hse2.out, Hok.out]; rfl
          have hss := Hss0.out hse
          subst hse
          subst hss
          have hBwr := bgo G1.out.2.2 hBr
          have c3 : wr.cell? ⟨X, 3, none⟩ = some (.slice B n cb) := by rw [Lib.cell_of_heap Hbk.out]; rfl
          obtain ⟨d, hd⟩ : ∃ d, rootV (leafK RR (blindL person month seed n) n) = d := ⟨_, rfl⟩

          have Hd := Lib.hid hd
          clear hd
          go_wp2_with fail
          refine (rleaves_any A B ca cb n n RR (blindL person month seed n) wr (HA.out.go hBr) (own_sl Hown.out) Hn.out (blindL_len _ _ _ _) (Nat.le_refl _) (by omega) (by unfold maxLen; omega) Hsz.out blindL_bd).mono ?_
          rintro e w2 ⟨C, cc, rfl, hl, hB2⟩
          have hlS := own_sl hl
          have gx := (hB2.block _ hXl).trans Hbk.out
          have gr := (hB2.block _ (Array.getElem?_eq_some_iff.1 GR.out).1).trans GR.out
          have hBr2 := bgo hBr hB2
          have ho := own_below Hown.out hB2
          have HLS := Lib.hid hlS
          have GX := Lib.hid gx
          have GR2 := Lib.hid gr
          have HO := Lib.hid ho
          have HB2 := Lib.hid hBr2
          clear hl hlS gx gr ho hB2 c3 Hbk Hown GS GR hBr2
          go_wp2_with fail
          refine (rroot_own C cc n (leafK RR (blindL person month seed n) n) d (leafK_len _ _ _) Hd w2 HLS.out (leafK_size (by rw [Hn.out]; exact Nat.le_refl _) Hsz.out) hn0 hn1).mono ?_
          rintro e w3 ⟨rfl, hB3⟩
          have gx := (hB3.block _ (Array.getElem?_eq_some_iff.1 GX.out).1).trans GX.out
          have gr := (hB3.block _ (Array.getElem?_eq_some_iff.1 GR2.out).1).trans GR2.out
          have ho := own_below HO.out hB3
          have hB4 := bgo HB2.out hB3
          have x4 : w3.cell? ⟨X, 4, none⟩ = some (.int .u64 0) := by rw [Lib.cell_of_heap gx]; rfl
          have xf : w3.frozen? ⟨X, 4, none⟩ = false := Lib.frozen_of_heap gx 4
          have gx2 : (w3.setCell ⟨X, 4, none⟩ (.int .u64 d.toNat)).heap[X]? = some (.cells #[.string person, .int .i64 month, .slice A n ca, .slice B n cb, .int .u64 d.toNat] 43 (0, 0)) := by rw [setCell_heap gx]; rfl
          have gr2 : (w3.setCell ⟨X, 4, none⟩ (.int .u64 d.toNat)).heap[w.heap.size + 2]? = some (.cells #[.string ⟨#[]⟩, .int .i64 0, .slice none 0 0, .slice none 0 0, .int .u64 0] 43 (0, 0)) := (Below.heap_setCell _ _ _ _ (by show w.heap.size + 2 ≠ X; omega)).trans gr
          have ho2 : (w3.setCell ⟨X, 4, none⟩ (.int .u64 d.toNat)).ownsRow w1.heap.size 3 1 (.slice B n cb) n (intV (blindL person month seed n)) := own_to ho (fun b hb => Below.heap_setCell _ _ _ _ (fun e => Lib.ownBlock_ne ho gx (by decide) (by rw [hb]; exact congrArg some e)))
          have hB5 := hB4.setCell (p := ⟨X, 4, none⟩) (by show w1.heap.size ≤ X; rw [HX.out]; exact Nat.le_refl _) (.int .u64 d.toNat)
          obtain ⟨w4, hw4⟩ : ∃ w4, w4 = w3.setCell ⟨X, 4, none⟩ (.int .u64 d.toNat) := ⟨_, rfl⟩
          rw [← hw4] at gx2 gr2 ho2 hB5
          have GX4 := Lib.hid gx2
          have GR4 := Lib.hid gr2
          have HO4 := Lib.hid ho2
          have HB5 := Lib.hid hB5
          clear gx gr ho hB4 gx2 gr2 ho2 hB3 hB5 GX GR2 HO HB2 HLS
          go_upto_region 15 with fail
          rw [← hw4]
          clear x4 xf hw4
          clear w3
          have q0 : w4.cell? ⟨X, 0, none⟩ = some (.string person) := by rw [Lib.cell_of_heap GX4.out]; rfl
          have q1 : w4.cell? ⟨X, 1, none⟩ = some (.int .i64 month) := by rw [Lib.cell_of_heap GX4.out]; rfl
          have q2 : w4.cell? ⟨X, 2, none⟩ = some (.slice A n ca) := by rw [Lib.cell_of_heap GX4.out]; rfl
          have q3 : w4.cell? ⟨X, 3, none⟩ = some (.slice B n cb) := by rw [Lib.cell_of_heap GX4.out]; rfl
          have q4 : w4.cell? ⟨X, 4, none⟩ = some (.int .u64 d.toNat) := by rw [Lib.cell_of_heap GX4.out]; rfl
          have r0 : w4.cell? ⟨w.heap.size + 2, 0, none⟩ = some (.string ⟨#[]⟩) := by rw [Lib.cell_of_heap GR4.out]; rfl
          have r1 : w4.cell? ⟨w.heap.size + 2, 1, none⟩ = some (.int .i64 0) := by rw [Lib.cell_of_heap GR4.out]; rfl
          have r2 : w4.cell? ⟨w.heap.size + 2, 2, none⟩ = some (.slice none 0 0) := by rw [Lib.cell_of_heap GR4.out]; rfl
          have r3 : w4.cell? ⟨w.heap.size + 2, 3, none⟩ = some (.slice none 0 0) := by rw [Lib.cell_of_heap GR4.out]; rfl
          have r4 : w4.cell? ⟨w.heap.size + 2, 4, none⟩ = some (.int .u64 0) := by rw [Lib.cell_of_heap GR4.out]; rfl
          have f0_ : ∀ j, w4.frozen? ⟨w.heap.size + 2, j, none⟩ = false := fun j => Lib.frozen_of_heap GR4.out j
          go_wp2_with fail
          have b0 := HB5.out
          have z0 := GR4.out
          have o0 := HO4.out
          have a0 : Below w.heap.size w w4 := bgo G1.out.2.2 HB5.out
          have p0 := own_below HAo.out HB5.out
          have o1 := own_to o0 (fun b hb => Below.heap_setCell _ ⟨w.heap.size + 2, 0, none⟩ (.string person) b (fun e => Lib.ownBlock_ne o0 z0 (by decide) (by rw [hb]; exact congrArg some e)))
          have p1 := own_to p0 (fun b hb => Below.heap_setCell _ ⟨w.heap.size + 2, 0, none⟩ (.string person) b (fun e => RRJ.neq p0 z0 (by decide) (by rw [hb]; exact congrArg some e)))
          have z1 := setCell_heap (j := 0) (v := .string person) z0
          have a1 := a0.setCell (p := ⟨w.heap.size + 2, 0, none⟩) (by show w.heap.size ≤ w.heap.size + 2; omega) (.string person)
          have o2 := own_to o1 (fun b hb => Below.heap_setCell _ ⟨w.heap.size + 2, 1, none⟩ (.int .i64 month) b (fun e => Lib.ownBlock_ne o1 z1 (by decide) (by rw [hb]; exact congrArg some e)))
          have p2 := own_to p1 (fun b hb => Below.heap_setCell _ ⟨w.heap.size + 2, 1, none⟩ (.int .i64 month) b (fun e => RRJ.neq p1 z1 (by decide) (by rw [hb]; exact congrArg some e)))
          have z2 := setCell_heap (j := 1) (v := .int .i64 month) z1
          have a2 := a1.setCell (p := ⟨w.heap.size + 2, 1, none⟩) (by show w.heap.size ≤ w.heap.size + 2; omega) (.int .i64 month)
          have o3 := own_to o2 (fun b hb => Below.heap_setCell _ ⟨w.heap.size + 2, 2, none⟩ (.slice A n ca) b (fun e => Lib.ownBlock_ne o2 z2 (by decide) (by rw [hb]; exact congrArg some e)))
          have p3 := own_to p2 (fun b hb => Below.heap_setCell _ ⟨w.heap.size + 2, 2, none⟩ (.slice A n ca) b (fun e => RRJ.neq p2 z2 (by decide) (by rw [hb]; exact congrArg some e)))
          have z3 := setCell_heap (j := 2) (v := .slice A n ca) z2
          have a3 := a2.setCell (p := ⟨w.heap.size + 2, 2, none⟩) (by show w.heap.size ≤ w.heap.size + 2; omega) (.slice A n ca)
          have o4 := own_to o3 (fun b hb => Below.heap_setCell _ ⟨w.heap.size + 2, 3, none⟩ (.slice B n cb) b (fun e => Lib.ownBlock_ne o3 z3 (by decide) (by rw [hb]; exact congrArg some e)))
          have p4 := own_to p3 (fun b hb => Below.heap_setCell _ ⟨w.heap.size + 2, 3, none⟩ (.slice B n cb) b (fun e => RRJ.neq p3 z3 (by decide) (by rw [hb]; exact congrArg some e)))
          have z4 := setCell_heap (j := 3) (v := .slice B n cb) z3
          have a4 := a3.setCell (p := ⟨w.heap.size + 2, 3, none⟩) (by show w.heap.size ≤ w.heap.size + 2; omega) (.slice B n cb)
          have o5 := own_to o4 (fun b hb => Below.heap_setCell _ ⟨w.heap.size + 2, 4, none⟩ (.int .u64 d.toNat) b (fun e => Lib.ownBlock_ne o4 z4 (by decide) (by rw [hb]; exact congrArg some e)))
          have p5 := own_to p4 (fun b hb => Below.heap_setCell _ ⟨w.heap.size + 2, 4, none⟩ (.int .u64 d.toNat) b (fun e => RRJ.neq p4 z4 (by decide) (by rw [hb]; exact congrArg some e)))
          have z5 := setCell_heap (j := 4) (v := .int .u64 d.toNat) z4
          have a5 := a4.setCell (p := ⟨w.heap.size + 2, 4, none⟩) (by show w.heap.size ≤ w.heap.size + 2; omega) (.int .u64 d.toNat)
          refine bodyPost_ret (v := .tuple #[.agg #[.string person, .int .i64 month, .slice A n ca, .slice B n cb, .int .u64 d.toNat], .int .i64 0]) (by simp [results, Tryd.results11, go_sem, r0, r1, r2, r3, r4]) rfl ?_
          unfold SheetIs
          dsimp only
          rw [Hn.out, blindL_len, Hd.out]
          exact ⟨A, ca, B, cb, rfl, hcap, slice_cap HO4.out, own_sl p5, own_sl o5, a5⟩
    · have hse := Hse.out.2.1 h64 hE0
      subst hse
      have hss := Hss.out hE0
      subst hss
      have hEn : (SE == 0) = false := beq_eq_false_iff_ne.2 hE0
      have hEb : (SE != 0) = true := bne_iff_ne.2 hE0
      have r0 : w1.cell? ⟨w.heap.size + 2, 0, none⟩ = some (.string ⟨#[]⟩) := by rw [Lib.cell_of_heap g2]; rfl
      have r1 : w1.cell? ⟨w.heap.size + 2, 1, none⟩ = some (.int .i64 0) := by rw [Lib.cell_of_heap g2]; rfl
      have r2 : w1.cell? ⟨w.heap.size + 2, 2, none⟩ = some (.slice none 0 0) := by rw [Lib.cell_of_heap g2]; rfl
      have r3 : w1.cell? ⟨w.heap.size + 2, 3, none⟩ = some (.slice none 0 0) := by rw [Lib.cell_of_heap g2]; rfl
      have r4 : w1.cell? ⟨w.heap.size + 2, 4, none⟩ = some (.int .u64 0) := by rw [Lib.cell_of_heap g2]; rfl
      have f0_ : ∀ j, w1.frozen? ⟨w.heap.size + 2, j, none⟩ = false := fun j => Lib.frozen_of_heap g2 j
      have Bz := Lib.hid (hBw1)
      clear g1 g2 hBw1 Hz Hse Hss Hss0 hE0
      go_wp2_with fail
      have b0 := Bz.out
      have b1 := b0.setCell (p := ⟨w.heap.size + 2, 0, none⟩) (by show w.heap.size ≤ w.heap.size + 2; omega) (.string ⟨#[]⟩)
      have b2 := b1.setCell (p := ⟨w.heap.size + 2, 1, none⟩) (by show w.heap.size ≤ w.heap.size + 2; omega) (.int .i64 0)
      have b3 := b2.setCell (p := ⟨w.heap.size + 2, 2, none⟩) (by show w.heap.size ≤ w.heap.size + 2; omega) (.slice none 0 0)
      have b4 := b3.setCell (p := ⟨w.heap.size + 2, 3, none⟩) (by show w.heap.size ≤ w.heap.size + 2; omega) (.slice none 0 0)
      have b5 := b4.setCell (p := ⟨w.heap.size + 2, 4, none⟩) (by show w.heap.size ≤ w.heap.size + 2; omega) (.int .u64 0)
      refine bodyPost_ret (v := .tuple #[.agg #[.string ⟨#[]⟩, .int .i64 0, .slice none 0 0, .slice none 0 0, .int .u64 0], .int .i64 SE]) (by simp [results, Tryd.results11, go_sem, r0, r1, r2, r3, r4]) rfl (SheetIs.zero b5)
end Go.Proofs.YtfjkmhbipkoefaaDoor
