/- The reference's fits (layer 35). calendar.First, in the namespace of calendar.Text. The reference's Text and First of layer 02, in the namespace of calendar.Text. -/
import Derived.Test.YtfjkmhbipkoefaaDoorQ19
import Derived.Deep.QuietTactic
import Derived.BigQuiet
import Derived.Test.YtfjkmhbipkoefaaDoorQ05
import Derived.Laws.IdiomStrings
namespace Go.Proofs.YtfjkmhbipkoefaaDoor
open Go.RowKit Go.Shelf
set_option linter.unusedVariables false
set_option linter.unusedSimpArgs false
set_option maxRecDepth 100000
theorem idx_no {n m : Int} (h : idxB n m = false) : n < 0 ∨ m ≤ n := by
  have := of_decide_eq_false h
  omega
theorem idx_yes {n m : Int} (h : idxB n m = true) : 0 ≤ n ∧ n < m := of_decide_eq_true h
set_option maxHeartbeats 8000000 in
theorem rfits_any (c : CaseM) (s : SlipM) (r : Bool) (hr : Hid (fitsB c s = r)) (w : World) (hc : CaseOk w c) (hs : SlipOk w s) :
    Calls Tryd.prog 21 #[.agg #[c.f0, .slice c.LA c.ds.length c.lc, .slice c.AA c.nums.length c.ac], slipV s] w fun e w' => e = .returned (.bool r) ∧ Below w.heap.size w w' := by
  have hdl := hc.cd
  have hnl := hc.ca
  have hll := hs.ll
  have hpz := hs.pz
  unfold maxLen at hdl hnl
  obtain ⟨person, month, LA, lc, lines, gross, tax, deduct, floor, TA, tc, taken, net⟩ := s
  obtain ⟨f0, DA, dc, ds, AA, ac, nums, v3, v4, v5, v6, cur, fst⟩ := c
  dsimp only [slipV] at hdl hnl hll hpz hr ⊢
  obtain ⟨dn, hdn⟩ : ∃ n, ds.length = n := ⟨_, rfl⟩
  obtain ⟨an, han⟩ : ∃ n, nums.length = n := ⟨_, rfl⟩
  obtain ⟨ln, hln⟩ : ∃ n, lines.length = n := ⟨_, rfl⟩
  obtain ⟨tn, htn⟩ : ∃ n, taken.length = n := ⟨_, rfl⟩
  rw [hdn] at hdl ⊢
  rw [han] at hnl ⊢
  rw [hln] at hll ⊢
  rw [htn]
  have hr' : (isNameB person && decide (0 ≤ month ∧ month ≤ 1199) && lines.all (lineFit dn an)) = r := by rw [← hdn, ← han]; exact hr.out
  have Hr := Lib.hid hr'
  have Hln := Lib.hid hln
  have HLS := Lib.hid (show Sl w w.heap.size 6 LA ln (lines.flatMap lineV) by rw [← hln]; exact hs.sl)
  have HLN := Lib.hid hs.ln
  dsimp only at HLN
  clear hr hr' hdn han hln htn hc hs
  obtain ⟨nb, hnb⟩ : ∃ b, isNameB person = b := ⟨_, rfl⟩
  rw [hnb] at Hr
  have Hnb := Lib.hid hnb
  clear hnb
  go_enter Tryd.func21, Tryd.ntmps21
  go_upto_region 1 with fail
  obtain ⟨W, hW⟩ : ∃ W, W = (w.alloc (.cells #[f0, .slice DA dn dc, .slice AA an ac] 25)).alloc (.cells #[.string person, .int .i64 month, .slice LA ln lc, .int .i64 gross, .int .i64 tax, .int .i64 deduct, .int .i64 floor, .slice TA tn tc, .int .i64 net] 37) := ⟨_, rfl⟩
  rw [← hW]
  have g1 : W.heap[w.heap.size + 1]? = some (.cells #[.string person, .int .i64 month, .slice LA ln lc, .int .i64 gross, .int .i64 tax, .int .i64 deduct, .int .i64 floor, .slice TA tn tc, .int .i64 net] 37 (0, 0)) := by rw [hW]; exact heap_alloc2_new w _ _
  have g0 : W.heap[w.heap.size]? = some (.cells #[f0, .slice DA dn dc, .slice AA an ac] 25 (0, 0)) := by rw [hW]; exact heap_alloc2_old w _ _
  have hBW : Below w.heap.size w W := by rw [hW]; exact bal (bal (Below.refl _ _) _) _
  have hsz : w.heap.size + 1 < W.heap.size := by rw [hW]; simp
  clear hW
  have e0 : W.cell? ⟨w.heap.size + 1, 0, none⟩ = some (.string person) := by rw [Lib.cell_of_heap g1]; rfl
  have e1 : W.cell? ⟨w.heap.size + 1, 1, none⟩ = some (.int .i64 month) := by rw [Lib.cell_of_heap g1]; rfl
  have d1 : W.cell? ⟨w.heap.size, 1, none⟩ = some (.slice DA dn dc) := by rw [Lib.cell_of_heap g0]; rfl
  have d2 : W.cell? ⟨w.heap.size, 2, none⟩ = some (.slice AA an ac) := by rw [Lib.cell_of_heap g0]; rfl
  have e2 : W.cell? ⟨w.heap.size + 1, 2, none⟩ = some (.slice LA ln lc) := by rw [Lib.cell_of_heap g1]; rfl
  have D : Hid (∀ V, Below W.heap.size W V → V.cell? ⟨w.heap.size, 1, none⟩ = some (.slice DA dn dc) ∧ V.cell? ⟨w.heap.size, 2, none⟩ = some (.slice AA an ac) ∧ V.cell? ⟨w.heap.size + 1, 2, none⟩ = some (.slice LA ln lc)) := Lib.hid (fun V hV =>
    ⟨(hV.cell (p := ⟨w.heap.size, 1, none⟩) (by show w.heap.size < W.heap.size; omega)).trans d1, (hV.cell (p := ⟨w.heap.size, 2, none⟩) (by show w.heap.size < W.heap.size; omega)).trans d2, (hV.cell (p := ⟨w.heap.size + 1, 2, none⟩) hsz).trans e2⟩)
  clear g0 g1 d1 d2
  go_wp2_with fail
  refine (rname_at person nb Hnb W (by unfold maxLen; omega)).mono ?_
  rintro e w' ⟨rfl, hw'⟩
  obtain rfl := hw'
  cases nb with
  | false =>
    have hrf : r = false := by rw [← Hr.out]; rfl
    subst hrf
    clear Hr
    go_wp2_with fail
    go_ret
    exact ⟨rfl, hBW⟩
  | true =>
    by_cases hm0 : month < 0
    · have hrf : r = false := by rw [← Hr.out, decide_eq_false (by omega)]; rfl
      subst hrf
      clear Hr
      go_wp2_with fail
      go_ret
      exact ⟨rfl, hBW⟩
    · by_cases hm1 : 1199 < month
      · have hrf : r = false := by rw [← Hr.out, decide_eq_false (by omega)]; rfl
        subst hrf
        clear Hr
        go_wp2_with fail
        go_ret
        exact ⟨rfl, hBW⟩
      · have Hall : Hid (lines.all (lineFit dn an) = r) := Lib.hid (by have := Hr.out; rw [decide_eq_true ⟨by omega, by omega⟩, Bool.true_and, Bool.true_and] at this; exact this)
        clear Hr
        go_wp2_with fail
        clear e0 e1 e2
        go_loopw [6] (fun i wr => ∃ k : Nat, k ≤ ln ∧ i = .int .i64 (k : Int) ∧ (∀ j (h : j < lines.length), j < k → lineFit dn an lines[j] = true) ∧ Below W.heap.size W wr) (fun i _ => ln - (intOf i).toNat)
        case atStart => exact ⟨0, Nat.zero_le _, rfl, fun j h hj => absurd hj (Nat.not_lt_zero j), Below.refl _ _⟩
        case round =>
          obtain ⟨k, hk, rfl, hall, hB⟩ := hrel
          have HA := Lib.hid hall
          clear hall
          have hBw := bgo hBW hB
          obtain ⟨d1, d2, e2⟩ := D.out wr hB
          by_cases hlt : k < ln
          · have hlt' : (k : Int) < (ln : Int) := by omega
            have hkl : k < lines.length := by rw [Hln.out]; exact hlt
            obtain ⟨b, off, rfl, hb, hcell⟩ := HLS.out.2 (by omega)
            obtain ⟨x, hx⟩ : ∃ x, lines[k] = x := ⟨_, rfl⟩
            have hget := flat_get lineV 6 (fun _ => rfl) lines k hkl
            rw [hx] at hget
            have hLx : LineOk w x := by rw [← hx]; exact HLN.out _ (List.getElem_mem hkl)
            have Hnext : Hid (lineFit dn an x = true → ∀ j (h : j < lines.length), j < k + 1 → lineFit dn an lines[j] = true) := Lib.hid (fun hf j h hj => by
              by_cases e : j < k
              · exact HA.out j h e
              · obtain rfl : j = k := by omega
                rw [hx]; exact hf)
            have Hstop : Hid (lineFit dn an x = false → r = false) := Lib.hid (fun hf => by
              rw [← Hall.out]
              refine List.all_eq_false.2 ⟨x, by rw [← hx]; exact List.getElem_mem hkl, by rw [hf]; simp⟩)
            obtain ⟨day, line, art, amt, FA, fc, facts, RA, rc, rests⟩ := x
            obtain ⟨fn, hfn⟩ : ∃ n, facts.length = n := ⟨_, rfl⟩
            obtain ⟨rn, hrn⟩ : ∃ n, rests.length = n := ⟨_, rfl⟩
            have hrl : rn ≤ 1000 := by rw [← hrn]; exact hLx.lr
            have HSR := Lib.hid (show Sl w w.heap.size 1 RA rn (intV rests) by rw [← hrn]; exact hLx.sr)
            have cc : ∀ j v, (lineV ⟨day, line, art, amt, FA, fc, facts, RA, rc, rests⟩)[j]? = some v → j < 6 → wr.cell? ⟨b, off + (k * 6 + j), none⟩ = some v := fun j v hv hj => (hBw.cell (p := ⟨b, off + (k * 6 + j), none⟩) hb).trans (hcell _ _ ((hget j hj).trans hv))
            have y0 : wr.cell? ⟨b, off + k * 6, none⟩ = some (.int .i64 day) := cc 0 _ rfl (by decide)
            have y1 : wr.cell? ⟨b, off + k * 6 + 1, none⟩ = some (.int .i64 line) := cc 1 _ rfl (by decide)
            have y2 : wr.cell? ⟨b, off + k * 6 + 2, none⟩ = some (.int .i64 art) := cc 2 _ rfl (by decide)
            have y3 : wr.cell? ⟨b, off + k * 6 + 3, none⟩ = some (.int .i64 amt) := cc 3 _ rfl (by decide)
            have y4 : wr.cell? ⟨b, off + k * 6 + 4, none⟩ = some (.slice FA fn fc) := by rw [← hfn]; exact cc 4 _ rfl (by decide)
            have y5 : wr.cell? ⟨b, off + k * 6 + 5, none⟩ = some (.slice RA rn rc) := by rw [← hrn]; exact cc 5 _ rfl (by decide)
            have Hrn := Lib.hid hrn
            clear hx hget hLx cc hcell hfn hrn hkl HA
            go_upto_region 8 with fail
            obtain ⟨V, hV⟩ : ∃ V, V = wr.alloc (.cells #[.int .i64 day, .int .i64 line, .int .i64 art, .int .i64 amt, .slice FA fn fc, .slice RA rn rc] 62) := ⟨_, rfl⟩
            rw [← hV]
            obtain ⟨bx, hbx⟩ : ∃ b, b = wr.heap.size := ⟨_, rfl⟩
            rw [← hbx]
            have g := (show V.heap[bx]? = some (.cells #[.int .i64 day, .int .i64 line, .int .i64 art, .int .i64 amt, .slice FA fn fc, .slice RA rn rc] 62 (0, 0)) by rw [hV, hbx]; exact World.alloc_heap_new _ _)
            have hBV : Below wr.heap.size wr V := by rw [hV]; exact bal (Below.refl _ _) _
            have hBWV := bgo hB hBV
            have hBwV := bgo hBw hBV
            have hgb := (Array.getElem?_eq_some_iff.1 g).1
            clear hV hbx y0 y1 y2 y3 y4 y5 hBV d1 d2 e2 hBw hB
            have z0 : V.cell? ⟨bx, 0, none⟩ = some (.int .i64 day) := by rw [Lib.cell_of_heap g]; rfl
            have z1 : V.cell? ⟨bx, 1, none⟩ = some (.int .i64 line) := by rw [Lib.cell_of_heap g]; rfl
            have z2 : V.cell? ⟨bx, 2, none⟩ = some (.int .i64 art) := by rw [Lib.cell_of_heap g]; rfl
            have z5 : V.cell? ⟨bx, 5, none⟩ = some (.slice RA rn rc) := by rw [Lib.cell_of_heap g]; rfl
            obtain ⟨d1, d2, e2⟩ := D.out V hBWV
            have Z : Hid (∀ U, Below V.heap.size V U → U.cell? ⟨bx, 5, none⟩ = some (.slice RA rn rc)) := Lib.hid (fun U hU => (hU.cell (p := ⟨bx, 5, none⟩) hgb).trans z5)
            clear g e2 hgb
            obtain ⟨q1, hq1⟩ : ∃ q, idxB day 36525 = q := ⟨_, rfl⟩
            obtain ⟨q2, hq2⟩ : ∃ q, idxB line (dn : Int) = q := ⟨_, rfl⟩
            obtain ⟨q3, hq3⟩ : ∃ q, idxB art (an : Int) = q := ⟨_, rfl⟩
            have hlf : lineFit dn an ⟨day, line, art, amt, FA, fc, facts, RA, rc, rests⟩ = (q1 && q2 && q3 && rests.all (fun r => idxB r an)) := by rw [lineFit]; dsimp only; rw [hq1, hq2, hq3]
            have Hlf := Lib.hid hlf
            have Q1 := Lib.hid hq1
            have Q2 := Lib.hid hq2
            have Q3 := Lib.hid hq3
            clear hlf hq1 hq2 hq3
            cases q1 with
            | false =>
              rcases idx_no Q1.out with hq | hq
              · have hrf := Hstop.out (by rw [Hlf.out]; rfl)
                have Hrf := Lib.hid hrf
                clear hrf
                go_wp2_with fail
                go_ret
                exact ⟨by rw [Hrf.out]; rfl, hBwV⟩
              · have hrf := Hstop.out (by rw [Hlf.out]; rfl)
                have Hrf := Lib.hid hrf
                clear hrf
                have p1 : ¬ day < 0 := by omega
                have p2 : 36524 < day := by omega
                clear hq
                go_wp2_with fail
                go_ret
                exact ⟨by rw [Hrf.out]; rfl, hBwV⟩
            | true =>
              have p1 : ¬ day < 0 := by have := (idx_yes Q1.out).1; omega
              have p2 : ¬ 36524 < day := by have := (idx_yes Q1.out).2; omega
              cases q2 with
              | false =>
                rcases idx_no Q2.out with hq | hq
                · have hrf := Hstop.out (by rw [Hlf.out]; rfl)
                  have Hrf := Lib.hid hrf
                  clear hrf
                  go_wp2_with fail
                  go_ret
                  exact ⟨by rw [Hrf.out]; rfl, hBwV⟩
                · have hrf := Hstop.out (by rw [Hlf.out]; rfl)
                  have Hrf := Lib.hid hrf
                  clear hrf
                  have p3 : ¬ line < 0 := by omega
                  go_wp2_with fail
                  go_ret
                  exact ⟨by rw [Hrf.out]; rfl, hBwV⟩
              | true =>
                have p3 : ¬ line < 0 := by have := (idx_yes Q2.out).1; omega
                have p4 : ¬ (dn : Int) ≤ line := by have := (idx_yes Q2.out).2; omega
                cases q3 with
                | false =>
                  rcases idx_no Q3.out with hq | hq
                  · have hrf := Hstop.out (by rw [Hlf.out]; rfl)
                    have Hrf := Lib.hid hrf
                    clear hrf
                    go_wp2_with fail
                    go_ret
                    exact ⟨by rw [Hrf.out]; rfl, hBwV⟩
                  · have hrf := Hstop.out (by rw [Hlf.out]; rfl)
                    have Hrf := Lib.hid hrf
                    clear hrf
                    have p5 : ¬ art < 0 := by omega
                    go_wp2_with fail
                    go_ret
                    exact ⟨by rw [Hrf.out]; rfl, hBwV⟩
                | true =>
                  have p5 : ¬ art < 0 := by have := (idx_yes Q3.out).1; omega
                  have p6 : ¬ (an : Int) ≤ art := by have := (idx_yes Q3.out).2; omega
                  go_wp2_with fail
                  clear p1 p2 p3 p4 p5 p6 d1 d2 z0 z1 z2 z5
                  obtain ⟨V0, hV0⟩ : ∃ V0, V0 = V := ⟨_, rfl⟩
                  rw [← hV0]
                  rw [← hV0] at hBWV hBwV Z
                  clear hV0
                  clear V wr
                  go_loopw [8] (fun i wr => ∃ m : Nat, m ≤ rn ∧ i = .int .i64 (m : Int) ∧ (∀ j, j < m → idxB (rests.getD j 0) an = true) ∧ Below V0.heap.size V0 wr) (fun i _ => rn - (intOf i).toNat)
                  case atStart => exact ⟨0, Nat.zero_le _, rfl, fun j hj => absurd hj (Nat.not_lt_zero j), Below.refl _ _⟩
                  case round =>
                    obtain ⟨m, hm, rfl, hri, hB2⟩ := hrel
                    have HR := Lib.hid hri
                    clear hri
                    have hBW2 := bgo hBWV hB2
                    have hBw2 := bgo hBwV hB2
                    obtain ⟨d1, d2, e2⟩ := D.out wr hBW2
                    have z5 := Z.out wr hB2
                    clear e2
                    by_cases hmlt : m < rn
                    · have hmlt' : (m : Int) < (rn : Int) := by omega
                      obtain ⟨b2, off2, rfl, hb2, hcell2⟩ := HSR.out.2 (by omega)
                      have hml : m < rests.length := by rw [Hrn.out]; exact hmlt
                      obtain ⟨v, hv⟩ : ∃ v, rests.getD m 0 = v := ⟨_, rfl⟩
                      have rr : wr.cell? ⟨b2, off2 + m, none⟩ = some (.int .i64 v) := (hBw2.cell (p := ⟨b2, off2 + m, none⟩) hb2).trans (hcell2 m _ (by rw [intV_get rests m hml, hv]))
                      have hk0' : (0 : Int) ≤ (m : Int) := by omega
                      obtain ⟨q4, hq4⟩ : ∃ q, idxB v (an : Int) = q := ⟨_, rfl⟩
                      have Q4 := Lib.hid hq4
                      have Hv := Lib.hid hv
                      have HBB := Lib.hid (And.intro hB2 hBw2)
                      clear hcell2 hv hq4 hB2 hBW2 hBw2
                      cases q4 with
                      | false =>
                        have hrf := Hstop.out (by
                          rw [Hlf.out, Bool.true_and, Bool.true_and, Bool.true_and]
                          refine List.all_eq_false.2 ⟨v, ?_, by rw [Q4.out]; simp⟩
                          rw [← Hv.out]
                          simp [List.getD, hml])
                        have Hrf := Lib.hid hrf
                        clear hrf
                        by_cases hq : v < 0
                        · go_wp2_with fail
                          go_quiet (fail)
                          go_wp2_with fail
                          go_ret
                          exact ⟨by rw [Hrf.out] <;> rfl, below_drewN HBB.out.2 _⟩
                        · have hq2 : (an : Int) ≤ v := by rcases idx_no Q4.out with h | h <;> omega
                          go_wp2_with fail
                          go_quiet (fail)
                          go_wp2_with fail
                          go_ret
                          exact ⟨by rw [Hrf.out] <;> rfl, below_drewN HBB.out.2 _⟩
                      | true =>
                        have p7 : ¬ v < 0 := by have := (idx_yes Q4.out).1; omega
                        have p8 : ¬ (an : Int) ≤ v := by have := (idx_yes Q4.out).2; omega
                        go_wp2_with fail
                        go_quiet (fail)
                        go_wp2_with fail
                        go_roundw
                        case rel =>
                          refine ⟨m + 1, by omega, by go_num, fun j hj => ?_, below_drewN HBB.out.1 _⟩
                          by_cases e : j < m
                          · exact HR.out j e
                          · obtain rfl : j = m := by omega
                            rw [Hv.out]; exact Q4.out
                        case measure => simp [intOf]; omega
                    · obtain rfl : m = rn := by omega
                      have hfit := Hnext.out (by
                        rw [Hlf.out, Bool.true_and, Bool.true_and, Bool.true_and]
                        refine List.all_eq_true.2 (fun y hy => ?_)
                        obtain ⟨j, hj, rfl⟩ := List.getElem_of_mem hy
                        have := HR.out j (by rw [← Hrn.out]; exact hj)
                        simpa [List.getD, hj] using this)
                      have HF := Lib.hid hfit
                      clear hfit d1 d2
                      go_wp2_with fail
                      go_roundw
                      case rel => exact ⟨k + 1, by omega, by go_num, HF.out, hBW2⟩
                      case measure => simp [intOf]; omega
          · obtain rfl : k = ln := by omega
            have hrt : r = true := by
              rw [← Hall.out]
              refine List.all_eq_true.2 (fun x hx => ?_)
              obtain ⟨j, hj, rfl⟩ := List.getElem_of_mem hx
              exact HA.out j hj (by rw [← Hln.out]; exact hj)
            have Hrt := Lib.hid hrt
            clear hrt
            go_wp2_with fail
            go_ret
            exact ⟨by rw [Hrt.out] <;> rfl, hBw⟩
end Go.Proofs.YtfjkmhbipkoefaaDoor
namespace Go.Proofs.YtfjkmhbipkoefaaDoor.CaT
open Go.RowKit Go.Sort Go.Proofs.YtfjkmhbipkoefaaDoor
set_option linter.unusedVariables false
end Go.Proofs.YtfjkmhbipkoefaaDoor.CaT
namespace Go.Proofs.YtfjkmhbipkoefaaDoor.CaT
open Go.RowKit Go.Sort Go.Proofs.YtfjkmhbipkoefaaDoor
set_option linter.unusedVariables false
theorem dig_toNat (a : Nat) (h : a < 10) : (Cal.dig a).toNat = 48 + a := by
  unfold Cal.dig
  rw [UInt8.toNat_ofNat']
  omega
theorem long_any (Y : Nat) (hY : Y < 100) (b : Bool) (hb : decide (Y % 4 = 0) = b) (w : World) : Calls Tryd.prog 77 #[.int .i64 ((2000 : Int) + (Y : Int))] w fun e w' => e = .returned (.bool b) ∧ w = w' := by
  subst hb
  by_cases h4 : Y % 4 = 0
  · rw [decide_eq_true h4]
    have d1 : (((2000 : Int) + (Y : Int)) % 4 == 0) = true := by simp; omega
    by_cases h0 : Y = 0
    · subst h0
      go_enter Tryd.func77, Tryd.ntmps77
      go_wp2
      go_ret
      exact ⟨rfl, rfl⟩
    · have d2 : (((2000 : Int) + (Y : Int)) % 100 != 0) = true := by simp; omega
      go_enter Tryd.func77, Tryd.ntmps77
      go_wp2
      go_ret
      exact ⟨rfl, rfl⟩
  · rw [decide_eq_false h4]
    have d1 : (((2000 : Int) + (Y : Int)) % 4 == 0) = false := by simp; omega
    go_enter Tryd.func77, Tryd.ntmps77
    go_wp2
    go_ret
    exact ⟨rfl, rfl⟩
theorem days_any (Y k l : Nat) (hY : Y < 100) (hk : k < 12) (hl : Cal.len Y k = l) (y m : Int) (hy : y = 2000 + (Y : Int)) (hm : m = (k : Int) + 1) (w : World) : Calls Tryd.prog 60 #[.int .i64 y, .int .i64 m] w fun e w' => e = .returned (.int .i64 (l : Int)) ∧ w = w' := by
  subst hy hm
  rcases Cal.k12 k hk with rfl | rfl | rfl | rfl | rfl | rfl | rfl | rfl | rfl | rfl | rfl | rfl
  · obtain rfl : l = 31 := by rw [← hl]; simp [Cal.len, Cal.bef]
    clear hl
    go_enter Tryd.func60, Tryd.ntmps60
    go_wp2_with fail
    go_ret
    exact ⟨rfl, rfl⟩
  · by_cases h4 : Y % 4 = 0
    · obtain rfl : l = 29 := by rw [← hl]; simp [Cal.len, Cal.bef, h4]
      clear hl
      go_enter Tryd.func60, Tryd.ntmps60
      go_wp2_with fail
      refine (long_any Y hY true (decide_eq_true h4) _).mono ?_
      rintro e w' ⟨rfl, rfl⟩
      go_wp2_with fail
      go_ret
      exact ⟨rfl, rfl⟩
    · obtain rfl : l = 28 := by rw [← hl]; simp [Cal.len, Cal.bef, h4]
      clear hl
      go_enter Tryd.func60, Tryd.ntmps60
      go_wp2_with fail
      refine (long_any Y hY false (decide_eq_false h4) _).mono ?_
      rintro e w' ⟨rfl, rfl⟩
      go_wp2_with fail
      go_ret
      exact ⟨rfl, rfl⟩
  · obtain rfl : l = 31 := by rw [← hl]; simp [Cal.len, Cal.bef]
    clear hl
    go_enter Tryd.func60, Tryd.ntmps60
    go_wp2_with fail
    go_ret
    exact ⟨rfl, rfl⟩
  · obtain rfl : l = 30 := by rw [← hl]; simp [Cal.len, Cal.bef]
    clear hl
    go_enter Tryd.func60, Tryd.ntmps60
    go_wp2_with fail
    go_ret
    exact ⟨rfl, rfl⟩
  · obtain rfl : l = 31 := by rw [← hl]; simp [Cal.len, Cal.bef]
    clear hl
    go_enter Tryd.func60, Tryd.ntmps60
    go_wp2_with fail
    go_ret
    exact ⟨rfl, rfl⟩
  · obtain rfl : l = 30 := by rw [← hl]; simp [Cal.len, Cal.bef]
    clear hl
    go_enter Tryd.func60, Tryd.ntmps60
    go_wp2_with fail
    go_ret
    exact ⟨rfl, rfl⟩
  · obtain rfl : l = 31 := by rw [← hl]; simp [Cal.len, Cal.bef]
    clear hl
    go_enter Tryd.func60, Tryd.ntmps60
    go_wp2_with fail
    go_ret
    exact ⟨rfl, rfl⟩
  · obtain rfl : l = 31 := by rw [← hl]; simp [Cal.len, Cal.bef]
    clear hl
    go_enter Tryd.func60, Tryd.ntmps60
    go_wp2_with fail
    go_ret
    exact ⟨rfl, rfl⟩
  · obtain rfl : l = 30 := by rw [← hl]; simp [Cal.len, Cal.bef]
    clear hl
    go_enter Tryd.func60, Tryd.ntmps60
    go_wp2_with fail
    go_ret
    exact ⟨rfl, rfl⟩
  · obtain rfl : l = 31 := by rw [← hl]; simp [Cal.len, Cal.bef]
    clear hl
    go_enter Tryd.func60, Tryd.ntmps60
    go_wp2_with fail
    go_ret
    exact ⟨rfl, rfl⟩
  · obtain rfl : l = 30 := by rw [← hl]; simp [Cal.len, Cal.bef]
    clear hl
    go_enter Tryd.func60, Tryd.ntmps60
    go_wp2_with fail
    go_ret
    exact ⟨rfl, rfl⟩
  · obtain rfl : l = 31 := by rw [← hl]; simp [Cal.len, Cal.bef]
    clear hl
    go_enter Tryd.func60, Tryd.ntmps60
    go_wp2_with fail
    go_ret
    exact ⟨rfl, rfl⟩
set_option maxRecDepth 100000 in
set_option maxHeartbeats 1000000 in
theorem rdate_ok (n M y m d : Nat) (h : Cal.InM n M) (hy : 2000 + M / 12 = y) (hm : M % 12 + 1 = m) (hd : Cal.dom n M = d) (w : World) : Calls Tryd.prog 41 #[.int .i64 (n : Int)] w fun e w' => e = .returned (.tuple #[.int .i64 (y : Int), .int .i64 (m : Int), .int .i64 (d : Int)]) ∧ w = w' := by
  have hn := h.day
  have hM := h.1
  have H := Lib.hid (And.intro h (And.intro hy (And.intro hm hd)))
  clear h hy hm hd
  have h1 : ¬ ((n : Int) < 0) := by omega
  have h2 : ¬ ((36524 : Int) < (n : Int)) := by omega
  go_enter Tryd.func41, Tryd.ntmps41
  go_wp2_with fail
  go_loop [0, 5, 6] (fun r yy mm => ∃ Y k R : Nat, r = .int .i64 (R : Int) ∧ yy = .int .i64 ((2000 : Int) + (Y : Int)) ∧ mm = .int .i64 ((k : Int) + 1) ∧ k < 12 ∧ Y * 12 + k ≤ M ∧ Cal.first (Y * 12 + k) + R = n) (fun r _ _ => (intOf r).toNat)
  case atStart => exact ⟨0, 0, n, rfl, rfl, rfl, by omega, by omega, by simp [Cal.first_0]⟩
  case round =>
    obtain ⟨Y, k, R, rfl, rfl, rfl, hk, hKM, hR⟩ := hrel
    have hRn : R ≤ n := by omega
    have HR := Lib.hid hR
    clear hR
    have hlen := Cal.lenM_year Y k hk
    have hfs := Cal.first_succ (Y * 12 + k)
    have hlb := Cal.lenM_bounds (Y * 12 + k)
    obtain ⟨l, hl⟩ : ∃ l, Cal.len Y k = l := ⟨_, rfl⟩
    rw [hlen, hl] at hfs hlb
    have Hl := Lib.hid (And.intro hl hfs)
    clear hl hfs hlen
    by_cases hin : R < l
    · have hin' : ¬ ((l : Int) ≤ (R : Int)) := by omega
      have hMe : M = Y * 12 + k := by
        have h1 := HR.out
        have h2 := Hl.out.2
        exact Cal.InM.unique H.out.1 ⟨by omega, by omega, by omega⟩
      have hd : d = R + 1 := by
        rw [← H.out.2.2.2]
        unfold Cal.dom
        rw [hMe]
        have := HR.out
        omega
      have hy : y = 2000 + Y := by have := H.out.2.1; omega
      have hm : m = k + 1 := by have := H.out.2.2.1; omega
      have HX := Lib.hid (And.intro hd (And.intro hy hm))
      clear hMe hd hy hm
      go_wp2_with fail
      refine (days_any Y k l (by omega) hk Hl.out.1 _ _ rfl rfl _).mono ?_
      rintro e w' ⟨rfl, rfl⟩
      go_wp2_with fail
      go_ret3
      obtain ⟨hd, hy, hm⟩ := HX.out
      rw [hd, hy, hm]
      exact ⟨rfl, rfl⟩
    · have hin' : (l : Int) ≤ (R : Int) := by omega
      have hnext : Y * 12 + k + 1 ≤ M := inM_le H.out.1 (by rw [Hl.out.2]; have := HR.out; omega)
      by_cases hk11 : k = 11
      · subst hk11
        go_wp2_with fail
        refine (days_any Y 11 l (by omega) (by omega) Hl.out.1 _ _ rfl rfl _).mono ?_
        rintro e w' ⟨rfl, rfl⟩
        go_wp2_with fail
        refine (days_any Y 11 l (by omega) (by omega) Hl.out.1 _ _ rfl rfl _).mono ?_
        rintro e w' ⟨rfl, rfl⟩
        go_wp2_with fail
        go_round
        case rel => exact ⟨Y + 1, 0, R - l, by rw [show ((R - l : Nat) : Int) = (R : Int) - (l : Int) by omega], by go_num, rfl, by omega, by omega, by rw [show (Y + 1) * 12 + 0 = Y * 12 + 11 + 1 by omega, Hl.out.2]; have := HR.out; omega⟩
        case measure => simp [intOf]; omega
      · have hk12 : ¬ ((12 : Int) < (k : Int) + 1 + 1) := by omega
        go_wp2_with fail
        refine (days_any Y k l (by omega) hk Hl.out.1 _ _ rfl rfl _).mono ?_
        rintro e w' ⟨rfl, rfl⟩
        go_wp2_with fail
        refine (days_any Y k l (by omega) hk Hl.out.1 _ _ rfl rfl _).mono ?_
        rintro e w' ⟨rfl, rfl⟩
        go_wp2_with fail
        go_round
        case rel => exact ⟨Y, k + 1, R - l, by rw [show ((R - l : Nat) : Int) = (R : Int) - (l : Int) by omega], rfl, by go_num, by omega, by omega, by rw [← Nat.add_assoc, Hl.out.2]; have := HR.out; omega⟩
        case measure => simp [intOf]; omega
theorem two_back (W : World) (B : Nat) (n : Nat) (h0 : W.cell? ⟨B, 0, none⟩ = some (.int .u8 ((Cal.dig (n / 10)).toNat : Int))) (h1 : W.cell? ⟨B, 1, none⟩ = some (.int .u8 ((Cal.dig (n % 10)).toNat : Int))) :
    (convert 100 9 (.slice (some ⟨B, 0, none⟩) 2 2)).run Tryd.prog W = .ok (.string ⟨(Cal.two n).toArray⟩) W := by
  refine run_convert_bytes_back (P := Tryd.prog) W 100 9 5 ⟨B, 0, none⟩ 2 (Cal.two n) Tryd.underlying100 Tryd.underlying5 Tryd.underlying9 ?_
  intro j hj
  have hj : j < 2 := hj
  rcases (show j = 0 ∨ j = 1 by omega) with rfl | rfl
  · exact h0
  · exact h1
theorem rtwo_any (n : Nat) (h : n < 100) (i : Int) (hi : i = n) (w : World) : Calls Tryd.prog 42 #[.int .i64 i] w fun e w' => e = .returned (.string ⟨(Cal.two n).toArray⟩) ∧ Below w.heap.size w w' := by
  subst hi
  have hn0 : (0 : Int) ≤ (n : Int) := Int.natCast_nonneg _
  have e0 : (48 + (n : Int) / 10) % 256 = ((Cal.dig (n / 10)).toNat : Int) := by rw [dig_toNat _ (by omega)]; omega
  have e1 : (48 + (n : Int) % 10) % 256 = ((Cal.dig (n % 10)).toNat : Int) := by rw [dig_toNat _ (by omega)]; omega
  have f0 : 48 + (n : Int) / 10 = ((Cal.dig (n / 10)).toNat : Int) := by rw [dig_toNat _ (by omega)]; omega
  have f1 : 48 + (n : Int) % 10 = ((Cal.dig (n % 10)).toNat : Int) := by rw [dig_toNat _ (by omega)]; omega
  have l0 := (Cal.dig (n / 10)).toNat_lt
  have l1 := (Cal.dig (n % 10)).toNat_lt
  have k := two_back (w.alloc (.cells #[.int .u8 ((Cal.dig (n / 10)).toNat : Int), .int .u8 ((Cal.dig (n % 10)).toNat : Int)] 5)) w.heap.size n (by simp [go_sem]) (by simp [go_sem])
  go_enter Tryd.func42, Tryd.ntmps42
  go_wp2_with fail
  go_ret
  exact ⟨rfl, (Below.refl _ _).alloc (Nat.le_refl _) _⟩
theorem four_two (y : Nat) (h : y < 10000) : Cal.four y = Cal.two (y / 100) ++ Cal.two (y % 100) := by
  unfold Cal.four Cal.two
  rw [show y / 100 / 10 = y / 1000 by omega, show y % 100 / 10 = y / 10 % 10 by omega, show y % 100 % 10 = y % 10 by omega]
  rfl
theorem rtext_join (y m d : Nat) (h : y < 10000) : (⟨(Cal.two (y / 100)).toArray⟩ : ByteArray) ++ ⟨(Cal.two (y % 100)).toArray⟩ ++ ⟨#[45]⟩ ++ ⟨(Cal.two m).toArray⟩ ++ ⟨#[45]⟩ ++ ⟨(Cal.two d).toArray⟩ = ⟨(Cal.text y m d).toArray⟩ := by
  apply ByteArray.ext
  simp [ByteArray.data_append, Cal.text, four_two y h]
theorem rtext_ok (n M : Nat) (i : Int) (t : ByteArray) (hi : i = n) (h : Cal.InM n M) (ht : (⟨(Cal.text (2000 + M / 12) (M % 12 + 1) (Cal.dom n M)).toArray⟩ : ByteArray) = t) (w : World) : Calls Tryd.prog 23 #[.int .i64 i] w fun e w' => e = .returned (.string t) ∧ Below w.heap.size w w' := by
  subst hi
  have hM := h.1
  have hdb := h.dom
  have hlb := Cal.lenM_bounds M
  obtain ⟨y, hy⟩ : ∃ y, 2000 + M / 12 = y := ⟨_, rfl⟩
  obtain ⟨m, hm⟩ : ∃ m, M % 12 + 1 = m := ⟨_, rfl⟩
  obtain ⟨d, hd⟩ : ∃ d, Cal.dom n M = d := ⟨_, rfl⟩
  rw [hy, hm, hd] at ht
  have hd31 : d < 100 := by omega
  have hm12 : m < 100 := by omega
  have hy1 : 2000 ≤ y := by omega
  have hy2 : y < 2100 := by omega
  have hy0 : ((y : Int) == 0) = false := beq_eq_false_iff_ne.2 (by omega)
  have hj := rtext_join y m d (by omega)
  rw [ht] at hj
  have z1 : (⟨(Cal.two (y / 100)).toArray⟩ : ByteArray).size = 2 := rfl
  have z2 : (⟨(Cal.two (y % 100)).toArray⟩ : ByteArray).size = 2 := rfl
  have z3 : (⟨(Cal.two m).toArray⟩ : ByteArray).size = 2 := rfl
  have z4 : (⟨(Cal.two d).toArray⟩ : ByteArray).size = 2 := rfl
  have F := Lib.hid (And.intro h (And.intro hy (And.intro hm (And.intro hd hj))))
  clear h hy hm hd hj ht hdb hlb
  go_enter Tryd.func23, Tryd.ntmps23
  go_wp2_with fail
  refine (rdate_ok n M y m d F.out.1 F.out.2.1 F.out.2.2.1 F.out.2.2.2.1 _).mono ?_
  rintro e w' ⟨rfl, rfl⟩
  go_wp2_with fail
  refine (rtwo_any (y / 100) (by omega) _ (by omega) _).mono ?_
  rintro e w1 ⟨rfl, hB1⟩
  go_wp2_with fail
  refine (rtwo_any (y % 100) (by omega) _ (by omega) _).mono ?_
  rintro e w2 ⟨rfl, hB⟩
  have hB2 := bgo hB1 hB
  clear hB1 hB
  go_wp2_with fail
  refine (rtwo_any m hm12 _ rfl _).mono ?_
  rintro e w3 ⟨rfl, hB⟩
  have hB3 := bgo hB2 hB
  clear hB2 hB
  go_wp2_with fail
  refine (rtwo_any d hd31 _ rfl _).mono ?_
  rintro e w4 ⟨rfl, hB⟩
  have hB4 := bgo hB3 hB
  clear hB3 hB
  go_wp2_with fail
  go_ret
  rw [← F.out.2.2.2.2]
  exact ⟨rfl, hB4⟩
end Go.Proofs.YtfjkmhbipkoefaaDoor.CaT
