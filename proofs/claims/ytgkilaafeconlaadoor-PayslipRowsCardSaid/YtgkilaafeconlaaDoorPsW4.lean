/- The walk of payslip's fits. -/
import Derived.Test.YtgkilaafeconlaaDoorPsW3
namespace Go.Proofs.YtgkilaafeconlaaDoor
open Go.RowKit Go.Shelf
set_option linter.unusedVariables false
set_option linter.unusedSimpArgs false
set_option maxRecDepth 100000
def idxB (n m : Int) : Bool := decide (0 ≤ n ∧ n < m)
theorem isIndex_any (n m : Int) (w : World) : Calls Tryd.prog 52 #[.int .i64 n, .int .i64 m] w fun e w' => e = .returned (.bool (idxB n m)) ∧ w' = w :=
  (isIndex_at n m (idxB n m) (Lib.hid rfl) w).mono fun e w' h => ⟨h.1, h.2.symm⟩
/-- A result, with the places of its lists. -/
structure SlipM where
  person : ByteArray
  month : Int
  LA : Option Addr
  lc : Nat
  lines : List LineM
  gross : Int
  tax : Int
  deduct : Int
  floor : Int
  TA : Option Addr
  tc : Nat
  taken : List (Int × Int)
  net : Int
def takenV (x : Int × Int) : List Value := [.int .i64 x.1, .int .i64 x.2]
def slipV (s : SlipM) : Value := .agg #[.string s.person, .int .i64 s.month, .slice s.LA s.lines.length s.lc, .int .i64 s.gross, .int .i64 s.tax, .int .i64 s.deduct, .int .i64 s.floor, .slice s.TA s.taken.length s.tc, .int .i64 s.net]
structure SlipOk (W : World) (s : SlipM) : Prop where
  sl : Sl W W.heap.size 6 s.LA s.lines.length (s.lines.flatMap lineV)
  st : Sl W W.heap.size 2 s.TA s.taken.length (s.taken.flatMap takenV)
  ln : ∀ x ∈ s.lines, LineOk W x
  pz : s.person.size ≤ 70000000000000
  mo : I64 s.month
  ll : s.lines.length ≤ 1000000
  lt : s.taken.length ≤ 1000000
  ti : ∀ x ∈ s.taken, I64 x.1 ∧ I64 x.2
  g0 : I64 s.gross
  g1 : I64 s.tax
  g2 : I64 s.deduct
  g3 : I64 s.floor
  g4 : I64 s.net
theorem SlipOk.go {W W' : World} {s : SlipM} (h : SlipOk W s) (k : Below W.heap.size W W') : SlipOk W' s := ⟨h.sl.go k, h.st.go k, fun x hx => (h.ln x hx).go k, h.pz, h.mo, h.ll, h.lt, h.ti, h.g0, h.g1, h.g2, h.g3, h.g4⟩
def lineFit (nd na : Nat) (x : LineM) : Bool := idxB x.day 36525 && idxB x.line nd && idxB x.art na && x.rests.all (fun r => idxB r na)
def fitsB (c : CaseM) (s : SlipM) : Bool := isNameB s.person && decide (0 ≤ s.month ∧ s.month ≤ 1199) && s.lines.all (lineFit c.ds.length c.nums.length)
set_option maxHeartbeats 4000000 in
theorem fits_any (c : CaseM) (s : SlipM) (r : Bool) (hr : Hid (fitsB c s = r)) (w : World) (hc : CaseOk w c) (hs : SlipOk w s) :
    Calls Tryd.prog 29 #[caseV c, slipV s] w fun e w' => e = .returned (.bool r) ∧ Below w.heap.size w w' := by
  have Hc := Lib.hid hc
  have Hs := Lib.hid hs
  have hdl := hc.cd
  have hnl := hc.ca
  have hll := hs.ll
  have hpz := hs.pz
  unfold maxLen at hdl hnl
  obtain ⟨person, month, LA, lc, lines, gross, tax, deduct, floor, TA, tc, taken, net⟩ := s
  obtain ⟨f0, DA, dc, ds, AA, ac, nums, v3, v4, v5, v6, cur, fst⟩ := c
  dsimp only [caseV, slipV] at hdl hnl hll hpz hr ⊢
  obtain ⟨dn, hdn⟩ : ∃ n, ds.length = n := ⟨_, rfl⟩
  obtain ⟨an, han⟩ : ∃ n, nums.length = n := ⟨_, rfl⟩
  obtain ⟨ln, hln⟩ : ∃ n, lines.length = n := ⟨_, rfl⟩
  obtain ⟨tn, htn⟩ : ∃ n, taken.length = n := ⟨_, rfl⟩
  rw [hdn] at hdl ⊢
  rw [han] at hnl ⊢
  rw [hln] at hll ⊢
  rw [htn]
  have hr' : (isNameB person && decide (0 ≤ month ∧ month ≤ 1199) && lines.all (lineFit dn an)) = r := by rw [← hdn, ← han]; exact hr.out
  have Hr := Lib.hid hr'
  have Hln := Lib.hid hln
  have HLS := Lib.hid (show Sl w w.heap.size 6 LA ln (lines.flatMap lineV) by rw [← hln]; exact hs.sl)
  have HLN := Lib.hid hs.ln
  dsimp only at HLN
  clear hr hr' hdn han hln htn hc hs
  obtain ⟨nb, hnb⟩ : ∃ b, isNameB person = b := ⟨_, rfl⟩
  rw [hnb] at Hr
  have Hnb := Lib.hid hnb
  clear hnb
  cases nb with
  | false =>
    have hrf : r = false := by rw [← Hr.out]; rfl
    subst hrf
    clear Hr
    go_enter Tryd.func29, Tryd.ntmps29
    go_wp2_with fail
    refine (isName_any person _ (by unfold maxLen; omega)).mono ?_
    rintro e w' ⟨rfl, rfl⟩
    rw [Hnb.out]
    go_wp2_with fail
    go_ret
    exact ⟨rfl, bal (bal (Below.refl _ _) _) _⟩
  | true =>
    by_cases hm0 : 0 ≤ month
    · by_cases hm1 : month ≤ 1199
      · have hd1 : decide (1199 < month) = false := decide_eq_false (by omega)
        have hd0 : decide (month < 0) = false := decide_eq_false (by omega)
        have Hall : Hid (lines.all (lineFit dn an) = r) := Lib.hid (by have := Hr.out; rw [decide_eq_true ⟨hm0, hm1⟩, Bool.true_and, Bool.true_and] at this; exact this)
        clear Hr
        go_enter Tryd.func29, Tryd.ntmps29
        go_wp2_with fail
        refine (isName_any person _ (by unfold maxLen; omega)).mono ?_
        rintro e w' ⟨rfl, rfl⟩
        rw [Hnb.out]
        go_upto_region 3 with fail
        obtain ⟨W, hW⟩ : ∃ W, W = (w.alloc (.cells #[f0, .slice DA dn dc, .slice AA an ac, v3, v4, v5, v6, .string cur, .int .i64 fst] 33)).alloc (.cells #[.string person, .int .i64 month, .slice LA ln lc, .int .i64 gross, .int .i64 tax, .int .i64 deduct, .int .i64 floor, .slice TA tn tc, .int .i64 net] 37) := ⟨_, rfl⟩
        rw [← hW]
        have g1 : W.heap[w.heap.size + 1]? = some (.cells #[.string person, .int .i64 month, .slice LA ln lc, .int .i64 gross, .int .i64 tax, .int .i64 deduct, .int .i64 floor, .slice TA tn tc, .int .i64 net] 37 (0, 0)) := by rw [hW]; exact heap_alloc2_new w _ _
        have g0 : W.heap[w.heap.size]? = some (.cells #[f0, .slice DA dn dc, .slice AA an ac, v3, v4, v5, v6, .string cur, .int .i64 fst] 33 (0, 0)) := by rw [hW]; exact heap_alloc2_old w _ _
        have hBW : Below w.heap.size w W := by rw [hW]; exact bal (bal (Below.refl _ _) _) _
        have hsz : w.heap.size + 1 < W.heap.size := by rw [hW]; simp
        clear hW
        have d1 : W.cell? ⟨w.heap.size, 1, none⟩ = some (.slice DA dn dc) := by rw [Lib.cell_of_heap g0]; rfl
        have d2 : W.cell? ⟨w.heap.size, 2, none⟩ = some (.slice AA an ac) := by rw [Lib.cell_of_heap g0]; rfl
        have e2 : W.cell? ⟨w.heap.size + 1, 2, none⟩ = some (.slice LA ln lc) := by rw [Lib.cell_of_heap g1]; rfl
        have D := Lib.hid (And.intro d1 d2)
        clear g0 g1 d1 d2
        have hsz0 : w.heap.size < W.heap.size := by omega
        go_wp2
        go_loopw [26] (fun i wr => ∃ k : Nat, k ≤ ln ∧ i = .int .i64 (k : Int) ∧ (∀ j (h : j < lines.length), j < k → lineFit dn an lines[j] = true) ∧ Below W.heap.size W wr) (fun i _ => ln - (intOf i).toNat)
        case atStart => exact ⟨0, Nat.zero_le _, rfl, fun j h hj => absurd hj (Nat.not_lt_zero j), Below.refl _ _⟩
        case round =>
          clear e2
          obtain ⟨k, hk, rfl, hall, hB⟩ := hrel
          have HA := Lib.hid hall
          clear hall
          have hBw := bgo hBW hB
          by_cases hlt : k < ln
          · have hlt' : (k : Int) < (ln : Int) := by omega
            have hkl : k < lines.length := by rw [Hln.out]; exact hlt
            obtain ⟨b, off, rfl, hb, hcell⟩ := HLS.out.2 (by omega)
            obtain ⟨x, hx⟩ : ∃ x, lines[k] = x := ⟨_, rfl⟩
            have hget := flat_get lineV 6 (fun _ => rfl) lines k hkl
            rw [hx] at hget
            have hLx : LineOk w x := by rw [← hx]; exact HLN.out _ (List.getElem_mem hkl)
            have Hnext : Hid (lineFit dn an x = true → ∀ j (h : j < lines.length), j < k + 1 → lineFit dn an lines[j] = true) := Lib.hid (fun hf j h hj => by
              by_cases e : j < k
              · exact HA.out j h e
              · obtain rfl : j = k := by omega
                rw [hx]; exact hf)
            have Hstop : Hid (lineFit dn an x = false → r = false) := Lib.hid (fun hf => by
              rw [← Hall.out]
              refine List.all_eq_false.2 ⟨x, by rw [← hx]; exact List.getElem_mem hkl, by rw [hf]; simp⟩)
            obtain ⟨day, line, art, amt, FA, fc, facts, RA, rc, rests⟩ := x
            obtain ⟨fn, hfn⟩ : ∃ n, facts.length = n := ⟨_, rfl⟩
            obtain ⟨rn, hrn⟩ : ∃ n, rests.length = n := ⟨_, rfl⟩
            have hrl : rn ≤ 1000 := by rw [← hrn]; exact hLx.lr
            have HSR := Lib.hid (show Sl w w.heap.size 1 RA rn (intV rests) by rw [← hrn]; exact hLx.sr)
            have cc : ∀ j v, (lineV ⟨day, line, art, amt, FA, fc, facts, RA, rc, rests⟩)[j]? = some v → j < 6 → wr.cell? ⟨b, off + (k * 6 + j), none⟩ = some v := fun j v hv hj => (hBw.cell (p := ⟨b, off + (k * 6 + j), none⟩) hb).trans (hcell _ _ ((hget j hj).trans hv))
            have y0 : wr.cell? ⟨b, off + k * 6, none⟩ = some (.int .i64 day) := cc 0 _ rfl (by decide)
            have y1 : wr.cell? ⟨b, off + k * 6 + 1, none⟩ = some (.int .i64 line) := cc 1 _ rfl (by decide)
            have y2 : wr.cell? ⟨b, off + k * 6 + 2, none⟩ = some (.int .i64 art) := cc 2 _ rfl (by decide)
            have y3 : wr.cell? ⟨b, off + k * 6 + 3, none⟩ = some (.int .i64 amt) := cc 3 _ rfl (by decide)
            have y4 : wr.cell? ⟨b, off + k * 6 + 4, none⟩ = some (.slice FA fn fc) := by rw [← hfn]; exact cc 4 _ rfl (by decide)
            have y5 : wr.cell? ⟨b, off + k * 6 + 5, none⟩ = some (.slice RA rn rc) := by rw [← hrn]; exact cc 5 _ rfl (by decide)
            have Hrn := Lib.hid hrn
            clear hx hget hLx cc hcell hfn hrn hkl HA
            go_upto_region 6 with fail
            obtain ⟨V, hV⟩ : ∃ V, V = wr.alloc (.cells #[.int .i64 day, .int .i64 line, .int .i64 art, .int .i64 amt, .slice FA fn fc, .slice RA rn rc] 62) := ⟨_, rfl⟩
            rw [← hV]
            obtain ⟨bx, hbx⟩ : ∃ b, b = wr.heap.size := ⟨_, rfl⟩
            rw [← hbx]
            have g := (show V.heap[bx]? = some (.cells #[.int .i64 day, .int .i64 line, .int .i64 art, .int .i64 amt, .slice FA fn fc, .slice RA rn rc] 62 (0, 0)) by rw [hV, hbx]; exact World.alloc_heap_new _ _)
            have hBV : Below wr.heap.size wr V := by rw [hV]; exact bal (Below.refl _ _) _
            have hBWV := bgo hB hBV
            have hBwV := bgo hBw hBV
            have z0 : V.cell? ⟨bx, 0, none⟩ = some (.int .i64 day) := by rw [Lib.cell_of_heap g]; rfl
            have z1 : V.cell? ⟨bx, 1, none⟩ = some (.int .i64 line) := by rw [Lib.cell_of_heap g]; rfl
            have z2 : V.cell? ⟨bx, 2, none⟩ = some (.int .i64 art) := by rw [Lib.cell_of_heap g]; rfl
            have z5 : V.cell? ⟨bx, 5, none⟩ = some (.slice RA rn rc) := by rw [Lib.cell_of_heap g]; rfl
            have d1 : V.cell? ⟨w.heap.size, 1, none⟩ = some (.slice DA dn dc) := (hBWV.cell (p := ⟨w.heap.size, 1, none⟩) hsz0).trans D.out.1
            have d2 : V.cell? ⟨w.heap.size, 2, none⟩ = some (.slice AA an ac) := (hBWV.cell (p := ⟨w.heap.size, 2, none⟩) hsz0).trans D.out.2
            clear hV hbx g y0 y1 y2 y3 y4 y5 hBV
            obtain ⟨q1, hq1⟩ : ∃ q, idxB day 36525 = q := ⟨_, rfl⟩
            obtain ⟨q2, hq2⟩ : ∃ q, idxB line (dn : Int) = q := ⟨_, rfl⟩
            obtain ⟨q3, hq3⟩ : ∃ q, idxB art (an : Int) = q := ⟨_, rfl⟩
            have hlf : lineFit dn an ⟨day, line, art, amt, FA, fc, facts, RA, rc, rests⟩ = (q1 && q2 && q3 && rests.all (fun r => idxB r an)) := by rw [lineFit]; dsimp only; rw [hq1, hq2, hq3]
            have Hlf := Lib.hid hlf
            have Q1 := Lib.hid hq1
            have Q2 := Lib.hid hq2
            have Q3 := Lib.hid hq3
            clear hlf hq1 hq2 hq3
            have HD := Lib.hid (And.intro d1 d2)
            go_wp2_with fail
            refine (isIndex_any day 36525 _).mono ?_
            rintro e w' ⟨rfl, hw'⟩
            obtain rfl := hw'
            rw [Q1.out]
            cases q1 with
            | false =>
              have hrf := Hstop.out (by rw [Hlf.out]; rfl)
              have Hrf := Lib.hid hrf
              clear hrf
              go_wp2_with fail
              go_ret
              exact ⟨by rw [Hrf.out]; rfl, hBwV⟩
            | true =>
              go_wp2_with fail
              refine (isIndex_any line (dn : Int) _).mono ?_
              rintro e w' ⟨rfl, hw'⟩
              obtain rfl := hw'
              rw [Q2.out]
              cases q2 with
              | false =>
                have hrf := Hstop.out (by rw [Hlf.out]; rfl)
                have Hrf := Lib.hid hrf
                clear hrf
                go_wp2_with fail
                go_ret
                exact ⟨by rw [Hrf.out]; rfl, hBwV⟩
              | true =>
                go_wp2_with fail
                refine (isIndex_any art (an : Int) _).mono ?_
                rintro e w' ⟨rfl, hw'⟩
                obtain rfl := hw'
                rw [Q3.out]
                cases q3 with
                | false =>
                  have hrf := Hstop.out (by rw [Hlf.out]; rfl)
                  have Hrf := Lib.hid hrf
                  clear hrf
                  go_wp2_with fail
                  go_ret
                  exact ⟨by rw [Hrf.out]; rfl, hBwV⟩
                | true =>
                  go_wp2_with fail
                  obtain ⟨V0, rfl⟩ : ∃ V0, V0 = w' := ⟨_, rfl⟩
                  clear d1 d2 z0 z1 z2 z5
                  go_loopw [55] (fun i wx => ∃ m : Nat, m ≤ rn ∧ i = .int .i64 (m : Int) ∧ (∀ j, j < m → idxB (rests.getD j 0) an = true) ∧ V0 = wx) (fun i _ => rn - (intOf i).toNat)
                  case atStart => exact ⟨0, Nat.zero_le _, rfl, fun j hj => absurd hj (Nat.not_lt_zero j), rfl⟩
                  case round =>
                    obtain ⟨m, hm, rfl, hri, rfl⟩ := hrel
                    have HR := Lib.hid hri
                    clear hri
                    obtain ⟨d1, d2⟩ := HD.out
                    by_cases hmlt : m < rn
                    · have hmlt' : (m : Int) < (rn : Int) := by omega
                      obtain ⟨b2, off2, rfl, hb2, hcell2⟩ := HSR.out.2 (by omega)
                      have hml : m < rests.length := by rw [Hrn.out]; exact hmlt
                      obtain ⟨v, hv⟩ : ∃ v, rests.getD m 0 = v := ⟨_, rfl⟩
                      have rr : V0.cell? ⟨b2, off2 + m, none⟩ = some (.int .i64 v) := (hBwV.cell (p := ⟨b2, off2 + m, none⟩) hb2).trans (hcell2 m _ (by rw [intV_get rests m hml, hv]))
                      obtain ⟨q4, hq4⟩ : ∃ q, idxB v (an : Int) = q := ⟨_, rfl⟩
                      have Q4 := Lib.hid hq4
                      have Hv := Lib.hid hv
                      clear hcell2 hv hq4
                      go_wp2_with fail
                      refine (isIndex_any v (an : Int) _).mono ?_
                      rintro e w' ⟨rfl, hw'⟩
                      obtain rfl := hw'
                      rw [Q4.out]
                      cases q4 with
                      | false =>
                        have hrf := Hstop.out (by
                          rw [Hlf.out, Bool.true_and, Bool.true_and, Bool.true_and]
                          refine List.all_eq_false.2 ⟨v, ?_, by rw [Q4.out]; simp⟩
                          rw [← Hv.out]
                          simp [List.getD, hml])
                        have Hrf := Lib.hid hrf
                        clear hrf d1 d2 rr
                        go_wp2_with fail
                        go_ret
                        exact ⟨by rw [Hrf.out]; rfl, hBwV⟩
                      | true =>
                        clear d1 d2 rr
                        go_wp2_with fail
                        go_roundw
                        case rel =>
                          refine ⟨m + 1, by omega, by go_num, fun j hj => ?_, by trivial⟩
                          by_cases e : j < m
                          · exact HR.out j e
                          · obtain rfl : j = m := by omega
                            rw [Hv.out]; exact Q4.out
                        case measure => simp [intOf]; omega
                    · obtain rfl : m = rn := by omega
                      have hfit := Hnext.out (by
                        rw [Hlf.out, Bool.true_and, Bool.true_and, Bool.true_and]
                        refine List.all_eq_true.2 (fun y hy => ?_)
                        obtain ⟨j, hj, rfl⟩ := List.getElem_of_mem hy
                        have := HR.out j (by rw [← Hrn.out]; exact hj)
                        simpa [List.getD, hj] using this)
                      have HF := Lib.hid hfit
                      clear hfit d1 d2
                      go_wp2_with fail
                      go_roundw
                      case rel => exact ⟨k + 1, by omega, by go_num, HF.out, hBWV⟩
                      case measure => simp [intOf]; omega
          · obtain rfl : k = ln := by omega
            have hrt : r = true := by
              rw [← Hall.out]
              refine List.all_eq_true.2 (fun x hx => ?_)
              obtain ⟨j, hj, rfl⟩ := List.getElem_of_mem hx
              exact HA.out j hj (by rw [← Hln.out]; exact hj)
            have Hrt := Lib.hid hrt
            clear hrt
            go_wp2
            go_ret
            exact ⟨by rw [Hrt.out]; rfl, hBw⟩
      · have hrf : r = false := by rw [← Hr.out, decide_eq_false (fun h => hm1 h.2)]; rfl
        subst hrf
        have hd1 : decide (1199 < month) = true := decide_eq_true (by omega)
        have hd0 : decide (month < 0) = false := decide_eq_false (by omega)
        clear Hr hm1
        go_enter Tryd.func29, Tryd.ntmps29
        go_wp2_with fail
        refine (isName_any person _ (by unfold maxLen; omega)).mono ?_
        rintro e w' ⟨rfl, rfl⟩
        rw [Hnb.out]
        go_wp2_with fail
        go_ret
        exact ⟨rfl, bal (bal (Below.refl _ _) _) _⟩
    · have hrf : r = false := by rw [← Hr.out, decide_eq_false (fun h => hm0 h.1)]; rfl
      subst hrf
      have hd0 : decide (month < 0) = true := decide_eq_true (by omega)
      clear Hr hm0
      go_enter Tryd.func29, Tryd.ntmps29
      go_wp2_with fail
      refine (isName_any person _ (by unfold maxLen; omega)).mono ?_
      rintro e w' ⟨rfl, rfl⟩
      rw [Hnb.out]
      go_wp2_with fail
      go_ret
      exact ⟨rfl, bal (bal (Below.refl _ _) _) _⟩
end Go.Proofs.YtgkilaafeconlaaDoor
