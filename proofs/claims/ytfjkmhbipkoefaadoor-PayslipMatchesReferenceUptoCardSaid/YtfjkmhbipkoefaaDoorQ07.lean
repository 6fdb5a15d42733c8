/- The walk of payslip's fits. Plain arithmetic for the layers 26 and 27: a prime q, Fermat's little theorem, the group of order q modulo p. Powers modulo p, the group of order q. -/
import Derived.Test.YtfjkmhbipkoefaaDoorQ06
import Derived.WalkKit
namespace Go.Proofs.YtfjkmhbipkoefaaDoor
open Go.RowKit Go.Shelf
set_option linter.unusedVariables false
set_option linter.unusedSimpArgs false
set_option maxRecDepth 100000
def idxB (n m : Int) : Bool := decide (0 ≤ n ∧ n < m)
theorem isIndex_any (n m : Int) (w : World) : Calls Tryd.prog 38 #[.int .i64 n, .int .i64 m] w fun e w' => e = .returned (.bool (idxB n m)) ∧ w' = w :=
  (isIndex_at n m (idxB n m) (Lib.hid rfl) w).mono fun e w' h => ⟨h.1, h.2.symm⟩
/-- A result, with the places of its lists. -/
structure SlipM where
  person : ByteArray
  month : Int
  LA : Option Addr
  lc : Nat
  lines : List LineM
  gross : Int
  tax : Int
  deduct : Int
  floor : Int
  TA : Option Addr
  tc : Nat
  taken : List (Int × Int)
  net : Int
def takenV (x : Int × Int) : List Value := [.int .i64 x.1, .int .i64 x.2]
def slipV (s : SlipM) : Value := .agg #[.string s.person, .int .i64 s.month, .slice s.LA s.lines.length s.lc, .int .i64 s.gross, .int .i64 s.tax, .int .i64 s.deduct, .int .i64 s.floor, .slice s.TA s.taken.length s.tc, .int .i64 s.net]
structure SlipOk (W : World) (s : SlipM) : Prop where
  sl : Sl W W.heap.size 6 s.LA s.lines.length (s.lines.flatMap lineV)
  st : Sl W W.heap.size 2 s.TA s.taken.length (s.taken.flatMap takenV)
  ln : ∀ x ∈ s.lines, LineOk W x
  pz : s.person.size ≤ 70000000000000
  mo : I64 s.month
  ll : s.lines.length ≤ 1000000
  lt : s.taken.length ≤ 1000000
  ti : ∀ x ∈ s.taken, I64 x.1 ∧ I64 x.2
  g0 : I64 s.gross
  g1 : I64 s.tax
  g2 : I64 s.deduct
  g3 : I64 s.floor
  g4 : I64 s.net
theorem SlipOk.go {W W' : World} {s : SlipM} (h : SlipOk W s) (k : Below W.heap.size W W') : SlipOk W' s := ⟨h.sl.go k, h.st.go k, fun x hx => (h.ln x hx).go k, h.pz, h.mo, h.ll, h.lt, h.ti, h.g0, h.g1, h.g2, h.g3, h.g4⟩
def lineFit (nd na : Nat) (x : LineM) : Bool := idxB x.day 36525 && idxB x.line nd && idxB x.art na && x.rests.all (fun r => idxB r na)
def fitsB (c : CaseM) (s : SlipM) : Bool := isNameB s.person && decide (0 ≤ s.month ∧ s.month ≤ 1199) && s.lines.all (lineFit c.ds.length c.nums.length)
set_option maxHeartbeats 4000000 in
theorem fits_any (c : CaseM) (s : SlipM) (r : Bool) (hr : Hid (fitsB c s = r)) (w : World) (hc : CaseOk w c) (hs : SlipOk w s) :
    Calls Tryd.prog 19 #[caseV c, slipV s] w fun e w' => e = .returned (.bool r) ∧ Below w.heap.size w w' := by
  have Hc := Lib.hid hc
  have Hs := Lib.hid hs
  have hdl := hc.cd
  have hnl := hc.ca
  have hll := hs.ll
  have hpz := hs.pz
  unfold maxLen at hdl hnl
  obtain ⟨person, month, LA, lc, lines, gross, tax, deduct, floor, TA, tc, taken, net⟩ := s
  obtain ⟨f0, DA, dc, ds, AA, ac, nums, v3, v4, v5, v6, cur, fst⟩ := c
  dsimp only [caseV, slipV] at hdl hnl hll hpz hr ⊢
  obtain ⟨dn, hdn⟩ : ∃ n, ds.length = n := ⟨_, rfl⟩
  obtain ⟨an, han⟩ : ∃ n, nums.length = n := ⟨_, rfl⟩
  obtain ⟨ln, hln⟩ : ∃ n, lines.length = n := ⟨_, rfl⟩
  obtain ⟨tn, htn⟩ : ∃ n, taken.length = n := ⟨_, rfl⟩
  rw [hdn] at hdl ⊢
  rw [han] at hnl ⊢
  rw [hln] at hll ⊢
  rw [htn]
  have hr' : (isNameB person && decide (0 ≤ month ∧ month ≤ 1199) && lines.all (lineFit dn an)) = r := by rw [← hdn, ← han]; exact hr.out
  have Hr := Lib.hid hr'
  have Hln := Lib.hid hln
  have HLS := Lib.hid (show Sl w w.heap.size 6 LA ln (lines.flatMap lineV) by rw [← hln]; exact hs.sl)
  have HLN := Lib.hid hs.ln
  dsimp only at HLN
  clear hr hr' hdn han hln htn hc hs
  obtain ⟨nb, hnb⟩ : ∃ b, isNameB person = b := ⟨_, rfl⟩
  rw [hnb] at Hr
  have Hnb := Lib.hid hnb
  clear hnb
  cases nb with
  | false =>
    have hrf : r = false := by rw [← Hr.out]; rfl
    subst hrf
    clear Hr
    go_enter Tryd.func19, Tryd.ntmps19
    go_wp2_with fail
    refine (isName_any person _ (by unfold maxLen; omega)).mono ?_
    rintro e w' ⟨rfl, rfl⟩
    rw [Hnb.out]
    go_wp2_with fail
    go_ret
    exact ⟨rfl, bal (bal (Below.refl _ _) _) _⟩
  | true =>
    by_cases hm0 : 0 ≤ month
    · by_cases hm1 : month ≤ 1199
      · have hd1 : decide (1199 < month) = false := decide_eq_false (by omega)
        have hd0 : decide (month < 0) = false := decide_eq_false (by omega)
        have Hall : Hid (lines.all (lineFit dn an) = r) := Lib.hid (by have := Hr.out; rw [decide_eq_true ⟨hm0, hm1⟩, Bool.true_and, Bool.true_and] at this; exact this)
        clear Hr
        go_enter Tryd.func19, Tryd.ntmps19
        go_wp2_with fail
        refine (isName_any person _ (by unfold maxLen; omega)).mono ?_
        rintro e w' ⟨rfl, rfl⟩
        rw [Hnb.out]
        go_upto_region 3 with fail
        obtain ⟨W, hW⟩ : ∃ W, W = (w.alloc (.cells #[f0, .slice DA dn dc, .slice AA an ac, v3, v4, v5, v6, .string cur, .int .i64 fst] 33)).alloc (.cells #[.string person, .int .i64 month, .slice LA ln lc, .int .i64 gross, .int .i64 tax, .int .i64 deduct, .int .i64 floor, .slice TA tn tc, .int .i64 net] 37) := ⟨_, rfl⟩
        rw [← hW]
        have g1 : W.heap[w.heap.size + 1]? = some (.cells #[.string person, .int .i64 month, .slice LA ln lc, .int .i64 gross, .int .i64 tax, .int .i64 deduct, .int .i64 floor, .slice TA tn tc, .int .i64 net] 37 (0, 0)) := by rw [hW]; exact heap_alloc2_new w _ _
        have g0 : W.heap[w.heap.size]? = some (.cells #[f0, .slice DA dn dc, .slice AA an ac, v3, v4, v5, v6, .string cur, .int .i64 fst] 33 (0, 0)) := by rw [hW]; exact heap_alloc2_old w _ _
        have hBW : Below w.heap.size w W := by rw [hW]; exact bal (bal (Below.refl _ _) _) _
        have hsz : w.heap.size + 1 < W.heap.size := by rw [hW]; simp
        clear hW
        have d1 : W.cell? ⟨w.heap.size, 1, none⟩ = some (.slice DA dn dc) := by rw [Lib.cell_of_heap g0]; rfl
        have d2 : W.cell? ⟨w.heap.size, 2, none⟩ = some (.slice AA an ac) := by rw [Lib.cell_of_heap g0]; rfl
        have e2 : W.cell? ⟨w.heap.size + 1, 2, none⟩ = some (.slice LA ln lc) := by rw [Lib.cell_of_heap g1]; rfl
        have D := Lib.hid (And.intro d1 d2)
        clear g0 g1 d1 d2
        have hsz0 : w.heap.size < W.heap.size := by omega
        go_wp2
        go_loopw [26] (fun i wr => ∃ k : Nat, k ≤ ln ∧ i = .int .i64 (k : Int) ∧ (∀ j (h : j < lines.length), j < k → lineFit dn an lines[j] = true) ∧ Below W.heap.size W wr) (fun i _ => ln - (intOf i).toNat)
        case atStart => exact ⟨0, Nat.zero_le _, rfl, fun j h hj => absurd hj (Nat.not_lt_zero j), Below.refl _ _⟩
        case round =>
          clear e2
          obtain ⟨k, hk, rfl, hall, hB⟩ := hrel
          have HA := Lib.hid hall
          clear hall
          have hBw := bgo hBW hB
          by_cases hlt : k < ln
          · have hlt' : (k : Int) < (ln : Int) := by omega
            have hkl : k < lines.length := by rw [Hln.out]; exact hlt
            obtain ⟨b, off, rfl, hb, hcell⟩ := HLS.out.2 (by omega)
            obtain ⟨x, hx⟩ : ∃ x, lines[k] = x := ⟨_, rfl⟩
            have hget := flat_get lineV 6 (fun _ => rfl) lines k hkl
            rw [hx] at hget
            have hLx : LineOk w x := by rw [← hx]; exact HLN.out _ (List.getElem_mem hkl)
            have Hnext : Hid (lineFit dn an x = true → ∀ j (h : j < lines.length), j < k + 1 → lineFit dn an lines[j] = true) := Lib.hid (fun hf j h hj => by
              by_cases e : j < k
              · exact HA.out j h e
              · obtain rfl : j = k := by omega
                rw [hx]; exact hf)
            have Hstop : Hid (lineFit dn an x = false → r = false) := Lib.hid (fun hf => by
              rw [← Hall.out]
              refine List.all_eq_false.2 ⟨x, by rw [← hx]; exact List.getElem_mem hkl, by rw [hf]; simp⟩)
            obtain ⟨day, line, art, amt, FA, fc, facts, RA, rc, rests⟩ := x
            obtain ⟨fn, hfn⟩ : ∃ n, facts.length = n := ⟨_, rfl⟩
            obtain ⟨rn, hrn⟩ : ∃ n, rests.length = n := ⟨_, rfl⟩
            have hrl : rn ≤ 1000 := by rw [← hrn]; exact hLx.lr
            have HSR := Lib.hid (show Sl w w.heap.size 1 RA rn (intV rests) by rw [← hrn]; exact hLx.sr)
            have cc : ∀ j v, (lineV ⟨day, line, art, amt, FA, fc, facts, RA, rc, rests⟩)[j]? = some v → j < 6 → wr.cell? ⟨b, off + (k * 6 + j), none⟩ = some v := fun j v hv hj => (hBw.cell (p := ⟨b, off + (k * 6 + j), none⟩) hb).trans (hcell _ _ ((hget j hj).trans hv))
            have y0 : wr.cell? ⟨b, off + k * 6, none⟩ = some (.int .i64 day) := cc 0 _ rfl (by decide)
            have y1 : wr.cell? ⟨b, off + k * 6 + 1, none⟩ = some (.int .i64 line) := cc 1 _ rfl (by decide)
            have y2 : wr.cell? ⟨b, off + k * 6 + 2, none⟩ = some (.int .i64 art) := cc 2 _ rfl (by decide)
            have y3 : wr.cell? ⟨b, off + k * 6 + 3, none⟩ = some (.int .i64 amt) := cc 3 _ rfl (by decide)
            have y4 : wr.cell? ⟨b, off + k * 6 + 4, none⟩ = some (.slice FA fn fc) := by rw [← hfn]; exact cc 4 _ rfl (by decide)
            have y5 : wr.cell? ⟨b, off + k * 6 + 5, none⟩ = some (.slice RA rn rc) := by rw [← hrn]; exact cc 5 _ rfl (by decide)
            have Hrn := Lib.hid hrn
            clear hx hget hLx cc hcell hfn hrn hkl HA
            go_upto_region 6 with fail
            obtain ⟨V, hV⟩ : ∃ V, V = wr.alloc (.cells #[.int .i64 day, .int .i64 line, .int .i64 art, .int .i64 amt, .slice FA fn fc, .slice RA rn rc] 62) := ⟨_, rfl⟩
            rw [← hV]
            obtain ⟨bx, hbx⟩ : ∃ b, b = wr.heap.size := ⟨_, rfl⟩
            rw [← hbx]
            have g := (show V.heap[bx]? = some (.cells #[.int .i64 day, .int .i64 line, .int .i64 art, .int .i64 amt, .slice FA fn fc, .slice RA rn rc] 62 (0, 0)) by rw [hV, hbx]; exact World.alloc_heap_new _ _)
            have hBV : Below wr.heap.size wr V := by rw [hV]; exact bal (Below.refl _ _) _
            have hBWV := bgo hB hBV
            have hBwV := bgo hBw hBV
            have z0 : V.cell? ⟨bx, 0, none⟩ = some (.int .i64 day) := by rw [Lib.cell_of_heap g]; rfl
            have z1 : V.cell? ⟨bx, 1, none⟩ = some (.int .i64 line) := by rw [Lib.cell_of_heap g]; rfl
            have z2 : V.cell? ⟨bx, 2, none⟩ = some (.int .i64 art) := by rw [Lib.cell_of_heap g]; rfl
            have z5 : V.cell? ⟨bx, 5, none⟩ = some (.slice RA rn rc) := by rw [Lib.cell_of_heap g]; rfl
            have d1 : V.cell? ⟨w.heap.size, 1, none⟩ = some (.slice DA dn dc) := (hBWV.cell (p := ⟨w.heap.size, 1, none⟩) hsz0).trans D.out.1
            have d2 : V.cell? ⟨w.heap.size, 2, none⟩ = some (.slice AA an ac) := (hBWV.cell (p := ⟨w.heap.size, 2, none⟩) hsz0).trans D.out.2
            clear hV hbx g y0 y1 y2 y3 y4 y5 hBV
            obtain ⟨q1, hq1⟩ : ∃ q, idxB day 36525 = q := ⟨_, rfl⟩
            obtain ⟨q2, hq2⟩ : ∃ q, idxB line (dn : Int) = q := ⟨_, rfl⟩
            obtain ⟨q3, hq3⟩ : ∃ q, idxB art (an : Int) = q := ⟨_, rfl⟩
            have hlf : lineFit dn an ⟨day, line, art, amt, FA, fc, facts, RA, rc, rests⟩ = (q1 && q2 && q3 && rests.all (fun r => idxB r an)) := by rw [lineFit]; dsimp only; rw [hq1, hq2, hq3]
            have Hlf := Lib.hid hlf
            have Q1 := Lib.hid hq1
            have Q2 := Lib.hid hq2
            have Q3 := Lib.hid hq3
            clear hlf hq1 hq2 hq3
            have HD := Lib.hid (And.intro d1 d2)
            go_wp2_with fail
            refine (isIndex_any day 36525 _).mono ?_
            rintro e w' ⟨rfl, hw'⟩
            obtain rfl := hw'
            rw [Q1.out]
            cases q1 with
            | false =>
              have hrf := Hstop.out (by rw [Hlf.out]; rfl)
              have Hrf := Lib.hid hrf
              clear hrf
              go_wp2_with fail
              go_ret
              exact ⟨by rw [Hrf.out]; rfl, hBwV⟩
            | true =>
              go_wp2_with fail
              refine (isIndex_any line (dn : Int) _).mono ?_
              rintro e w' ⟨rfl, hw'⟩
              obtain rfl := hw'
              rw [Q2.out]
              cases q2 with
              | false =>
                have hrf := Hstop.out (by rw [Hlf.out]; rfl)
                have Hrf := Lib.hid hrf
                clear hrf
                go_wp2_with fail
                go_ret
                exact ⟨by rw [Hrf.out]; rfl, hBwV⟩
              | true =>
                go_wp2_with fail
                refine (isIndex_any art (an : Int) _).mono ?_
                rintro e w' ⟨rfl, hw'⟩
                obtain rfl := hw'
                rw [Q3.out]
                cases q3 with
                | false =>
                  have hrf := Hstop.out (by rw [Hlf.out]; rfl)
                  have Hrf := Lib.hid hrf
                  clear hrf
                  go_wp2_with fail
                  go_ret
                  exact ⟨by rw [Hrf.out]; rfl, hBwV⟩
                | true =>
                  go_wp2_with fail
                  obtain ⟨V0, rfl⟩ : ∃ V0, V0 = w' := ⟨_, rfl⟩
                  clear d1 d2 z0 z1 z2 z5
                  go_loopw [55] (fun i wx => ∃ m : Nat, m ≤ rn ∧ i = .int .i64 (m : Int) ∧ (∀ j, j < m → idxB (rests.getD j 0) an = true) ∧ V0 = wx) (fun i _ => rn - (intOf i).toNat)
                  case atStart => exact ⟨0, Nat.zero_le _, rfl, fun j hj => absurd hj (Nat.not_lt_zero j), rfl⟩
                  case round =>
                    obtain ⟨m, hm, rfl, hri, rfl⟩ := hrel
                    have HR := Lib.hid hri
                    clear hri
                    obtain ⟨d1, d2⟩ := HD.out
                    by_cases hmlt : m < rn
                    · have hmlt' : (m : Int) < (rn : Int) := by omega
                      obtain ⟨b2, off2, rfl, hb2, hcell2⟩ := HSR.out.2 (by omega)
                      have hml : m < rests.length := by rw [Hrn.out]; exact hmlt
                      obtain ⟨v, hv⟩ : ∃ v, rests.getD m 0 = v := ⟨_, rfl⟩
                      have rr : V0.cell? ⟨b2, off2 + m, none⟩ = some (.int .i64 v) := (hBwV.cell (p := ⟨b2, off2 + m, none⟩) hb2).trans (hcell2 m _ (by rw [intV_get rests m hml, hv]))
                      obtain ⟨q4, hq4⟩ : ∃ q, idxB v (an : Int) = q := ⟨_, rfl⟩
                      have Q4 := Lib.hid hq4
                      have Hv := Lib.hid hv
                      clear hcell2 hv hq4
                      go_wp2_with fail
                      refine (isIndex_any v (an : Int) _).mono ?_
                      rintro e w' ⟨rfl, hw'⟩
                      obtain rfl := hw'
                      rw [Q4.out]
                      cases q4 with
                      | false =>
                        have hrf := Hstop.out (by
                          rw [Hlf.out, Bool.true_and, Bool.true_and, Bool.true_and]
                          refine List.all_eq_false.2 ⟨v, ?_, by rw [Q4.out]; simp⟩
                          rw [← Hv.out]
                          simp [List.getD, hml])
                        have Hrf := Lib.hid hrf
                        clear hrf d1 d2 rr
                        go_wp2_with fail
                        go_ret
                        exact ⟨by rw [Hrf.out]; rfl, hBwV⟩
                      | true =>
                        clear d1 d2 rr
                        go_wp2_with fail
                        go_roundw
                        case rel =>
                          refine ⟨m + 1, by omega, by go_num, fun j hj => ?_, by trivial⟩
                          by_cases e : j < m
                          · exact HR.out j e
                          · obtain rfl : j = m := by omega
                            rw [Hv.out]; exact Q4.out
                        case measure => simp [intOf]; omega
                    · obtain rfl : m = rn := by omega
                      have hfit := Hnext.out (by
                        rw [Hlf.out, Bool.true_and, Bool.true_and, Bool.true_and]
                        refine List.all_eq_true.2 (fun y hy => ?_)
                        obtain ⟨j, hj, rfl⟩ := List.getElem_of_mem hy
                        have := HR.out j (by rw [← Hrn.out]; exact hj)
                        simpa [List.getD, hj] using this)
                      have HF := Lib.hid hfit
                      clear hfit d1 d2
                      go_wp2_with fail
                      go_roundw
                      case rel => exact ⟨k + 1, by omega, by go_num, HF.out, hBWV⟩
                      case measure => simp [intOf]; omega
          · obtain rfl : k = ln := by omega
            have hrt : r = true := by
              rw [← Hall.out]
              refine List.all_eq_true.2 (fun x hx => ?_)
              obtain ⟨j, hj, rfl⟩ := List.getElem_of_mem hx
              exact HA.out j hj (by rw [← Hln.out]; exact hj)
            have Hrt := Lib.hid hrt
            clear hrt
            go_wp2
            go_ret
            exact ⟨by rw [Hrt.out]; rfl, hBw⟩
      · have hrf : r = false := by rw [← Hr.out, decide_eq_false (fun h => hm1 h.2)]; rfl
        subst hrf
        have hd1 : decide (1199 < month) = true := decide_eq_true (by omega)
        have hd0 : decide (month < 0) = false := decide_eq_false (by omega)
        clear Hr hm1
        go_enter Tryd.func19, Tryd.ntmps19
        go_wp2_with fail
        refine (isName_any person _ (by unfold maxLen; omega)).mono ?_
        rintro e w' ⟨rfl, rfl⟩
        rw [Hnb.out]
        go_wp2_with fail
        go_ret
        exact ⟨rfl, bal (bal (Below.refl _ _) _) _⟩
    · have hrf : r = false := by rw [← Hr.out, decide_eq_false (fun h => hm0 h.1)]; rfl
      subst hrf
      have hd0 : decide (month < 0) = true := decide_eq_true (by omega)
      clear Hr hm0
      go_enter Tryd.func19, Tryd.ntmps19
      go_wp2_with fail
      refine (isName_any person _ (by unfold maxLen; omega)).mono ?_
      rintro e w' ⟨rfl, rfl⟩
      rw [Hnb.out]
      go_wp2_with fail
      go_ret
      exact ⟨rfl, bal (bal (Below.refl _ _) _) _⟩
end Go.Proofs.YtfjkmhbipkoefaaDoor
namespace Go.Proofs.YtfjkmhbipkoefaaDoor.Grp
def P : Nat := 2147483579
def Q : Nat := 1073741789
/-- No number from s to s + 2^k - 1 divides q. -/
def noDiv (q : Nat) : Nat → Nat → Bool
  | 0, s => q % s != 0
  | k + 1, s => noDiv q k s && noDiv q k (s + 2 ^ k)
theorem noDiv_spec (q : Nat) : ∀ k s, noDiv q k s = true → ∀ d, s ≤ d → d < s + 2 ^ k → q % d ≠ 0
  | 0, s, h, d, h1, h2 => by
    have hd : d = s := by simp at h2; omega
    subst hd
    simpa [noDiv] using h
  | k + 1, s, h, d, h1, h2 => by
    simp only [noDiv, Bool.and_eq_true] at h
    rw [Nat.pow_succ] at h2
    rcases Nat.lt_or_ge d (s + 2 ^ k) with h3 | h3
    · exact noDiv_spec q k s h.1 d h1 h3
    · exact noDiv_spec q k (s + 2 ^ k) h.2 d h3 (by omega)
theorem noDiv_Q : noDiv Q 15 2 = true := by decide +kernel
theorem small_Q (d : Nat) (h2 : 2 ≤ d) (h : d < 32768) : Q % d ≠ 0 := noDiv_spec Q 15 2 noDiv_Q d h2 (by have : (2 : Nat) ^ 15 = 32768 := rfl; omega)
theorem dvd_Q (d : Nat) (h : d ∣ Q) : d = 1 ∨ d = Q := by
  obtain ⟨e, he⟩ := h
  have hQ : Q = 1073741789 := rfl
  by_cases hd0 : d = 0
  · subst hd0; rw [hQ] at he; omega
  by_cases hd1 : d = 1
  · exact .inl hd1
  by_cases he0 : e = 0
  · subst he0; rw [hQ] at he; omega
  by_cases he1 : e = 1
  · subst he1; right; omega
  exfalso
  by_cases hds : d < 32768
  · exact small_Q d (by omega) hds (by rw [he]; exact Nat.mul_mod_right d e)
  · by_cases hes : e < 32768
    · exact small_Q e (by omega) hes (by rw [he]; exact Nat.mul_mod_left d e)
    · have : 32768 * 32768 ≤ d * e := Nat.mul_le_mul (by omega) (by omega)
      rw [← he, hQ] at this
      omega
def PrimeLike (q : Nat) : Prop := ∀ k, 0 < k → k < q → Nat.Coprime q k
theorem Q_prime : PrimeLike Q := fun k h0 h1 => by
  rcases dvd_Q (Nat.gcd Q k) (Nat.gcd_dvd_left Q k) with h | h
  · exact h
  · have := Nat.gcd_le_right (m := Q) (n := k) h0
    omega
/- Binomials. -/
def C : Nat → Nat → Nat
  | _, 0 => 1
  | 0, _ + 1 => 0
  | n + 1, k + 1 => C n k + C n (k + 1)
theorem C_zero (n : Nat) : C n 0 = 1 := by cases n <;> rfl
theorem C_gt : ∀ n k, n < k → C n k = 0
  | _, 0, h => absurd h (Nat.not_lt_zero _)
  | 0, _ + 1, _ => rfl
  | n + 1, k + 1, h => by rw [C, C_gt n k (by omega), C_gt n (k + 1) (by omega)]
theorem C_self : ∀ n, C n n = 1
  | 0 => rfl
  | n + 1 => by rw [C, C_self n, C_gt n (n + 1) (by omega)]
theorem absorb : ∀ n k, (k + 1) * C (n + 1) (k + 1) = (n + 1) * C n k
  | 0, 0 => rfl
  | 0, k + 1 => by
    rw [C_gt 1 (k + 2) (by omega), C_gt 0 (k + 1) (by omega)]; rfl
  | n + 1, 0 => by
    have h := absorb n 0
    have e : C (n + 1 + 1) (0 + 1) = C (n + 1) 0 + C (n + 1) (0 + 1) := rfl
    rw [C_zero] at h e
    rw [C_zero, e]
    omega
  | n + 1, k + 1 => by
    have h1 := absorb n (k + 1)
    have h2 := absorb n k
    have e : C (n + 2) (k + 2) = C (n + 1) (k + 1) + C (n + 1) (k + 2) := rfl
    have e2 : C (n + 1) (k + 1) = C n k + C n (k + 1) := rfl
    rw [e, Nat.mul_add, h1]
    have h3 : (k + 1 + 1) * C (n + 1) (k + 1) = (k + 1) * C (n + 1) (k + 1) + C (n + 1) (k + 1) := Nat.succ_mul _ _
    rw [h3, h2]
    have h4 : (n + 1 + 1) * C (n + 1) (k + 1) = (n + 1) * C (n + 1) (k + 1) + C (n + 1) (k + 1) := Nat.succ_mul _ _
    have h5 : (n + 1) * C (n + 1) (k + 1) = (n + 1) * C n k + (n + 1) * C n (k + 1) := by rw [e2, Nat.mul_add]
    omega
def sum (f : Nat → Nat) : Nat → Nat
  | 0 => 0
  | m + 1 => sum f m + f m
theorem sum_shift (f : Nat → Nat) : ∀ m, sum f (m + 1) = f 0 + sum (fun k => f (k + 1)) m
  | 0 => by simp [sum]
  | m + 1 => by rw [sum, sum_shift f m]; simp only [sum]; omega
theorem sum_add (f g : Nat → Nat) : ∀ m, sum (fun k => f k + g k) m = sum f m + sum g m
  | 0 => rfl
  | m + 1 => by simp only [sum]; rw [sum_add f g m]; omega
theorem sum_mul (a : Nat) (f : Nat → Nat) : ∀ m, a * sum f m = sum (fun k => a * f k) m
  | 0 => rfl
  | m + 1 => by simp only [sum]; rw [Nat.mul_add, sum_mul a f m]
theorem sum_congr (f g : Nat → Nat) (h : ∀ k, f k = g k) (m : Nat) : sum f m = sum g m := by rw [funext h]
theorem binomial (a : Nat) : ∀ n, (a + 1) ^ n = sum (fun k => C n k * a ^ k) (n + 1)
  | 0 => by simp [sum, C]
  | n + 1 => by
    rw [Nat.pow_succ, binomial a n, sum_shift (fun k => C (n + 1) k * a ^ k) (n + 1)]
    have h1 : sum (fun k => C (n + 1) (k + 1) * a ^ (k + 1)) (n + 1) = a * sum (fun k => C n k * a ^ k) (n + 1) + sum (fun k => C n (k + 1) * a ^ (k + 1)) (n + 1) := by
      rw [sum_mul, ← sum_add]
      refine sum_congr _ _ (fun k => ?_) _
      rw [C, Nat.add_mul, Nat.pow_succ, ← Nat.mul_assoc a, Nat.mul_comm a (C n k), Nat.mul_assoc (C n k) a, Nat.mul_comm a (a ^ k)]
    have h2 : sum (fun k => C n k * a ^ k) (n + 1 + 1) = C n 0 * a ^ 0 + sum (fun k => C n (k + 1) * a ^ (k + 1)) (n + 1) := sum_shift _ _
    have h3 : sum (fun k => C n k * a ^ k) (n + 1 + 1) = sum (fun k => C n k * a ^ k) (n + 1) + C n (n + 1) * a ^ (n + 1) := rfl
    rw [C_gt n (n + 1) (by omega), Nat.zero_mul] at h3
    rw [h1, C_zero]
    rw [C_zero] at h2
    rw [Nat.mul_add, Nat.mul_one, Nat.mul_comm _ a]
    omega
theorem dvd_C (q : Nat) (hq : PrimeLike q) (k : Nat) (h0 : 0 < k) (h1 : k < q) : q ∣ C q k := by
  obtain ⟨j, rfl⟩ : ∃ j, k = j + 1 := ⟨k - 1, by omega⟩
  obtain ⟨n, rfl⟩ : ∃ n, q = n + 1 := ⟨q - 1, by omega⟩
  refine (hq (j + 1) h0 h1).dvd_of_dvd_mul_left ?_
  rw [absorb n j]
  exact Nat.dvd_mul_right _ _
theorem sum_dvd (q : Nat) (f : Nat → Nat) : ∀ m, (∀ k, k < m → q ∣ f k) → q ∣ sum f m
  | 0, _ => Nat.dvd_zero q
  | m + 1, h => Nat.dvd_add (sum_dvd q f m (fun k hk => h k (by omega))) (h m (by omega))
theorem dream (q a : Nat) (hq : PrimeLike q) (h2 : 2 ≤ q) : (a + 1) ^ q % q = (a ^ q + 1) % q := by
  obtain ⟨n, rfl⟩ : ∃ n, q = n + 1 := ⟨q - 1, by omega⟩
  rw [binomial, sum, sum_shift, C_self, C_zero]
  obtain ⟨c, hc⟩ := sum_dvd (n + 1) (fun k => C (n + 1) (k + 1) * a ^ (k + 1)) n (fun k hk => Nat.dvd_trans (dvd_C (n + 1) hq (k + 1) (by omega) (by omega)) (Nat.dvd_mul_right _ _))
  rw [hc, Nat.pow_zero, Nat.one_mul, Nat.one_mul, Nat.add_right_comm, Nat.add_mul_mod_self_left, Nat.add_comm 1]
theorem fermat (q : Nat) (hq : PrimeLike q) (h2 : 2 ≤ q) : ∀ a, a ^ q % q = a % q
  | 0 => by rw [Nat.zero_pow (by omega)]
  | a + 1 => by rw [dream q a hq h2, Nat.add_mod, fermat q hq h2 a, ← Nat.add_mod]
/-- The inverse modulo q. -/
theorem inv_Q (a : Nat) (h0 : 0 < a) (h1 : a < Q) : a * a ^ (Q - 2) % Q = 1 := by
  obtain ⟨q, hq⟩ : ∃ q, q = Q := ⟨_, rfl⟩
  have h2 : 3 ≤ q := by rw [hq]; decide
  have hp : PrimeLike q := hq ▸ Q_prime
  rw [← hq] at h1 ⊢
  clear hq
  have hf := fermat q hp (by omega) a
  have e : a ^ q = a * (a * a ^ (q - 2)) := by
    obtain ⟨n, rfl⟩ : ∃ n, q = n + 2 := ⟨q - 2, by omega⟩
    rw [show n + 2 - 2 = n by omega, Nat.pow_succ, Nat.pow_succ]
    rw [Nat.mul_comm (a ^ n * a) a, Nat.mul_comm (a ^ n) a]
  rw [e] at hf
  obtain ⟨x, hx⟩ : ∃ x, x = a * a ^ (q - 2) := ⟨_, rfl⟩
  rw [← hx] at hf ⊢
  have hx1 : 1 ≤ x := by rw [hx]; exact Nat.mul_pos h0 (Nat.pow_pos h0)
  have hd : q ∣ a * (x - 1) := by
    have : a ≤ a * x := Nat.le_mul_of_pos_right a hx1
    rw [Nat.mul_sub, Nat.mul_one]
    exact (Nat.dvd_iff_mod_eq_zero ..).2 (Nat.sub_mod_eq_zero_of_mod_eq hf)
  have := (hp a h0 h1).dvd_of_dvd_mul_left hd
  obtain ⟨c, hc⟩ := this
  rw [show x = 1 + q * c by omega, Nat.add_mul_mod_self_left, Nat.mod_eq_of_lt (by omega)]
end Go.Proofs.YtfjkmhbipkoefaaDoor.Grp
namespace Go.Proofs.YtfjkmhbipkoefaaDoor.Grp
def pw (b e : Nat) : Nat := b ^ e % P
/-- Square and multiply: r * b^e modulo p. -/
def sqm : Nat → Nat → Nat → Nat → Nat
  | 0, r, _, _ => r
  | f + 1, r, b, e => if e = 0 then r else sqm f (if e % 2 = 1 then r * b % P else r) (b * b % P) (e / 2)
theorem P_pos : 0 < P := by decide
theorem mul_pw (r b e : Nat) : r * (b * b % P) ^ e % P = r * b ^ (2 * e) % P := by
  rw [Nat.mul_mod, ← Nat.pow_mod, ← Nat.mul_mod, Nat.pow_mul, Nat.pow_two]
theorem step_pw (r b e : Nat) : (if e % 2 = 1 then r * b % P else r) * (b * b % P) ^ (e / 2) % P = r * b ^ e % P := by
  rw [mul_pw]
  by_cases h : e % 2 = 1
  · rw [if_pos h, Nat.mod_mul_mod, Nat.mul_assoc, ← Nat.pow_succ']
    rw [show (2 * (e / 2)).succ = e by omega]
  · rw [if_neg h, show 2 * (e / 2) = e by omega]
theorem sqm_eq : ∀ f r b e, r < P → e < 2 ^ f → sqm f r b e = r * b ^ e % P
  | 0, r, b, e, hr, he => by
    have : e = 0 := by simp at he; exact he
    subst this
    rw [sqm, Nat.pow_zero, Nat.mul_one, Nat.mod_eq_of_lt hr]
  | f + 1, r, b, e, hr, he => by
    rw [sqm]
    by_cases h0 : e = 0
    · subst h0
      rw [if_pos rfl, Nat.pow_zero, Nat.mul_one, Nat.mod_eq_of_lt hr]
    · rw [if_neg h0, sqm_eq f _ _ _ _ (by rw [Nat.pow_succ] at he; omega), step_pw]
      split
      · exact Nat.mod_lt _ P_pos
      · exact hr
theorem four_Q : 4 ^ Q % P = 1 := by
  have h : sqm 31 1 4 Q = 1 := by decide +kernel
  rw [sqm_eq 31 1 4 Q (by decide) (by decide +kernel), Nat.one_mul] at h
  exact h
theorem nine_Q : 9 ^ Q % P = 1 := by
  have h : sqm 31 1 9 Q = 1 := by decide +kernel
  rw [sqm_eq 31 1 9 Q (by decide) (by decide +kernel), Nat.one_mul] at h
  exact h
/-- An element of the group. -/
def El (x : Nat) : Prop := x ^ Q % P = 1
theorem El.mul {x y : Nat} (hx : El x) (hy : El y) : El (x * y % P) := by
  unfold El at *
  rw [← Nat.pow_mod, Nat.mul_pow, Nat.mul_mod, hx, hy]; decide
theorem El.pow {x : Nat} (hx : El x) (e : Nat) : El (x ^ e % P) := by
  unfold El at *
  rw [← Nat.pow_mod, ← Nat.pow_mul, Nat.mul_comm, Nat.pow_mul, Nat.pow_mod, hx, Nat.one_pow]; decide
theorem El.red {x : Nat} (hx : El x) (e : Nat) : x ^ e % P = x ^ (e % Q) % P := by
  unfold El at hx
  have h : x ^ e = (x ^ Q) ^ (e / Q) * x ^ (e % Q) := by rw [← Nat.pow_mul, ← Nat.pow_add, Nat.div_add_mod]
  rw [h, Nat.mul_mod, Nat.pow_mod, hx, Nat.one_pow, ← Nat.mul_mod, Nat.one_mul]
theorem El.inv {x : Nat} (hx : El x) : x * (x ^ (Q - 1) % P) % P = 1 := by
  unfold El at hx
  rw [Nat.mul_mod_mod, ← Nat.pow_succ', show (Q - 1).succ = Q from rfl, hx]
theorem El.cancel {f : Nat} (hf : El f) {a b : Nat} (h : f * a % P = f * b % P) : a % P = b % P := by
  have hi := hf.inv
  obtain ⟨g, hg⟩ : ∃ g, f ^ (Q - 1) % P = g := ⟨_, rfl⟩
  rw [hg] at hi
  have h1 : ∀ a, g * (f * a % P) % P = a % P := fun a => by
    rw [Nat.mul_mod_mod, ← Nat.mul_assoc, Nat.mul_comm g f, Nat.mul_mod, hi, Nat.one_mul, Nat.mod_mod]
  rw [← h1 a, ← h1 b, h]
theorem El.order {x : Nat} (hx : El x) (d : Nat) (h0 : 0 < d) (h1 : d < Q) (h : x ^ d % P = 1) : x % P = 1 := by
  have hr := hx.red (d * d ^ (Q - 2))
  rw [inv_Q d h0 h1, Nat.pow_one, Nat.pow_mul, Nat.pow_mod, h, Nat.one_pow] at hr
  rw [← hr]; decide
theorem El.inj {x : Nat} (hx : El x) (hx1 : x % P ≠ 1) {i j : Nat} (hi : i < Q) (hj : j < Q) (h : x ^ i % P = x ^ j % P) : i = j := by
  have key : ∀ i j, i < j → j < Q → x ^ i % P = x ^ j % P → False := fun i j hij hj h => by
    have e : x ^ j = x ^ i * x ^ (j - i) := by rw [← Nat.pow_add, show i + (j - i) = j by omega]
    rw [e] at h
    have hE : El (x ^ i) := by have := hx.pow i; unfold El at this ⊢; rwa [← Nat.pow_mod] at this
    have h2 : (1 : Nat) % P = x ^ (j - i) % P := hE.cancel (by rw [Nat.mul_one]; exact h)
    exact hx1 (hx.order (j - i) (by omega) (by omega) (by rw [← h2]; decide))
  rcases Nat.lt_trichotomy i j with h1 | h1 | h1
  · exact (key i j h1 hj h).elim
  · exact h1
  · exact (key j i h1 hi h.symm).elim
theorem el_4 : El 4 := four_Q
theorem el_9 : El 9 := nine_Q
theorem nine_1 : 9 % P ≠ 1 := by decide
end Go.Proofs.YtfjkmhbipkoefaaDoor.Grp
