/- The walk of payslip.Rows. -/
import Derived.Test.YtfjkmhbipkoefaaDoorQ12
import Derived.Test.YtfjkmhbipkoefaaDoorQ03
namespace Go.Proofs.YtfjkmhbipkoefaaDoor
open Go.RowKit Go.Shelf
set_option linter.unusedVariables false
set_option linter.unusedSimpArgs false
set_option maxRecDepth 100000
attribute [local go_sem] Oper.semAt_some
attribute [local go_sem ↓] append_fold append_fold2
def rowsE (fit : Bool) (n : Nat) : Int := if fit = true then (if n ≤ 1024 then 0 else 2) else 1
noncomputable def rowsR (c : CaseM) (s : SlipM) : List RowD := if fitsB c s = true ∧ (rowsL c s).length ≤ 1024 then rowsL c s else []
theorem fits_at (c : CaseM) (s : SlipM) (r : Bool) (hr : Hid (fitsB c s = r)) (cv sv : Value) (hcv : Hid (caseV c = cv)) (hsv : Hid (slipV s = sv)) (w : World) (hc : CaseOk w c) (hs : SlipOk w s) :
    Calls Tryd.prog 19 #[cv, sv] w fun e w' => e = .returned (.bool r) ∧ Below w.heap.size w w' := by
  rw [← hcv.out, ← hsv.out]
  exact fits_any c s r hr w hc hs
def caseO (c : CaseM) : Obj := .cells #[c.f0, .slice c.LA c.ds.length c.lc, .slice c.AA c.nums.length c.ac, c.v3, c.v4, c.v5, c.v6, .string c.cur, .int .i64 c.fst] 33 (0, 0)
def slipO (s : SlipM) : Obj := .cells #[.string s.person, .int .i64 s.month, .slice s.LA s.lines.length s.lc, .int .i64 s.gross, .int .i64 s.tax, .int .i64 s.deduct, .int .i64 s.floor, .slice s.TA s.taken.length s.tc, .int .i64 s.net] 37 (0, 0)
/-- The loop of Rows between two rounds: the record, the list so far, the results' cells. -/
structure RowsJ (w : World) (e2 e3 L Bc Bs D lr : Nat) (r : Loop) (c : CaseM) (s : SlipM) (R : List RowD) (k g : Nat) (W : World) : Prop where
  rcd : W.heap[lr]? = some (Rng.readyOf r)
  dfr : W.heap[D]? = some (.deferred (some []))
  lst : ∃ v, W.heap[L]? = some (.cells #[v] 38 (0, 0)) ∧ W.ownsRow (lr + 1) 64 3 v k (rowsV (R.take k)) ∧ ∀ b, v.ownBlock = some b → b = g
  kle : k ≤ 1024
  kR : k ≤ R.length
  re2 : W.heap[e2]? = some (.cells #[.slice none 0 0] 38 (0, 0))
  re3 : W.heap[e3]? = some (.cells #[.int .i64 0] 51 (0, 0))
  bel : Below w.heap.size w W
  bc : W.heap[Bc]? = some (caseO c)
  bs : W.heap[Bs]? = some (slipO s)
  sz : lr + 1 ≤ W.heap.size
  gl : g < W.heap.size
structure RowsX (w : World) (e2 e3 L Bc Bs D lr : Nat) (r : Loop) (c : CaseM) (s : SlipM) (R : List RowD) (W : World) : Prop where
  rcd : W.heap[lr]? = some (Rng.doneOf r .ret)
  dfr : W.heap[D]? = some (.deferred (some []))
  re2 : W.heap[e2]? = some (.cells #[.slice none 0 0] 38 (0, 0))
  re3 : W.heap[e3]? = some (.cells #[.int .i64 2] 51 (0, 0))
  bel : Below w.heap.size w W
  bc : W.heap[Bc]? = some (caseO c)
  bs : W.heap[Bs]? = some (slipO s)
  sz : lr + 1 ≤ W.heap.size
  big : 1024 < R.length
theorem ownsRow_putObj_lt {w : World} {base : Nat} {e : TypeId} {size n : Nat} {v : Value} {xs : List Value} {d : Nat} (h : w.ownsRow base e size v n xs) (o : Obj) (hd : d < base) : (w.putObj d o).ownsRow base e size v n xs := by
  refine ⟨h.1, ?_⟩
  rcases h.2 with h0 | ⟨g, cap, cur, h1, h2, h3, h4⟩
  · exact .inl h0
  · exact .inr ⟨g, cap, cur, h1, h2, (World.putObj_heap_other (by omega)).trans h3, h4⟩
theorem ownsRow_keep {w w' : World} {base : Nat} {e : TypeId} {size n : Nat} {v : Value} {xs : List Value} (h : w.ownsRow base e size v n xs) (hk : ∀ b, base ≤ b → w'.heap[b]? = w.heap[b]?) : w'.ownsRow base e size v n xs := by
  refine ⟨h.1, ?_⟩
  rcases h.2 with h0 | ⟨g, cap, cur, h1, h2, h3, h4⟩
  · exact .inl h0
  · exact .inr ⟨g, cap, cur, h1, h2, (hk g h2).trans h3, h4⟩
theorem ownsRow_base {w : World} {base base' : Nat} {e : TypeId} {size n : Nat} {v : Value} {xs : List Value} (h : w.ownsRow base e size v n xs) (hb : base' ≤ base) : w.ownsRow base' e size v n xs := by
  refine ⟨h.1, ?_⟩
  rcases h.2 with h0 | ⟨g, cap, cur, h1, h2, h3⟩
  · exact .inl h0
  · exact .inr ⟨g, cap, cur, h1, Nat.le_trans hb h2, h3⟩
set_option maxHeartbeats 8000000 in
theorem Rows_no (c : CaseM) (s : SlipM) (Hfit : Hid (fitsB c s = false)) (w : World) (hc : CaseOk w c) (hs : SlipOk w s) (hT : CaT.Tabs w) :
    Calls Tryd.prog 8 #[caseV c, slipV s] w fun e w' => e = .returned (.tuple #[.slice none 0 0, .int .i64 1]) ∧ Below w.heap.size w w' := by
  have Hc := Lib.hid hc
  have Hs := Lib.hid hs
  have HT := Lib.hid hT
  clear hc hs hT
  obtain ⟨dn, hdn⟩ : ∃ n, c.ds.length = n := ⟨_, rfl⟩
  obtain ⟨an, han⟩ : ∃ n, c.nums.length = n := ⟨_, rfl⟩
  obtain ⟨ln, hln⟩ : ∃ n, s.lines.length = n := ⟨_, rfl⟩
  obtain ⟨tn, htn⟩ : ∃ n, s.taken.length = n := ⟨_, rfl⟩
  have hcv : caseV c = .agg #[c.f0, .slice c.LA dn c.lc, .slice c.AA an c.ac, c.v3, c.v4, c.v5, c.v6, .string c.cur, .int .i64 c.fst] := by rw [← hdn, ← han]; rfl
  have hsv : slipV s = .agg #[.string s.person, .int .i64 s.month, .slice s.LA ln s.lc, .int .i64 s.gross, .int .i64 s.tax, .int .i64 s.deduct, .int .i64 s.floor, .slice s.TA tn s.tc, .int .i64 s.net] := by rw [← hln, ← htn]; rfl
  have hco : caseO c = .cells #[c.f0, .slice c.LA dn c.lc, .slice c.AA an c.ac, c.v3, c.v4, c.v5, c.v6, .string c.cur, .int .i64 c.fst] 33 := by rw [← hdn, ← han]; rfl
  have hso : slipO s = .cells #[.string s.person, .int .i64 s.month, .slice s.LA ln s.lc, .int .i64 s.gross, .int .i64 s.tax, .int .i64 s.deduct, .int .i64 s.floor, .slice s.TA tn s.tc, .int .i64 s.net] 37 := by rw [← hln, ← htn]; rfl
  have Hcv := Lib.hid hcv
  have Hsv := Lib.hid hsv
  have Hco := Lib.hid hco
  have Hso := Lib.hid hso
  rw [hcv, hsv]
  clear hcv hsv hco hso hdn han hln htn
  go_enter Tryd.func8, Tryd.ntmps8
  go_upto_region 1 with fail
  obtain ⟨W1, hW1⟩ : ∃ W, W = (((w.alloc (.cells #[c.f0, .slice c.LA dn c.lc, .slice c.AA an c.ac, c.v3, c.v4, c.v5, c.v6, .string c.cur, .int .i64 c.fst] 33)).alloc (.cells #[.string s.person, .int .i64 s.month, .slice s.LA ln s.lc, .int .i64 s.gross, .int .i64 s.tax, .int .i64 s.deduct, .int .i64 s.floor, .slice s.TA tn s.tc, .int .i64 s.net] 37)).alloc (.cells #[.slice none 0 0] 38)).alloc (.cells #[.int .i64 0] 51) := ⟨_, rfl⟩
  rw [← hW1]
  have q0 : W1.heap[w.heap.size]? = some (.cells #[c.f0, .slice c.LA dn c.lc, .slice c.AA an c.ac, c.v3, c.v4, c.v5, c.v6, .string c.cur, .int .i64 c.fst] 33) := by
    rw [hW1]
    exact (Below.heap_alloc _ _ _ (by simp; omega)).trans ((Below.heap_alloc _ _ _ (by simp; omega)).trans (heap_alloc2_old w _ _))
  have q1 : W1.heap[w.heap.size + 1]? = some (.cells #[.string s.person, .int .i64 s.month, .slice s.LA ln s.lc, .int .i64 s.gross, .int .i64 s.tax, .int .i64 s.deduct, .int .i64 s.floor, .slice s.TA tn s.tc, .int .i64 s.net] 37) := by
    rw [hW1]
    exact (Below.heap_alloc _ _ _ (by simp)).trans ((Below.heap_alloc _ _ _ (by simp)).trans (heap_alloc2_new w _ _))
  have q2 : W1.heap[w.heap.size + 1 + 1]? = some (.cells #[.slice none 0 0] 38) := by
    rw [hW1]
    have := heap_alloc2_old ((w.alloc (.cells #[c.f0, .slice c.LA dn c.lc, .slice c.AA an c.ac, c.v3, c.v4, c.v5, c.v6, .string c.cur, .int .i64 c.fst] 33)).alloc (.cells #[.string s.person, .int .i64 s.month, .slice s.LA ln s.lc, .int .i64 s.gross, .int .i64 s.tax, .int .i64 s.deduct, .int .i64 s.floor, .slice s.TA tn s.tc, .int .i64 s.net] 37)) (.cells #[.slice none 0 0] 38) (.cells #[.int .i64 0] 51)
    rwa [show ((w.alloc (.cells #[c.f0, .slice c.LA dn c.lc, .slice c.AA an c.ac, c.v3, c.v4, c.v5, c.v6, .string c.cur, .int .i64 c.fst] 33)).alloc (.cells #[.string s.person, .int .i64 s.month, .slice s.LA ln s.lc, .int .i64 s.gross, .int .i64 s.tax, .int .i64 s.deduct, .int .i64 s.floor, .slice s.TA tn s.tc, .int .i64 s.net] 37)).heap.size = w.heap.size + 1 + 1 by simp] at this
  have q3 : W1.heap[w.heap.size + 1 + 1 + 1]? = some (.cells #[.int .i64 0] 51) := by
    rw [hW1]
    have := heap_alloc2_new ((w.alloc (.cells #[c.f0, .slice c.LA dn c.lc, .slice c.AA an c.ac, c.v3, c.v4, c.v5, c.v6, .string c.cur, .int .i64 c.fst] 33)).alloc (.cells #[.string s.person, .int .i64 s.month, .slice s.LA ln s.lc, .int .i64 s.gross, .int .i64 s.tax, .int .i64 s.deduct, .int .i64 s.floor, .slice s.TA tn s.tc, .int .i64 s.net] 37)) (.cells #[.slice none 0 0] 38) (.cells #[.int .i64 0] 51)
    rwa [show ((w.alloc (.cells #[c.f0, .slice c.LA dn c.lc, .slice c.AA an c.ac, c.v3, c.v4, c.v5, c.v6, .string c.cur, .int .i64 c.fst] 33)).alloc (.cells #[.string s.person, .int .i64 s.month, .slice s.LA ln s.lc, .int .i64 s.gross, .int .i64 s.tax, .int .i64 s.deduct, .int .i64 s.floor, .slice s.TA tn s.tc, .int .i64 s.net] 37)).heap.size = w.heap.size + 1 + 1 by simp] at this
  have hBW1 : Below w.heap.size w W1 := by rw [hW1]; exact bal (bal (bal (bal (Below.refl _ _) _) _) _) _
  have hsz1 : W1.heap.size = w.heap.size + 4 := by rw [hW1]; simp
  clear hW1
  have k0 : W1.cell? ⟨w.heap.size, 0, none⟩ = some (c.f0) := by rw [Lib.cell_of_heap q0]; rfl
  have k1 : W1.cell? ⟨w.heap.size, 1, none⟩ = some (.slice c.LA dn c.lc) := by rw [Lib.cell_of_heap q0]; rfl
  have k2 : W1.cell? ⟨w.heap.size, 2, none⟩ = some (.slice c.AA an c.ac) := by rw [Lib.cell_of_heap q0]; rfl
  have k3 : W1.cell? ⟨w.heap.size, 3, none⟩ = some (c.v3) := by rw [Lib.cell_of_heap q0]; rfl
  have k4 : W1.cell? ⟨w.heap.size, 4, none⟩ = some (c.v4) := by rw [Lib.cell_of_heap q0]; rfl
  have k5 : W1.cell? ⟨w.heap.size, 5, none⟩ = some (c.v5) := by rw [Lib.cell_of_heap q0]; rfl
  have k6 : W1.cell? ⟨w.heap.size, 6, none⟩ = some (c.v6) := by rw [Lib.cell_of_heap q0]; rfl
  have k7 : W1.cell? ⟨w.heap.size, 7, none⟩ = some (.string c.cur) := by rw [Lib.cell_of_heap q0]; rfl
  have k8 : W1.cell? ⟨w.heap.size, 8, none⟩ = some (.int .i64 c.fst) := by rw [Lib.cell_of_heap q0]; rfl
  have m0 : W1.cell? ⟨w.heap.size + 1, 0, none⟩ = some (.string s.person) := by rw [Lib.cell_of_heap q1]; rfl
  have m1 : W1.cell? ⟨w.heap.size + 1, 1, none⟩ = some (.int .i64 s.month) := by rw [Lib.cell_of_heap q1]; rfl
  have m2 : W1.cell? ⟨w.heap.size + 1, 2, none⟩ = some (.slice s.LA ln s.lc) := by rw [Lib.cell_of_heap q1]; rfl
  have m3 : W1.cell? ⟨w.heap.size + 1, 3, none⟩ = some (.int .i64 s.gross) := by rw [Lib.cell_of_heap q1]; rfl
  have m4 : W1.cell? ⟨w.heap.size + 1, 4, none⟩ = some (.int .i64 s.tax) := by rw [Lib.cell_of_heap q1]; rfl
  have m5 : W1.cell? ⟨w.heap.size + 1, 5, none⟩ = some (.int .i64 s.deduct) := by rw [Lib.cell_of_heap q1]; rfl
  have m6 : W1.cell? ⟨w.heap.size + 1, 6, none⟩ = some (.int .i64 s.floor) := by rw [Lib.cell_of_heap q1]; rfl
  have m7 : W1.cell? ⟨w.heap.size + 1, 7, none⟩ = some (.slice s.TA tn s.tc) := by rw [Lib.cell_of_heap q1]; rfl
  have m8 : W1.cell? ⟨w.heap.size + 1, 8, none⟩ = some (.int .i64 s.net) := by rw [Lib.cell_of_heap q1]; rfl
  have Q := Lib.hid (And.intro q0 (And.intro q1 (And.intro q2 q3)))
  have Hsz1 := Lib.hid hsz1
  clear q0 q1 q2 q3 hsz1
  go_wp2_with fail
  refine (fits_at c s false Hfit _ _ Hcv Hsv W1 (Hc.out.go hBW1) (Hs.out.go hBW1)).mono ?_
  rintro e w1 ⟨rfl, hB1⟩
  clear k0 k1 k2 k3 k4 k5 k6 k7 k8 m0 m1 m2 m3 m4 m5 m6 m7 m8
  have hBw1 := bgo hBW1 hB1
  have hs1 := hB1.size
  have r0 : w1.heap[w.heap.size]? = some (.cells #[c.f0, .slice c.LA dn c.lc, .slice c.AA an c.ac, c.v3, c.v4, c.v5, c.v6, .string c.cur, .int .i64 c.fst] 33) := (hB1.block _ (by rw [Hsz1.out]; omega)).trans Q.out.1
  have r1 : w1.heap[w.heap.size + 1]? = some (.cells #[.string s.person, .int .i64 s.month, .slice s.LA ln s.lc, .int .i64 s.gross, .int .i64 s.tax, .int .i64 s.deduct, .int .i64 s.floor, .slice s.TA tn s.tc, .int .i64 s.net] 37) := (hB1.block _ (by rw [Hsz1.out]; omega)).trans Q.out.2.1
  have r2 : w1.heap[w.heap.size + 1 + 1]? = some (.cells #[.slice none 0 0] 38) := (hB1.block _ (by rw [Hsz1.out]; omega)).trans Q.out.2.2.1
  have r3 : w1.heap[w.heap.size + 1 + 1 + 1]? = some (.cells #[.int .i64 0] 51) := (hB1.block _ (by rw [Hsz1.out]; omega)).trans Q.out.2.2.2
  have hL4 : w.heap.size + 4 ≤ w1.heap.size := by rw [← Hsz1.out]; exact hs1
  clear hB1 hBW1 hs1
  have x2 : w1.cell? ⟨w.heap.size + 1 + 1, 0, none⟩ = some (.slice none 0 0) := by rw [Lib.cell_of_heap r2]; rfl
  have x3 : w1.cell? ⟨w.heap.size + 1 + 1 + 1, 0, none⟩ = some (.int .i64 0) := by rw [Lib.cell_of_heap r3]; rfl
  have y2 : w1.frozen? ⟨w.heap.size + 1 + 1, 0, none⟩ = false := Lib.frozen_of_heap r2 0
  have y3 : w1.frozen? ⟨w.heap.size + 1 + 1 + 1, 0, none⟩ = false := Lib.frozen_of_heap r3 0
  clear r0 r1 r2 r3
  go_wp2_with fail
  refine bodyPost_ret (v := .tuple #[.slice none 0 0, .int .i64 1]) (by simp [results, Tryd.results8, go_sem, x2, x3]) rfl ⟨rfl, ?_⟩
  exact (hBw1.setCell (by simp; omega) _).setCell (by simp; omega) _
set_option maxHeartbeats 8000000 in
theorem Rows_yes (c : CaseM) (s : SlipM) (Hfit : Hid (fitsB c s = true)) (w : World) (hc : CaseOk w c) (hs : SlipOk w s) (hT : CaT.Tabs w) :
    Calls Tryd.prog 8 #[caseV c, slipV s] w fun e w' => ∃ v, e = .returned (.tuple #[v, .int .i64 (if (rowsL c s).length ≤ 1024 then 0 else 2)]) ∧ w'.ownsRow w.heap.size 64 3 v (if (rowsL c s).length ≤ 1024 then rowsL c s else []).length (rowsV (if (rowsL c s).length ≤ 1024 then rowsL c s else [])) ∧ Below w.heap.size w w' := by
  have Hc := Lib.hid hc
  have Hs := Lib.hid hs
  have HT := Lib.hid hT
  clear hc hs hT
  obtain ⟨dn, hdn⟩ : ∃ n, c.ds.length = n := ⟨_, rfl⟩
  obtain ⟨an, han⟩ : ∃ n, c.nums.length = n := ⟨_, rfl⟩
  obtain ⟨ln, hln⟩ : ∃ n, s.lines.length = n := ⟨_, rfl⟩
  obtain ⟨tn, htn⟩ : ∃ n, s.taken.length = n := ⟨_, rfl⟩
  have hcv : caseV c = .agg #[c.f0, .slice c.LA dn c.lc, .slice c.AA an c.ac, c.v3, c.v4, c.v5, c.v6, .string c.cur, .int .i64 c.fst] := by rw [← hdn, ← han]; rfl
  have hsv : slipV s = .agg #[.string s.person, .int .i64 s.month, .slice s.LA ln s.lc, .int .i64 s.gross, .int .i64 s.tax, .int .i64 s.deduct, .int .i64 s.floor, .slice s.TA tn s.tc, .int .i64 s.net] := by rw [← hln, ← htn]; rfl
  have hco : caseO c = .cells #[c.f0, .slice c.LA dn c.lc, .slice c.AA an c.ac, c.v3, c.v4, c.v5, c.v6, .string c.cur, .int .i64 c.fst] 33 := by rw [← hdn, ← han]; rfl
  have hso : slipO s = .cells #[.string s.person, .int .i64 s.month, .slice s.LA ln s.lc, .int .i64 s.gross, .int .i64 s.tax, .int .i64 s.deduct, .int .i64 s.floor, .slice s.TA tn s.tc, .int .i64 s.net] 37 := by rw [← hln, ← htn]; rfl
  have Hcv := Lib.hid hcv
  have Hsv := Lib.hid hsv
  have Hco := Lib.hid hco
  have Hso := Lib.hid hso
  rw [hcv, hsv]
  clear hcv hsv hco hso hdn han hln htn
  obtain ⟨R, hR⟩ : ∃ R, rowsL c s = R := ⟨_, rfl⟩
  rw [hR]
  have HR := Lib.hid hR
  clear hR
  refine (callsIn_wide (n := 4)).1 ?_
  refine callsIn_of_wp_marks Tryd.func8 rfl trivial ?_ rfl
  simp only [Tryd.ntmps8, List.size_toArray, List.length_cons, List.length_nil, Nat.reduceAdd, Nat.reduceSub, Array.replicate_succ, Array.replicate_zero, List.push_toArray, List.append_toArray, List.nil_append, List.cons_append]
  refine wpIn_wide.2 ?_
  go_upto_region 1 with fail
  obtain ⟨W1, hW1⟩ : ∃ W, W = (((w.alloc (.cells #[c.f0, .slice c.LA dn c.lc, .slice c.AA an c.ac, c.v3, c.v4, c.v5, c.v6, .string c.cur, .int .i64 c.fst] 33)).alloc (.cells #[.string s.person, .int .i64 s.month, .slice s.LA ln s.lc, .int .i64 s.gross, .int .i64 s.tax, .int .i64 s.deduct, .int .i64 s.floor, .slice s.TA tn s.tc, .int .i64 s.net] 37)).alloc (.cells #[.slice none 0 0] 38)).alloc (.cells #[.int .i64 0] 51) := ⟨_, rfl⟩
  rw [← hW1]
  have q0 : W1.heap[w.heap.size]? = some (.cells #[c.f0, .slice c.LA dn c.lc, .slice c.AA an c.ac, c.v3, c.v4, c.v5, c.v6, .string c.cur, .int .i64 c.fst] 33) := by
    rw [hW1]
    exact (Below.heap_alloc _ _ _ (by simp; omega)).trans ((Below.heap_alloc _ _ _ (by simp; omega)).trans (heap_alloc2_old w _ _))
  have q1 : W1.heap[w.heap.size + 1]? = some (.cells #[.string s.person, .int .i64 s.month, .slice s.LA ln s.lc, .int .i64 s.gross, .int .i64 s.tax, .int .i64 s.deduct, .int .i64 s.floor, .slice s.TA tn s.tc, .int .i64 s.net] 37) := by
    rw [hW1]
    exact (Below.heap_alloc _ _ _ (by simp)).trans ((Below.heap_alloc _ _ _ (by simp)).trans (heap_alloc2_new w _ _))
  have q2 : W1.heap[w.heap.size + 1 + 1]? = some (.cells #[.slice none 0 0] 38) := by
    rw [hW1]
    have := heap_alloc2_old ((w.alloc (.cells #[c.f0, .slice c.LA dn c.lc, .slice c.AA an c.ac, c.v3, c.v4, c.v5, c.v6, .string c.cur, .int .i64 c.fst] 33)).alloc (.cells #[.string s.person, .int .i64 s.month, .slice s.LA ln s.lc, .int .i64 s.gross, .int .i64 s.tax, .int .i64 s.deduct, .int .i64 s.floor, .slice s.TA tn s.tc, .int .i64 s.net] 37)) (.cells #[.slice none 0 0] 38) (.cells #[.int .i64 0] 51)
    rwa [show ((w.alloc (.cells #[c.f0, .slice c.LA dn c.lc, .slice c.AA an c.ac, c.v3, c.v4, c.v5, c.v6, .string c.cur, .int .i64 c.fst] 33)).alloc (.cells #[.string s.person, .int .i64 s.month, .slice s.LA ln s.lc, .int .i64 s.gross, .int .i64 s.tax, .int .i64 s.deduct, .int .i64 s.floor, .slice s.TA tn s.tc, .int .i64 s.net] 37)).heap.size = w.heap.size + 1 + 1 by simp] at this
  have q3 : W1.heap[w.heap.size + 1 + 1 + 1]? = some (.cells #[.int .i64 0] 51) := by
    rw [hW1]
    have := heap_alloc2_new ((w.alloc (.cells #[c.f0, .slice c.LA dn c.lc, .slice c.AA an c.ac, c.v3, c.v4, c.v5, c.v6, .string c.cur, .int .i64 c.fst] 33)).alloc (.cells #[.string s.person, .int .i64 s.month, .slice s.LA ln s.lc, .int .i64 s.gross, .int .i64 s.tax, .int .i64 s.deduct, .int .i64 s.floor, .slice s.TA tn s.tc, .int .i64 s.net] 37)) (.cells #[.slice none 0 0] 38) (.cells #[.int .i64 0] 51)
    rwa [show ((w.alloc (.cells #[c.f0, .slice c.LA dn c.lc, .slice c.AA an c.ac, c.v3, c.v4, c.v5, c.v6, .string c.cur, .int .i64 c.fst] 33)).alloc (.cells #[.string s.person, .int .i64 s.month, .slice s.LA ln s.lc, .int .i64 s.gross, .int .i64 s.tax, .int .i64 s.deduct, .int .i64 s.floor, .slice s.TA tn s.tc, .int .i64 s.net] 37)).heap.size = w.heap.size + 1 + 1 by simp] at this
  have hBW1 : Below w.heap.size w W1 := by rw [hW1]; exact bal (bal (bal (bal (Below.refl _ _) _) _) _) _
  have hsz1 : W1.heap.size = w.heap.size + 4 := by rw [hW1]; simp
  clear hW1
  have k0 : W1.cell? ⟨w.heap.size, 0, none⟩ = some (c.f0) := by rw [Lib.cell_of_heap q0]; rfl
  have k1 : W1.cell? ⟨w.heap.size, 1, none⟩ = some (.slice c.LA dn c.lc) := by rw [Lib.cell_of_heap q0]; rfl
  have k2 : W1.cell? ⟨w.heap.size, 2, none⟩ = some (.slice c.AA an c.ac) := by rw [Lib.cell_of_heap q0]; rfl
  have k3 : W1.cell? ⟨w.heap.size, 3, none⟩ = some (c.v3) := by rw [Lib.cell_of_heap q0]; rfl
  have k4 : W1.cell? ⟨w.heap.size, 4, none⟩ = some (c.v4) := by rw [Lib.cell_of_heap q0]; rfl
  have k5 : W1.cell? ⟨w.heap.size, 5, none⟩ = some (c.v5) := by rw [Lib.cell_of_heap q0]; rfl
  have k6 : W1.cell? ⟨w.heap.size, 6, none⟩ = some (c.v6) := by rw [Lib.cell_of_heap q0]; rfl
  have k7 : W1.cell? ⟨w.heap.size, 7, none⟩ = some (.string c.cur) := by rw [Lib.cell_of_heap q0]; rfl
  have k8 : W1.cell? ⟨w.heap.size, 8, none⟩ = some (.int .i64 c.fst) := by rw [Lib.cell_of_heap q0]; rfl
  have m0 : W1.cell? ⟨w.heap.size + 1, 0, none⟩ = some (.string s.person) := by rw [Lib.cell_of_heap q1]; rfl
  have m1 : W1.cell? ⟨w.heap.size + 1, 1, none⟩ = some (.int .i64 s.month) := by rw [Lib.cell_of_heap q1]; rfl
  have m2 : W1.cell? ⟨w.heap.size + 1, 2, none⟩ = some (.slice s.LA ln s.lc) := by rw [Lib.cell_of_heap q1]; rfl
  have m3 : W1.cell? ⟨w.heap.size + 1, 3, none⟩ = some (.int .i64 s.gross) := by rw [Lib.cell_of_heap q1]; rfl
  have m4 : W1.cell? ⟨w.heap.size + 1, 4, none⟩ = some (.int .i64 s.tax) := by rw [Lib.cell_of_heap q1]; rfl
  have m5 : W1.cell? ⟨w.heap.size + 1, 5, none⟩ = some (.int .i64 s.deduct) := by rw [Lib.cell_of_heap q1]; rfl
  have m6 : W1.cell? ⟨w.heap.size + 1, 6, none⟩ = some (.int .i64 s.floor) := by rw [Lib.cell_of_heap q1]; rfl
  have m7 : W1.cell? ⟨w.heap.size + 1, 7, none⟩ = some (.slice s.TA tn s.tc) := by rw [Lib.cell_of_heap q1]; rfl
  have m8 : W1.cell? ⟨w.heap.size + 1, 8, none⟩ = some (.int .i64 s.net) := by rw [Lib.cell_of_heap q1]; rfl
  have Q := Lib.hid (And.intro q0 (And.intro q1 (And.intro q2 q3)))
  have Hsz1 := Lib.hid hsz1
  clear q0 q1 q2 q3 hsz1
  go_wp2_with fail
  refine (fits_at c s true Hfit _ _ Hcv Hsv W1 (Hc.out.go hBW1) (Hs.out.go hBW1)).mono ?_
  rintro e w1 ⟨rfl, hB1⟩
  clear k0 k1 k2 k3 k4 k5 k6 k7 k8 m0 m1 m2 m3 m4 m5 m6 m7 m8
  have hBw1 := bgo hBW1 hB1
  have hs1 := hB1.size
  have r0 : w1.heap[w.heap.size]? = some (.cells #[c.f0, .slice c.LA dn c.lc, .slice c.AA an c.ac, c.v3, c.v4, c.v5, c.v6, .string c.cur, .int .i64 c.fst] 33) := (hB1.block _ (by rw [Hsz1.out]; omega)).trans Q.out.1
  have r1 : w1.heap[w.heap.size + 1]? = some (.cells #[.string s.person, .int .i64 s.month, .slice s.LA ln s.lc, .int .i64 s.gross, .int .i64 s.tax, .int .i64 s.deduct, .int .i64 s.floor, .slice s.TA tn s.tc, .int .i64 s.net] 37) := (hB1.block _ (by rw [Hsz1.out]; omega)).trans Q.out.2.1
  have r2 : w1.heap[w.heap.size + 1 + 1]? = some (.cells #[.slice none 0 0] 38) := (hB1.block _ (by rw [Hsz1.out]; omega)).trans Q.out.2.2.1
  have r3 : w1.heap[w.heap.size + 1 + 1 + 1]? = some (.cells #[.int .i64 0] 51) := (hB1.block _ (by rw [Hsz1.out]; omega)).trans Q.out.2.2.2
  have hL4 : w.heap.size + 4 ≤ w1.heap.size := by rw [← Hsz1.out]; exact hs1
  clear hB1 hBW1 hs1
  go_upto_region 4 with fail
  obtain ⟨W2, hW2⟩ : ∃ W, W = w1.alloc (.cells #[.slice none 0 0] 38) := ⟨_, rfl⟩
  rw [← hW2]
  have gl : W2.heap[w1.heap.size]? = some (.cells #[.slice none 0 0] 38) := by rw [hW2]; exact World.alloc_heap_new _ _
  have hB12 : Below w1.heap.size w1 W2 := by rw [hW2]; exact bal (Below.refl _ _) _
  have hsz2 : W2.heap.size = w1.heap.size + 1 := by rw [hW2]; simp
  clear hW2
  have s0 : W2.heap[w.heap.size]? = some (.cells #[c.f0, .slice c.LA dn c.lc, .slice c.AA an c.ac, c.v3, c.v4, c.v5, c.v6, .string c.cur, .int .i64 c.fst] 33) := (hB12.block _ (by omega)).trans r0
  have s1 : W2.heap[w.heap.size + 1]? = some (.cells #[.string s.person, .int .i64 s.month, .slice s.LA ln s.lc, .int .i64 s.gross, .int .i64 s.tax, .int .i64 s.deduct, .int .i64 s.floor, .slice s.TA tn s.tc, .int .i64 s.net] 37) := (hB12.block _ (by omega)).trans r1
  have k0 : W2.cell? ⟨w.heap.size, 0, none⟩ = some (c.f0) := by rw [Lib.cell_of_heap s0]; rfl
  have k1 : W2.cell? ⟨w.heap.size, 1, none⟩ = some (.slice c.LA dn c.lc) := by rw [Lib.cell_of_heap s0]; rfl
  have k2 : W2.cell? ⟨w.heap.size, 2, none⟩ = some (.slice c.AA an c.ac) := by rw [Lib.cell_of_heap s0]; rfl
  have k3 : W2.cell? ⟨w.heap.size, 3, none⟩ = some (c.v3) := by rw [Lib.cell_of_heap s0]; rfl
  have k4 : W2.cell? ⟨w.heap.size, 4, none⟩ = some (c.v4) := by rw [Lib.cell_of_heap s0]; rfl
  have k5 : W2.cell? ⟨w.heap.size, 5, none⟩ = some (c.v5) := by rw [Lib.cell_of_heap s0]; rfl
  have k6 : W2.cell? ⟨w.heap.size, 6, none⟩ = some (c.v6) := by rw [Lib.cell_of_heap s0]; rfl
  have k7 : W2.cell? ⟨w.heap.size, 7, none⟩ = some (.string c.cur) := by rw [Lib.cell_of_heap s0]; rfl
  have k8 : W2.cell? ⟨w.heap.size, 8, none⟩ = some (.int .i64 c.fst) := by rw [Lib.cell_of_heap s0]; rfl
  have m0 : W2.cell? ⟨w.heap.size + 1, 0, none⟩ = some (.string s.person) := by rw [Lib.cell_of_heap s1]; rfl
  have m1 : W2.cell? ⟨w.heap.size + 1, 1, none⟩ = some (.int .i64 s.month) := by rw [Lib.cell_of_heap s1]; rfl
  have m2 : W2.cell? ⟨w.heap.size + 1, 2, none⟩ = some (.slice s.LA ln s.lc) := by rw [Lib.cell_of_heap s1]; rfl
  have m3 : W2.cell? ⟨w.heap.size + 1, 3, none⟩ = some (.int .i64 s.gross) := by rw [Lib.cell_of_heap s1]; rfl
  have m4 : W2.cell? ⟨w.heap.size + 1, 4, none⟩ = some (.int .i64 s.tax) := by rw [Lib.cell_of_heap s1]; rfl
  have m5 : W2.cell? ⟨w.heap.size + 1, 5, none⟩ = some (.int .i64 s.deduct) := by rw [Lib.cell_of_heap s1]; rfl
  have m6 : W2.cell? ⟨w.heap.size + 1, 6, none⟩ = some (.int .i64 s.floor) := by rw [Lib.cell_of_heap s1]; rfl
  have m7 : W2.cell? ⟨w.heap.size + 1, 7, none⟩ = some (.slice s.TA tn s.tc) := by rw [Lib.cell_of_heap s1]; rfl
  have m8 : W2.cell? ⟨w.heap.size + 1, 8, none⟩ = some (.int .i64 s.net) := by rw [Lib.cell_of_heap s1]; rfl
  have G := Lib.hid (And.intro gl (And.intro r2 r3))
  have HB12 := Lib.hid hB12
  have Hsz2 := Lib.hid hsz2
  clear gl hB12 hsz2 s0 s1 r0 r1 r2 r3
  go_wp2_with fail
  refine (rowsP_any (.int .i64 0) (.int .i64 0) _ _ _ _ _ _ _ _ _ _ _ _ _ _ _ _ _ _ _ _ _ _ _ _ _ _ W2).mono ?_
  rintro e w' ⟨rfl, rfl⟩
  clear k0 k1 k2 k3 k4 k5 k6 k7 k8 m0 m1 m2 m3 m4 m5 m6 m7 m8
  go_wp2_with fail
  obtain ⟨w3, hw3⟩ : ∃ W, W = (W2.alloc (.cells #[c.f0, .slice c.LA dn c.lc, .slice c.AA an c.ac, c.v3, c.v4, c.v5, c.v6, .string c.cur, .int .i64 c.fst] 33)).alloc (.cells #[.string s.person, .int .i64 s.month, .slice s.LA ln s.lc, .int .i64 s.gross, .int .i64 s.tax, .int .i64 s.deduct, .int .i64 s.floor, .slice s.TA tn s.tc, .int .i64 s.net] 37) := ⟨_, rfl⟩
  rw [← hw3]
  obtain ⟨L, hL⟩ : ∃ n, n = w1.heap.size := ⟨_, rfl⟩
  obtain ⟨Bc, hBc⟩ : ∃ n, n = W2.heap.size := ⟨_, rfl⟩
  obtain ⟨Bs, hBs⟩ : ∃ n, n = W2.heap.size + 1 := ⟨_, rfl⟩
  obtain ⟨e2, he2⟩ : ∃ n, n = w.heap.size + 1 + 1 := ⟨_, rfl⟩
  obtain ⟨e3, he3⟩ : ∃ n, n = w.heap.size + 1 + 1 + 1 := ⟨_, rfl⟩
  rw [← he3, ← he2, ← hL, ← hBs, ← hBc]
  have hco := Hco.out
  have hso := Hso.out
  have t0 : w3.heap[Bc]? = some (caseO c) := by rw [hw3, hBc, hco]; exact heap_alloc2_old W2 _ _
  have t1 : w3.heap[Bs]? = some (slipO s) := by rw [hw3, hBs, hso]; exact heap_alloc2_new W2 _ _
  have hB23 : Below W2.heap.size W2 w3 := by rw [hw3]; exact bal (bal (Below.refl _ _) _) _
  have hsz3 : w3.heap.size = W2.heap.size + 2 := by rw [hw3]; simp
  have hz2 := Hsz2.out
  have t2 : w3.heap[L]? = some (.cells #[.slice none 0 0] 38 (0, 0)) := by rw [hL]; exact (hB23.block _ (by omega)).trans G.out.1
  have t3 : w3.heap[e2]? = some (.cells #[.slice none 0 0] 38 (0, 0)) := by rw [he2]; exact (hB23.block _ (by omega)).trans ((HB12.out.block _ (by omega)).trans G.out.2.1)
  have t4 : w3.heap[e3]? = some (.cells #[.int .i64 0] 51 (0, 0)) := by rw [he3]; exact (hB23.block _ (by omega)).trans ((HB12.out.block _ (by omega)).trans G.out.2.2)
  have hBw3 := bgo (bgo hBw1 HB12.out) hB23
  refine (wpIn_wide (n := 3)).1 ?_
  refine Rng.range_any rfl (by omega) (gf := 39) (lb := #[.pointer (some ⟨Bs, 0, none⟩), .pointer (some ⟨Bc, 0, none⟩)]) rfl trivial (enters_of Tryd.func39 (by kernel_rfl) rfl) ?_
  intro r hfn hra hrb hrt hrp
  refine callsIn_wide.2 ?_
  obtain ⟨W4, hW4⟩ : ∃ W, W = (w3.alloc (.deferred (some []))).alloc (Rng.readyOf r) := ⟨_, rfl⟩
  rw [← hW4]
  obtain ⟨lr, hlr⟩ : ∃ n, n = w3.heap.size + 1 := ⟨_, rfl⟩
  obtain ⟨D, hD⟩ : ∃ n, n = w3.heap.size := ⟨_, rfl⟩
  rw [← hlr]
  have hB34 : Below w3.heap.size w3 W4 := by rw [hW4]; exact bal (bal (Below.refl _ _) _) _
  have hsz4 : W4.heap.size = w3.heap.size + 2 := by rw [hW4]; simp
  have u0 : W4.heap[lr]? = some (Rng.readyOf r) := by rw [hW4, hlr]; exact heap_alloc2_new w3 _ _
  have u1 : W4.heap[D]? = some (.deferred (some [])) := by rw [hW4, hD]; exact heap_alloc2_old w3 _ _
  have hord : w.heap.size ≤ e2 ∧ e2 < e3 ∧ e3 < L ∧ L < Bc ∧ Bc < Bs ∧ Bs < D ∧ D < lr ∧ W4.heap.size = lr + 1 := by omega
  have hJ0 : RowsJ w e2 e3 L Bc Bs D lr r c s R 0 L W4 :=
    ⟨u0, u1, ⟨_, (hB34.block _ (by omega)).trans t2, ⟨by simp [rowsV], .inl ⟨rfl, rfl⟩⟩, fun b hb => by cases hb⟩, by omega, by omega, (hB34.block _ (by omega)).trans t3, (hB34.block _ (by omega)).trans t4, bgo hBw3 hB34, (hB34.block _ (by omega)).trans t0, (hB34.block _ (by omega)).trans t1, by omega, by omega⟩
  have HORD := Lib.hid hord
  have HDD := Lib.hid hD
  clear hw3 hL hBc hBs he2 he3 hW4 hlr hD t0 t1 t2 t3 t4 u0 u1 hB34 hB23 hsz3 hsz4 hz2 hco hso hord hBw3 hBw1
  show Calls Tryd.prog 39 #[.func (.yield lr) #[] #[], .pointer (some ⟨Bs, 0, none⟩), .pointer (some ⟨Bc, 0, none⟩)] W4 _
  refine (prow1_any lr 1 Bc Bs (lr + 1) c s R HR W4 (RowsJ w e2 e3 L Bc Bs D lr r c s R) (RowsX w e2 e3 L Bc Bs D lr r c s R) L ?hD Hfit ?hE hJ0 ?hY).mono ?_
  case hD => exact fun k g W hJ => ⟨⟨Hc.out.go hJ.bel, Hs.out.go hJ.bel, HT.out.go hJ.bel, hJ.bc, hJ.bs, hJ.sz⟩, hJ.gl⟩
  case hE => exact fun W hJ => ⟨Hc.out.go hJ.bel, Hs.out.go hJ.bel, HT.out.go hJ.bel, hJ.bc, hJ.bs, hJ.sz⟩
  case hY =>
    intro k g W0 W5 x hx hJ hB
    clear hJ0
    obtain ⟨rcd, dfr, ⟨v, hv, hown, hvg⟩, kle, kR, re2, re3, bel, bc, bs, sz, gl⟩ := hJ
    obtain ⟨o1, o2, o3, o4, o5, o6, o7, o8⟩ := HORD.out
    have hl3 : W5.heap[lr]? = some (Rng.readyOf r) := (hB.block _ (by omega)).trans rcd
    refine Rng.yield_at hl3 hra hrb (by rw [hrt, hrp]) (by rw [hrp]; rfl) hfn ?_
    obtain ⟨xl, xc, xr⟩ := x
    obtain ⟨A, cap, hvv, _⟩ := own_slice hown
    subst hvv
    have hB5 := hB.size
    have p0 : W5.heap[L]? = some (.cells #[.slice A k cap] 38 (0, 0)) := (hB.block _ (by omega)).trans hv
    have p1 : W5.heap[e2]? = some (.cells #[.slice none 0 0] 38 (0, 0)) := (hB.block _ (by omega)).trans re2
    have p2 : W5.heap[e3]? = some (.cells #[.int .i64 0] 51 (0, 0)) := (hB.block _ (by omega)).trans re3
    have p3 : W5.heap[D]? = some (.deferred (some [])) := (hB.block _ (by omega)).trans dfr
    have p4 : W5.heap[Bc]? = some (caseO c) := (hB.block _ (by omega)).trans bc
    have p5 : W5.heap[Bs]? = some (slipO s) := (hB.block _ (by omega)).trans bs
    have hown5 := own_below hown hB
    have bel5 := bgo bel hB
    have Z := Lib.hid (And.intro hl3 (And.intro p0 (And.intro p1 (And.intro p2 (And.intro p3 (And.intro p4 (And.intro p5 (And.intro hown5 (And.intro hvg bel5)))))))))
    clear hl3 p0 p1 p2 p3 p4 p5 hown5 hvg bel5 rcd dfr hv hown re2 re3 bel bc bs hra hrb hrt hrp
    dsimp only
    gi_wp2
    refine ⟨(Below.heap_alloc _ _ _ (by omega)).trans Z.out.1, ?_⟩
    obtain ⟨bx, hbx⟩ : ∃ n, n = W5.heap.size := ⟨_, rfl⟩
    obtain ⟨V, hV⟩ : ∃ V, V = W5.alloc (.cells #[.string xl, .int .i64 xc, .string xr] 64) := ⟨_, rfl⟩
    obtain ⟨W6, hW6⟩ : ∃ W, W = V.putObj lr (Rng.busyOf r) := ⟨_, rfl⟩
    rw [← hbx, ← hV, ← hW6]
    have hBV : Below W5.heap.size W5 V := by rw [hV]; exact bal (Below.refl _ _) _
    have hszV : V.heap.size = bx + 1 := by rw [hV, hbx]; simp
    have hsz6 : W6.heap.size = bx + 1 := by rw [hW6, ← hszV]; simp
    have gbx : V.heap[bx]? = some (.cells #[.string xl, .int .i64 xc, .string xr] 64) := by rw [hV, hbx]; exact World.alloc_heap_new _ _
    have hoth : ∀ b, b ≠ lr → W6.heap[b]? = V.heap[b]? := fun b hb => by rw [hW6]; exact World.putObj_heap_other hb
    have hold : ∀ b, b < bx → b ≠ lr → W6.heap[b]? = W5.heap[b]? := fun b hb hl => (hoth b hl).trans (hBV.block b (by rw [← hbx]; exact hb))
    have hbx5 : lr < bx := by rw [hbx]; omega
    have g0 : W6.heap[lr]? = some (Rng.busyOf r) := by rw [hW6]; exact World.putObj_heap_same (by rw [hszV]; omega)
    have g1 : W6.heap[L]? = some (.cells #[.slice A k cap] 38 (0, 0)) := (hold L (by omega) (by omega)).trans Z.out.2.1
    have g2 : W6.heap[e2]? = some (.cells #[.slice none 0 0] 38 (0, 0)) := (hold e2 (by omega) (by omega)).trans Z.out.2.2.1
    have g3 : W6.heap[e3]? = some (.cells #[.int .i64 0] 51 (0, 0)) := (hold e3 (by omega) (by omega)).trans Z.out.2.2.2.1
    have g4 : W6.heap[bx]? = some (.cells #[.string xl, .int .i64 xc, .string xr] 64) := (hoth bx (by omega)).trans gbx
    have bel6 : Below w.heap.size w W6 := by rw [hW6]; exact below_putObj (bgo Z.out.2.2.2.2.2.2.2.2.2 hBV) (by omega) (by omega) _
    have own6 : W6.ownsRow (lr + 1) 64 3 (.slice A k cap) k (rowsV (R.take k)) := by
      have h5 := own_below Z.out.2.2.2.2.2.2.2.1 hBV
      rw [hW6]
      exact ownsRow_putObj_lt h5 _ (Nat.lt_succ_self lr)
    have c1 : W6.cell? ⟨L, 0, none⟩ = some (.slice A k cap) := by rw [Lib.cell_of_heap g1]; rfl
    have hkl : k < R.length := (List.getElem?_eq_some_iff.1 hx).1
    have Hold := Lib.hid hold
    have X := Lib.hid (And.intro g0 (And.intro g1 (And.intro g2 (And.intro g3 (And.intro g4 (And.intro own6 bel6))))))
    have Hx := Lib.hid hx
    have Hbx := Lib.hid hbx
    have Hs6 := Lib.hid hsz6
    by_cases h1024 : k = 1024
    · have hd : ((k : Int) == 1024) = true := by rw [h1024]; rfl
      have x2 : W6.cell? ⟨e2, 0, none⟩ = some (.slice none 0 0) := by rw [Lib.cell_of_heap g2]; rfl
      have x3 : W6.cell? ⟨e3, 0, none⟩ = some (.int .i64 0) := by rw [Lib.cell_of_heap g3]; rfl
      have y2 : W6.frozen? ⟨e2, 0, none⟩ = false := Lib.frozen_of_heap g2 0
      have y3 : W6.frozen? ⟨e3, 0, none⟩ = false := Lib.frozen_of_heap g3 0
      have hne : e2 ≠ e3 := by omega
      clear hW6 hV hbx hold hoth g0 g1 g2 g3 g4 gbx own6 bel6 hx hBV hszV hsz6
      gi_wp2
      have X2 := X.out
      obtain ⟨g0, g1, g2, g3, g4, own6, bel6⟩ := X2
      obtain ⟨W7, hW7⟩ : ∃ W, W = (W6.setCell ⟨e2, 0, none⟩ (.slice none 0 0)).setCell ⟨e3, 0, none⟩ (.int .i64 2) := ⟨_, rfl⟩
      rw [← hW7]
      have hoth7 : ∀ b, b ≠ e2 → b ≠ e3 → W7.heap[b]? = W6.heap[b]? := fun b h1 h2 => by rw [hW7]; exact (Below.heap_setCell _ _ _ _ h2).trans (Below.heap_setCell _ _ _ _ h1)
      have hs7 : W7.heap.size = W6.heap.size := by rw [hW7]; simp [World.setCell]
      have j2 : W7.heap[e2]? = some (.cells #[.slice none 0 0] 38 (0, 0)) := by rw [hW7]; exact (Below.heap_setCell _ _ _ _ (show e2 ≠ e3 by omega)).trans (setCell_heap g2)
      have j3 : W7.heap[e3]? = some (.cells #[.int .i64 2] 51 (0, 0)) := by rw [hW7]; exact setCell_heap ((Below.heap_setCell _ _ _ _ (show e3 ≠ e2 by omega)).trans g3)
      have hpo : ∀ b, b ≠ lr → (W7.putObj lr (Rng.doneOf r .ret)).heap[b]? = W7.heap[b]? := fun b h => World.putObj_heap_other h
      have hl7 : lr < W7.heap.size := by have := Hs6.out; omega
      have bel7 : Below w.heap.size w W7 := by rw [hW7]; exact (bel6.setCell (show w.heap.size ≤ e2 by omega) _).setCell (show w.heap.size ≤ e3 by omega) _
      have h6 := Hs6.out
      refine ⟨(hoth7 lr (by omega) (by omega)).trans g0, .inr ⟨rfl, ⟨World.putObj_heap_same hl7, ?_, ?_, ?_, below_putObj bel7 bel7.size (by omega) _, ?_, ?_, by simp; omega, by omega⟩⟩, ?_, by simp; omega⟩
      · exact (hpo D (by omega)).trans ((hoth7 D (by omega) (by omega)).trans ((Hold.out D (by omega) (by omega)).trans Z.out.2.2.2.2.1))
      · exact (hpo e2 (by omega)).trans j2
      · exact (hpo e3 (by omega)).trans j3
      · exact (hpo Bc (by omega)).trans ((hoth7 Bc (by omega) (by omega)).trans ((Hold.out Bc (by omega) (by omega)).trans Z.out.2.2.2.2.2.1))
      · exact (hpo Bs (by omega)).trans ((hoth7 Bs (by omega) (by omega)).trans ((Hold.out Bs (by omega) (by omega)).trans Z.out.2.2.2.2.2.2.1))
      · intro b hb1 hb2 hb3
        exact (hpo b (by omega)).trans ((hoth7 b (by omega) (by omega)).trans (Hold.out b hb3 (by omega)))
    · have hd : ((k : Int) == 1024) = false := beq_eq_false_iff_ne.2 (by omega)
      obtain ⟨i0, hi0, hz0, hz1, hz2⟩ := info_parts info_row
      obtain ⟨v7, W7, hrun, hown7, hg7, _, hob⟩ := run_append_own_at (P := Tryd.prog) (w := W6.alloc (.cells #[.string xl, .int .i64 xc, .string xr] 64)) (lr + 1) 38 38 64 i0 (.agg #[.string ⟨#[]⟩, .int .i64 0, .string ⟨#[]⟩]) 3 40 Tryd.underlying38 hi0 hz0 hz1 hz2 rfl (by decide) (.slice A k cap) k (rowsV (R.take k)) (own6.alloc _) ⟨W6.heap.size, 0, none⟩ 1 1 [.string xl, .int .i64 xc, .string xr] rfl
        (fun j u hu => World.news_of_block (cs := #[.string xl, .int .i64 xc, .string xr]) (t := 64) (fr := (0, 0)) (World.alloc_heap_new W6 _) j u (by simpa using hu)) (by simp [Value.oneCell']) (by unfold maxLen; omega) (by omega) (by simp; omega)
      obtain ⟨g7, cap7, hv7⟩ := ownsRow_succ hown7
      subst hv7
      have hg7b := hown7.lt g7 rfl
      have hle7 : W6.heap.size + 1 ≤ W7.heap.size := by have := hg7.size; simpa using this
      have far : ∀ b, b < W6.heap.size → some b ≠ (Value.slice A k cap).ownBlock → W7.heap[b]? = W6.heap[b]? := fun b hb hne => (hg7.block b (by simp; omega) hne).trans (Below.heap_alloc _ _ _ hb)
      have hnlow : ∀ b, b ≤ lr → some b ≠ (Value.slice A k cap).ownBlock := fun b hb e => by have := (own6.lt b e.symm).1; omega
      have hlr6 : lr < W6.heap.size := by omega
      have i1 : W7.heap[L]? = some (.cells #[.slice A k cap] 38 (0, 0)) := (far L (by omega) (hnlow L (by omega))).trans g1
      have hc1 : W7.cell? ⟨L, 0, none⟩ = some (.slice A k cap) := by rw [Lib.cell_of_heap i1]; rfl
      have hf1 : W7.frozen? ⟨L, 0, none⟩ = false := Lib.frozen_of_heap i1 0
      have b0 : W6.cell? ⟨bx, 0, none⟩ = some (.string xl) := by rw [Lib.cell_of_heap g4]; rfl
      have b1 : W6.cell? ⟨bx, 1, none⟩ = some (.int .i64 xc) := by rw [Lib.cell_of_heap g4]; rfl
      have b2 : W6.cell? ⟨bx, 2, none⟩ = some (.string xr) := by rw [Lib.cell_of_heap g4]; rfl
      have hrun' : appRes Tryd.prog 38 38 #[.slice A k cap, .slice (some ⟨W6.heap.size, 0, none⟩) 1 1] (W6.alloc (.cells #[.string xl, .int .i64 xc, .string xr] 64)) = .ok (.slice (some ⟨g7, 0, none⟩) (k + 1) cap7) W7 := hrun
      have Y := Lib.hid (And.intro hown7 (And.intro hg7 (And.intro hob (And.intro far (And.intro hnlow i1)))))
      clear hrun hown7 hg7 hob far hnlow i1 hW6 hV hbx hold hoth g0 g1 g2 g3 g4 gbx own6 bel6 hx hBV hszV hsz6 hi0 hz0 hz1 hz2
      gi_wp2
      have X2 := X.out
      obtain ⟨g0, g1, g2, g3, g4, own6, bel6⟩ := X2
      obtain ⟨hown7, hg7, hob, far, hnlow, i1⟩ := Y.out
      obtain ⟨W8, hW8⟩ : ∃ W, W = W7.setCell ⟨L, 0, none⟩ (.slice (some ⟨g7, 0, none⟩) (k + 1) cap7) := ⟨_, rfl⟩
      rw [← hW8]
      have hoth8 : ∀ b, b ≠ L → W8.heap[b]? = W7.heap[b]? := fun b h1 => by rw [hW8]; exact Below.heap_setCell _ _ _ _ h1
      have hs8 : W8.heap.size = W7.heap.size := by rw [hW8]; simp [World.setCell]
      have h6 := Hs6.out
      have jL : W8.heap[L]? = some (.cells #[.slice (some ⟨g7, 0, none⟩) (k + 1) cap7] 38 (0, 0)) := by rw [hW8]; exact setCell_heap i1
      have hlow : ∀ b, b ≤ lr → b ≠ L → W8.heap[b]? = W6.heap[b]? := fun b h1 h2 => (hoth8 b h2).trans (far b (by omega) (hnlow b h1))
      have hpo : ∀ b, b ≠ lr → (W8.putObj lr (Rng.readyOf r)).heap[b]? = W8.heap[b]? := fun b h => World.putObj_heap_other h
      have hl8 : lr < W8.heap.size := by omega
      have hBg : Below w.heap.size w W7 := (bel6.alloc bel6.size _).grown hg7 (by have := bel6.size; simp; omega) (fun b hb => by have := (own6.lt b hb).1; omega)
      have bel8 : Below w.heap.size w W8 := by rw [hW8]; exact hBg.setCell (show w.heap.size ≤ L by omega) _
      have hown8 : W8.ownsRow (lr + 1) 64 3 (.slice (some ⟨g7, 0, none⟩) (k + 1) cap7) (k + 1) (rowsV (R.take k) ++ [.string xl, .int .i64 xc, .string xr]) := by
        have hb7 := (hown7.lt g7 rfl).1
        exact own_same hown7 (hoth8 g7 (by omega))
      have hrows : rowsV (R.take (k + 1)) = rowsV (R.take k) ++ [.string xl, .int .i64 xc, .string xr] := by
        rw [List.take_succ_eq_append_getElem hkl, rowsV_app]
        have := Hx.out
        rw [List.getElem?_eq_getElem hkl] at this
        rw [Option.some.inj this]
        rfl
      have hgg : g7 = g ∨ bx ≤ g7 := by
        rcases hob with h | h
        · exact .inl (Z.out.2.2.2.2.2.2.2.2.1 g7 (h ▸ rfl))
        · right
          have : g7 = W6.heap.size + 1 := by simpa [Value.ownBlock] using h
          omega
      refine ⟨(hlow lr (Nat.le_refl _) (by omega)).trans g0, .inl ⟨rfl, g7, ⟨World.putObj_heap_same hl8, ?_, ⟨_, (hpo L (by omega)).trans jL, by rw [hrows]; exact ownsRow_putObj_lt hown8 _ (Nat.lt_succ_self lr), fun b hb => by simpa [Value.ownBlock] using hb.symm⟩, by omega, by omega, ?_, ?_, below_putObj bel8 bel8.size (by omega) _, ?_, ?_, by simp; omega, by simp; omega⟩, hgg⟩, ?_, by simp; omega⟩
      · exact (hpo D (by omega)).trans ((hlow D (by omega) (by omega)).trans ((Hold.out D (by omega) (by omega)).trans Z.out.2.2.2.2.1))
      · exact (hpo e2 (by omega)).trans ((hlow e2 (by omega) (by omega)).trans g2)
      · exact (hpo e3 (by omega)).trans ((hlow e3 (by omega) (by omega)).trans g3)
      · exact (hpo Bc (by omega)).trans ((hlow Bc (by omega) (by omega)).trans ((Hold.out Bc (by omega) (by omega)).trans Z.out.2.2.2.2.2.1))
      · exact (hpo Bs (by omega)).trans ((hlow Bs (by omega) (by omega)).trans ((Hold.out Bs (by omega) (by omega)).trans Z.out.2.2.2.2.2.2.1))
      · intro b hb1 hb2 hb3
        exact (hpo b (by omega)).trans ((hoth8 b (by omega)).trans ((far b (by omega) (fun e => hb2 (Z.out.2.2.2.2.2.2.2.2.1 b e.symm))).trans (Hold.out b hb3 (by omega))))
  rintro e W9 ⟨⟨v9, rfl⟩, W0, hB9, hend⟩
  clear hJ0
  obtain ⟨o1, o2, o3, o4, o5, o6, o7, o8⟩ := HORD.out
  rcases hend with ⟨g, hJ⟩ | hX
  · obtain ⟨rcd, dfr, ⟨v, hv, hown, hvg⟩, kle, kR, re2, re3, bel, bc, bs, sz, gl⟩ := hJ
    rw [List.take_of_length_le (Nat.le_refl _)] at hown
    obtain ⟨A, cap, hvv, _⟩ := own_slice hown
    subst hvv
    have hs9 := hB9.size
    refine ⟨_, rfl, .inl ⟨(hB9.block lr (by omega)).trans rcd, ?_⟩⟩
    dsimp only
    obtain ⟨WA, hWA⟩ : ∃ W, W = W9.putObj lr (Rng.overOf r none) := ⟨_, rfl⟩
    rw [← hWA]
    have hoth : ∀ b, b < lr → WA.heap[b]? = W0.heap[b]? := fun b hb => by rw [hWA]; exact (World.putObj_heap_other (by omega)).trans (hB9.block b (by omega))
    have hsA : WA.heap.size = W9.heap.size := by rw [hWA]; simp
    have h1 : WA.heap[L]? = some (.cells #[.slice A R.length cap] 38 (0, 0)) := (hoth L (by omega)).trans hv
    have h2 : WA.heap[e2]? = some (.cells #[.slice none 0 0] 38 (0, 0)) := (hoth e2 (by omega)).trans re2
    have h3 : WA.heap[e3]? = some (.cells #[.int .i64 0] 51 (0, 0)) := (hoth e3 (by omega)).trans re3
    have h4 : WA.heap[D]? = some (.deferred (some [])) := (hoth D (by omega)).trans dfr
    have belA : Below w.heap.size w WA := by rw [hWA]; exact below_putObj (bgo bel hB9) (by omega) (by omega) _
    have ownA : WA.ownsRow (lr + 1) 64 3 (.slice A R.length cap) R.length (rowsV R) := by rw [hWA]; exact ownsRow_putObj_lt (own_below hown hB9) _ (Nat.lt_succ_self lr)
    have c1 : WA.cell? ⟨L, 0, none⟩ = some (.slice A R.length cap) := by rw [Lib.cell_of_heap h1]; rfl
    have c2 : WA.cell? ⟨e2, 0, none⟩ = some (.slice none 0 0) := by rw [Lib.cell_of_heap h2]; rfl
    have c3 : WA.cell? ⟨e3, 0, none⟩ = some (.int .i64 0) := by rw [Lib.cell_of_heap h3]; rfl
    have f2 : WA.frozen? ⟨e2, 0, none⟩ = false := Lib.frozen_of_heap h2 0
    have f3 : WA.frozen? ⟨e3, 0, none⟩ = false := Lib.frozen_of_heap h3 0
    have hne : e2 ≠ e3 := by omega
    have X := Lib.hid (And.intro h2 (And.intro h3 (And.intro h4 (And.intro belA (And.intro ownA (And.intro kle hsA))))))
    clear hWA hoth hsA h1 h2 h3 h4 belA ownA rcd dfr hv hown hvg re2 re3 bel bc bs sz gl kR hra hrb hrt hrp hs9
    gi_wp2
    go_wp2
    obtain ⟨h2, h3, h4, belA, ownA, kle, hsA⟩ := X.out
    obtain ⟨WB, hWB⟩ : ∃ W, W = (WA.setCell ⟨e2, 0, none⟩ (.slice A R.length cap)).setCell ⟨e3, 0, none⟩ (.int .i64 0) := ⟨_, rfl⟩
    rw [← hWB]
    have hothB : ∀ b, b ≠ e2 → b ≠ e3 → WB.heap[b]? = WA.heap[b]? := fun b h1 h2 => by rw [hWB]; exact (Below.heap_setCell _ _ _ _ h2).trans (Below.heap_setCell _ _ _ _ h1)
    have j2 : WB.heap[e2]? = some (.cells #[.slice A R.length cap] 38 (0, 0)) := by rw [hWB]; exact (Below.heap_setCell _ _ _ _ (show e2 ≠ e3 by omega)).trans (setCell_heap h2)
    have j3 : WB.heap[e3]? = some (.cells #[.int .i64 0] 51 (0, 0)) := by rw [hWB]; exact setCell_heap ((Below.heap_setCell _ _ _ _ (show e3 ≠ e2 by omega)).trans h3)
    have j4 : WB.heap[w3.heap.size]? = some (.deferred (some [])) := by rw [← HDD.out]; exact (hothB D (by omega) (by omega)).trans h4
    have belB : Below w.heap.size w WB := by rw [hWB]; exact (belA.setCell (show w.heap.size ≤ e2 by omega) _).setCell (show w.heap.size ≤ e3 by omega) _
    have ownB : WB.ownsRow (lr + 1) 64 3 (.slice A R.length cap) R.length (rowsV R) := ownsRow_keep ownA (fun b hb => hothB b (by omega) (by omega))
    have k2 : WB.cell? ⟨e2, 0, none⟩ = some (.slice A R.length cap) := by rw [Lib.cell_of_heap j2]; rfl
    have k3 : WB.cell? ⟨e3, 0, none⟩ = some (.int .i64 0) := by rw [Lib.cell_of_heap j3]; rfl
    refine ⟨by simp, .inl ⟨_, _, rfl, run_takeDeferred j4, ?_⟩⟩
    obtain ⟨WC, hWC⟩ : ∃ W, W = WB.putObj w3.heap.size (.deferred none) := ⟨_, rfl⟩
    rw [← hWC]
    refine ⟨.tuple #[.slice A R.length cap, .int .i64 0], ?_, ?_⟩
    · have hd := HDD.out
      have m2 : WC.cell? ⟨e2, 0, none⟩ = some (.slice A R.length cap) := by rw [hWC, World.cell?_of_block (World.putObj_heap_other (show e2 ≠ w3.heap.size by omega))]; exact k2
      have m3 : WC.cell? ⟨e3, 0, none⟩ = some (.int .i64 0) := by rw [hWC, World.cell?_of_block (World.putObj_heap_other (show e3 ≠ w3.heap.size by omega))]; exact k3
      simp [results, Tryd.results8, go_sem, m2, m3]
    · have hd := HDD.out
      rw [hWC]
      exact ⟨_, rfl, ownsRow_base (ownsRow_putObj_lt ownB _ (show w3.heap.size < lr + 1 by omega)) (by omega), below_putObj belB belB.size (by omega) _⟩
  · obtain ⟨rcd, dfr, re2, re3, bel, bc, bs, sz, big⟩ := hX
    have hs9 := hB9.size
    refine ⟨_, rfl, .inr ⟨.ret, (hB9.block lr (by omega)).trans rcd, ?_⟩⟩
    obtain ⟨WA, hWA⟩ : ∃ W, W = W9.putObj lr (Rng.overOf r (some .ret)) := ⟨_, rfl⟩
    rw [← hWA]
    have hoth : ∀ b, b < lr → WA.heap[b]? = W0.heap[b]? := fun b hb => by rw [hWA]; exact (World.putObj_heap_other (by omega)).trans (hB9.block b (by omega))
    have h2 : WA.heap[e2]? = some (.cells #[.slice none 0 0] 38 (0, 0)) := (hoth e2 (by omega)).trans re2
    have h3 : WA.heap[e3]? = some (.cells #[.int .i64 2] 51 (0, 0)) := (hoth e3 (by omega)).trans re3
    have j4 : WA.heap[w3.heap.size]? = some (.deferred (some [])) := by rw [← HDD.out]; exact (hoth D (by omega)).trans dfr
    have belA : Below w.heap.size w WA := by rw [hWA]; exact below_putObj (bgo bel hB9) (by omega) (by omega) _
    have k2 : WA.cell? ⟨e2, 0, none⟩ = some (.slice none 0 0) := by rw [Lib.cell_of_heap h2]; rfl
    have k3 : WA.cell? ⟨e3, 0, none⟩ = some (.int .i64 2) := by rw [Lib.cell_of_heap h3]; rfl
    have nbig : ¬ R.length ≤ 1024 := by omega
    have X := Lib.hid (And.intro j4 (And.intro belA (And.intro k2 k3)))
    clear hWA hoth h2 h3 j4 belA k2 k3 rcd dfr re2 re3 bel bc bs sz big hra hrb hrt hrp hs9
    gi_wp2
    go_wp2
    obtain ⟨j4, belA, k2, k3⟩ := X.out
    refine ⟨by simp, .inl ⟨_, _, rfl, run_takeDeferred j4, ?_⟩⟩
    obtain ⟨WC, hWC⟩ : ∃ W, W = WA.putObj w3.heap.size (.deferred none) := ⟨_, rfl⟩
    rw [← hWC]
    have hd := HDD.out
    refine ⟨.tuple #[.slice none 0 0, .int .i64 2], ?_, ?_⟩
    · have m2 : WC.cell? ⟨e2, 0, none⟩ = some (.slice none 0 0) := by rw [hWC, World.cell?_of_block (World.putObj_heap_other (show e2 ≠ w3.heap.size by omega))]; exact k2
      have m3 : WC.cell? ⟨e3, 0, none⟩ = some (.int .i64 2) := by rw [hWC, World.cell?_of_block (World.putObj_heap_other (show e3 ≠ w3.heap.size by omega))]; exact k3
      simp [results, Tryd.results8, go_sem, m2, m3]
    · rw [hWC]
      exact ⟨_, rfl, ⟨rfl, .inl ⟨rfl, rfl⟩⟩, below_putObj belA belA.size (by omega) _⟩
theorem Rows_any (c : CaseM) (s : SlipM) (w : World) (hc : CaseOk w c) (hs : SlipOk w s) (hT : CaT.Tabs w) :
    Calls Tryd.prog 8 #[caseV c, slipV s] w fun e w' => ∃ v, e = .returned (.tuple #[v, .int .i64 (rowsE (fitsB c s) (rowsL c s).length)]) ∧ w'.ownsRow w.heap.size 64 3 v (rowsR c s).length (rowsV (rowsR c s)) ∧ Below w.heap.size w w' := by
  cases hf : fitsB c s with
  | false =>
    have e : rowsR c s = [] := by unfold rowsR; rw [if_neg (fun h => by rw [hf] at h; exact absurd h.1 (by decide))]
    rw [e]
    refine (Rows_no c s (Lib.hid hf) w hc hs hT).mono ?_
    rintro e w' ⟨rfl, hB⟩
    exact ⟨_, rfl, ⟨rfl, .inl ⟨rfl, rfl⟩⟩, hB⟩
  | true =>
    have e : rowsR c s = if (rowsL c s).length ≤ 1024 then rowsL c s else [] := by
      unfold rowsR
      by_cases h : (rowsL c s).length ≤ 1024
      · rw [if_pos ⟨hf, h⟩, if_pos h]
      · rw [if_neg (fun k => h k.2), if_neg h]
    rw [e]
    exact Rows_yes c s (Lib.hid hf) w hc hs hT
end Go.Proofs.YtfjkmhbipkoefaaDoor
