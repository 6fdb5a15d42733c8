/- The walks of package merkle, fourth part: Path. -/
import Derived.Test.YtpmakhfpdidleaaDoorQ03
import Derived.BigRegionIn
namespace Go.Proofs.YtpmakhfpdidleaaDoor
open Go.RowKit Go.Shelf
set_option linter.unusedVariables false
attribute [local go_sem] Oper.semAt_some
/-- The run of an append, folded, so that a fact on it can be laid ahead of a region. -/
def appRes (P : Program) (t ty : TypeId) (args : Array Value) (w : World) : Result Value := (Builtin.append_ #[t, t] ty args).run P w
theorem append_fold {P : Program} {ro : Option Nat} {ρ : Operand → Value} {d : Option Tmp} {s x : Operand} {t ty : TypeId} {p : String} {af : Array Edge} {gd : Option (Nat × Bool)} {w : World} :
    Sem.run P (Oper.semAt ro ρ { dst := d, op := Op.call { callee := Callee.builtin Builtin.append, args := #[s, x], argTypes := #[t, t] }, type := ty, pos := p, after := af, guard := gd }) w = (appRes P t ty #[ρ s, ρ x] w).andThen (fun v w' => .ok (.value v) w') := by
  rw [Oper.semAt_eq ro ρ _ (fun c h => by cases h)]
  unfold execOp appRes
  simp only [resolve, invoke, builtin, Sem.run_bind, Sem.run_pure, Result.andThen_ok, List.map_toArray, List.map_cons, List.map_nil]
theorem append_fold2 {P : Program} {ρ : Operand → Value} {d : Option Tmp} {s x : Operand} {t ty : TypeId} {p : String} {af : Array Edge} {gd : Option (Nat × Bool)} {w : World} :
    Sem.run P (execOp ρ { dst := d, op := Op.call { callee := Callee.builtin Builtin.append, args := #[s, x], argTypes := #[t, t] }, type := ty, pos := p, after := af, guard := gd }) w = (appRes P t ty #[ρ s, ρ x] w).andThen (fun v w' => .ok (.value v) w') := by
  unfold execOp appRes
  simp only [resolve, invoke, builtin, Sem.run_bind, Sem.run_pure, Result.andThen_ok, List.map_toArray, List.map_cons, List.map_nil]
theorem app_step {n : Nat} {P : Program} {o : Oper} {d : Option Tmp} {s x : Operand} {t ty : TypeId} {ops : Array Oper} {a a' : Act} {w W5 : World} {K : Act → World → Prop} {Q : Exit → Act → World → Prop} {v : Value}
    (hop : o.op = Op.call { callee := Callee.builtin Builtin.append, args := #[s, x], argTypes := #[t, t] }) (hg : o.guard = none) (hd : o.dst = d) (hty : o.type = ty)
    (h : appRes P t ty #[a.eval s, a.eval x] w = .ok v W5) (ha : a.put d v = a') (hk : K a' W5) :
    if Region.wanted o (yielded ops a.tmps) = true then Oper.wpIn Fence.wide n P o a w K Q else (∀ f, o.about P w a.eval = some f → Fence.wide.fn f) ∧ K (a.put o.dst undef) w := by
  obtain ⟨d', op', ty', p', af', g'⟩ := o
  cases hop; cases hg; cases hd; cases hty
  rw [if_pos (by simp [Region.wanted])]
  refine ⟨fun f _ => trivial, ?_⟩
  rw [append_fold, h]
  subst ha
  exact hk
attribute [local go_sem ↓] append_fold append_fold2
def forkV (l : List (UInt64 × Bool)) : List Value := l.flatMap fun p => [.int .u64 p.1.toNat, .bool p.2]
theorem forkV_len (l : List (UInt64 × Bool)) : (forkV l).length = l.length * 2 := by
  induction l with
  | nil => rfl
  | cons a l ih => simp [forkV] at ih ⊢; omega
theorem forkV_snoc (l : List (UInt64 × Bool)) (x : UInt64) (b : Bool) : forkV (l ++ [(x, b)]) = forkV l ++ [.int .u64 x.toNat, .bool b] := by simp [forkV]
theorem info_fork : (Tryd.prog.info? 41).map (fun i => (i.zero, i.size, i.bytes)) = some (some (.agg #[.int .u64 0, .bool false]), 2, 16) := by kernel_rfl
def pathV (ss : List ByteArray) (i : Nat) : List (UInt64 × Bool) := Mk.pathF 10 (leavesD ss) i
theorem rows_bound (l : List UInt64) (hl : l.length ≤ 1024) (k : Nat) (h : ∀ j, j < k → 1 < (Mk.rowN l j).length) : k ≤ 10 := by
  rcases Nat.lt_or_ge 10 k with h1 | h1
  · have h10 := h 10 h1
    have := Mk.rowN_len l 10 (by omega) 10 (Nat.le_refl _)
    simp at this; omega
  · exact h1
theorem pathTo_len (l : List UInt64) (i k : Nat) : (Mk.pathTo l i k).length ≤ k := by
  induction k with
  | zero => exact Nat.le_refl _
  | succ k ih =>
    have : (Mk.stepOf (Mk.rowN l k) (i / 2 ^ k)).length ≤ 1 := by
      unfold Mk.stepOf
      split
      · exact Nat.le_refl _
      · split
        · exact Nat.le_refl _
        · exact Nat.zero_le _
    rw [Mk.pathTo, List.length_append]
    omega
def PathJ (w : World) (l : Nat) (r : Loop) (R : List UInt64) (i : Nat) (k : Nat) (W : World) : Prop :=
  W.heap[l]? = some (Rng.readyOf r) ∧ W.heap[w.heap.size + 3]? = some (.deferred (some [])) ∧ W.cell? ⟨w.heap.size, 0, none⟩ = some (.int .i64 ((i / 2 ^ k : Nat) : Int)) ∧ W.frozen? ⟨w.heap.size, 0, none⟩ = false ∧
  (∃ v, W.cell? ⟨w.heap.size + 1, 0, none⟩ = some v ∧ W.ownsRow (w.heap.size + 2) 41 2 v (Mk.pathTo R i k).length (forkV (Mk.pathTo R i k))) ∧ W.frozen? ⟨w.heap.size + 1, 0, none⟩ = false ∧ Below w.heap.size w W ∧ w.heap.size + 5 ≤ W.heap.size
set_option maxRecDepth 100000 in
set_option maxHeartbeats 4000000 in
theorem path_ok (A : Option Addr) (c : Nat) (ss : List ByteArray) (i : Nat) (w : World) (hA : Sl w w.heap.size 1 A ss.length (strV ss)) (hs : ∀ s ∈ ss, s.size ≤ 140737488355328) (hl : ss.length ≤ maxLen) (hok : checkE ss.length = 0) (hi : i < ss.length) :
    Calls Tryd.prog 46 #[.slice A ss.length c, .int .i64 (i : Int)] w fun e w' => ∃ v, e = .returned (.tuple #[v, .int .i64 0]) ∧ w'.ownsRow (w.heap.size + 2) 41 2 v (pathV ss i).length (forkV (pathV ss i)) ∧ Below w.heap.size w w' := by
  have h1 : 1 ≤ ss.length ∧ ss.length ≤ 1024 := by
    unfold checkE at hok
    split at hok
    · cases hok
    · split at hok
      · cases hok
      · omega
  obtain ⟨i0, hj0, hz0, hz1, hz2⟩ := info_parts info_fork
  have Hok := Lib.hid hok
  have Hs := Lib.hid hs
  have HA := Lib.hid hA
  clear hs hA
  have hi1 : ¬ ((i : Int) < 0) := by omega
  have hi2 : ¬ ((ss.length : Int) ≤ (i : Int)) := by omega
  refine (callsIn_wide (n := 4)).1 ?_
  refine callsIn_of_wp_marks Tryd.func46 rfl trivial ?_ rfl
  simp only [Tryd.ntmps46, List.size_toArray, List.length_cons, List.length_nil, Nat.reduceAdd, Nat.reduceSub, Array.replicate_succ, Array.replicate_zero, List.push_toArray, List.append_toArray, List.nil_append, List.cons_append]
  refine wpIn_wide.2 ?_
  go_wp2_with fail
  refine (check_any _ _ _ _ hl).mono ?_
  rintro e w' ⟨rfl, rfl⟩
  go_wp2_with fail
  refine (rows_any _ _ _ _).mono ?_
  rintro e w' ⟨rfl, rfl⟩
  go_wp2_with fail
  obtain ⟨w1, hw1⟩ : ∃ w1, w1 = ((w.alloc (.cells #[.int .i64 i] 3)).alloc (.cells #[.slice none 0 0] 34)).alloc (.cells #[.slice A ss.length c] 53) := ⟨_, rfl⟩
  rw [← hw1]
  have hsz : w1.heap.size = w.heap.size + 3 := by rw [hw1]; simp
  have hB1 : Below w.heap.size w w1 := by rw [hw1]; exact (((Below.refl _ _).alloc (Nat.le_refl _) _).alloc (by simp) _).alloc (by simp; omega) _
  have hc0 : w1.cell? ⟨w.heap.size, 0, none⟩ = some (.int .i64 i) := by rw [hw1]; simp [go_sem]
  have hf0 : w1.frozen? ⟨w.heap.size, 0, none⟩ = false := by rw [hw1]; simp [go_sem]
  have hc1 : w1.cell? ⟨w.heap.size + 1, 0, none⟩ = some (.slice none 0 0) := by rw [hw1]; simp [go_sem]
  have hf1 : w1.frozen? ⟨w.heap.size + 1, 0, none⟩ = false := by rw [hw1]; simp [go_sem]
  have hcl : w1.cell? ⟨w.heap.size + 1 + 1, 0, none⟩ = some (.slice A ss.length c) := by rw [hw1]; simp [go_sem]
  clear hw1
  have Hsz := Lib.hid hsz
  refine (wpIn_wide (n := 3)).1 ?_
  refine Rng.range_any rfl (by omega) (gf := 84) (lb := #[.pointer (some ⟨w.heap.size + 1 + 1, 0, none⟩)]) rfl trivial (enters_of Tryd.func84 (by kernel_rfl) rfl) ?_
  intro r hfn hra hrb hrt hrp
  refine callsIn_wide.2 ?_
  obtain ⟨W2, hW2⟩ : ∃ W2, W2 = (w1.alloc (.deferred (some []))).alloc (Rng.readyOf r) := ⟨_, rfl⟩
  rw [← hW2]
  have hS2 : W2.heap.size = w.heap.size + 5 := by rw [hW2]; simp [hsz]
  have hB2 : Below w1.heap.size w1 W2 := by rw [hW2]; exact ((Below.refl _ _).alloc (Nat.le_refl _) _).alloc (by simp) _
  have hl2 : W2.heap[w1.heap.size + 1]? = some (Rng.readyOf r) := by rw [hW2]; have := World.alloc_heap_new (w1.alloc (.deferred (some []))) (Rng.readyOf r); rwa [World.size_alloc] at this
  have hd2 : W2.heap[w.heap.size + 3]? = some (.deferred (some [])) := by rw [hW2, ← hsz]; exact (Below.heap_alloc _ _ _ (by simp)).trans (World.alloc_heap_new w1 _)
  clear hW2
  show Calls Tryd.prog 84 #[.func (.yield (w1.heap.size + 1)) #[] #[], .pointer (some ⟨w.heap.size + 1 + 1, 0, none⟩)] W2 _
  refine (rows1_any (w1.heap.size + 1) 1 (w.heap.size + 1 + 1) A c ss W2 (PathJ w (w1.heap.size + 1) r (leavesD ss) i) ?hA ?hBn Hs.out h1.1 h1.2 ?hJ ?hY).mono ?_
  case hA => exact ((HA.out.below hB1).mono hB1.size).below hB2 |>.mono hB2.size
  case hBn => exact (hB2.cell (p := ⟨w.heap.size + 1 + 1, 0, none⟩) (by rw [hsz]; simp)).trans hcl
  case hJ => exact ⟨hl2, hd2, (hB2.cell (p := ⟨w.heap.size, 0, none⟩) (by rw [hsz]; simp)).trans (by rw [hc0]; simp), (hB2.frozen (p := ⟨w.heap.size, 0, none⟩) (by rw [hsz]; simp)).trans hf0, ⟨_, (hB2.cell (p := ⟨w.heap.size + 1, 0, none⟩) (by rw [hsz]; simp)).trans hc1, rfl, .inl ⟨rfl, rfl⟩⟩, (hB2.frozen (p := ⟨w.heap.size + 1, 0, none⟩) (by rw [hsz]; simp)).trans hf1, hB1.trans (hB2.mono hB1.size), by omega⟩
  case hY =>
    intro k W0 W3 v hJ hB hown hj hr1
    obtain ⟨hl0, hd0, hi0, hfi0, ⟨pv, hp0, hpo⟩, hfp0, hBw, hsz0⟩ := hJ
    have hl3 : W3.heap[w1.heap.size + 1]? = some (Rng.readyOf r) := (hB.block _ (by omega)).trans hl0
    have hqlt := Mk.rowN_lt (leavesD ss) i (by simp only [leavesD, List.length_map]; exact hi) k
    obtain ⟨R, hR⟩ : ∃ R, R = Mk.rowN (leavesD ss) k := ⟨_, rfl⟩
    obtain ⟨q, hq⟩ : ∃ q, q = i / 2 ^ k := ⟨_, rfl⟩
    have hqb : q ≤ 1024 := by rw [hq]; exact Nat.le_trans (Nat.div_le_self _ _) (by omega)
    rw [← hR] at hown hr1 hqlt
    rw [← hq] at hqlt hi0
    rw [← hR]
    obtain ⟨g, cap, hv⟩ : ∃ g cap, v = .slice (some ⟨g, 0, none⟩) R.length cap := by
      obtain ⟨n', hn'⟩ : ∃ n', R.length = n' + 1 := ⟨R.length - 1, by omega⟩
      rw [hn'] at hown ⊢
      exact ownsRow_succ hown
    subst hv
    have hgb := hown.lt g rfl
    refine Rng.yield_at hl3 hra hrb (by rw [hrt, hrp]) (by rw [hrp]; rfl) hfn ?_
    have hs3 := hB.size
    have hg2 : g ≠ w1.heap.size + 1 := by omega
    obtain ⟨W4, hW4⟩ : ∃ W4, W4 = W3.putObj (w1.heap.size + 1) (Rng.busyOf r) := ⟨_, rfl⟩
    have h43 : ∀ j, j ≠ w1.heap.size + 1 → W4.heap[j]? = W3.heap[j]? := fun j hj => by rw [hW4]; exact World.putObj_heap_other hj
    have hs4 : W4.heap.size = W3.heap.size := by rw [hW4]; simp
    have hrow : ∀ j, j < R.length → W4.cell? ⟨g, j, none⟩ = some (.int .u64 (R.getD j 0).toNat) := fun j hj => (World.cell?_of_block (h43 g hg2)).trans ((hown.cellAt j (by omega)).trans (u64V_get R j hj))
    have hi4 : W4.cell? ⟨w.heap.size, 0, none⟩ = some (.int .i64 (q : Int)) := (World.cell?_of_block (h43 w.heap.size (by omega))).trans ((hB.cell (p := ⟨w.heap.size, 0, none⟩) (by simp; omega)).trans hi0)
    have hfi4 : W4.frozen? ⟨w.heap.size, 0, none⟩ = false := (World.frozen?_of_block (h43 w.heap.size (by omega))).trans ((hB.frozen (p := ⟨w.heap.size, 0, none⟩) (by simp; omega)).trans hfi0)
    have hp4 : W4.cell? ⟨w.heap.size + 1, 0, none⟩ = some pv := (World.cell?_of_block (h43 (w.heap.size + 1) (by omega))).trans ((hB.cell (p := ⟨w.heap.size + 1, 0, none⟩) (by simp; omega)).trans hp0)
    have hfp4 : W4.frozen? ⟨w.heap.size + 1, 0, none⟩ = false := (World.frozen?_of_block (h43 (w.heap.size + 1) (by omega))).trans ((hB.frozen (p := ⟨w.heap.size + 1, 0, none⟩) (by simp; omega)).trans hfp0)
    have hpo3 := own_below hpo hB
    have hpo4 : W4.ownsRow (w.heap.size + 2) 41 2 pv (Mk.pathTo (leavesD ss) i k).length (forkV (Mk.pathTo (leavesD ss) i k)) := by
      rw [hW4]
      exact ownsRow_putObj hpo3 _ hl3 rfl
    have hl4 : W4.heap[w1.heap.size + 1]? = some (Rng.busyOf r) := by rw [hW4]; exact World.putObj_heap_same (by omega)
    have Hl3 := Lib.hid hl3
    have HR := Lib.hid hR
    have Hq := Lib.hid hq
    clear hl3 hl0 hl2 hd2 hc0 hc1 hcl hra hrb hrt hrp hi0 hp0 hR hq
    gi_wp2
    refine ⟨Hl3.out, ?_⟩
    rw [← hW4]
    have hne1 : pv.ownBlock ≠ some w.heap.size := fun e => by have := (hpo.lt _ e).1; omega
    have hne2 : pv.ownBlock ≠ some (w.heap.size + 1) := fun e => by have := (hpo.lt _ e).1; omega
    have hne3 : pv.ownBlock ≠ some g := fun e => by have := (hpo.lt _ e).2; omega
    have hnel : pv.ownBlock ≠ some (w1.heap.size + 1) := fun e => by
      rcases hpo4.2 with ⟨h, _⟩ | ⟨g', cap', cur, h, _, hh, _⟩
      · rw [h] at e; cases e
      · rw [h] at e
        have : g' = w1.heap.size + 1 := by simpa [Value.ownBlock] using e
        rw [this, hl4] at hh
        cases hh
    have hned : pv.ownBlock ≠ some (w.heap.size + 3) := fun e => by
      rcases hpo.2 with ⟨h, _⟩ | ⟨g', cap', cur, h, _, hh, _⟩
      · rw [h] at e; cases e
      · rw [h] at e
        have : g' = w.heap.size + 3 := by simpa [Value.ownBlock] using e
        rw [this, hd0] at hh
        cases hh
    have hd4 : W4.heap[w.heap.size + 3]? = some (.deferred (some [])) := (h43 _ (by omega)).trans ((hB.block _ (by omega)).trans hd0)
    have hB4 : Below w.heap.size w W4 := by rw [hW4]; exact below_putObj (hBw.trans (hB.mono hBw.size)) (by omega) (by omega) _
    have fin : ∀ (a : Act) (W' : World) (pv' : Value), W'.cell? ⟨w.heap.size, 0, none⟩ = some (.int .i64 ((q / 2 : Nat) : Int)) → W'.frozen? ⟨w.heap.size, 0, none⟩ = false → W'.cell? ⟨w.heap.size + 1, 0, none⟩ = some pv' → W'.frozen? ⟨w.heap.size + 1, 0, none⟩ = false →
        W'.ownsRow (w.heap.size + 2) 41 2 pv' (Mk.pathTo (leavesD ss) i k ++ Mk.stepOf R q).length (forkV (Mk.pathTo (leavesD ss) i k ++ Mk.stepOf R q)) → Below w.heap.size w W' → W4.heap.size ≤ W'.heap.size →
        (∀ j, j < W4.heap.size → j ≠ w.heap.size → j ≠ w.heap.size + 1 → some j ≠ pv.ownBlock → W'.heap[j]? = W4.heap[j]?) →
        Rng.roundEnd (w1.heap.size + 1) r (fun e W' => e = .returned (.bool true) ∧ PathJ w (w1.heap.size + 1) r (leavesD ss) i (k + 1) W' ∧ W'.ownsRow W0.heap.size 29 1 (.slice (some ⟨g, 0, none⟩) R.length cap) R.length (u64V R) ∧ W3.heap.size ≤ W'.heap.size) .normal a W' := by
      intro a W' pv' f1 f2 f3 f4 f5 f6 f7 f8
      have hW'l : w1.heap.size + 1 < W'.heap.size := by omega
      have hpt : Mk.pathTo (leavesD ss) i (k + 1) = Mk.pathTo (leavesD ss) i k ++ Mk.stepOf R q := by rw [Mk.pathTo, ← HR.out, ← Hq.out]
      refine ⟨(f8 _ (by omega) (by omega) (by omega) (Ne.symm hnel)).trans hl4, rfl, ⟨World.putObj_heap_same hW'l, ?_, ?_, ?_, ⟨pv', ?_, ?_⟩, ?_, below_putObj f6 f6.size (by omega) _, by simp; omega⟩, ?_, by simp; omega⟩
      · exact (World.putObj_heap_other (by omega)).trans ((f8 _ (by omega) (by omega) (by omega) (Ne.symm hned)).trans hd4)
      · rw [World.cell?_of_block (World.putObj_heap_other (by simp; omega)), f1, Nat.pow_succ, ← Nat.div_div_eq_div_mul, ← Hq.out]
      · rw [World.frozen?_of_block (World.putObj_heap_other (by simp; omega)), f2]
      · rw [World.cell?_of_block (World.putObj_heap_other (by simp; omega)), f3]
      · rw [hpt]
        exact ownsRow_putObj f5 _ ((f8 _ (by omega) (by omega) (by omega) (Ne.symm hnel)).trans hl4) rfl
      · rw [World.frozen?_of_block (World.putObj_heap_other (by simp; omega)), f4]
      · exact own_same hown ((World.putObj_heap_other hg2).trans ((f8 g (by omega) (by omega) (by omega) (Ne.symm hne3)).trans (h43 g hg2)))
    have Hfin := Lib.hid fin
    clear fin
    have HB := Lib.hid h43
    have Hd4 := Lib.hid hd4
    have Hl4 := Lib.hid hl4
    have HW4 := Lib.hid hW4
    have Hrow := Lib.hid hrow
    have Hpo4 := Lib.hid hpo4
    clear h43 hd4 hl4 hW4 hrow hpo4 hpo3 hown hpo hsz hS2 hs4
    have hi0q : (0 : Int) ≤ (q : Int) := Int.natCast_nonneg _
    have hgw : g < W4.heap.size := by have := HW4.out; rw [this]; simp; omega
    have hsw : w.heap.size + 5 ≤ W4.heap.size := by have := HW4.out; rw [this]; simp; omega
    have hplen : (Mk.pathTo (leavesD ss) i k).length ≤ 1024 := Nat.le_trans (pathTo_len _ _ _) (Nat.le_trans (rows_bound _ (by simp only [leavesD, List.length_map]; exact h1.2) k hj) (by omega))
    have app : ∀ (x : UInt64) (b : Bool), Mk.stepOf R q = [(x, b)] → ∃ g5 cap5 W5, appRes Tryd.prog 34 34 #[pv, .slice (some ⟨W4.heap.size, 0, none⟩) 1 1] (W4.alloc (.cells #[.int .u64 x.toNat, .bool b] 41)).drew = .ok (.slice (some ⟨g5, 0, none⟩) ((Mk.pathTo (leavesD ss) i k).length + 1) cap5) W5 ∧
        (W4.alloc (.cells #[.int .u64 x.toNat, .bool b] 41)).cell? ⟨w.heap.size + 1, 0, none⟩ = some pv ∧ W5.cell? ⟨w.heap.size, 0, none⟩ = some (.int .i64 (q : Int)) ∧ W5.frozen? ⟨w.heap.size, 0, none⟩ = false ∧ W5.cell? ⟨w.heap.size + 1, 0, none⟩ = some pv ∧ W5.frozen? ⟨w.heap.size + 1, 0, none⟩ = false ∧
        ∀ a : Act, Rng.roundEnd (w1.heap.size + 1) r (fun e W' => e = .returned (.bool true) ∧ PathJ w (w1.heap.size + 1) r (leavesD ss) i (k + 1) W' ∧ W'.ownsRow W0.heap.size 29 1 (.slice (some ⟨g, 0, none⟩) R.length cap) R.length (u64V R) ∧ W3.heap.size ≤ W'.heap.size) .normal a ((W5.setCell ⟨w.heap.size + 1, 0, none⟩ (.slice (some ⟨g5, 0, none⟩) ((Mk.pathTo (leavesD ss) i k).length + 1) cap5)).setCell ⟨w.heap.size, 0, none⟩ (.int .i64 ((q : Int) / 2))) := by
      intro x b hst
      obtain ⟨pv', W5, hrun, hown5, hg5, _, _⟩ := run_append_own_at (P := Tryd.prog) (W4.alloc (.cells #[.int .u64 x.toNat, .bool b] 41)).drew (w.heap.size + 2) 34 34 41 i0 (.agg #[.int .u64 0, .bool false]) 2 16 Tryd.underlying34 hj0 hz0 hz1 hz2 rfl (by decide) pv _ _ (Hpo4.out.alloc _) ⟨W4.heap.size, 0, none⟩ 1 1 [.int .u64 x.toNat, .bool b] rfl (World.news_of_block (cs := #[.int .u64 x.toNat, .bool b]) (t := 41) (fr := (0, 0)) (heap_alloc_new W4 _)) (by simp [Value.oneCell']) (by unfold maxLen; omega) (by omega) (by have := HW4.out; rw [this]; simp; omega)
      obtain ⟨g5, cap5, hv5⟩ := ownsRow_succ hown5
      subst hv5
      have far : ∀ j, j < W4.heap.size → some j ≠ pv.ownBlock → W5.heap[j]? = W4.heap[j]? := fun j hj hne => (hg5.block j (by simp; omega) hne).trans (Below.heap_alloc _ _ _ hj)
      have hi5 : W5.cell? ⟨w.heap.size, 0, none⟩ = some (.int .i64 (q : Int)) := (World.cell?_of_block (far w.heap.size (by omega) (Ne.symm hne1))).trans hi4
      have hfi5 : W5.frozen? ⟨w.heap.size, 0, none⟩ = false := (World.frozen?_of_block (far w.heap.size (by omega) (Ne.symm hne1))).trans hfi4
      have hp5 : W5.cell? ⟨w.heap.size + 1, 0, none⟩ = some pv := (World.cell?_of_block (far (w.heap.size + 1) (by omega) (Ne.symm hne2))).trans hp4
      have hfp5 : W5.frozen? ⟨w.heap.size + 1, 0, none⟩ = false := (World.frozen?_of_block (far (w.heap.size + 1) (by omega) (Ne.symm hne2))).trans hfp4
      refine ⟨g5, cap5, W5, hrun, (World.cell?_of_block (Below.heap_alloc _ _ _ (by simp; omega))).trans hp4, hi5, hfi5, hp5, hfp5, ?_⟩
      intro a
      have hdv : (q : Int) / 2 = ((q / 2 : Nat) : Int) := by omega
      rw [hdv]
      have hg5b := (hown5.lt g5 rfl).1
      have hB5 : Below w.heap.size w W5 := ((hB4.alloc hB4.size _).drew).grown (w := (W4.alloc (.cells #[.int .u64 x.toNat, .bool b] 41)).drew) hg5 (by simp; omega) (fun k' hk' => by have := (Hpo4.out.lt k' hk').1; omega)
      have hs5 : W4.heap.size ≤ W5.heap.size := by have := hg5.size; simp at this; omega
      refine Hfin.out _ _ (.slice (some ⟨g5, 0, none⟩) ((Mk.pathTo (leavesD ss) i k).length + 1) cap5) (World.cell?_setCell_same' _ _ _ ?_) (by rw [World.frozen?_setCell, World.frozen?_setCell]; exact hfi5) ?_ (by rw [World.frozen?_setCell, World.frozen?_setCell]; exact hfp5) ?_ ?_ ?_ ?_
      · rw [World.cell?_setCell_other _ _ _ _ (by simp), hi5]; rfl
      · rw [World.cell?_setCell_other _ _ _ _ (by simp)]; exact World.cell?_setCell_same' _ _ _ (by rw [hp5]; rfl)
      · rw [hst, forkV_snoc, List.length_append]
        have ne1 : (Value.slice (some ⟨g5, 0, none⟩) ((Mk.pathTo (leavesD ss) i k).length + 1) cap5).ownBlock ≠ some (w.heap.size + 1) := fun e => by
          have : g5 = w.heap.size + 1 := by simpa [Value.ownBlock] using e
          omega
        have ne0 : (Value.slice (some ⟨g5, 0, none⟩) ((Mk.pathTo (leavesD ss) i k).length + 1) cap5).ownBlock ≠ some w.heap.size := fun e => by
          have : g5 = w.heap.size := by simpa [Value.ownBlock] using e
          omega
        exact (hown5.kept (row := some (w.heap.size + 1)) (grownBy_setCell' _ _ _) (.inr ne1)).kept (row := some w.heap.size) (grownBy_setCell' _ _ _) (.inr ne0)
      · exact (hB5.setCell (by simp) _).setCell (Nat.le_refl _) _
      · simp [World.setCell]; exact hs5
      · intro j hj hj1 hj2 hj3
        exact (Below.heap_setCell _ _ _ _ hj1).trans ((Below.heap_setCell _ _ _ _ hj2).trans (far j hj hj3))
    have Happ := Lib.hid app
    clear app
    by_cases hodd : q % 2 = 1
    · have hd1 : (((q : Int) % 2) == 1) = true := by simp; omega
      have hcx := Hrow.out (q - 1) (by omega)
      obtain ⟨x, hx⟩ : ∃ x, x = R.getD (q - 1) 0 := ⟨_, rfl⟩
      rw [← hx] at hcx
      have hst : Mk.stepOf R q = [(x, true)] := by unfold Mk.stepOf; rw [if_pos hodd, hx]
      obtain ⟨g5, cap5, W5, hrun', hpA, hi5, hfi5, hp5, hfp5, hend⟩ := Happ.out x true hst
      have Hend := Lib.hid hend
      have hk1 : (1 : Int) ≤ (q : Int) := by omega
      have hk2 : (0 : Int) ≤ (q : Int) - 1 := by omega
      have hk3 : (q : Int) - 1 < (R.length : Int) := by omega
      have hk4 : IntKind.i64.wrap ((q : Int) - 1) = (q : Int) - 1 := IntWalk.i64_in _ (by omega)
      have hk5 : ((q : Int) - 1).toNat = q - 1 := by omega
      clear hend hst hx
      gi_wp2
      refine Rng.region_in (by kernel_rfl) (by kernel_rfl) ?_
      refine wpAnyIn_take (i := 1) (v := ?_) rfl rfl (by kernel_rfl) (by kernel_rfl) (by kernel_rfl) (fun _ _ _ h => h) ⟨Or.inl ⟨by rfl, ?_⟩, fun _ => rfl⟩ ?_
      rotate_left
      · intro wz; go_simp; first | done | with_reducible rfl
      refine wpAnyIn_ready (rs := [0, 2]) (by kernel_rfl) (by simp) ?_
      refine AllReadyIn.cons rfl (fun K hK => ?_) ?_
      · go_simp
        refine hK _ _ ?_
        clear hK K
        refine wpAnyIn_ready (rs := [2]) (by kernel_rfl) (by simp) ?_
        refine AllReadyIn.cons rfl (fun K hK => ?_) ?_
        · go_simp
          refine hK _ _ ?_
          clear hK K
          refine wpAnyIn_take (i := 3) (v := ?_) rfl rfl (by kernel_rfl) (by kernel_rfl) (by kernel_rfl) (fun _ _ _ h => h) ⟨Or.inl ⟨by rfl, ?_⟩, fun _ => rfl⟩ ?_
          rotate_left
          · intro wz; go_simp; first | done | with_reducible rfl
          refine wpAnyIn_take (i := 4) (v := ?_) rfl rfl (by kernel_rfl) (by kernel_rfl) (by kernel_rfl) (fun _ _ _ h => h) ⟨Or.inl ⟨by rfl, ?_⟩, fun _ => rfl⟩ ?_
          rotate_left
          · intro wz; go_simp; first | done | with_reducible rfl
          refine wpAnyIn_ready (rs := [5]) (by kernel_rfl) (by simp) ?_
          refine AllReadyIn.cons rfl (fun K hK => ?_) ?_
          · go_simp
            refine hK _ _ ?_
            clear hK K
            refine wpAnyIn_take (i := 6) (v := ?_) rfl rfl (by kernel_rfl) (by kernel_rfl) (by kernel_rfl) (fun _ _ _ h => h) ⟨Or.inl ⟨by rfl, ?_⟩, fun _ => rfl⟩ ?_
            rotate_left
            · intro wz; go_simp; first | done | with_reducible rfl
            refine wpAnyIn_ready (rs := [7]) (by kernel_rfl) (by simp) ?_
            refine AllReadyIn.cons rfl (fun K hK => ?_) ?_
            · go_simp
              refine hK _ _ ?_
              clear hK K
              refine wpAnyIn_ready (rs := [8]) (by kernel_rfl) (by simp) ?_
              refine AllReadyIn.cons rfl (fun K hK => ?_) ?_
              · refine app_step (s := .tmp 28) (x := .tmp 35) rfl rfl rfl rfl hrun' (by simp only [go_sem]; rfl) (hK _ _ ?_)
                clear hK K
                refine wpAnyIn_ready (rs := [9]) (by kernel_rfl) (by simp) ?_
                refine AllReadyIn.cons rfl (fun K hK => ?_) ?_
                · go_simp
                  refine hK _ _ ?_
                  clear hK K
                  refine wpAnyIn_done (by kernel_rfl) ?_ _
                  gi_wp2
                  exact Hend.out _
                exact AllReadyIn.nil
              exact AllReadyIn.nil
            exact AllReadyIn.nil
          exact AllReadyIn.nil
        exact AllReadyIn.nil
      refine AllReadyIn.cons rfl (fun K hK => ?_) ?_
      · go_simp
        refine hK _ _ ?_
        clear hK K
        refine wpAnyIn_take (i := 3) (v := ?_) rfl rfl (by kernel_rfl) (by kernel_rfl) (by kernel_rfl) (fun _ _ _ h => h) ⟨Or.inl ⟨by rfl, ?_⟩, fun _ => rfl⟩ ?_
        rotate_left
        · intro wz; go_simp; first | done | with_reducible rfl
        refine wpAnyIn_take (i := 4) (v := ?_) rfl rfl (by kernel_rfl) (by kernel_rfl) (by kernel_rfl) (fun _ _ _ h => h) ⟨Or.inl ⟨by rfl, ?_⟩, fun _ => rfl⟩ ?_
        rotate_left
        · intro wz; go_simp; first | done | with_reducible rfl
        refine wpAnyIn_ready (rs := [0, 5]) (by kernel_rfl) (by simp) ?_
        refine AllReadyIn.cons rfl (fun K hK => ?_) ?_
        · go_simp
          refine hK _ _ ?_
          clear hK K
          refine wpAnyIn_ready (rs := [5]) (by kernel_rfl) (by simp) ?_
          refine AllReadyIn.cons rfl (fun K hK => ?_) ?_
          · go_simp
            refine hK _ _ ?_
            clear hK K
            refine wpAnyIn_take (i := 6) (v := ?_) rfl rfl (by kernel_rfl) (by kernel_rfl) (by kernel_rfl) (fun _ _ _ h => h) ⟨Or.inl ⟨by rfl, ?_⟩, fun _ => rfl⟩ ?_
            rotate_left
            · intro wz; go_simp; first | done | with_reducible rfl
            refine wpAnyIn_ready (rs := [7]) (by kernel_rfl) (by simp) ?_
            refine AllReadyIn.cons rfl (fun K hK => ?_) ?_
            · go_simp
              refine hK _ _ ?_
              clear hK K
              refine wpAnyIn_ready (rs := [8]) (by kernel_rfl) (by simp) ?_
              refine AllReadyIn.cons rfl (fun K hK => ?_) ?_
              · refine app_step (s := .tmp 28) (x := .tmp 35) rfl rfl rfl rfl hrun' (by simp only [go_sem]; rfl) (hK _ _ ?_)
                clear hK K
                refine wpAnyIn_ready (rs := [9]) (by kernel_rfl) (by simp) ?_
                refine AllReadyIn.cons rfl (fun K hK => ?_) ?_
                · go_simp
                  refine hK _ _ ?_
                  clear hK K
                  refine wpAnyIn_done (by kernel_rfl) ?_ _
                  gi_wp2
                  exact Hend.out _
                exact AllReadyIn.nil
              exact AllReadyIn.nil
            exact AllReadyIn.nil
          exact AllReadyIn.nil
        refine AllReadyIn.cons rfl (fun K hK => ?_) ?_
        · go_simp
          refine hK _ _ ?_
          clear hK K
          refine wpAnyIn_take (i := 6) (v := ?_) rfl rfl (by kernel_rfl) (by kernel_rfl) (by kernel_rfl) (fun _ _ _ h => h) ⟨Or.inl ⟨by rfl, ?_⟩, fun _ => rfl⟩ ?_
          rotate_left
          · intro wz; go_simp; first | done | with_reducible rfl
          refine wpAnyIn_ready (rs := [0, 7]) (by kernel_rfl) (by simp) ?_
          refine AllReadyIn.cons rfl (fun K hK => ?_) ?_
          · go_simp
            refine hK _ _ ?_
            clear hK K
            refine wpAnyIn_ready (rs := [7]) (by kernel_rfl) (by simp) ?_
            refine AllReadyIn.cons rfl (fun K hK => ?_) ?_
            · go_simp
              refine hK _ _ ?_
              clear hK K
              refine wpAnyIn_ready (rs := [8]) (by kernel_rfl) (by simp) ?_
              refine AllReadyIn.cons rfl (fun K hK => ?_) ?_
              · refine app_step (s := .tmp 28) (x := .tmp 35) rfl rfl rfl rfl hrun' (by simp only [go_sem]; rfl) (hK _ _ ?_)
                clear hK K
                refine wpAnyIn_ready (rs := [9]) (by kernel_rfl) (by simp) ?_
                refine AllReadyIn.cons rfl (fun K hK => ?_) ?_
                · go_simp
                  refine hK _ _ ?_
                  clear hK K
                  refine wpAnyIn_done (by kernel_rfl) ?_ _
                  gi_wp2
                  exact Hend.out _
                exact AllReadyIn.nil
              exact AllReadyIn.nil
            exact AllReadyIn.nil
          refine AllReadyIn.cons rfl (fun K hK => ?_) ?_
          · go_simp
            refine hK _ _ ?_
            clear hK K
            refine wpAnyIn_ready (rs := [0]) (by kernel_rfl) (by simp) ?_
            refine AllReadyIn.cons rfl (fun K hK => ?_) ?_
            · go_simp
              refine hK _ _ ?_
              clear hK K
              refine wpAnyIn_ready (rs := [8]) (by kernel_rfl) (by simp) ?_
              refine AllReadyIn.cons rfl (fun K hK => ?_) ?_
              · refine app_step (s := .tmp 28) (x := .tmp 35) rfl rfl rfl rfl hrun' (by simp only [go_sem]; rfl) (hK _ _ ?_)
                clear hK K
                refine wpAnyIn_ready (rs := [9]) (by kernel_rfl) (by simp) ?_
                refine AllReadyIn.cons rfl (fun K hK => ?_) ?_
                · go_simp
                  refine hK _ _ ?_
                  clear hK K
                  refine wpAnyIn_done (by kernel_rfl) ?_ _
                  gi_wp2
                  exact Hend.out _
                exact AllReadyIn.nil
              exact AllReadyIn.nil
            exact AllReadyIn.nil
          exact AllReadyIn.nil
        exact AllReadyIn.nil
      exact AllReadyIn.nil
    · have hd1 : (((q : Int) % 2) == 1) = false := by simp; omega
      by_cases hlt : q + 1 < R.length
      · have hd2 : decide ((q : Int) + 1 < (R.length : Int)) = true := by simp; omega
        have hcx := Hrow.out (q + 1) (by omega)
        obtain ⟨x, hx⟩ : ∃ x, x = R.getD (q + 1) 0 := ⟨_, rfl⟩
        rw [← hx] at hcx
        have hst : Mk.stepOf R q = [(x, false)] := by unfold Mk.stepOf; rw [if_neg hodd, if_pos hlt, hx]
        obtain ⟨g5, cap5, W5, hrun', hpA, hi5, hfi5, hp5, hfp5, hend⟩ := Happ.out x false hst
        have Hend := Lib.hid hend
        have hk2 : (0 : Int) ≤ (q : Int) + 1 := by omega
        have hk3 : (q : Int) + 1 < (R.length : Int) := by omega
        have hk4 : IntKind.i64.wrap ((q : Int) + 1) = (q : Int) + 1 := IntWalk.i64_in _ (by omega)
        have hk5 : ((q : Int) + 1).toNat = q + 1 := by omega
        clear hend hst hx
        gi_wp2
        refine Rng.region_in (by kernel_rfl) (by kernel_rfl) ?_
        refine wpAnyIn_take (i := 1) (v := ?_) rfl rfl (by kernel_rfl) (by kernel_rfl) (by kernel_rfl) (fun _ _ _ h => h) ⟨Or.inl ⟨by rfl, ?_⟩, fun _ => rfl⟩ ?_
        rotate_left
        · intro wz; go_simp; first | done | with_reducible rfl
        refine wpAnyIn_ready (rs := [0, 2]) (by kernel_rfl) (by simp) ?_
        refine AllReadyIn.cons rfl (fun K hK => ?_) ?_
        · go_simp
          refine hK _ _ ?_
          clear hK K
          refine wpAnyIn_ready (rs := [2]) (by kernel_rfl) (by simp) ?_
          refine AllReadyIn.cons rfl (fun K hK => ?_) ?_
          · go_simp
            refine hK _ _ ?_
            clear hK K
            refine wpAnyIn_take (i := 3) (v := ?_) rfl rfl (by kernel_rfl) (by kernel_rfl) (by kernel_rfl) (fun _ _ _ h => h) ⟨Or.inl ⟨by rfl, ?_⟩, fun _ => rfl⟩ ?_
            rotate_left
            · intro wz; go_simp; first | done | with_reducible rfl
            refine wpAnyIn_take (i := 4) (v := ?_) rfl rfl (by kernel_rfl) (by kernel_rfl) (by kernel_rfl) (fun _ _ _ h => h) ⟨Or.inl ⟨by rfl, ?_⟩, fun _ => rfl⟩ ?_
            rotate_left
            · intro wz; go_simp; first | done | with_reducible rfl
            refine wpAnyIn_ready (rs := [5]) (by kernel_rfl) (by simp) ?_
            refine AllReadyIn.cons rfl (fun K hK => ?_) ?_
            · go_simp
              refine hK _ _ ?_
              clear hK K
              refine wpAnyIn_take (i := 6) (v := ?_) rfl rfl (by kernel_rfl) (by kernel_rfl) (by kernel_rfl) (fun _ _ _ h => h) ⟨Or.inl ⟨by rfl, ?_⟩, fun _ => rfl⟩ ?_
              rotate_left
              · intro wz; go_simp; first | done | with_reducible rfl
              refine wpAnyIn_ready (rs := [7]) (by kernel_rfl) (by simp) ?_
              refine AllReadyIn.cons rfl (fun K hK => ?_) ?_
              · go_simp
                refine hK _ _ ?_
                clear hK K
                refine wpAnyIn_ready (rs := [8]) (by kernel_rfl) (by simp) ?_
                refine AllReadyIn.cons rfl (fun K hK => ?_) ?_
                · refine app_step (s := .tmp 42) (x := .tmp 49) rfl rfl rfl rfl hrun' (by simp only [go_sem]; rfl) (hK _ _ ?_)
                  clear hK K
                  refine wpAnyIn_ready (rs := [9]) (by kernel_rfl) (by simp) ?_
                  refine AllReadyIn.cons rfl (fun K hK => ?_) ?_
                  · go_simp
                    refine hK _ _ ?_
                    clear hK K
                    refine wpAnyIn_done (by kernel_rfl) ?_ _
                    gi_wp2
                    exact Hend.out _
                  exact AllReadyIn.nil
                exact AllReadyIn.nil
              exact AllReadyIn.nil
            exact AllReadyIn.nil
          exact AllReadyIn.nil
        refine AllReadyIn.cons rfl (fun K hK => ?_) ?_
        · go_simp
          refine hK _ _ ?_
          clear hK K
          refine wpAnyIn_take (i := 3) (v := ?_) rfl rfl (by kernel_rfl) (by kernel_rfl) (by kernel_rfl) (fun _ _ _ h => h) ⟨Or.inl ⟨by rfl, ?_⟩, fun _ => rfl⟩ ?_
          rotate_left
          · intro wz; go_simp; first | done | with_reducible rfl
          refine wpAnyIn_take (i := 4) (v := ?_) rfl rfl (by kernel_rfl) (by kernel_rfl) (by kernel_rfl) (fun _ _ _ h => h) ⟨Or.inl ⟨by rfl, ?_⟩, fun _ => rfl⟩ ?_
          rotate_left
          · intro wz; go_simp; first | done | with_reducible rfl
          refine wpAnyIn_ready (rs := [0, 5]) (by kernel_rfl) (by simp) ?_
          refine AllReadyIn.cons rfl (fun K hK => ?_) ?_
          · go_simp
            refine hK _ _ ?_
            clear hK K
            refine wpAnyIn_ready (rs := [5]) (by kernel_rfl) (by simp) ?_
            refine AllReadyIn.cons rfl (fun K hK => ?_) ?_
            · go_simp
              refine hK _ _ ?_
              clear hK K
              refine wpAnyIn_take (i := 6) (v := ?_) rfl rfl (by kernel_rfl) (by kernel_rfl) (by kernel_rfl) (fun _ _ _ h => h) ⟨Or.inl ⟨by rfl, ?_⟩, fun _ => rfl⟩ ?_
              rotate_left
              · intro wz; go_simp; first | done | with_reducible rfl
              refine wpAnyIn_ready (rs := [7]) (by kernel_rfl) (by simp) ?_
              refine AllReadyIn.cons rfl (fun K hK => ?_) ?_
              · go_simp
                refine hK _ _ ?_
                clear hK K
                refine wpAnyIn_ready (rs := [8]) (by kernel_rfl) (by simp) ?_
                refine AllReadyIn.cons rfl (fun K hK => ?_) ?_
                · refine app_step (s := .tmp 42) (x := .tmp 49) rfl rfl rfl rfl hrun' (by simp only [go_sem]; rfl) (hK _ _ ?_)
                  clear hK K
                  refine wpAnyIn_ready (rs := [9]) (by kernel_rfl) (by simp) ?_
                  refine AllReadyIn.cons rfl (fun K hK => ?_) ?_
                  · go_simp
                    refine hK _ _ ?_
                    clear hK K
                    refine wpAnyIn_done (by kernel_rfl) ?_ _
                    gi_wp2
                    exact Hend.out _
                  exact AllReadyIn.nil
                exact AllReadyIn.nil
              exact AllReadyIn.nil
            exact AllReadyIn.nil
          refine AllReadyIn.cons rfl (fun K hK => ?_) ?_
          · go_simp
            refine hK _ _ ?_
            clear hK K
            refine wpAnyIn_take (i := 6) (v := ?_) rfl rfl (by kernel_rfl) (by kernel_rfl) (by kernel_rfl) (fun _ _ _ h => h) ⟨Or.inl ⟨by rfl, ?_⟩, fun _ => rfl⟩ ?_
            rotate_left
            · intro wz; go_simp; first | done | with_reducible rfl
            refine wpAnyIn_ready (rs := [0, 7]) (by kernel_rfl) (by simp) ?_
            refine AllReadyIn.cons rfl (fun K hK => ?_) ?_
            · go_simp
              refine hK _ _ ?_
              clear hK K
              refine wpAnyIn_ready (rs := [7]) (by kernel_rfl) (by simp) ?_
              refine AllReadyIn.cons rfl (fun K hK => ?_) ?_
              · go_simp
                refine hK _ _ ?_
                clear hK K
                refine wpAnyIn_ready (rs := [8]) (by kernel_rfl) (by simp) ?_
                refine AllReadyIn.cons rfl (fun K hK => ?_) ?_
                · refine app_step (s := .tmp 42) (x := .tmp 49) rfl rfl rfl rfl hrun' (by simp only [go_sem]; rfl) (hK _ _ ?_)
                  clear hK K
                  refine wpAnyIn_ready (rs := [9]) (by kernel_rfl) (by simp) ?_
                  refine AllReadyIn.cons rfl (fun K hK => ?_) ?_
                  · go_simp
                    refine hK _ _ ?_
                    clear hK K
                    refine wpAnyIn_done (by kernel_rfl) ?_ _
                    gi_wp2
                    exact Hend.out _
                  exact AllReadyIn.nil
                exact AllReadyIn.nil
              exact AllReadyIn.nil
            refine AllReadyIn.cons rfl (fun K hK => ?_) ?_
            · go_simp
              refine hK _ _ ?_
              clear hK K
              refine wpAnyIn_ready (rs := [0]) (by kernel_rfl) (by simp) ?_
              refine AllReadyIn.cons rfl (fun K hK => ?_) ?_
              · go_simp
                refine hK _ _ ?_
                clear hK K
                refine wpAnyIn_ready (rs := [8]) (by kernel_rfl) (by simp) ?_
                refine AllReadyIn.cons rfl (fun K hK => ?_) ?_
                · refine app_step (s := .tmp 42) (x := .tmp 49) rfl rfl rfl rfl hrun' (by simp only [go_sem]; rfl) (hK _ _ ?_)
                  clear hK K
                  refine wpAnyIn_ready (rs := [9]) (by kernel_rfl) (by simp) ?_
                  refine AllReadyIn.cons rfl (fun K hK => ?_) ?_
                  · go_simp
                    refine hK _ _ ?_
                    clear hK K
                    refine wpAnyIn_done (by kernel_rfl) ?_ _
                    gi_wp2
                    exact Hend.out _
                  exact AllReadyIn.nil
                exact AllReadyIn.nil
              exact AllReadyIn.nil
            exact AllReadyIn.nil
          exact AllReadyIn.nil
        exact AllReadyIn.nil
      · have hd2 : decide ((q : Int) + 1 < (R.length : Int)) = false := by simp; omega
        gi_wp2
        have hst : Mk.stepOf R q = [] := by unfold Mk.stepOf; rw [if_neg hodd, if_neg hlt]
        have hdv : (q : Int) / 2 = ((q / 2 : Nat) : Int) := by omega
        rw [hdv]
        refine Hfin.out _ _ pv (World.cell?_setCell_same' _ _ _ (by rw [hi4]; rfl)) (by rw [World.frozen?_setCell]; exact hfi4) ?_ (by rw [World.frozen?_setCell]; exact hfp4) ?_ ?_ ?_ ?_
        · rw [World.cell?_setCell_other _ _ _ _ (by simp)]; exact hp4
        · rw [hst, List.append_nil]
          exact Hpo4.out.kept (row := some w.heap.size) ⟨rfl, rfl, rfl, by simp [World.setCell], fun j _ hj => Below.heap_setCell _ _ _ _ (fun e => hj (by rw [e]))⟩ (.inr hne1)
        · exact hB4.setCell (Nat.le_refl _) _
        · simp [World.setCell]
        · intro j _ hj _ _
          exact Below.heap_setCell _ _ _ _ hj
  rintro e W3 ⟨v, k, W0, rfl, ⟨hl0, hd0, hi0, hfi0, ⟨pv, hp0, hpo⟩, hfp0, hBw, hsz0⟩, hB, hlen, hj⟩
  refine ⟨_, rfl, .inl ⟨(hB.block _ (by omega)).trans hl0, ?_⟩⟩
  dsimp only
  obtain ⟨W4, hW4⟩ : ∃ W4, W4 = W3.putObj (w1.heap.size + 1) (Rng.overOf r none) := ⟨_, rfl⟩
  rw [← hW4]
  have hpath : Mk.pathF 10 (leavesD ss) i = Mk.pathTo (leavesD ss) i (k + 1) := Mk.path_row k 10 _ _ (rows_bound _ (by simp only [leavesD, List.length_map]; exact h1.2) k hj) hlen hj (by simp only [leavesD, List.length_map]; exact hi)
  have hl3 : W3.heap[w1.heap.size + 1]? = some (Rng.readyOf r) := (hB.block _ (by omega)).trans hl0
  have hpo3 := own_below hpo hB
  have hpo4 : W4.ownsRow (w.heap.size + 2) 41 2 pv (pathV ss i).length (forkV (pathV ss i)) := by
    unfold pathV
    rw [hpath, hW4]
    exact ownsRow_putObj hpo3 _ hl3 rfl
  have hp4 : W4.cell? ⟨w.heap.size + 1, 0, none⟩ = some pv := by
    rw [hW4, World.cell?_of_block (World.putObj_heap_other (by simp; omega)), hB.cell (p := ⟨w.heap.size + 1, 0, none⟩) (by simp; omega), hp0]
  have hd4 : W4.heap[w1.heap.size]? = some (.deferred (some [])) := by
    rw [hW4, hsz]
    exact (World.putObj_heap_other (by omega)).trans ((hB.block _ (by omega)).trans hd0)
  have hB4 : Below w.heap.size w W4 := by rw [hW4]; exact below_putObj (hBw.trans (hB.mono hBw.size)) (by have := hB.size; omega) (by omega) _
  have Hd4 := Lib.hid hd4
  have Hpo4 := Lib.hid hpo4
  have Hpath := Lib.hid hpath
  clear hW4 hd4 hpath hpo4 hpo3 hpo hsz hS2 hl2 hd2 hc0 hcl hl0 hl3 hd0 hi0 hp0 hra hrb hrt hrp
  gi_wp2
  go_wp2
  refine ⟨by simp, .inl ⟨_, _, rfl, run_takeDeferred Hd4.out, ?_⟩⟩
  refine ⟨_, results_tmp2 rfl _ _ _, ?_⟩
  exact ⟨_, rfl, ownsRow_putObj Hpo4.out _ Hd4.out rfl, below_putObj hB4 hB4.size (by have := Hsz.out; omega) _⟩
end Go.Proofs.YtpmakhfpdidleaaDoor
