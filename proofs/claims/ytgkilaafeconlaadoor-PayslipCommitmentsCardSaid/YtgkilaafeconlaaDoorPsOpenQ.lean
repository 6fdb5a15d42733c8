/- Lists of integers and of quadruples as arguments: opened to the forms that the walks want. -/
import Derived.Test.YtgkilaafeconlaaDoorPsRes0
import Derived.Test.YtgkilaafeconlaaDoorMkOpen
import Derived.Deep.SlicePairs
import Derived.Laws.IdiomArrays
import Derived.Lib.SmallJoins
namespace Go.Proofs.YtgkilaafeconlaaDoor
open Go.RowKit Go.ChangeShapes Go.WideShapes Go.Deep Go.Shelf
set_option linter.unusedVariables false
set_option linter.unusedSimpArgs false
set_option maxRecDepth 100000
theorem cells_int35 : Tryd.prog.cellsOf 3 = 1 := by kernel_rfl
theorem tr_ints {H : Type} {enc : TypeId × Value → H} {W : World} {n : Nat} {v : Value} {y : DataW H × List MemPlace} (h : DataW.trod enc Tryd.prog W 0 (fun _ => true) true n 39 [v] = some y) :
    ∃ (A : Option Addr) (c : Nat) (l : List Int), v = .slice A l.length c ∧ Sl W W.heap.size 1 A l.length (intV l) ∧ (l.length ≤ c ∧ c ≤ maxLen) ∧ ∀ x ∈ l, I64 x := by
  rcases open_ints Tryd.underlying39 Tryd.underlying3 cells_int35 h with ⟨hcs, hx⟩ | ⟨a, len, cap, zs, hcs, _, hl, hm, hz, hx, hcell, hws⟩
  · obtain rfl : v = .slice none 0 0 := by simpa using hcs
    exact ⟨none, 0, [], rfl, Sl.nil _ 1, ⟨Nat.le_refl _, Nat.zero_le _⟩, fun s h => by cases h⟩
  · obtain rfl : v = .slice (some a) len cap := by simpa using hcs
    simp only [if_true] at hz
    have hlen : (zs.take len).length = len := by rw [List.length_take]; omega
    refine ⟨some a, cap, zs.take len, by rw [hlen], ?_, ⟨by omega, by omega⟩, fun s h => bounds_i64 (hws s (List.mem_of_mem_take h))⟩
    refine sl_of_row (by simp [intV]) (fun _ => Nat.one_pos) ?_
    intro j u hu
    obtain ⟨hj, e⟩ := List.getElem?_eq_some_iff.1 hu
    have hj' : j < len := by simp [intV] at hj; omega
    rw [hcell j (by omega), ← e]
    simp [intV, List.getD, show j < zs.length by omega]
theorem sl_ints {H : Type} {enc : TypeId × Value → H} {W : World} {base : Nat} {v : Value} {d : DataW H} {p : List MemPlace} (hv : Value.okWide Tryd.prog W .any base 39 v) (h : DataW.Trod enc Tryd.prog W 0 (fun _ => true) true 39 v d p) :
    ∃ (A : Option Addr) (c : Nat) (l : List Int), v = .slice A l.length c ∧ Sl W W.heap.size 1 A l.length (intV l) ∧ (l.length ≤ c ∧ c ≤ maxLen) ∧ ∀ x ∈ l, I64 x := by
  obtain ⟨a0, len, cap, rfl⟩ := okWide_slice Tryd.underlying39 hv
  obtain ⟨fuel, hf⟩ := h
  exact tr_ints hf
instance : Inhabited Quad := ⟨⟨0, 0, 0, 0⟩⟩
theorem quads_len (l : List Quad) : (l.flatMap quadV).length = l.length * 4 := by
  induction l with
  | nil => rfl
  | cons x l ih => rw [List.flatMap_cons, List.length_append, ih, List.length_cons, show (quadV x).length = 4 from rfl]; omega
theorem tr_quads {H : Type} {enc : TypeId × Value → H} {W : World} {n : Nat} {v : Value} {y : DataW H × List MemPlace} (h : DataW.trod enc Tryd.prog W 0 (fun _ => true) true n 44 [v] = some y) :
    ∃ (A : Option Addr) (c : Nat) (l : List Quad), v = .slice A l.length c ∧ Sl W W.heap.size 4 A l.length (l.flatMap quadV) ∧ (l.length ≤ c ∧ c ≤ maxLen) ∧ ∀ x ∈ l, QuadOk x := by
  rcases open_slice Tryd.underlying44 h with ⟨hcs, _⟩ | ⟨a, len, cap, m, n', D, Pl, hcs, hb, hl, hm, hmm, hx, hi⟩
  · obtain rfl : v = .slice none 0 0 := by simpa using hcs
    exact ⟨none, 0, [], rfl, Sl.nil _ 4, ⟨Nat.le_refl _, Nat.zero_le _⟩, fun x hx => by cases hx⟩
  · obtain rfl : v = .slice (some a) len cap := by simpa using hcs
    simp only [if_true] at hmm
    subst hmm
    have hC : Tryd.prog.cellsOf 88 = 4 := by kernel_rfl
    have each : ∀ i, i < m → ∃ x : Quad, W.cell? (a.add (i * 4 + 0)) = some (.int .i64 x.a) ∧ W.cell? (a.add (i * 4 + 1)) = some (.int .i64 x.b) ∧ W.cell? (a.add (i * 4 + 2)) = some (.int .i64 x.c) ∧ W.cell? (a.add (i * 4 + 3)) = some (.int .i64 x.d) ∧ QuadOk x := by
      intro i hi'
      obtain ⟨cs', hc, ht'⟩ := hi i hi'
      rw [hC] at hc
      obtain ⟨_, hcl, hat⟩ := World.cells?_some hc
      match cs', hcl with
      | [c0, c1, c2, c3], _ =>
        obtain ⟨y0, y1, y2, y3, n2, _, hy0, hy1, hy2, hy3⟩ := trod_array4 Tryd.underlying88 cells_int35 ht'
        obtain ⟨z0, e0, _, w0⟩ := DataW.trod_int Tryd.underlying3 hy0
        obtain ⟨z1, e1, _, w1⟩ := DataW.trod_int Tryd.underlying3 hy1
        obtain ⟨z2, e2, _, w2⟩ := DataW.trod_int Tryd.underlying3 hy2
        obtain ⟨z3, e3, _, w3⟩ := DataW.trod_int Tryd.underlying3 hy3
        obtain rfl : c0 = .int .i64 z0 := by simpa using e0
        obtain rfl : c1 = .int .i64 z1 := by simpa using e1
        obtain rfl : c2 = .int .i64 z2 := by simpa using e2
        obtain rfl : c3 = .int .i64 z3 := by simpa using e3
        refine ⟨⟨z0, z1, z2, z3⟩, ?_, ?_, ?_, ?_, bounds_i64 w0, bounds_i64 w1, bounds_i64 w2, bounds_i64 w3⟩
        · rw [← Go.Deep.add_add, hat 0 (by decide)]; rfl
        · rw [← Go.Deep.add_add, hat 1 (by decide)]; rfl
        · rw [← Go.Deep.add_add, hat 2 (by decide)]; rfl
        · rw [← Go.Deep.add_add, hat 3 (by decide)]; rfl
    obtain ⟨X, hX⟩ := choose_lt each
    have ht : ((List.range len).map X).length = len := by simp
    refine ⟨some a, m, (List.range len).map X, by rw [ht], ?_, ⟨by omega, by omega⟩, ?_⟩
    · refine sl_of_row (by rw [quads_len]) (fun _ => by omega) ?_
      intro j u hu
      obtain ⟨hj, e⟩ := List.getElem?_eq_some_iff.1 hu
      rw [quads_len, ht] at hj
      have hq : j / 4 < len := by omega
      obtain ⟨c0, c1, c2, c3, _⟩ := hX (j / 4) (by omega)
      have hql : j / 4 < ((List.range len).map X).length := by rw [ht]; exact hq
      have hget := flat_get quadV 4 (fun _ => rfl) ((List.range len).map X) (j / 4) hql
      have g0 : (((List.range len).map X).flatMap quadV)[j / 4 * 4 + 0]? = _ := hget 0 (by decide)
      have g1 : (((List.range len).map X).flatMap quadV)[j / 4 * 4 + 1]? = _ := hget 1 (by decide)
      have g2 : (((List.range len).map X).flatMap quadV)[j / 4 * 4 + 2]? = _ := hget 2 (by decide)
      have g3 : (((List.range len).map X).flatMap quadV)[j / 4 * 4 + 3]? = _ := hget 3 (by decide)
      have hj3 : j = j / 4 * 4 + 0 ∨ j = j / 4 * 4 + 1 ∨ j = j / 4 * 4 + 2 ∨ j = j / 4 * 4 + 3 := by omega
      rcases hj3 with hjj | hjj | hjj | hjj
      · rw [Nat.add_zero] at hjj
        rw [Nat.add_zero, ← hjj, hu] at g0
        rw [Nat.add_zero, ← hjj] at c0
        rw [c0, Option.some.inj g0]
        simp
      · rw [← hjj, hu] at g1
        rw [← hjj] at c1
        rw [c1, Option.some.inj g1]
        simp
      · rw [← hjj, hu] at g2
        rw [← hjj] at c2
        rw [c2, Option.some.inj g2]
        simp
      · rw [← hjj, hu] at g3
        rw [← hjj] at c3
        rw [c3, Option.some.inj g3]
        simp
    · intro x hx
      obtain ⟨i, hi, rfl⟩ := List.mem_map.1 hx
      exact (hX i (by have := List.mem_range.1 hi; omega)).2.2.2.2
theorem sl_quads {H : Type} {enc : TypeId × Value → H} {W : World} {base : Nat} {v : Value} {d : DataW H} {p : List MemPlace} (hv : Value.okWide Tryd.prog W .any base 44 v) (h : DataW.Trod enc Tryd.prog W 0 (fun _ => true) true 44 v d p) :
    ∃ (A : Option Addr) (c : Nat) (l : List Quad), v = .slice A l.length c ∧ Sl W W.heap.size 4 A l.length (l.flatMap quadV) ∧ (l.length ≤ c ∧ c ≤ maxLen) ∧ ∀ x ∈ l, QuadOk x := by
  obtain ⟨a0, len, cap, rfl⟩ := okWide_slice Tryd.underlying44 hv
  obtain ⟨fuel, hf⟩ := h
  exact tr_quads hf
end Go.Proofs.YtgkilaafeconlaaDoor
