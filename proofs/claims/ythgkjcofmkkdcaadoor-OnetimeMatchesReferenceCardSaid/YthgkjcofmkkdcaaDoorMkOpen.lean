/- Arguments that are slices of strings or of forks, opened as plain lists. -/
import Derived.Test.YthgkjcofmkkdcaaDoorMkAt
import Derived.SliceStrings
import Derived.Deep.SlicePairs
import Derived.ChangeArms
namespace Go.Proofs.YthgkjcofmkkdcaaDoor
open Go.RowKit Go.ChangeShapes Go.WideShapes Go.Deep
set_option maxRecDepth 100000
theorem cells_string : Tryd.prog.cellsOf 9 = 1 := by kernel_rfl
theorem cells_fork : Tryd.prog.cellsOf 48 = 2 := by kernel_rfl
theorem cells_digest : Tryd.prog.cellsOf 23 = 1 := by kernel_rfl
theorem cells_bool : Tryd.prog.cellsOf 4 = 1 := by kernel_rfl
theorem sl_strs {H : Type} {enc : TypeId × Value → H} {W : World} {base : Nat} {v : Value} {d : DataW H} {p : List MemPlace} (hv : Value.okWide Tryd.prog W .any base 28 v) (h : DataW.Trod enc Tryd.prog W 0 (fun _ => true) true 28 v d p) :
    ∃ (A : Option Addr) (c : Nat) (ss : List ByteArray), v = .slice A ss.length c ∧ Sl W W.heap.size 1 A ss.length (strV ss) ∧ (ss.length ≤ c ∧ c ≤ maxLen) ∧ (∀ s ∈ ss, s.size ≤ maxLen) := by
  obtain ⟨a0, len, cap, rfl⟩ := okWide_slice Tryd.underlying28 hv
  obtain ⟨fuel, hf⟩ := h
  rcases open_strings Tryd.underlying28 Tryd.underlying9 cells_string hf with ⟨hcs, hx⟩ | ⟨a, len', cap', ss, hcs, _, hl, hm, hz, hx, hcell, hws⟩
  · simp [Value.cells] at hcs
    obtain ⟨rfl, rfl, rfl⟩ := hcs
    exact ⟨none, 0, [], rfl, Sl.nil _ 1, ⟨Nat.le_refl _, Nat.zero_le _⟩, fun s h => by cases h⟩
  · simp [Value.cells] at hcs
    obtain ⟨rfl, rfl, rfl⟩ := hcs
    simp only [if_true] at hz
    have ht : (ss.take len).length = len := by rw [List.length_take]; omega
    refine ⟨some a, cap, ss.take len, by rw [ht], ?_, ⟨by omega, by omega⟩, fun s h => hws s (List.mem_of_mem_take h)⟩
    refine sl_of_row (by simp [strV]) (fun _ => Nat.one_pos) ?_
    intro j u hu
    obtain ⟨hj, e⟩ := List.getElem?_eq_some_iff.1 hu
    have hj' : j < len := by simp [strV] at hj; omega
    rw [hcell j (by omega), ← e]
    simp [strV, List.getD, show j < ss.length by omega]
theorem sl_forks {H : Type} {enc : TypeId × Value → H} {W : World} {base : Nat} {v : Value} {d : DataW H} {p : List MemPlace} (hv : Value.okWide Tryd.prog W .any base 25 v) (h : DataW.Trod enc Tryd.prog W 0 (fun _ => true) true 25 v d p) :
    ∃ (A : Option Addr) (c : Nat) (l : Forks), v = .slice A l.length c ∧ Sl W W.heap.size 2 A l.length (forkV l) ∧ (l.length ≤ c ∧ c ≤ maxLen) := by
  obtain ⟨a0, len, cap, rfl⟩ := okWide_slice Tryd.underlying25 hv
  obtain ⟨fuel, hf⟩ := h
  rcases open_slice_pairs Tryd.underlying25 Tryd.underlying48 cells_fork rfl rfl cells_digest cells_bool hf with ⟨hcs, hx⟩ | ⟨a, len', cap', m, n, V0, V1, D0, D1, P0, P1, hcs, _, hl, hm, hmm, hx, hall⟩
  · simp [Value.cells] at hcs
    obtain ⟨rfl, rfl, rfl⟩ := hcs
    exact ⟨none, 0, [], rfl, Sl.nil _ 2, ⟨Nat.le_refl _, Nat.zero_le _⟩⟩
  · simp [Value.cells] at hcs
    obtain ⟨rfl, rfl, rfl⟩ := hcs
    simp only [if_true] at hmm
    subst hmm
    have each : ∀ i, i < m → ∃ x : UInt64 × Bool, V0 i = .int .u64 x.1.toNat ∧ V1 i = .bool x.2 := by
      intro i hi
      obtain ⟨_, _, h0, h1⟩ := hall i hi
      obtain ⟨z, hz, _, hw⟩ := DataW.trod_int Tryd.underlying23 h0
      obtain ⟨b, hb, _⟩ := DataW.trod_bool Tryd.underlying4 h1
      obtain ⟨u, rfl⟩ := u64_of_wf hw
      exact ⟨(u, b), by simpa using hz, by simpa using hb⟩
    obtain ⟨X, hX⟩ := choose_lt each
    have ht : ((List.range len).map X).length = len := by simp
    refine ⟨some a, m, (List.range len).map X, by rw [ht], ?_, ⟨by omega, by omega⟩⟩
    refine sl_of_row (by rw [forkV_len]) (fun _ => by omega) ?_
    intro j u hu
    obtain ⟨hj, e⟩ := List.getElem?_eq_some_iff.1 hu
    rw [forkV_len, ht] at hj
    have hq : j / 2 < len := by omega
    obtain ⟨c0, c1, _, _⟩ := hall (j / 2) (by omega)
    obtain ⟨e0, e1⟩ := hX (j / 2) (by omega)
    have hql : j / 2 < ((List.range len).map X).length := by rw [ht]; exact hq
    by_cases h2 : j % 2 = 0
    · have hjj : j = j / 2 * 2 := by omega
      have g := forkV_get1 ((List.range len).map X) (j / 2) hql
      rw [← hjj, hu] at g
      rw [hjj, c0, e0]
      rw [← Option.some.inj g.symm]
      simp
    · have hjj : j = j / 2 * 2 + 1 := by omega
      have g := forkV_get2 ((List.range len).map X) (j / 2) hql
      rw [← hjj, hu] at g
      rw [hjj, c1, e1]
      rw [← Option.some.inj g.symm]
      simp
theorem forkV1 (x : UInt64 × Bool) : forkV [x] = [.int .u64 x.1.toNat, .bool x.2] := rfl
end Go.Proofs.YthgkjcofmkkdcaaDoor
