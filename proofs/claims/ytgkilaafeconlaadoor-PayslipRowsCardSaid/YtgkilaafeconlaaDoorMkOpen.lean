/- Arguments that are slices of strings or of forks, opened as plain lists. -/
import Derived.Test.YtgkilaafeconlaaDoorMkAt
import Derived.SliceStrings
import Derived.Deep.SlicePairs
import Derived.ChangeArms
namespace Go.Proofs.YtgkilaafeconlaaDoor
open Go.RowKit Go.ChangeShapes Go.WideShapes Go.Deep
set_option maxRecDepth 100000
theorem cells_string : Tryd.prog.cellsOf 9 = 1 := by kernel_rfl
theorem cells_digest : Tryd.prog.cellsOf 41 = 1 := by kernel_rfl
theorem cells_bool : Tryd.prog.cellsOf 4 = 1 := by kernel_rfl
theorem sl_strs {H : Type} {enc : TypeId × Value → H} {W : World} {base : Nat} {v : Value} {d : DataW H} {p : List MemPlace} (hv : Value.okWide Tryd.prog W .any base 70 v) (h : DataW.Trod enc Tryd.prog W 0 (fun _ => true) true 70 v d p) :
    ∃ (A : Option Addr) (c : Nat) (ss : List ByteArray), v = .slice A ss.length c ∧ Sl W W.heap.size 1 A ss.length (strV ss) ∧ (ss.length ≤ c ∧ c ≤ maxLen) ∧ (∀ s ∈ ss, s.size ≤ maxLen) := by
  obtain ⟨a0, len, cap, rfl⟩ := okWide_slice Tryd.underlying70 hv
  obtain ⟨fuel, hf⟩ := h
  rcases open_strings Tryd.underlying70 Tryd.underlying9 cells_string hf with ⟨hcs, hx⟩ | ⟨a, len', cap', ss, hcs, _, hl, hm, hz, hx, hcell, hws⟩
  · simp [Value.cells] at hcs
    obtain ⟨rfl, rfl, rfl⟩ := hcs
    exact ⟨none, 0, [], rfl, Sl.nil _ 1, ⟨Nat.le_refl _, Nat.zero_le _⟩, fun s h => by cases h⟩
  · simp [Value.cells] at hcs
    obtain ⟨rfl, rfl, rfl⟩ := hcs
    simp only [if_true] at hz
    have ht : (ss.take len).length = len := by rw [List.length_take]; omega
    refine ⟨some a, cap, ss.take len, by rw [ht], ?_, ⟨by omega, by omega⟩, fun s h => hws s (List.mem_of_mem_take h)⟩
    refine sl_of_row (by simp [strV]) (fun _ => Nat.one_pos) ?_
    intro j u hu
    obtain ⟨hj, e⟩ := List.getElem?_eq_some_iff.1 hu
    have hj' : j < len := by simp [strV] at hj; omega
    rw [hcell j (by omega), ← e]
    simp [strV, List.getD, show j < ss.length by omega]
theorem forkV1 (x : UInt64 × Bool) : forkV [x] = [.int .u64 x.1.toNat, .bool x.2] := rfl
end Go.Proofs.YtgkilaafeconlaaDoor
