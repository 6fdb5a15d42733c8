/- Equality of arrays of two numbers and of bit proofs. -/
import Derived.Test.YthebahahpkficaaDoorRpMath
import Derived.Test.YthebahahpkficaaDoorBase
import Derived.ChangeKeysEq
import Derived.Laws.StructEq
namespace Go.Proofs.YthebahahpkficaaDoor
open Go.RowKit
theorem eqArr2 (d : Nat) (a b a' b' : Int) (w : World) : (Op.equalIn (d + 2) 23 (.agg #[.int .i64 a, .int .i64 b]) (.agg #[.int .i64 a', .int .i64 b'])).run Tryd.prog w = .ok ((a == a') && (b == b')) w := by
  obtain ⟨i, hi⟩ : ∃ i, Tryd.prog.info? 3 = some i := Option.isSome_iff_exists.1 (by kernel_rfl)
  have hc : Tryd.prog.cellsOf 3 = 1 := by kernel_rfl
  rw [run_equalIn_array w (d + 1) _ _ Tryd.underlying23 hi, hc]
  have hag : ∀ w, (isAgg 3).run Tryd.prog w = .ok false w := fun _ => by kernel_rfl
  cases h1 : (a == a') <;> cases h2 : (b == b') <;> simp [List.range, List.range.loop, Op.eqItems, part, hag, run_equalIn_int w d 3 _ _ _ _ Tryd.underlying3, h1, h2]
end Go.Proofs.YthebahahpkficaaDoor
