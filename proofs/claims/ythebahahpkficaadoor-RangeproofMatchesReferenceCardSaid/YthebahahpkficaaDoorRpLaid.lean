/- From what the rows list to the tables that the walks of rangeproof read. -/
import Derived.Test.YthebahahpkficaaDoorRpHead
namespace Go.Proofs.YthebahahpkficaaDoor
open Go.RowKit
theorem gGen : Tryd.prog.globalNamed "wageoffice/commitment.generators" = some 0 := by kernel_rfl
theorem tabs_of_vars {W : World} {z1 z2 : List Int} (_ : Lib.TabIs Tryd.prog W "math/bits.deBruijn32tab" .u8 z1) (_ : Lib.TabIs Tryd.prog W "math/bits.deBruijn64tab" .u8 z2)
    (h3 : Lib.TabIs Tryd.prog W "internal/strconv.uint64pow10" .u64 Lib.pow10Tab) (h4 : Lib.TabIs Tryd.prog W "wageoffice/commitment.generators" .i64 [4, 9]) : Tabs W := by
  refine ⟨h3, ?_⟩
  unfold Lib.TabIs World.var? at h4
  rw [gGen] at h4
  simp only [Option.bind_some] at h4
  split at h4
  · rename_i cs t fr hq
    refine ⟨t, fr, ?_⟩
    rw [hq]
    have : cs = #[.int .i64 4, .int .i64 9] := by simpa using h4
    rw [this]
  · cases h4
end Go.Proofs.YthebahahpkficaaDoor
