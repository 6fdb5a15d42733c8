/- From what the rows list to the tables that the calendar's walks read. -/
import Derived.Test.YtnfjpmchdbgonaaDoorCalW3
namespace Go.Proofs.YtnfjpmchdbgonaaDoor
open Go.RowKit
theorem gBef : Tryd.prog.globalNamed "wageoffice/calendar.before" = some 0 := by kernel_rfl
theorem tabs_of_vars {W : World} {z1 z2 : List Int} (_ : Lib.TabIs Tryd.prog W "math/bits.deBruijn32tab" .u8 z1) (_ : Lib.TabIs Tryd.prog W "math/bits.deBruijn64tab" .u8 z2)
    (h3 : Lib.TabIs Tryd.prog W "internal/strconv.uint64pow10" .u64 Lib.pow10Tab) (h4 : Lib.TabIs Tryd.prog W "wageoffice/calendar.before" .i64 [0, 31, 59, 90, 120, 151, 181, 212, 243, 273, 304, 334, 365]) : Tabs W := by
  refine ⟨?_, h3⟩
  unfold Lib.TabIs World.var? at h4
  rw [gBef] at h4
  simp only [Option.bind_some] at h4
  split at h4
  · rename_i cs t fr hq
    refine ⟨t, fr, ?_⟩
    rw [hq]
    have : cs = befCells := by simpa [befCells] using h4
    rw [this]
  · cases h4
end Go.Proofs.YtnfjpmchdbgonaaDoor
