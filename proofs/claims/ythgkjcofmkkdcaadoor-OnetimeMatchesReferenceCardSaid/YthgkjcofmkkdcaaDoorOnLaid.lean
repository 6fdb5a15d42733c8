/- From what the rows list to the tables that the walks of onetime read. -/
import Derived.Test.YthgkjcofmkkdcaaDoorOnHead
namespace Go.Proofs.YthgkjcofmkkdcaaDoor
open Go.RowKit
abbrev Tabs (w : World) : Prop := OTabs w
theorem gDig : Tryd.prog.globalNamed "wageoffice/digest.digits" = some 0 := by kernel_rfl
theorem tabs_of_vars {W : World} {z1 z2 : List Int} (_ : Lib.TabIs Tryd.prog W "math/bits.deBruijn32tab" .u8 z1) (_ : Lib.TabIs Tryd.prog W "math/bits.deBruijn64tab" .u8 z2)
    (h3 : Lib.TabIs Tryd.prog W "internal/strconv.uint64pow10" .u64 Lib.pow10Tab) (h4 : Lib.TabIs Tryd.prog W "wageoffice/digest.digits" .u8 [48, 49, 50, 51, 52, 53, 54, 55, 56, 57, 97, 98, 99, 100, 101, 102]) : Tabs W := by
  refine ⟨?_, h3⟩
  unfold Lib.TabIs World.var? at h4
  rw [gDig] at h4
  simp only [Option.bind_some] at h4
  split at h4
  · rename_i cs t fr hq
    refine ⟨t, fr, ?_⟩
    rw [hq]
    have : cs = hexCells := by simpa [hexCells] using h4
    rw [this]
  · cases h4
end Go.Proofs.YthgkjcofmkkdcaaDoor
