/- From what the rows list to the tables that the walks of payslip read. -/
import Derived.Test.YtgkilaafeconlaaDoorPsHead
namespace Go.Proofs.YtgkilaafeconlaaDoor
open Go.RowKit
abbrev Tabs (w : World) : Prop := PTabs w
theorem gBef : Tryd.prog.globalNamed "wageoffice/calendar.before" = some 2 := by kernel_rfl
theorem gGen : Tryd.prog.globalNamed "wageoffice/commitment.generators" = some 0 := by kernel_rfl
theorem tab_heap {W : World} {name : String} {g : Nat} {k : IntKind} {zs : List Int} (hg : Tryd.prog.globalNamed name = some g) (h : Lib.TabIs Tryd.prog W name k zs) : ∃ t fr, W.heap[g]? = some (.cells (zs.map fun z => Value.int k z).toArray t fr) := by
  unfold Lib.TabIs World.var? at h
  rw [hg] at h
  simp only [Option.bind_some] at h
  split at h
  · rename_i cs t fr hq
    refine ⟨t, fr, ?_⟩
    rw [hq]
    simpa using h
  · cases h
theorem tabs_of_vars {W : World} {z1 z2 : List Int} (_ : Lib.TabIs Tryd.prog W "math/bits.deBruijn32tab" .u8 z1) (_ : Lib.TabIs Tryd.prog W "math/bits.deBruijn64tab" .u8 z2)
    (h3 : Lib.TabIs Tryd.prog W "internal/strconv.uint64pow10" .u64 Lib.pow10Tab) (h4 : Lib.TabIs Tryd.prog W "wageoffice/calendar.before" .i64 [0, 31, 59, 90, 120, 151, 181, 212, 243, 273, 304, 334, 365]) (h5 : Lib.TabIs Tryd.prog W "wageoffice/commitment.generators" .i64 [4, 9]) : Tabs W := by
  refine ⟨⟨?_, h3⟩, tab_heap gGen h5⟩
  obtain ⟨t, fr, h⟩ := tab_heap gBef h4
  exact ⟨t, fr, by rw [h]; rfl⟩
end Go.Proofs.YtgkilaafeconlaaDoor
