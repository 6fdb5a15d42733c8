/- The walks of package merkle, fifth part: Path's errors, sides, proper. -/
import Derived.Test.YtgkilaafeconlaaDoorMkW4
namespace Go.Proofs.YtgkilaafeconlaaDoor
open Go.RowKit Go.Shelf
set_option linter.unusedVariables false
/-- Path's error and answer. -/
def pathE (n : Nat) (i : Int) : Int := if checkE n = 0 then (if 0 ≤ i ∧ i < n then 0 else 1) else checkE n
def pathL (ss : List ByteArray) (i : Int) : List (UInt64 × Bool) := if pathE ss.length i = 0 then pathV ss i.toNat else []
def boolV (l : List Bool) : List Value := l.map Value.bool
def sidesOk (n i : Int) : Prop := (1 ≤ n ∧ n ≤ 1024) ∧ 0 ≤ i ∧ i < n
instance (n i : Int) : Decidable (sidesOk n i) := by unfold sidesOk; exact inferInstance
def sidesL (n i : Int) : List Bool := if sidesOk n i then Mk.sidesF 10 n.toNat i.toNat else []
theorem info_bool : (Tryd.prog.info? 4).map (fun i => (i.zero, i.size, i.bytes)) = some (some (.bool false), 1, 1) := by kernel_rfl
end Go.Proofs.YtgkilaafeconlaaDoor
