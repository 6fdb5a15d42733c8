/- The walks of package merkle, eighth part: zip. -/
import Derived.Test.YtgkilaafeconlaaDoorMkW7
import Derived.Lib.SliceRun
namespace Go.Proofs.YtgkilaafeconlaaDoor
open Go.RowKit Go.Shelf
set_option linter.unusedVariables false
attribute [local go_sem] Oper.semAt_some
/-- What zip's iterator reads. -/
def ZipK (Bx By : Nat) (A A' : Option Addr) (n c c' : Nat) (ss tt : List ByteArray) (W : World) : Prop :=
  W.cell? ⟨Bx, 0, none⟩ = some (.slice A n c) ∧ W.cell? ⟨By, 0, none⟩ = some (.slice A' n c') ∧ Sl W W.heap.size 1 A n (strV ss) ∧ Sl W W.heap.size 1 A' n (strV tt)
def ZipYield (P : Program) (l m n : Nat) (ss tt : List ByteArray) (J : Nat → World → Prop) (D : World → Prop) : Prop :=
  ∀ (k : Nat) (W : World) (x y : ByteArray), J k W → k < n → ss[k]? = some x → tt[k]? = some y →
    YieldAt Fence.wide m P l #[.string x, .string y] W fun e W' => (e = .returned (.bool true) ∧ J (k + 1) W') ∨ (e = .returned (.bool false) ∧ D W')
theorem eqlS (a : Addr) (n c : Nat) (w : World) : (binOp .eql 70 (.slice (some a) n c) (.slice none 0 0)).run Tryd.prog w = .ok (.bool false) w := Lib.run_eql_slice_nil w 70 9 (some a) n c 0 0 Tryd.underlying70
attribute [local go_sem] eqlS
end Go.Proofs.YtgkilaafeconlaaDoor
