/- The walks of package merkle, sixth part: proper, climb, Verify. -/
import Derived.Test.YtgkilaafeconlaaDoorMkW5
namespace Go.Proofs.YtgkilaafeconlaaDoor
open Go.RowKit Go.Shelf
set_option linter.unusedVariables false
def properB (n i : Int) (p : List (UInt64 × Bool)) : Bool := decide (sidesOk n i ∧ sidesL n i = p.map (·.2))
theorem forkV_get1 (p : List (UInt64 × Bool)) (k : Nat) (h : k < p.length) : (forkV p)[k * 2]? = some (.int .u64 (p[k]).1.toNat) := by
  induction p generalizing k with
  | nil => cases h
  | cons a p ih =>
    cases k with
    | zero => rfl
    | succ k => rw [show (k + 1) * 2 = k * 2 + 2 from by omega]; exact ih k (by simpa using h)
theorem forkV_get2 (p : List (UInt64 × Bool)) (k : Nat) (h : k < p.length) : (forkV p)[k * 2 + 1]? = some (.bool (p[k]).2) := by
  induction p generalizing k with
  | nil => cases h
  | cons a p ih =>
    cases k with
    | zero => rfl
    | succ k => rw [show (k + 1) * 2 + 1 = k * 2 + 1 + 2 from by omega]; exact ih k (by simpa using h)
theorem sidesF_len : ∀ (f n i : Nat), (Mk.sidesF f n i).length ≤ f
  | 0, _, _ => Nat.le_refl _
  | f + 1, n, i => by
    rw [Mk.sidesF]
    split
    · exact Nat.zero_le _
    · have h1 := sidesF_len f ((n + 1) / 2) (i / 2)
      have h2 : (Mk.sideOf n i).length ≤ 1 := by unfold Mk.sideOf; split <;> simp
      rw [List.length_append]; omega
theorem sidesL_len (n i : Int) : (sidesL n i).length ≤ 10 := by
  unfold sidesL
  split
  · exact sidesF_len _ _ _
  · exact Nat.zero_le _
end Go.Proofs.YtgkilaafeconlaaDoor
