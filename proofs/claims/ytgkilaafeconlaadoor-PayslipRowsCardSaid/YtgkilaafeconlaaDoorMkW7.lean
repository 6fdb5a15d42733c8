/- The walks of package merkle, seventh part: climb, Verify. -/
import Derived.Test.YtgkilaafeconlaaDoorMkW6
namespace Go.Proofs.YtgkilaafeconlaaDoor
open Go.RowKit Go.Shelf
set_option linter.unusedVariables false
def bytesOf (t : List UInt8) : ByteArray := ⟨t.toArray⟩
def climbS (s : ByteArray) (p : List (UInt64 × Bool)) : List ByteArray := bytesOf (0 :: s.data.toList) :: (Mk.climbT (Mk.leafD s.data.toList) p).map bytesOf
theorem info_string : (Tryd.prog.info? 9).map (fun i => (i.zero, i.size, i.bytes)) = some (some (.string ⟨#[]⟩), 1, 16) := by kernel_rfl
theorem climbT_len (d : UInt64) (p : List (UInt64 × Bool)) : (Mk.climbT d p).length = p.length := by
  induction p generalizing d with
  | nil => rfl
  | cons a p ih => simp [Mk.climbT, ih]
theorem climbT_snoc (d : UInt64) (p : List (UInt64 × Bool)) (x : UInt64 × Bool) : Mk.climbT d (p ++ [x]) = Mk.climbT d p ++ [Mk.upT (Mk.climbD d p) x] := by
  induction p generalizing d with
  | nil => rfl
  | cons a p ih => simp [Mk.climbT, Mk.climbD, ih]
theorem climbS_len (s : ByteArray) (p : List (UInt64 × Bool)) : (climbS s p).length = p.length + 1 := by simp [climbS, climbT_len]
theorem climbS_snoc (s : ByteArray) (p : List (UInt64 × Bool)) (x : UInt64 × Bool) : climbS s (p ++ [x]) = climbS s p ++ [bytesOf (Mk.upT (Mk.climbD (Mk.leafD s.data.toList) p) x)] := by simp [climbS, climbT_snoc]
theorem node_size (a b : UInt64) : (⟨(Mk.nodeT a b).toArray⟩ : ByteArray).size ≤ maxLen := by
  have : (⟨(Mk.nodeT a b).toArray⟩ : ByteArray).size = 17 := by
    show (Mk.nodeT a b).toArray.size = 17
    simp [Mk.nodeT, Dig.be8]
  rw [this]; unfold maxLen; omega
def verifyB (root : UInt64) (n i : Int) (s : ByteArray) (p : List (UInt64 × Bool)) : Bool := properB n i p && (Mk.climbD (Mk.leafD s.data.toList) p == root)
theorem proper_len {n i : Int} {p : List (UInt64 × Bool)} (h : properB n i p = true) : p.length ≤ 10 := by
  have := (of_decide_eq_true h).2
  have h2 := sidesL_len n i
  rw [this, List.length_map] at h2
  exact h2
theorem u64_beq (a b : UInt64) : (((a.toNat : Int)) == ((b.toNat : Int))) = (a == b) := by
  by_cases h : a = b
  · subst h; simp
  · have : ¬ a.toNat = b.toNat := fun e => h (UInt64.toNat_inj.1 e)
    rw [beq_eq_false_iff_ne.2 h, beq_eq_false_iff_ne.2 (by omega)]
end Go.Proofs.YtgkilaafeconlaaDoor
