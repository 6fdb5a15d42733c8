/- Plain Merkle trees: rows, roots, paths, sides; the laws of layer 24. -/
import Derived.Test.YtgkilaafeconlaaDoorDigMath3
namespace Go.Mk
open Go.Dig
def leafD (s : List UInt8) : UInt64 := sum (0 :: s)
def nodeT (a b : UInt64) : List UInt8 := 1 :: (be8 a ++ be8 b)
theorem pair_node (a b : UInt64) : sum (nodeT a b) = pair a b := rfl
def nextRow : List UInt64 → List UInt64
  | a :: b :: r => pair a b :: nextRow r
  | l => l
theorem nextRow_length : ∀ l : List UInt64, (nextRow l).length = (l.length + 1) / 2
  | [] => rfl
  | [a] => by simp [nextRow]
  | a :: b :: r => by
    have := nextRow_length r
    simp only [nextRow, List.length_cons, this]
    omega
theorem nextRow_get : ∀ (l : List UInt64) (i : Nat), (nextRow l).getD i 0 = if 2 * i + 1 < l.length then pair (l.getD (2 * i) 0) (l.getD (2 * i + 1) 0) else l.getD (2 * i) 0
  | [], i => by simp [nextRow]
  | [a], i => by
    cases i with
    | zero => rfl
    | succ i => simp [nextRow]
  | a :: b :: r, 0 => by simp [nextRow]
  | a :: b :: r, i + 1 => by
    have := nextRow_get r i
    simp only [nextRow, List.getD_cons_succ, this, List.length_cons]
    rw [show 2 * (i + 1) = 2 * i + 2 by omega]
    simp only [List.getD_cons_succ]
    by_cases h : 2 * i + 1 < r.length
    · rw [if_pos h, if_pos (by omega)]
    · rw [if_neg h, if_neg (by omega)]
/-- The k-th row. -/
def rowN (l : List UInt64) : Nat → List UInt64
  | 0 => l
  | k + 1 => nextRow (rowN l k)
/-- The steps from a row of some size to the last one. -/
def steps : Nat → Nat → Nat
  | 0, _ => 0
  | f + 1, n => if n ≤ 1 then 0 else steps f ((n + 1) / 2) + 1
def rootF : Nat → List UInt64 → UInt64
  | 0, r => r.getD 0 0
  | f + 1, r => if r.length ≤ 1 then r.getD 0 0 else rootF f (nextRow r)
def stepOf (r : List UInt64) (i : Nat) : List (UInt64 × Bool) :=
  if i % 2 = 1 then [(r.getD (i - 1) 0, true)] else if i + 1 < r.length then [(r.getD (i + 1) 0, false)] else []
def pathF : Nat → List UInt64 → Nat → List (UInt64 × Bool)
  | 0, _, _ => []
  | f + 1, r, i => if r.length ≤ 1 then [] else stepOf r i ++ pathF f (nextRow r) (i / 2)
def sideOf (n i : Nat) : List Bool := if i % 2 = 1 ∨ i + 1 < n then [decide (i % 2 = 1)] else []
def sidesF : Nat → Nat → Nat → List Bool
  | 0, _, _ => []
  | f + 1, n, i => if n ≤ 1 then [] else sideOf n i ++ sidesF f ((n + 1) / 2) (i / 2)
def up (d : UInt64) (p : UInt64 × Bool) : UInt64 := if p.2 then pair p.1 d else pair d p.1
def climbD (d : UInt64) (l : List (UInt64 × Bool)) : UInt64 := l.foldl up d
def upT (d : UInt64) (p : UInt64 × Bool) : List UInt8 := if p.2 then nodeT p.1 d else nodeT d p.1
theorem sum_upT (d : UInt64) (p : UInt64 × Bool) : sum (upT d p) = up d p := by unfold upT up; split <;> rfl
def climbT : UInt64 → List (UInt64 × Bool) → List (List UInt8)
  | _, [] => []
  | d, p :: l => upT d p :: climbT (up d p) l
theorem path_sides : ∀ (f : Nat) (r : List UInt64) (i : Nat), (pathF f r i).map (·.2) = sidesF f r.length i
  | 0, _, _ => rfl
  | f + 1, r, i => by
    simp only [pathF, sidesF]
    by_cases h : r.length ≤ 1
    · rw [if_pos h, if_pos h]; rfl
    · rw [if_neg h, if_neg h, List.map_append, path_sides f, nextRow_length]
      congr 1
      unfold stepOf sideOf
      by_cases h1 : i % 2 = 1
      · simp [h1]
      · by_cases h2 : i + 1 < r.length
        · simp [h1, h2]
        · simp [h1, h2]
theorem climb_path : ∀ (f : Nat) (r : List UInt64) (i : Nat), i < r.length → r.length ≤ 2 ^ f → climbD (r.getD i 0) (pathF f r i) = rootF f r
  | 0, r, i, hi, hl => by
    have : i = 0 := by simp at hl; omega
    subst this; rfl
  | f + 1, r, i, hi, hl => by
    simp only [pathF, rootF]
    by_cases h : r.length ≤ 1
    · rw [if_pos h, if_pos h]
      have : i = 0 := by omega
      subst this; rfl
    · rw [if_neg h, if_neg h]
      have hn : (nextRow r).length = (r.length + 1) / 2 := nextRow_length r
      have hp : 2 ^ (f + 1) = 2 * 2 ^ f := by rw [Nat.pow_succ]; omega
      rw [← climb_path f (nextRow r) (i / 2) (by omega) (by omega)]
      unfold climbD
      rw [List.foldl_append]
      congr 1
      rw [nextRow_get]
      unfold stepOf up
      by_cases h1 : i % 2 = 1
      · rw [if_pos h1, if_pos (by omega)]
        simp only [List.foldl_cons, List.foldl_nil, if_true]
        rw [show 2 * (i / 2) = i - 1 by omega, show i - 1 + 1 = i by omega]
      · by_cases h2 : i + 1 < r.length
        · rw [if_neg h1, if_pos h2, if_pos (by omega)]
          simp only [List.foldl_cons, List.foldl_nil]
          rw [show 2 * (i / 2) = i by omega]
          rfl
        · rw [if_neg h1, if_neg h2, if_neg (by omega)]
          rw [show 2 * (i / 2) = i by omega]
          rfl
theorem getD_get (l : List UInt64) (i : Nat) (h : i < l.length) : l.getD i 0 = l[i] := by simp [List.getD, h]
theorem take_pair (r : List UInt64) (q : Nat) (h : 2 * q + 1 < r.length) : (nextRow r).take (q + 1) = (nextRow r).take q ++ [pair (r.getD (2 * q) 0) (r.getD (2 * q + 1) 0)] := by
  have hl : q < (nextRow r).length := by rw [nextRow_length]; omega
  rw [List.take_succ_eq_append_getElem hl]
  have := nextRow_get r q
  rw [if_pos h, getD_get _ _ hl] at this
  rw [this]
theorem take_odd (r : List UInt64) (h : r.length % 2 = 1) : nextRow r = (nextRow r).take (r.length / 2) ++ [r.getD (r.length - 1) 0] := by
  have hl : r.length / 2 < (nextRow r).length := by rw [nextRow_length]; omega
  have h2 : (nextRow r).take (r.length / 2 + 1) = nextRow r := List.take_of_length_le (by rw [nextRow_length]; omega)
  rw [List.take_succ_eq_append_getElem hl] at h2
  have := nextRow_get r (r.length / 2)
  rw [if_neg (by omega), getD_get _ _ hl, show 2 * (r.length / 2) = r.length - 1 by omega] at this
  rw [this] at h2
  exact h2.symm
theorem take_even (r : List UInt64) (h : r.length % 2 = 0) : (nextRow r).take (r.length / 2) = nextRow r := List.take_of_length_le (by rw [nextRow_length]; omega)
theorem rowN_succ (l : List UInt64) (k : Nat) : rowN l (k + 1) = rowN (nextRow l) k := by
  induction k with
  | zero => rfl
  | succ k ih => rw [rowN, ih]; rfl
theorem root_row : ∀ (k f : Nat) (l : List UInt64), k ≤ f → (rowN l k).length ≤ 1 → (∀ j, j < k → 1 < (rowN l j).length) → rootF f l = (rowN l k).getD 0 0
  | 0, f, l, _, h, _ => by
    cases f with
    | zero => rfl
    | succ f => simp only [rootF]; rw [if_pos (show l.length ≤ 1 from h)]; rfl
  | k + 1, 0, l, hk, _, _ => by omega
  | k + 1, f + 1, l, hk, h, hj => by
    simp only [rootF]
    rw [if_neg (by have := hj 0 (by omega); simp only [rowN] at this; omega), rowN_succ]
    exact root_row k f (nextRow l) (by omega) (by rw [← rowN_succ]; exact h) (fun j hj' => by rw [← rowN_succ]; exact hj (j + 1) (by omega))
def pathTo (l : List UInt64) (i : Nat) : Nat → List (UInt64 × Bool)
  | 0 => []
  | k + 1 => pathTo l i k ++ stepOf (rowN l k) (i / 2 ^ k)
theorem pathTo_succ (l : List UInt64) (i k : Nat) : pathTo l i (k + 1) = stepOf l i ++ pathTo (nextRow l) (i / 2) k := by
  induction k with
  | zero => simp [pathTo, rowN]
  | succ k ih =>
    rw [pathTo, ih, pathTo, rowN_succ, List.append_assoc, Nat.pow_succ, Nat.mul_comm, Nat.div_div_eq_div_mul]
theorem path_row : ∀ (k f : Nat) (l : List UInt64) (i : Nat), k ≤ f → (rowN l k).length ≤ 1 → (∀ j, j < k → 1 < (rowN l j).length) → i < l.length → pathF f l i = pathTo l i (k + 1)
  | 0, f, l, i, _, h, _, hi => by
    have h1 : i = 0 := by simp only [rowN] at h; omega
    have h2 : l.length = 1 := by simp only [rowN] at h; omega
    subst h1
    have : stepOf l 0 = [] := by unfold stepOf; simp [h2]
    simp only [pathTo, rowN, Nat.zero_div, this, List.append_nil]
    cases f with
    | zero => rfl
    | succ f => simp only [pathF]; rw [if_pos (by omega)]
  | k + 1, 0, l, i, hk, _, _, _ => by omega
  | k + 1, f + 1, l, i, hk, h, hj, hi => by
    simp only [pathF]
    have h0 : 1 < l.length := hj 0 (by omega)
    rw [if_neg (by omega), pathTo_succ]
    congr 1
    exact path_row k f (nextRow l) (i / 2) (by omega) (by rw [← rowN_succ]; exact h) (fun j hj' => by rw [← rowN_succ]; exact hj (j + 1) (by omega)) (by rw [nextRow_length]; omega)
theorem rowN_len (l : List UInt64) (f : Nat) (hl : l.length ≤ 2 ^ f) (k : Nat) (hk : k ≤ f) : (rowN l k).length ≤ 2 ^ (f - k) := by
  induction k with
  | zero => simpa [rowN] using hl
  | succ k ih =>
    have h1 := ih (by omega)
    rw [rowN, nextRow_length]
    have : 2 ^ (f - k) = 2 * 2 ^ (f - (k + 1)) := by rw [show f - k = f - (k + 1) + 1 by omega, Nat.pow_succ]; omega
    omega
theorem rowN_lt (l : List UInt64) (i : Nat) (hi : i < l.length) (k : Nat) : i / 2 ^ k < (rowN l k).length := by
  induction k with
  | zero => simpa [rowN] using hi
  | succ k ih =>
    rw [rowN, nextRow_length, Nat.pow_succ, ← Nat.div_div_eq_div_mul]
    omega
end Go.Mk
