/- The walks of package merkle, fourth part: Path. -/
import Derived.Test.YtgkilaafeconlaaDoorMkW3
import Derived.BigRegionIn
namespace Go.Proofs.YtgkilaafeconlaaDoor
open Go.RowKit Go.Shelf
set_option linter.unusedVariables false
attribute [local go_sem] Oper.semAt_some
/-- The run of an append, folded, so that a fact on it can be laid ahead of a region. -/
def appRes (P : Program) (t ty : TypeId) (args : Array Value) (w : World) : Result Value := (Builtin.append_ #[t, t] ty args).run P w
theorem append_fold {P : Program} {ro : Option Nat} {ρ : Operand → Value} {d : Option Tmp} {s x : Operand} {t ty : TypeId} {p : String} {af : Array Edge} {gd : Option (Nat × Bool)} {w : World} :
    Sem.run P (Oper.semAt ro ρ { dst := d, op := Op.call { callee := Callee.builtin Builtin.append, args := #[s, x], argTypes := #[t, t] }, type := ty, pos := p, after := af, guard := gd }) w = (appRes P t ty #[ρ s, ρ x] w).andThen (fun v w' => .ok (.value v) w') := by
  rw [Oper.semAt_eq ro ρ _ (fun c h => by cases h)]
  unfold execOp appRes
  simp only [resolve, invoke, builtin, Sem.run_bind, Sem.run_pure, Result.andThen_ok, List.map_toArray, List.map_cons, List.map_nil]
theorem append_fold2 {P : Program} {ρ : Operand → Value} {d : Option Tmp} {s x : Operand} {t ty : TypeId} {p : String} {af : Array Edge} {gd : Option (Nat × Bool)} {w : World} :
    Sem.run P (execOp ρ { dst := d, op := Op.call { callee := Callee.builtin Builtin.append, args := #[s, x], argTypes := #[t, t] }, type := ty, pos := p, after := af, guard := gd }) w = (appRes P t ty #[ρ s, ρ x] w).andThen (fun v w' => .ok (.value v) w') := by
  unfold execOp appRes
  simp only [resolve, invoke, builtin, Sem.run_bind, Sem.run_pure, Result.andThen_ok, List.map_toArray, List.map_cons, List.map_nil]
theorem app_step {n : Nat} {P : Program} {o : Oper} {d : Option Tmp} {s x : Operand} {t ty : TypeId} {ops : Array Oper} {a a' : Act} {w W5 : World} {K : Act → World → Prop} {Q : Exit → Act → World → Prop} {v : Value}
    (hop : o.op = Op.call { callee := Callee.builtin Builtin.append, args := #[s, x], argTypes := #[t, t] }) (hg : o.guard = none) (hd : o.dst = d) (hty : o.type = ty)
    (h : appRes P t ty #[a.eval s, a.eval x] w = .ok v W5) (ha : a.put d v = a') (hk : K a' W5) :
    if Region.wanted o (yielded ops a.tmps) = true then Oper.wpIn Fence.wide n P o a w K Q else (∀ f, o.about P w a.eval = some f → Fence.wide.fn f) ∧ K (a.put o.dst undef) w := by
  obtain ⟨d', op', ty', p', af', g'⟩ := o
  cases hop; cases hg; cases hd; cases hty
  rw [if_pos (by simp [Region.wanted])]
  refine ⟨fun f _ => trivial, ?_⟩
  rw [append_fold, h]
  subst ha
  exact hk
attribute [local go_sem ↓] append_fold append_fold2
def forkV (l : List (UInt64 × Bool)) : List Value := l.flatMap fun p => [.int .u64 p.1.toNat, .bool p.2]
theorem forkV_len (l : List (UInt64 × Bool)) : (forkV l).length = l.length * 2 := by
  induction l with
  | nil => rfl
  | cons a l ih => simp [forkV] at ih ⊢; omega
theorem forkV_snoc (l : List (UInt64 × Bool)) (x : UInt64) (b : Bool) : forkV (l ++ [(x, b)]) = forkV l ++ [.int .u64 x.toNat, .bool b] := by simp [forkV]
def pathV (ss : List ByteArray) (i : Nat) : List (UInt64 × Bool) := Mk.pathF 10 (leavesD ss) i
theorem rows_bound (l : List UInt64) (hl : l.length ≤ 1024) (k : Nat) (h : ∀ j, j < k → 1 < (Mk.rowN l j).length) : k ≤ 10 := by
  rcases Nat.lt_or_ge 10 k with h1 | h1
  · have h10 := h 10 h1
    have := Mk.rowN_len l 10 (by omega) 10 (Nat.le_refl _)
    simp at this; omega
  · exact h1
theorem pathTo_len (l : List UInt64) (i k : Nat) : (Mk.pathTo l i k).length ≤ k := by
  induction k with
  | zero => exact Nat.le_refl _
  | succ k ih =>
    have : (Mk.stepOf (Mk.rowN l k) (i / 2 ^ k)).length ≤ 1 := by
      unfold Mk.stepOf
      split
      · exact Nat.le_refl _
      · split
        · exact Nat.le_refl _
        · exact Nat.zero_le _
    rw [Mk.pathTo, List.length_append]
    omega
end Go.Proofs.YtgkilaafeconlaaDoor
