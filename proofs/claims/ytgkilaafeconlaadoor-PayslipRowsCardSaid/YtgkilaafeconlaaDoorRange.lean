/- Two laws for a range over a function whose iterator hands memory on: the record of the loop is named, the invariants are the caller's own. -/
import Derived.RangeFuncSeq
import Derived.RangeFuncRecord
import Derived.RangeFuncIn
import Derived.OrdersIn
import Derived.RangeFuncCalls
namespace Go.Rng
variable {F : Fence} {n : Nat} {P : Program}
/-- The record of a loop in its states. -/
def busyOf (r : Loop) : Obj := .loop { r with state := .busy, pending := none }
def readyOf (r : Loop) : Obj := .loop { r with state := .ready, pending := none }
def doneOf (r : Loop) (c : Code) : Obj := .loop { r with state := .done, pending := some c }
def overOf (r : Loop) (c : Option Code) : Obj := .loop { r with state := .exhausted, pending := c }
/-- How the body of a round may be left: the record is busy, and what yield hands back is what R takes. -/
def roundEnd (l : Nat) (r : Loop) (R : Ending → World → Prop) : Exit → Act → World → Prop
  | .normal, _, W => W.heap[l]? = some (busyOf r) ∧ R (.returned (.bool true)) (W.putObj l (readyOf r))
  | .ret, _, W => W.heap[l]? = some (busyOf r) ∧ R (.returned (.bool false)) (W.putObj l (doneOf r .ret))
  | .exit id, _, W => W.heap[l]? = some (busyOf r) ∧ R (.returned (.bool false)) (W.putObj l (doneOf r (.exit id)))
  | .goto t, _, W => W.heap[l]? = some (busyOf r) ∧ R (.returned (.bool false)) (W.putObj l (doneOf r (.goto t)))
  | .panic _, _, _ => False
  | .outgrown, _, _ => False
/-- One call of yield. -/
theorem yield_at {l : Nat} {r : Loop} {args : Array Value} {W : World} {R : Ending → World → Prop} {assign body : Code} {tmps : Array Value} (hl : W.heap[l]? = some (readyOf r)) (ha : r.assign = assign) (hb : r.body = body)
    (ht : (r.params.zip args).foldl (fun t (p, v) => t.setIfInBounds p v) r.tmps = tmps) (hs : args.size = r.params.size) (hF : F.fn r.fn)
    (h : assign.wpIn (F.inRound l) n P (Exit.then (fun a₁ W₁ => W₁.heap[l]? = some (readyOf r) ∧ body.wpIn (F.inRound l) n P (roundEnd l r R) a₁ (W₁.putObj l (busyOf r))) (fun _ _ _ => False))
      { tmps := tmps, defers := [] } W) : YieldAt F n P l args W R := by
  subst ha hb ht
  refine ⟨r.fn, _, r.assign, r.body, run_yield (r := { r with state := .ready, pending := none }) hl hs, roundIn_of_wpIn hF (wpIn_mono h ?_)⟩
  intro e a W1 h1
  cases e with
  | normal =>
    refine ⟨W1.putObj l (busyOf r), run_beginRound (r := { r with state := .ready, pending := none }) h1.1 rfl, wpIn_mono h1.2 ?_⟩
    intro e2 a2 W2 h2
    cases e2 with
    | normal => exact ⟨_, _, run_endRound (r := { r with state := .busy, pending := none }) none h2.1, h2.2⟩
    | ret => exact ⟨_, _, run_endRound (r := { r with state := .busy, pending := none }) (some .ret) h2.1, h2.2⟩
    | exit id => exact ⟨_, _, run_endRound (r := { r with state := .busy, pending := none }) (some (.exit id)) h2.1, h2.2⟩
    | goto t => exact ⟨_, _, run_endRound (r := { r with state := .busy, pending := none }) (some (.goto t)) h2.1, h2.2⟩
    | panic c => exact h2.elim
    | outgrown => exact h2.elim
  | ret => exact h1
  | exit id => exact h1
  | goto t => exact h1
  | panic c => exact h1
  | outgrown => exact h1
/-- What the iterator's call must come to. -/
def callEnd (F : Fence) (n : Nat) (P : Program) (l : Nat) (r : Loop) (Q : Exit → Act → World → Prop) (a : Act) (e : Ending) (W : World) : Prop :=
  ∃ v, e = .returned v ∧ ((W.heap[l]? = some (readyOf r) ∧ Q .normal a (W.putObj l (overOf r none))) ∨
    ∃ c, W.heap[l]? = some (doneOf r c) ∧ c.wpIn F n P Q a (W.putObj l (overOf r (some c))))
/-- The statement: the record is laid, the iterator is called. -/
theorem range_any {g : Operand} {ps : Array Tmp} {assign body : Code} {Q : Exit → Act → World → Prop} {a : Act} {w : World} (hro : F.round = none) (h1 : 1 ≤ n)
    {gf : Nat} {lb : Array Value} (hg : a.eval g = .func (.func gf) #[] lb) (hFg : F.fn gf) (eg : ∀ args w, (callFunc gf args).run P w = .ok (.enter gf args) w)
    (h : ∀ (r : Loop), F.fn r.fn → r.assign = assign → r.body = body → r.tmps = a.tmps → r.params = ps →
      CallsIn F (n - 1) P gf (#[.func (.yield (w.heap.size + 1)) #[] #[]] ++ lb) ((w.alloc (.deferred (some []))).alloc (readyOf r))
        (callEnd F n P (w.heap.size + 1) r Q { tmps := a.tmps, defers := { target := .collected w.heap.size, args := #[] } :: a.defers })) :
    (Code.rangeFunc g ps assign body).wpIn F n P Q a w := by
  refine wpIn_rangeFunc ?_
  intro fn hfn
  rw [hro]
  obtain ⟨r, hr⟩ : ∃ r : Loop, r = { state := .ready, pending := none, fn := fn, tmps := a.tmps, params := ps, assign := assign, body := body, defers := w.heap.size } := ⟨_, rfl⟩
  have hrr : readyOf r = .loop r := by rw [hr]; rfl
  refine ⟨w.heap.size + 1, [{ target := .collected w.heap.size, args := #[] }], (w.alloc (.deferred (some []))).alloc (readyOf r), { target := .fn (.func gf) lb, args := #[.func (.yield (w.heap.size + 1)) #[] #[]] }, (w.alloc (.deferred (some []))).alloc (readyOf r), gf,
    #[.func (.yield (w.heap.size + 1)) #[] #[]] ++ lb, (w.alloc (.deferred (some []))).alloc (readyOf r), ?_, ?_, ?_, ?_, fun _ => h1, ?_⟩
  · rw [hrr, hr]; exact run_enterLoop_outer _ _ _ _ _
  · simp only [resolve, hg]
    simp [go_sem]
  · intro f' hf'
    simp [Target.leads] at hf'
    subst hf'
    exact hFg
  · simp [invoke, go_sem, eg]
  · refine (h r (by rw [hr]; exact hfn) (by rw [hr]) (by rw [hr]) (by rw [hr]) (by rw [hr])).mono ?_
    rintro e W ⟨v, rfl, (⟨hl, hq⟩ | ⟨c, hl, hq⟩)⟩
    · exact ⟨none, _, run_endLoop (r := { r with state := .ready, pending := none }) hl (by simp), hq⟩
    · exact ⟨some c, _, run_endLoop (r := { r with state := .done, pending := some c }) hl (by simp), hq⟩
def noDefer (ops : Array Oper) : Bool := ops.all fun o => match o.op with
  | .defer _ => false
  | _ => true
theorem op_in {l : Nat} {o : Oper} (h : ∀ c, o.op ≠ .defer c) {a : Act} {w : World} {K K' : Act → World → Prop} {Q : Exit → Act → World → Prop} (hK : ∀ a w, K a w → K' a w) (hh : o.wpIn Fence.wide n P a w K Q) : o.wpIn (Fence.wide.inRound l) n P a w K' Q := by
  have h2 := Oper.wpIn_mono hK hh
  unfold Oper.wpIn at h2 ⊢
  refine ⟨fun f _ => trivial, ?_⟩
  have h3 := h2.2
  rw [Oper.semAt_eq _ _ _ h] at h3 ⊢
  generalize (execOp a.eval o).run P w = r at h3 ⊢
  cases r with
  | ok x w' =>
    cases x <;> exact h3
  | halt e w' => cases e <;> exact h3
theorem any_in {l : Nat} {md : Region.Mode} {ops : Array Oper} {Q : Exit → Act → World → Prop} (hd : noDefer ops = true) : ∀ (fuel : Nat) (listed : Array Bool) (a : Act) (w : World),
    wpAnyIn Fence.wide n P md ops Q fuel listed a w → wpAnyIn (Fence.wide.inRound l) n P md ops Q fuel listed a w
  | 0, _, _, _, h => h
  | fuel + 1, listed, a, w, h => by
    refine ⟨h.1, fun i hi => ?_⟩
    have hi2 := h.2 i hi
    unfold wpOpIn at hi2 ⊢
    cases ho : ops[i]? with
    | none => rw [ho] at hi2; exact any_in hd fuel _ _ _ hi2
    | some o =>
      rw [ho] at hi2
      simp only [] at hi2 ⊢
      have hnd : ∀ c, o.op ≠ .defer c := by
        intro c hc
        obtain ⟨hlt, hoe⟩ := Array.getElem?_eq_some_iff.1 ho
        have := Array.all_eq_true.1 hd i hlt
        rw [hoe, hc] at this
        cases this
      split
      · rename_i hw
        rw [if_pos hw] at hi2
        exact op_in hnd (fun a w => any_in hd fuel _ a w) hi2
      · rename_i hw
        rw [if_neg hw] at hi2
        exact ⟨fun f _ => trivial, any_in hd fuel _ _ _ hi2.2⟩
/-- A region that draws its order, in a round: as in the wide fence. -/
theorem region_in {l id : Nat} {ops : Array Oper} {Q : Exit → Act → World → Prop} {a : Act} {w : World} (hm : P.follows .mixedOrders = true) (hd : noDefer ops = true)
    (h : wpAnyIn Fence.wide n P .any ops Q ops.size (Array.replicate ops.size false) a w.drew) : (Code.region id ops true).wpIn (Fence.wide.inRound l) n P Q a w :=
  wpIn_region_any hm (any_in hd _ _ _ _ h)
end Go.Rng
