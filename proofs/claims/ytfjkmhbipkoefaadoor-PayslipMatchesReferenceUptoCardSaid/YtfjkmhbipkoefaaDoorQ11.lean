/- Regions that draw their order, walked inside the wide fence: an operation that yields its value in every world that meets S is taken first (for a call of yield beside loads and calls). -/
import Derived.OrdersIn
import Derived.OrdersHeld
import Derived.Deep.RegionHeld
import Derived.CallsIn
namespace Go.Rng
variable {n : Nat} {P : Program} {ops : Array Oper} {Q : Exit → Act → World → Prop} {md : Region.Mode} {S : World → Prop}
/-- One operation in the wide fence. -/
theorem one_if {i : Nat} {o : Oper} {v : Value} {a : Act} (hi : ops[i]? = some o) (hy : YieldsIf P ops S o v a) {K : Act → World → Prop} {w : World} (hS : S w) (h : K (a.put o.dst v) w) : wpOpIn Fence.wide n P ops Q i K a w := by
  unfold wpOpIn
  rw [hi]
  dsimp only
  cases hy with
  | inl hv =>
    rw [if_pos hv.1]
    refine ⟨fun _ _ => trivial, ?_⟩
    show o.uponIn Fence.wide n P a K Q ((o.semAt none a.eval).run P w)
    rw [Oper.semAt_none, hv.2 w hS]
    exact h
  | inr hv =>
    rw [if_neg (by rw [hv.1]; exact Bool.false_ne_true)]
    exact ⟨fun _ _ => trivial, by rw [← hv.2]; exact h⟩
/-- Another operation, apart from it, may come before. -/
theorem other_if {j : Nat} {oi oj : Oper} {v : Value} (hj : ops[j]? = some oj) (hap : oi.apart ops oj = true) (hsi : ∀ cs b, oi.op ≠ .select cs b) (hsj : ∀ cs b, oj.op ≠ .select cs b)
    (hQ : ∀ c a w, Q (.panic c) (a.put oi.dst v) w → Q (.panic c) a w) {K : Act → World → Prop} {a : Act} {w : World} (hy : YieldsIf P ops S oi v a) (h : wpOpIn Fence.wide n P ops Q j K (a.put oi.dst v) w) :
    wpOpIn Fence.wide n P ops Q j (fun a' w' => YieldsIf P ops S oi v a' ∧ K (a'.put oi.dst v) w') a w := by
  obtain ⟨h1, h2, h3⟩ := Oper.apart_spec hap
  have still : ∀ (b : Act), YieldsIf P ops S oi v b → ∀ u, YieldsIf P ops S oi v (b.put oj.dst u) := fun b hb u => hb.of_same (execOp_put oi hsi b oj.dst u h3) (wanted_put oi b oj.dst u h3)
  unfold wpOpIn at h ⊢
  rw [hj] at h ⊢
  dsimp only at h ⊢
  rw [wanted_put oj a oi.dst v h1] at h
  by_cases hw : Region.wanted oj (yielded ops a.tmps) = true
  · rw [if_pos hw] at h ⊢
    refine ⟨fun _ _ => trivial, ?_⟩
    have h' : oj.uponIn Fence.wide n P (a.put oi.dst v) K Q ((oj.semAt none (a.put oi.dst v).eval).run P w) := h.2
    show oj.uponIn Fence.wide n P a _ Q ((oj.semAt none a.eval).run P w)
    rw [Oper.semAt_none, execOp_put oj hsj a oi.dst v h1] at h'
    rw [Oper.semAt_none]
    revert h'
    generalize (execOp a.eval oj).run P w = r
    intro h'
    have back : ∀ e w'', (match e, w'' with
      | Ending.returned u, w'' => K ((a.put oi.dst v).put oj.dst u) w''
      | Ending.panicked chain, w'' => Q (.panic chain) (a.put oi.dst v) w''
      | Ending.outgrown, _ => LetsOut Q) → (match e, w'' with
      | Ending.returned u, w'' => (fun a' w' => YieldsIf P ops S oi v a' ∧ K (a'.put oi.dst v) w') (a.put oj.dst u) w''
      | Ending.panicked chain, w'' => Q (.panic chain) a w''
      | Ending.outgrown, _ => LetsOut Q) := by
      intro e w'' he
      cases e with
      | returned u => exact ⟨still a hy u, by rw [← Act.put_comm a v u h2]; exact he⟩
      | panicked c => exact hQ _ _ _ he
      | outgrown => exact he
    cases r with
    | ok x w' =>
      cases x <;> simp only [Oper.uponIn] at h' ⊢
      case value u => exact ⟨still a hy u, by rw [← Act.put_comm a v u h2]; exact h'⟩
      case skip => exact ⟨still a hy _, by rw [← Act.put_comm a v undef h2]; exact h'⟩
      case defer d =>
        have hyd : YieldsIf P ops S oi v { a with defers := d :: a.defers } := hy.of_same rfl rfl
        refine ⟨still _ hyd _, ?_⟩
        rw [← Act.put_comm _ v undef h2, ← Act.put_defers]
        exact h'
      case enter f args => exact ⟨h'.1, CallsIn.mono h'.2 back⟩
      case row r args => exact ⟨h'.1, RowsIn.mono h'.2 fun u w'' he => ⟨still a hy u, by rw [← Act.put_comm a v u h2]; exact he⟩⟩
      case round l f t ar bd => exact ⟨h'.1, RoundIn.mono h'.2 back⟩
    | halt x w' =>
      cases x <;> simp only [Oper.uponIn] at h' ⊢
      case panic u => exact hQ _ _ _ h'
  · rw [if_neg hw] at h ⊢
    exact ⟨fun _ _ => trivial, still a hy _, by rw [← Act.put_comm a v undef h2]; exact h.2⟩
/-- Whatever order is drawn from here on, and S holds behind each operation. -/
def anyHeld (n : Nat) (P : Program) (md : Region.Mode) (ops : Array Oper) (Q : Exit → Act → World → Prop) (S : World → Prop) : Nat → Array Bool → Act → World → Prop
  | 0, listed, a, w => Region.ready md ops listed = [] ∧ Q .normal a w
  | fuel + 1, listed, a, w => (Region.ready md ops listed = [] → Q .normal a w) ∧ ∀ i ∈ Region.ready md ops listed, wpOpIn Fence.wide n P ops Q i (fun a' w' => S w' ∧ anyHeld n P md ops Q S fuel (listed.setIfInBounds i true) a' w') a w
theorem any_of_held : ∀ (fuel : Nat) (listed : Array Bool) (a : Act) (w : World), anyHeld n P md ops Q S fuel listed a w → wpAnyIn Fence.wide n P md ops Q fuel listed a w
  | 0, _, _, _, h => h
  | fuel + 1, _, _, _, h => ⟨h.1, fun i hi => wpOpIn_mono (fun a' w' h' => any_of_held fuel _ a' w' h'.2) (h.2 i hi)⟩
theorem held_first {i : Nat} {oi : Oper} {v : Value} (hi : ops[i]? = some oi) (hsel : ∀ (j : Nat) (o : Oper) cs b, ops[j]? = some o → o.op ≠ .select cs b) (hQ : ∀ c a w, Q (.panic c) (a.put oi.dst v) w → Q (.panic c) a w) :
    ∀ (fuel : Nat) (listed : Array Bool) (a : Act) (w : World), (∀ j oj, ops[j]? = some oj → j ≠ i → listed.getD j true = false → (∀ e ∈ oj.after, Region.binds md e = true → e.on ≠ i) → oi.apart ops oj = true) →
      i ∈ Region.ready md ops listed → YieldsIf P ops S oi v a → S w → anyHeld n P md ops Q S fuel (listed.setIfInBounds i true) (a.put oi.dst v) w → anyHeld n P md ops Q S (fuel + 1) listed a w
  | fuel, listed, a, w, hfree, hr, hy, hS, H => by
    refine ⟨fun h => absurd hr (by rw [h]; exact List.not_mem_nil), fun j hj => ?_⟩
    by_cases hji : j = i
    · rw [hji]
      exact one_if hi hy hS ⟨hS, H⟩
    · obtain ⟨hjun, oj, hoj, hall⟩ := mem_ready.1 hj
      have hri : listed.getD i true = false := (mem_ready.1 hr).1
      have hlt : i < listed.size := by
        rcases Nat.lt_or_ge i listed.size with h | h
        · exact h
        · rw [Array.getD_eq_getD_getElem?, Array.getElem?_eq_none h] at hri
          cases hri
      have hnot : ∀ e ∈ oj.after, Region.binds md e = true → e.on ≠ i := by
        intro e he hb heq
        have hx := hall e he hb
        rw [heq] at hx
        rw [Array.getD_eq_getD_getElem?, Array.getElem?_eq_getElem hlt] at hri hx
        simp only [Option.getD_some] at hri hx
        rw [hri] at hx
        cases hx
      cases fuel with
      | zero =>
        have hj' := ready_mono hj hji
        rw [H.1] at hj'
        cases hj'
      | succ fuel =>
        have h2 := other_if hoj (hfree j oj hoj hji hjun hnot) (fun cs b => hsel i oi cs b hi) (fun cs b => hsel j oj cs b hoj) hQ hy (H.2 j (ready_mono hj hji))
        refine wpOpIn_mono ?_ h2
        rintro a' w' ⟨hy', hS', h3⟩
        refine ⟨hS', held_first hi hsel hQ fuel (listed.setIfInBounds j true) a' w' ?_ (ready_mono hr (Ne.symm hji)) hy' hS' ?_⟩
        · intro k ok hk hki hun hno
          refine hfree k ok hk hki ?_ hno
          by_cases hjk : j = k
          · rw [← hjk]; exact hjun
          · rwa [getD_set_ne true hjk] at hun
        · rw [Array.setIfInBounds_comm _ _ hji]
          exact h3
theorem held_take {i : Nat} {oi : Oper} {v : Value} {fuel : Nat} {listed : Array Bool} {a : Act} {w : World} (hi : ops[i]? = some oi) (hs : Region.noSelect ops = true) (hf : Region.free md ops listed i = true) (hr : (Region.ready md ops listed).contains i = true)
    (hQ : ∀ c a w, Q (.panic c) (a.put oi.dst v) w → Q (.panic c) a w) (hy : YieldsIf P ops S oi v a) (hS : S w) (h : anyHeld n P md ops Q S fuel (listed.setIfInBounds i true) (a.put oi.dst v) w) : anyHeld n P md ops Q S (fuel + 1) listed a w :=
  held_first hi (Region.noSelect_spec hs) hQ fuel listed a w (Region.free_spec hi hf) (by simpa using hr) hy hS h
/-- Each of the operations that may come up. -/
def allHeld (n : Nat) (P : Program) (md : Region.Mode) (ops : Array Oper) (Q : Exit → Act → World → Prop) (S : World → Prop) (fuel : Nat) (listed : Array Bool) (a : Act) (w : World) (rs : List Nat) : Prop :=
  ∀ i ∈ rs, wpOpIn Fence.wide n P ops Q i (fun a' w' => S w' ∧ anyHeld n P md ops Q S fuel (listed.setIfInBounds i true) a' w') a w
theorem allHeld.nil {fuel : Nat} {listed : Array Bool} {a : Act} {w : World} : allHeld n P md ops Q S fuel listed a w [] := fun _ h => by cases h
theorem allHeld.cons {fuel : Nat} {listed : Array Bool} {a : Act} {w : World} {i : Nat} {o : Oper} {rs : List Nat} (ho : ops[i]? = some o)
    (h : ∀ K' : Act → World → Prop, Shut (∀ a w, S w → (S w → anyHeld n P md ops Q S fuel (listed.setIfInBounds i true) a w) → K' a w) → if Region.wanted o (yielded ops a.tmps) = true then Oper.wpIn Fence.wide n P o a w K' Q else K' (a.put o.dst undef) w)
    (hs : allHeld n P md ops Q S fuel listed a w rs) : allHeld n P md ops Q S fuel listed a w (i :: rs) := fun j hj => by
  rcases List.mem_cons.1 hj with hji | hj
  · rw [hji]
    have hk := h (fun a' w' => S w' ∧ anyHeld n P md ops Q S fuel (listed.setIfInBounds i true) a' w') (fun a w hS hW => ⟨hS, hW hS⟩)
    unfold wpOpIn
    rw [ho]
    dsimp only
    by_cases hw : Region.wanted o (yielded ops a.tmps) = true
    · rw [if_pos hw] at hk ⊢; exact hk
    · rw [if_neg hw] at hk ⊢; exact ⟨fun _ _ => trivial, hk⟩
  · exact hs j hj
theorem held_ready {rs : List Nat} {fuel : Nat} {listed : Array Bool} {a : Act} {w : World} (hr : Region.ready md ops listed = rs) (hne : rs ≠ []) (h : allHeld n P md ops Q S fuel listed a w rs) : anyHeld n P md ops Q S (fuel + 1) listed a w :=
  ⟨fun h0 => absurd (hr ▸ h0) hne, hr ▸ h⟩
theorem held_done {listed : Array Bool} {a : Act} {w : World} (hr : Region.ready md ops listed = []) (h : Q .normal a w) : ∀ fuel, anyHeld n P md ops Q S fuel listed a w
  | 0 => ⟨hr, h⟩
  | _ + 1 => ⟨fun _ => h, by rw [hr]; simp⟩
theorem region_held_in {id : Nat} {a : Act} {w : World} (hm : P.follows .mixedOrders = true) (hS : S w.drew) (h : S w.drew → anyHeld n P .any ops Q S ops.size (Array.replicate ops.size false) a w.drew) : (Code.region id ops true).wpIn Fence.wide n P Q a w :=
  wpIn_region_any hm (any_of_held _ _ _ _ (h hS))
end Go.Rng
