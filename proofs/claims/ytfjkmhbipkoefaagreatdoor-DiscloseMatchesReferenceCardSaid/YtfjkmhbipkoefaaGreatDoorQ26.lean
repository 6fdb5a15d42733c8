/- Regions that draw their order, walked inside the wide fence: an operation that yields its value in every world that meets S is taken first (for a call of yield beside loads and calls). The walks of payslip's rows and of its iterator. The walk of payslip.Rows. The walk of payslip.Seal. The walk of the law package's Case (layer 35). Plain facts behind the fixed example of layer 35: powers by squaring; the example's blinding numbers and roots. pick and the plain part of Result (layer 35). -/
import Derived.OrdersIn
import Derived.OrdersHeld
import Derived.Deep.RegionHeld
import Derived.CallsIn
import Derived.Test.YtfjkmhbipkoefaaGreatDoorQ06
import Derived.Test.YtfjkmhbipkoefaaGreatDoorQ03
import Derived.StillTailTactics
import Derived.OwnWalkIn
import Derived.TacticsInMore
import Derived.LoopNIn
import Derived.LoopIn
import Derived.RangeFuncBox
import Derived.RangeFuncLeaves
import Derived.Shelf.Abstract
import Derived.Test.YtfjkmhbipkoefaaGreatDoorQ04
import Derived.Test.YtfjkmhbipkoefaaGreatDoorQ09
import Derived.Test.YtfjkmhbipkoefaaGreatDoorQ02
import Derived.OpenShut
namespace Go.Rng
variable {n : Nat} {P : Program} {ops : Array Oper} {Q : Exit → Act → World → Prop} {md : Region.Mode} {S : World → Prop}
/-- One operation in the wide fence. -/
theorem one_if {i : Nat} {o : Oper} {v : Value} {a : Act} (hi : ops[i]? = some o) (hy : YieldsIf P ops S o v a) {K : Act → World → Prop} {w : World} (hS : S w) (h : K (a.put o.dst v) w) : wpOpIn Fence.wide n P ops Q i K a w := by
  unfold wpOpIn
  rw [hi]
  dsimp only
  cases hy with
  | inl hv =>
    rw [if_pos hv.1]
    refine ⟨fun _ _ => trivial, ?_⟩
    show o.uponIn Fence.wide n P a K Q ((o.semAt none a.eval).run P w)
    rw [Oper.semAt_none, hv.2 w hS]
    exact h
  | inr hv =>
    rw [if_neg (by rw [hv.1]; exact Bool.false_ne_true)]
    exact ⟨fun _ _ => trivial, by rw [← hv.2]; exact h⟩
/-- Another operation, apart from it, may come before. -/
theorem other_if {j : Nat} {oi oj : Oper} {v : Value} (hj : ops[j]? = some oj) (hap : oi.apart ops oj = true) (hsi : ∀ cs b, oi.op ≠ .select cs b) (hsj : ∀ cs b, oj.op ≠ .select cs b)
    (hQ : ∀ c a w, Q (.panic c) (a.put oi.dst v) w → Q (.panic c) a w) {K : Act → World → Prop} {a : Act} {w : World} (hy : YieldsIf P ops S oi v a) (h : wpOpIn Fence.wide n P ops Q j K (a.put oi.dst v) w) :
    wpOpIn Fence.wide n P ops Q j (fun a' w' => YieldsIf P ops S oi v a' ∧ K (a'.put oi.dst v) w') a w := by
  obtain ⟨h1, h2, h3⟩ := Oper.apart_spec hap
  have still : ∀ (b : Act), YieldsIf P ops S oi v b → ∀ u, YieldsIf P ops S oi v (b.put oj.dst u) := fun b hb u => hb.of_same (execOp_put oi hsi b oj.dst u h3) (wanted_put oi b oj.dst u h3)
  unfold wpOpIn at h ⊢
  rw [hj] at h ⊢
  dsimp only at h ⊢
  rw [wanted_put oj a oi.dst v h1] at h
  by_cases hw : Region.wanted oj (yielded ops a.tmps) = true
  · rw [if_pos hw] at h ⊢
    refine ⟨fun _ _ => trivial, ?_⟩
    have h' : oj.uponIn Fence.wide n P (a.put oi.dst v) K Q ((oj.semAt none (a.put oi.dst v).eval).run P w) := h.2
    show oj.uponIn Fence.wide n P a _ Q ((oj.semAt none a.eval).run P w)
    rw [Oper.semAt_none, execOp_put oj hsj a oi.dst v h1] at h'
    rw [Oper.semAt_none]
    revert h'
    generalize (execOp a.eval oj).run P w = r
    intro h'
    have back : ∀ e w'', (match e, w'' with
      | Ending.returned u, w'' => K ((a.put oi.dst v).put oj.dst u) w''
      | Ending.panicked chain, w'' => Q (.panic chain) (a.put oi.dst v) w''
      | Ending.outgrown, _ => LetsOut Q) → (match e, w'' with
      | Ending.returned u, w'' => (fun a' w' => YieldsIf P ops S oi v a' ∧ K (a'.put oi.dst v) w') (a.put oj.dst u) w''
      | Ending.panicked chain, w'' => Q (.panic chain) a w''
      | Ending.outgrown, _ => LetsOut Q) := by
      intro e w'' he
      cases e with
      | returned u => exact ⟨still a hy u, by rw [← Act.put_comm a v u h2]; exact he⟩
      | panicked c => exact hQ _ _ _ he
      | outgrown => exact he
    cases r with
    | ok x w' =>
      cases x <;> simp only [Oper.uponIn] at h' ⊢
      case value u => exact ⟨still a hy u, by rw [← Act.put_comm a v u h2]; exact h'⟩
      case skip => exact ⟨still a hy _, by rw [← Act.put_comm a v undef h2]; exact h'⟩
      case defer d =>
        have hyd : YieldsIf P ops S oi v { a with defers := d :: a.defers } := hy.of_same rfl rfl
        refine ⟨still _ hyd _, ?_⟩
        rw [← Act.put_comm _ v undef h2, ← Act.put_defers]
        exact h'
      case enter f args => exact ⟨h'.1, CallsIn.mono h'.2 back⟩
      case row r args => exact ⟨h'.1, RowsIn.mono h'.2 fun u w'' he => ⟨still a hy u, by rw [← Act.put_comm a v u h2]; exact he⟩⟩
      case round l f t ar bd => exact ⟨h'.1, RoundIn.mono h'.2 back⟩
    | halt x w' =>
      cases x <;> simp only [Oper.uponIn] at h' ⊢
      case panic u => exact hQ _ _ _ h'
  · rw [if_neg hw] at h ⊢
    exact ⟨fun _ _ => trivial, still a hy _, by rw [← Act.put_comm a v undef h2]; exact h.2⟩
/-- Whatever order is drawn from here on, and S holds behind each operation. -/
def anyHeld (n : Nat) (P : Program) (md : Region.Mode) (ops : Array Oper) (Q : Exit → Act → World → Prop) (S : World → Prop) : Nat → Array Bool → Act → World → Prop
  | 0, listed, a, w => Region.ready md ops listed = [] ∧ Q .normal a w
  | fuel + 1, listed, a, w => (Region.ready md ops listed = [] → Q .normal a w) ∧ ∀ i ∈ Region.ready md ops listed, wpOpIn Fence.wide n P ops Q i (fun a' w' => S w' ∧ anyHeld n P md ops Q S fuel (listed.setIfInBounds i true) a' w') a w
theorem any_of_held : ∀ (fuel : Nat) (listed : Array Bool) (a : Act) (w : World), anyHeld n P md ops Q S fuel listed a w → wpAnyIn Fence.wide n P md ops Q fuel listed a w
  | 0, _, _, _, h => h
  | fuel + 1, _, _, _, h => ⟨h.1, fun i hi => wpOpIn_mono (fun a' w' h' => any_of_held fuel _ a' w' h'.2) (h.2 i hi)⟩
theorem held_first {i : Nat} {oi : Oper} {v : Value} (hi : ops[i]? = some oi) (hsel : ∀ (j : Nat) (o : Oper) cs b, ops[j]? = some o → o.op ≠ .select cs b) (hQ : ∀ c a w, Q (.panic c) (a.put oi.dst v) w → Q (.panic c) a w) :
    ∀ (fuel : Nat) (listed : Array Bool) (a : Act) (w : World), (∀ j oj, ops[j]? = some oj → j ≠ i → listed.getD j true = false → (∀ e ∈ oj.after, Region.binds md e = true → e.on ≠ i) → oi.apart ops oj = true) →
      i ∈ Region.ready md ops listed → YieldsIf P ops S oi v a → S w → anyHeld n P md ops Q S fuel (listed.setIfInBounds i true) (a.put oi.dst v) w → anyHeld n P md ops Q S (fuel + 1) listed a w
  | fuel, listed, a, w, hfree, hr, hy, hS, H => by
    refine ⟨fun h => absurd hr (by rw [h]; exact List.not_mem_nil), fun j hj => ?_⟩
    by_cases hji : j = i
    · rw [hji]
      exact one_if hi hy hS ⟨hS, H⟩
    · obtain ⟨hjun, oj, hoj, hall⟩ := mem_ready.1 hj
      have hri : listed.getD i true = false := (mem_ready.1 hr).1
      have hlt : i < listed.size := by
        rcases Nat.lt_or_ge i listed.size with h | h
        · exact h
        · rw [Array.getD_eq_getD_getElem?, Array.getElem?_eq_none h] at hri
          cases hri
      have hnot : ∀ e ∈ oj.after, Region.binds md e = true → e.on ≠ i := by
        intro e he hb heq
        have hx := hall e he hb
        rw [heq] at hx
        rw [Array.getD_eq_getD_getElem?, Array.getElem?_eq_getElem hlt] at hri hx
        simp only [Option.getD_some] at hri hx
        rw [hri] at hx
        cases hx
      cases fuel with
      | zero =>
        have hj' := ready_mono hj hji
        rw [H.1] at hj'
        cases hj'
      | succ fuel =>
        have h2 := other_if hoj (hfree j oj hoj hji hjun hnot) (fun cs b => hsel i oi cs b hi) (fun cs b => hsel j oj cs b hoj) hQ hy (H.2 j (ready_mono hj hji))
        refine wpOpIn_mono ?_ h2
        rintro a' w' ⟨hy', hS', h3⟩
        refine ⟨hS', held_first hi hsel hQ fuel (listed.setIfInBounds j true) a' w' ?_ (ready_mono hr (Ne.symm hji)) hy' hS' ?_⟩
        · intro k ok hk hki hun hno
          refine hfree k ok hk hki ?_ hno
          by_cases hjk : j = k
          · rw [← hjk]; exact hjun
          · rwa [getD_set_ne true hjk] at hun
        · rw [Array.setIfInBounds_comm _ _ hji]
          exact h3
theorem held_take {i : Nat} {oi : Oper} {v : Value} {fuel : Nat} {listed : Array Bool} {a : Act} {w : World} (hi : ops[i]? = some oi) (hs : Region.noSelect ops = true) (hf : Region.free md ops listed i = true) (hr : (Region.ready md ops listed).contains i = true)
    (hQ : ∀ c a w, Q (.panic c) (a.put oi.dst v) w → Q (.panic c) a w) (hy : YieldsIf P ops S oi v a) (hS : S w) (h : anyHeld n P md ops Q S fuel (listed.setIfInBounds i true) (a.put oi.dst v) w) : anyHeld n P md ops Q S (fuel + 1) listed a w :=
  held_first hi (Region.noSelect_spec hs) hQ fuel listed a w (Region.free_spec hi hf) (by simpa using hr) hy hS h
/-- Each of the operations that may come up. -/
def allHeld (n : Nat) (P : Program) (md : Region.Mode) (ops : Array Oper) (Q : Exit → Act → World → Prop) (S : World → Prop) (fuel : Nat) (listed : Array Bool) (a : Act) (w : World) (rs : List Nat) : Prop :=
  ∀ i ∈ rs, wpOpIn Fence.wide n P ops Q i (fun a' w' => S w' ∧ anyHeld n P md ops Q S fuel (listed.setIfInBounds i true) a' w') a w
theorem allHeld.nil {fuel : Nat} {listed : Array Bool} {a : Act} {w : World} : allHeld n P md ops Q S fuel listed a w [] := fun _ h => by cases h
theorem allHeld.cons {fuel : Nat} {listed : Array Bool} {a : Act} {w : World} {i : Nat} {o : Oper} {rs : List Nat} (ho : ops[i]? = some o)
    (h : ∀ K' : Act → World → Prop, Shut (∀ a w, S w → (S w → anyHeld n P md ops Q S fuel (listed.setIfInBounds i true) a w) → K' a w) → if Region.wanted o (yielded ops a.tmps) = true then Oper.wpIn Fence.wide n P o a w K' Q else K' (a.put o.dst undef) w)
    (hs : allHeld n P md ops Q S fuel listed a w rs) : allHeld n P md ops Q S fuel listed a w (i :: rs) := fun j hj => by
  rcases List.mem_cons.1 hj with hji | hj
  · rw [hji]
    have hk := h (fun a' w' => S w' ∧ anyHeld n P md ops Q S fuel (listed.setIfInBounds i true) a' w') (fun a w hS hW => ⟨hS, hW hS⟩)
    unfold wpOpIn
    rw [ho]
    dsimp only
    by_cases hw : Region.wanted o (yielded ops a.tmps) = true
    · rw [if_pos hw] at hk ⊢; exact hk
    · rw [if_neg hw] at hk ⊢; exact ⟨fun _ _ => trivial, hk⟩
  · exact hs j hj
theorem held_ready {rs : List Nat} {fuel : Nat} {listed : Array Bool} {a : Act} {w : World} (hr : Region.ready md ops listed = rs) (hne : rs ≠ []) (h : allHeld n P md ops Q S fuel listed a w rs) : anyHeld n P md ops Q S (fuel + 1) listed a w :=
  ⟨fun h0 => absurd (hr ▸ h0) hne, hr ▸ h⟩
theorem held_done {listed : Array Bool} {a : Act} {w : World} (hr : Region.ready md ops listed = []) (h : Q .normal a w) : ∀ fuel, anyHeld n P md ops Q S fuel listed a w
  | 0 => ⟨hr, h⟩
  | _ + 1 => ⟨fun _ => h, by rw [hr]; simp⟩
theorem region_held_in {id : Nat} {a : Act} {w : World} (hm : P.follows .mixedOrders = true) (hS : S w.drew) (h : S w.drew → anyHeld n P .any ops Q S ops.size (Array.replicate ops.size false) a w.drew) : (Code.region id ops true).wpIn Fence.wide n P Q a w :=
  wpIn_region_any hm (any_of_held _ _ _ _ (h hS))
end Go.Rng
namespace Go.Proofs.YtfjkmhbipkoefaaGreatDoor
open Go.RowKit Go.Shelf
set_option linter.unusedVariables false
set_option linter.unusedSimpArgs false
set_option maxRecDepth 100000
attribute [local go_sem] Oper.semAt_some
instance : Inhabited DeclD := ⟨⟨⟨#[]⟩, ⟨#[]⟩, 0⟩⟩
instance : Inhabited LineM := ⟨⟨0, 0, 0, 0, none, 0, [], none, 0, []⟩⟩
/-- The row of a line, if there is one. -/
noncomputable def rowOf (ds : List DeclD) (nums : List Int) (cur : ByteArray) (x : LineM) : List RowD :=
  if (ds.getD x.line.toNat default).unit = cur ∧ (ds.getD x.line.toNat default).role ≠ 4 then [⟨(ds.getD x.line.toNat default).name, x.amt, reasonB nums x⟩] else []
def tSum : ByteArray := ⟨#[115, 117, 109]⟩
def sumsL (g t d f : Int) : List RowD := [⟨⟨#[103, 114, 111, 115, 115]⟩, g, ⟨#[115, 117, 109]⟩⟩, ⟨⟨#[116, 97, 120]⟩, t, ⟨#[116, 97, 120]⟩⟩, ⟨⟨#[100, 101, 100, 117, 99, 116]⟩, d, ⟨#[115, 117, 109]⟩⟩, ⟨⟨#[102, 108, 111, 111, 114]⟩, f, ⟨#[115, 117, 109]⟩⟩]
def orderR (t : Int × Int) : RowD := ⟨⟨#[111, 114, 100, 101, 114, 32]⟩ ++ itoaB t.1, t.2, ⟨#[111, 114, 100, 101, 114]⟩⟩
def netR (n : Int) : RowD := ⟨⟨#[110, 101, 116]⟩, n, ⟨#[114, 101, 115, 116]⟩⟩
def tailR (s : SlipM) : List RowD := sumsL s.gross s.tax s.deduct s.floor ++ s.taken.map orderR ++ [netR s.net]
noncomputable def rowsL (c : CaseM) (s : SlipM) : List RowD := s.lines.flatMap (rowOf c.ds c.nums c.cur) ++ tailR s
/-- What the iterator needs of each call of yield: the loop may write blocks below B0 and its own block g. -/
def RowsYield (P : Program) (l m B0 : Nat) (R : List RowD) (J : Nat → Nat → World → Prop) (E : World → Prop) : Prop :=
  ∀ (k g : Nat) (W0 W1 : World) (x : RowD), R[k]? = some x → J k g W0 → Below W0.heap.size W0 W1 →
    YieldAt Fence.wide m P l #[.agg #[.string x.l, .int .i64 x.c, .string x.r]] W1 fun e W' => ((e = .returned (.bool true) ∧ ∃ g', J (k + 1) g' W' ∧ (g' = g ∨ W1.heap.size ≤ g')) ∨ (e = .returned (.bool false) ∧ E W')) ∧
      (∀ b, B0 ≤ b → b ≠ g → b < W1.heap.size → W'.heap[b]? = W1.heap[b]?) ∧ W1.heap.size ≤ W'.heap.size
theorem rowOf_one {ds : List DeclD} {nums : List Int} {cur : ByteArray} {x : LineM} {d : DeclD} (hd : ds.getD x.line.toNat default = d) (h1 : d.unit = cur) (h2 : d.role ≠ 4) : rowOf ds nums cur x = [⟨d.name, x.amt, reasonB nums x⟩] := by
  unfold rowOf; rw [hd, if_pos ⟨h1, h2⟩]
theorem rowOf_none {ds : List DeclD} {nums : List Int} {cur : ByteArray} {x : LineM} {d : DeclD} (hd : ds.getD x.line.toNat default = d) (h : ¬ (d.unit = cur ∧ d.role ≠ 4)) : rowOf ds nums cur x = [] := by
  unfold rowOf; rw [hd, if_neg h]
theorem flat_take {α β : Type} (f : α → List β) (l : List α) (k : Nat) (h : k < l.length) : (l.take (k + 1)).flatMap f = (l.take k).flatMap f ++ f l[k] := by
  rw [List.take_succ_eq_append_getElem h, List.flatMap_append]; simp
theorem flat_row {α β : Type} (f : α → List β) (l : List α) (t : List β) (k : Nat) (h : k < l.length) (r : β) (hr : f l[k] = [r]) : (l.flatMap f ++ t)[((l.take k).flatMap f).length]? = some r := by
  have e : l.flatMap f = (l.take k).flatMap f ++ (r :: (l.drop (k + 1)).flatMap f) := by
    conv => lhs; rw [← List.take_append_drop k l, List.drop_eq_getElem_cons h]
    rw [List.flatMap_append, List.flatMap_cons, hr]
    rfl
  rw [e, List.append_assoc, List.getElem?_append_right (Nat.le_refl _), Nat.sub_self]
  rfl
theorem info_row : (Tryz.prog.info? 46).map (fun i => (i.zero, i.size, i.bytes)) = some (some (.agg #[.string ⟨#[]⟩, .int .i64 0, .string ⟨#[]⟩]), 3, 40) := by kernel_rfl
theorem rowsV_app (l : List RowD) (x : RowD) : rowsV (l ++ [x]) = rowsV l ++ rowV x := by simp [rowsV]
theorem own_lt {W : World} {base : Nat} {e : TypeId} {size n : Nat} {v : Value} {xs : List Value} (h : W.ownsRow base e size v n xs) {b : Nat} (hb : v.ownBlock = some b) : b < W.heap.size := (h.lt b hb).2
def lineA (x : LineM) : Value := .agg #[.int .i64 x.day, .int .i64 x.line, .int .i64 x.art, .int .i64 x.amt, .slice x.FA x.facts.length x.fc, .slice x.RA x.rests.length x.rc]
end Go.Proofs.YtfjkmhbipkoefaaGreatDoor
namespace Go.Proofs.YtfjkmhbipkoefaaGreatDoor
open Go.RowKit Go.Shelf
set_option linter.unusedVariables false
set_option linter.unusedSimpArgs false
set_option maxRecDepth 100000
attribute [local go_sem] Oper.semAt_some
attribute [local go_sem ↓] append_fold append_fold2
def rowsE (fit : Bool) (n : Nat) : Int := if fit = true then (if n ≤ 1024 then 0 else 2) else 1
noncomputable def rowsR (c : CaseM) (s : SlipM) : List RowD := if fitsB c s = true ∧ (rowsL c s).length ≤ 1024 then rowsL c s else []
theorem ownsRow_putObj_lt {w : World} {base : Nat} {e : TypeId} {size n : Nat} {v : Value} {xs : List Value} {d : Nat} (h : w.ownsRow base e size v n xs) (o : Obj) (hd : d < base) : (w.putObj d o).ownsRow base e size v n xs := by
  refine ⟨h.1, ?_⟩
  rcases h.2 with h0 | ⟨g, cap, cur, h1, h2, h3, h4⟩
  · exact .inl h0
  · exact .inr ⟨g, cap, cur, h1, h2, (World.putObj_heap_other (by omega)).trans h3, h4⟩
theorem ownsRow_keep {w w' : World} {base : Nat} {e : TypeId} {size n : Nat} {v : Value} {xs : List Value} (h : w.ownsRow base e size v n xs) (hk : ∀ b, base ≤ b → w'.heap[b]? = w.heap[b]?) : w'.ownsRow base e size v n xs := by
  refine ⟨h.1, ?_⟩
  rcases h.2 with h0 | ⟨g, cap, cur, h1, h2, h3, h4⟩
  · exact .inl h0
  · exact .inr ⟨g, cap, cur, h1, h2, (hk g h2).trans h3, h4⟩
theorem ownsRow_base {w : World} {base base' : Nat} {e : TypeId} {size n : Nat} {v : Value} {xs : List Value} (h : w.ownsRow base e size v n xs) (hb : base' ≤ base) : w.ownsRow base' e size v n xs := by
  refine ⟨h.1, ?_⟩
  rcases h.2 with h0 | ⟨g, cap, cur, h1, h2, h3⟩
  · exact .inl h0
  · exact .inr ⟨g, cap, cur, h1, Nat.le_trans hb h2, h3⟩
end Go.Proofs.YtfjkmhbipkoefaaGreatDoor
namespace Go.Proofs.YtfjkmhbipkoefaaGreatDoor
open Go.RowKit Go.Shelf
set_option linter.unusedVariables false
set_option linter.unusedSimpArgs false
set_option maxRecDepth 100000
/-- The text behind a blinding number. -/
def blindT (person : ByteArray) (month : Int) (seed : ByteArray) (i : Nat) : ByteArray := catB [⟨#[5]⟩, itoaB i, blank, person, blank, itoaB month, blank, seed]
def blindI (person : ByteArray) (month : Int) (seed : ByteArray) (i : Nat) : Int := ((Dig.sum (blindT person month seed i).data.toList).toNat : Int) % 1073741789
def blindL (person : ByteArray) (month : Int) (seed : ByteArray) (n : Nat) : List Int := (List.range n).map (blindI person month seed)
theorem blindL_len (person : ByteArray) (month : Int) (seed : ByteArray) (n : Nat) : (blindL person month seed n).length = n := by simp [blindL]
theorem blindL_snoc (person : ByteArray) (month : Int) (seed : ByteArray) (n : Nat) : blindL person month seed (n + 1) = blindL person month seed n ++ [blindI person month seed n] := by simp [blindL, List.range_succ]
theorem blindI_bd (person : ByteArray) (month : Int) (seed : ByteArray) (i : Nat) : 0 ≤ blindI person month seed i ∧ blindI person month seed i < 1073741789 := by unfold blindI; omega
theorem blindL_bd {person : ByteArray} {month : Int} {seed : ByteArray} {n : Nat} : ∀ b ∈ blindL person month seed n, 0 ≤ b ∧ b < 1073741789 := by
  intro b hb
  obtain ⟨j, _, rfl⟩ := List.mem_map.1 hb
  exact blindI_bd _ _ _ _
theorem own_sl {W : World} {base : Nat} {e : TypeId} {size n : Nat} {A : Option Addr} {c : Nat} {xs : List Value} (h : W.ownsRow base e size (.slice A n c) n xs) : Sl W W.heap.size size A n xs := by
  obtain ⟨A', c', he, hS⟩ := own_slice h
  injection he with h1 h2 h3
  rw [h1]; exact hS
theorem own_to {w w' : World} {base : Nat} {e : TypeId} {size n : Nat} {v : Value} {xs : List Value} (h : w.ownsRow base e size v n xs) (hk : ∀ b, v.ownBlock = some b → w'.heap[b]? = w.heap[b]?) : w'.ownsRow base e size v n xs := by
  refine ⟨h.1, ?_⟩
  rcases h.2 with h0 | ⟨g, cap, cur, rfl, h2, h3, h4⟩
  · exact .inl h0
  · exact .inr ⟨g, cap, cur, rfl, h2, (hk g rfl).trans h3, h4⟩
noncomputable def sealE (c : CaseM) (s : SlipM) (seed : ByteArray) : Int :=
  if 64 < seed.size then 1 else if rowsE (fitsB c s) (rowsL c s).length ≠ 0 then rowsE (fitsB c s) (rowsL c s).length else if okK (rowsR c s) (blindL s.person s.month seed (rowsR c s).length) (rowsR c s).length = true then 0 else 3
/-- A payslip in plain words. -/
structure SheetD where
  person : ByteArray
  month : Int
  rows : List RowD
  bl : List Int
  root : UInt64
noncomputable def sealS (c : CaseM) (s : SlipM) (seed : ByteArray) : SheetD :=
  if sealE c s seed = 0 then ⟨s.person, s.month, rowsR c s, blindL s.person s.month seed (rowsR c s).length, rootV (leafK (rowsR c s) (blindL s.person s.month seed (rowsR c s).length) (rowsR c s).length)⟩ else ⟨⟨#[]⟩, 0, [], [], 0⟩
/-- A payslip that a call has returned. -/
def SheetIs (w : World) (d : SheetD) (err : Int) (e : Ending) (w' : World) : Prop :=
  ∃ A ca B cb, e = .returned (.tuple #[.agg #[.string d.person, .int .i64 d.month, .slice A d.rows.length ca, .slice B d.bl.length cb, .int .u64 d.root.toNat], .int .i64 err]) ∧ (d.rows.length ≤ ca ∧ ca ≤ maxLen) ∧ (d.bl.length ≤ cb ∧ cb ≤ maxLen) ∧ Sl w' w'.heap.size 3 A d.rows.length (rowsV d.rows) ∧ Sl w' w'.heap.size 1 B d.bl.length (intV d.bl) ∧ Below w.heap.size w w'
def SealP (ok : Bool) (w : World) (d : SheetD) (e : Ending) (w' : World) : Prop := if ok = true then SheetIs w d 0 e w' else SheetIs w ⟨⟨#[]⟩, 0, [], [], 0⟩ 3 e w'
theorem SheetIs.zero {w w' : World} {err : Int} (h : Below w.heap.size w w') : SheetIs w ⟨⟨#[]⟩, 0, [], [], 0⟩ err (.returned (.tuple #[.agg #[.string ⟨#[]⟩, .int .i64 0, .slice none 0 0, .slice none 0 0, .int .u64 0], .int .i64 err])) w' :=
  ⟨none, 0, none, 0, rfl, ⟨Nat.le_refl _, Nat.zero_le _⟩, ⟨Nat.le_refl _, Nat.zero_le _⟩, Sl.nil _ 3, Sl.nil _ 1, h⟩
theorem blindT_size (person : ByteArray) (month : Int) (seed : ByteArray) (i : Nat) (hp : person.size ≤ 16) (hm : I64 month) (hs : seed.size ≤ 64) (hi : i ≤ 1024) : (blindT person month seed i).size ≤ 200 := by
  have h1 := itoaB_size i (by omega) (by omega)
  have h2 := itoaB_size month hm.1 hm.2
  rw [blindT, catB_size]
  have e1 : (⟨#[5]⟩ : ByteArray).size = 1 := rfl
  have e2 : blank.size = 1 := rfl
  simp only [List.map_cons, List.map_nil, List.sum_cons, List.sum_nil, e1, e2]
  omega
/-- The payslip that Seal fills: its box, its blinding numbers so far. -/
structure SealJ (w1 : World) (X : Nat) (person : ByteArray) (month : Int) (A : Option Addr) (n ca : Nat) (seed : ByteArray) (k : Nat) (W : World) : Prop where
  row : ∃ B cb, W.heap[X]? = some (.cells #[.string person, .int .i64 month, .slice A n ca, .slice B k cb, .int .u64 0] 27 (0, 0)) ∧ W.ownsRow w1.heap.size 3 1 (.slice B k cb) k (intV (blindL person month seed k))
  bel : Below w1.heap.size w1 W
theorem SealJ.put {w1 : World} {X : Nat} {person : ByteArray} {month : Int} {A : Option Addr} {n ca : Nat} {seed : ByteArray} {k : Nat} {bv : Int} {B B7 : Option Addr} {cb cb7 : Nat} {w7 : World} (hs : blindL person month seed (k + 1) = blindL person month seed k ++ [bv])
    (hb : w7.heap[X]? = some (.cells #[.string person, .int .i64 month, .slice A n ca, .slice B k cb, .int .u64 0] 27 (0, 0))) (hown : w7.ownsRow w1.heap.size 3 1 (.slice B7 (k + 1) cb7) (k + 1) (intV (blindL person month seed k) ++ [.int .i64 bv])) (hB : Below w1.heap.size w1 w7) (hX : X = w1.heap.size) :
    SealJ w1 X person month A n ca seed (k + 1) (w7.setCell ⟨X, 3, none⟩ (.slice B7 (k + 1) cb7)) := by
  have hne : (Value.slice B7 (k + 1) cb7).ownBlock ≠ some X := Lib.ownBlock_ne hown hb (by decide)
  refine ⟨⟨B7, cb7, ?_, ?_⟩, hB.setCell (by rw [hX]; exact Nat.le_refl _) _⟩
  · rw [setCell_heap hb]; rfl
  · rw [hs, intV_snoc]
    exact hown.kept (row := some X) ⟨rfl, rfl, rfl, by simp [World.setCell], fun k _ hk => Below.heap_setCell _ _ _ _ (fun e => hk (by simp [e]))⟩ (Or.inr hne)
theorem sum35_at (s : ByteArray) (v : UInt64) (hv : Hid (Dig.sum s.data.toList = v)) (hs : s.size ≤ maxLen) (w : World) : Calls Tryz.prog 72 #[.string s] w fun e w' => e = .returned (.int .u64 v.toNat) ∧ w = w' := by
  rw [← hv.out]; exact sum_any s w hs
theorem info_int : (Tryz.prog.info? 3).map (fun i => (i.zero, i.size, i.bytes)) = some (some (.int .i64 0), 1, 8) := by kernel_rfl
theorem rowsL_size {c : CaseM} {s : SlipM} {w : World} (hc : CaseOk w c) (hs : SlipOk w s) (hf : fitsB c s = true) : ∀ x ∈ rowsL c s, x.l.size ≤ 70368744177000 ∧ x.r.size ≤ 70368744177000 ∧ I64 x.c := by
  intro x hx
  unfold rowsL at hx
  rcases List.mem_append.1 hx with hx | hx
  · obtain ⟨ln, hln, hx⟩ := List.mem_flatMap.1 hx
    unfold rowOf at hx
    split at hx
    · obtain rfl := List.mem_singleton.1 hx
      have hL := hs.ln ln hln
      unfold fitsB at hf
      rw [Bool.and_eq_true] at hf
      have hfit := List.all_eq_true.1 hf.2 ln hln
      unfold lineFit at hfit
      rw [Bool.and_eq_true, Bool.and_eq_true, Bool.and_eq_true] at hfit
      obtain ⟨⟨⟨hf1, hf2⟩, hf3⟩, _⟩ := hfit
      obtain ⟨ha0, ha1⟩ := of_decide_eq_true hf3
      obtain ⟨hl0, hl1⟩ := of_decide_eq_true hf2
      have hnl := hc.ca
      unfold maxLen at hnl
      obtain ⟨p, hp⟩ := Int.eq_ofNat_of_zero_le hl0
      obtain ⟨q, hq⟩ := Int.eq_ofNat_of_zero_le ha0
      have hpl : p < c.ds.length := by omega
      have hql : q < c.nums.length := by omega
      have hr := reasonB_size c.nums ln ⟨by omega, by omega⟩ (by rw [hq, Int.toNat_natCast]; exact hc.nu _ (by simp [List.getD, hql])) hL.bf hL.br hL.lf hL.lr
      have hd := hc.nm (c.ds.getD ln.line.toNat default) (by rw [hp, Int.toNat_natCast]; simp [List.getD, hpl])
      exact ⟨by dsimp only; omega, by dsimp only; omega, hL.ba⟩
    · cases hx
  · unfold tailR sumsL at hx
    have h3 : (⟨#[115, 117, 109]⟩ : ByteArray).size ≤ 70368744177000 := by decide
    simp only [List.cons_append, List.nil_append, List.mem_cons, List.mem_append, List.mem_map, List.not_mem_nil, or_false] at hx
    rcases hx with rfl | rfl | rfl | rfl | ⟨t, ht, rfl⟩ | rfl
    · exact ⟨by first | decide | (dsimp only; decide), by first | decide | (dsimp only; decide), hs.g0⟩
    · exact ⟨by first | decide | (dsimp only; decide), by first | decide | (dsimp only; decide), hs.g1⟩
    · exact ⟨by first | decide | (dsimp only; decide), by first | decide | (dsimp only; decide), hs.g2⟩
    · exact ⟨by first | decide | (dsimp only; decide), by first | decide | (dsimp only; decide), hs.g3⟩
    · obtain ⟨h1, h2⟩ := hs.ti t ht
      have hz := itoaB_size t.1 h1.1 h1.2
      refine ⟨?_, by first | decide | (dsimp only [orderR]; decide), h2⟩
      show ((⟨#[111, 114, 100, 101, 114, 32]⟩ : ByteArray) ++ itoaB t.1).size ≤ _
      rw [app_size]
      have e : (⟨#[111, 114, 100, 101, 114, 32]⟩ : ByteArray).size = 6 := rfl
      omega
    · exact ⟨by first | decide | (dsimp only [netR]; decide), by first | decide | (dsimp only [netR]; decide), hs.g4⟩
end Go.Proofs.YtfjkmhbipkoefaaGreatDoor
namespace Go.Proofs.YtfjkmhbipkoefaaGreatDoor
open Go.RowKit Go.Shelf
set_option linter.unusedVariables false
set_option linter.unusedSimpArgs false
set_option maxRecDepth 100000
def ds0 : List DeclD := [⟨⟨#[98, 97, 115, 105, 99]⟩, ⟨#[69, 85, 82]⟩, 1⟩, ⟨⟨#[117, 110, 105, 111, 110]⟩, ⟨#[69, 85, 82]⟩, 2⟩, ⟨⟨#[110, 111, 116, 101]⟩, ⟨#[69, 85, 82]⟩, 4⟩, ⟨⟨#[117, 115, 100]⟩, ⟨#[85, 83, 68]⟩, 1⟩]
def case0 (LA AA : Option Addr) : CaseM := ⟨.slice none 0 0, LA, 4, ds0, AA, 2, [12, 14], .slice none 0 0, .slice none 0 0, .slice none 0 0, .slice none 0 0, ⟨#[69, 85, 82]⟩, 0⟩
def CaseP (w : World) (e : Ending) (w' : World) : Prop := ∃ LA AA, e = .returned (caseV (case0 LA AA)) ∧ CaseOk w' (case0 LA AA) ∧ Below w.heap.size w w'
end Go.Proofs.YtfjkmhbipkoefaaGreatDoor
namespace Go.Proofs.YtfjkmhbipkoefaaGreatDoor
set_option linter.unusedVariables false
set_option maxRecDepth 100000
/-- A power modulo p, by squaring. -/
def pwF : Nat → Nat → Nat → Nat → Nat
  | 0, r, b, e => r * b ^ e % Grp.P
  | f + 1, r, b, e => if e = 0 then r % Grp.P else pwF f (if e % 2 = 1 then r * b % Grp.P else r) (b * b % Grp.P) (e / 2)
theorem pwF_eq : ∀ (f r b e : Nat), pwF f r b e = r * b ^ e % Grp.P
  | 0, _, _, _ => rfl
  | f + 1, r, b, e => by
    rw [pwF]
    by_cases h : e = 0
    · rw [if_pos h, h, Nat.pow_zero, Nat.mul_one]
    · rw [if_neg h, pwF_eq f]
      exact Grp.step_pw r b e
def comF (v b : Int) : Int := if 0 ≤ b ∧ b < 1073741789 then ((pwF 31 1 4 v.toNat * pwF 31 1 9 b.toNat % Grp.P : Nat) : Int) else 0
theorem comF_eq (v b : Int) : comI v b = comF v b := by
  unfold comI comF
  split
  · unfold commitI pwI
    rw [pwF_eq, pwF_eq, Nat.one_mul, Nat.one_mul]
    show (_ : Int) * _ % ((Grp.P : Nat) : Int) = _
    rw [← Int.natCast_mul, ← Int.natCast_emod]
    rfl
  · rfl
def leafF (rows : List RowD) (bl : List Int) (k : Nat) : List ByteArray := (List.range k).map fun j => leafB (rows.getD j default).l (comF ((rows.getD j default).c % 1073741789) (bl.getD j 0)) (rows.getD j default).r
theorem leafF_eq (rows : List RowD) (bl : List Int) (k : Nat) : leafK rows bl k = leafF rows bl k := by
  unfold leafK leafF leafAt
  simp only [comF_eq]
def annB : ByteArray := ⟨#[97, 110, 110]⟩
def seedX : ByteArray := ⟨#[115, 101, 101, 100]⟩
def reason0 : ByteArray := ⟨#[118, 101, 114, 115, 105, 111, 110, 32, 49, 32, 111, 102, 32, 97, 114, 116, 105, 99, 108, 101, 32, 49, 52, 32, 111, 110, 32, 50, 48, 50, 52, 45, 48, 51, 45, 48, 53, 59, 32, 102, 97, 99, 116, 115, 32, 51, 32, 55, 59, 32, 118, 101, 114, 115, 105, 111, 110, 115, 32, 45]⟩
def R1 : List RowD := [⟨⟨#[98, 97, 115, 105, 99]⟩, 500, reason0⟩, ⟨⟨#[103, 114, 111, 115, 115]⟩, 500, ⟨#[115, 117, 109]⟩⟩, ⟨⟨#[116, 97, 120]⟩, 50, ⟨#[116, 97, 120]⟩⟩, ⟨⟨#[100, 101, 100, 117, 99, 116]⟩, 0, ⟨#[115, 117, 109]⟩⟩, ⟨⟨#[102, 108, 111, 111, 114]⟩, 0, ⟨#[115, 117, 109]⟩⟩, ⟨⟨#[110, 101, 116]⟩, 450, ⟨#[114, 101, 115, 116]⟩⟩]
def bl1 : List Int := [400441750, 659531598, 839774760, 130167609, 316657696, 492852368]
def bl2 : List Int := [400441751, 659531598, 839774760, 130167609, 316657696, 492852368]
theorem bl1_eq : blindL annB 290 seedX 6 = bl1 := by decide +kernel
theorem root_ne : (rootV (leafK R1 bl2 6) == rootV (leafK R1 bl1 6)) = false := by
  rw [leafF_eq, leafF_eq]
  decide +kernel
end Go.Proofs.YtfjkmhbipkoefaaGreatDoor
namespace Go.Proofs.YtfjkmhbipkoefaaGreatDoor
open Go.RowKit Go.Shelf
set_option linter.unusedVariables false
def pickF (c n : Int) : Int := (if c < 0 then -(c + 1) else c) % n
theorem pickF_lt (c n : Int) (hn : 0 < n) : 0 ≤ pickF c n ∧ pickF c n < n := ⟨Int.emod_nonneg _ (by omega), Int.emod_lt_of_pos _ hn⟩
/-- Four numbers make a line. -/
structure Quad where
  a : Int
  b : Int
  c : Int
  d : Int
def QuadOk (q : Quad) : Prop := I64 q.a ∧ I64 q.b ∧ I64 q.c ∧ I64 q.d
def quadV (q : Quad) : List Value := [.int .i64 q.a, .int .i64 q.b, .int .i64 q.c, .int .i64 q.d]
def factsF (q : Quad) (k : Nat) : List Int := (List.range k).map fun (j : Nat) => 3 * (j : Int) + pickF q.a 3
def restsF (q : Quad) : List Int := if q.c.tmod 3 = 0 then [1 - pickF q.c 2] else []
/-- A line holds what four numbers determine. -/
structure LineIs (q : Quad) (x : LineM) : Prop where
  day : x.day = pickF q.a 36525
  line : x.line = pickF q.b 4
  art : x.art = pickF q.c 2
  amt : x.amt = pickF q.d 2000001 - 1000000
  facts : x.facts = factsF q (pickF q.c 4).toNat
  rests : x.rests = restsF q
theorem sl_keep {W W' : World} {size n : Nat} {A : Option Addr} {xs : List Value} (h : Sl W W.heap.size size A n xs) (hs : W.heap.size ≤ W'.heap.size) (hk : ∀ b, b < W.heap.size → (∃ off, A = some ⟨b, off, none⟩) → W'.heap[b]? = W.heap[b]?) : Sl W' W'.heap.size size A n xs := by
  refine ⟨h.1, fun h0 => ?_⟩
  obtain ⟨b, off, e, hb, hc⟩ := h.2 h0
  exact ⟨b, off, e, Nat.lt_of_lt_of_le hb hs, fun k u hu => (World.cell?_of_block (hk b hb ⟨off, e⟩)).trans (hc k u hu)⟩
theorem own_neT {W : World} {base : Nat} {e T : TypeId} {size n : Nat} {v : Value} {xs : List Value} {b : Nat} {cs : Array Value} {fr : Nat × Nat} (h : W.ownsRow base e size v n xs) (hb : W.heap[b]? = some (.cells cs T fr)) (hT : T ≠ e) : v.ownBlock ≠ some b := by
  intro hv
  rcases h.2 with ⟨h0, _⟩ | ⟨g, cap, cur, h0, _, h2, _⟩
  · rw [h0] at hv; cases hv
  · rw [h0] at hv
    injection hv with hv
    have hv : g = b := hv
    subst hv
    rw [hb] at h2
    injection h2 with h2
    injection h2 with _ h2 _
    exact hT h2
/-- A slice's block is one of integers. -/
def IntB (W : World) (A : Option Addr) : Prop := ∀ a, A = some a → ∃ cs fr, W.heap[a.block]? = some (.cells cs 3 fr)
structure LineT (W : World) (x : LineM) : Prop where
  ok : LineOk W x
  f : IntB W x.FA
  r : IntB W x.RA
theorem lineT_keep {W W' : World} {x : LineM} (h : LineT W x) (hs : W.heap.size ≤ W'.heap.size) (hk : ∀ (b : Nat) (cs : Array Value) (fr : Nat × Nat), W.heap[b]? = some (Obj.cells cs 3 fr) → W'.heap[b]? = W.heap[b]?) : LineT W' x := by
  have g {A : Option Addr} (hA : IntB W A) : ∀ b, b < W.heap.size → (∃ off, A = some ⟨b, off, none⟩) → W'.heap[b]? = W.heap[b]? := by
    rintro b hb ⟨off, e⟩
    obtain ⟨cs, fr, hc⟩ := hA _ e
    exact hk b cs fr hc
  have g2 {A : Option Addr} (hA : IntB W A) : IntB W' A := fun a ha => by
    obtain ⟨cs, fr, hc⟩ := hA a ha
    exact ⟨cs, fr, (hk _ cs fr hc).trans hc⟩
  exact ⟨⟨sl_keep h.ok.sf hs (g h.f), sl_keep h.ok.sr hs (g h.r), h.ok.lf, h.ok.lr, h.ok.bf, h.ok.br, h.ok.ba⟩, g2 h.f, g2 h.r⟩
theorem LineT.go {W W' : World} {x : LineM} (h : LineT W x) (hb : Below W.heap.size W W') : LineT W' x :=
  lineT_keep h hb.size fun b cs fr hc => hb.block b (Array.getElem?_eq_some_iff.1 hc).1
/-- The sums of the first k lines. -/
def grossF (ls : List Quad) : Int := (ls.map fun q => if pickF q.b 4 = 0 then pickF q.d 2000001 - 1000000 else 0).sum
def deductF (ls : List Quad) : Int := (ls.map fun q => if pickF q.b 4 = 1 then pickF q.d 2000001 - 1000000 else 0).sum
theorem sum_snoc (f : Quad → Int) (ls : List Quad) (q : Quad) : ((ls ++ [q]).map f).sum = (ls.map f).sum + f q := by simp
theorem sum_bound (f : Quad → Int) (hf : ∀ q, -1000000 ≤ f q ∧ f q ≤ 1000000) : ∀ ls : List Quad, -(1000000 * (ls.length : Int)) ≤ (ls.map f).sum ∧ (ls.map f).sum ≤ 1000000 * (ls.length : Int)
  | [] => by simp
  | q :: ls => by
    have h1 := sum_bound f hf ls
    have h2 := hf q
    simp only [List.map_cons, List.sum_cons, List.length_cons]
    omega
theorem gross_bound (ls : List Quad) : -(1000000 * (ls.length : Int)) ≤ grossF ls ∧ grossF ls ≤ 1000000 * (ls.length : Int) :=
  sum_bound _ (fun q => by have := pickF_lt q.d 2000001 (by omega); split <;> omega) ls
theorem deduct_bound (ls : List Quad) : -(1000000 * (ls.length : Int)) ≤ deductF ls ∧ deductF ls ≤ 1000000 * (ls.length : Int) :=
  sum_bound _ (fun q => by have := pickF_lt q.d 2000001 (by omega); split <;> omega) ls
def takenF (os : List Int) : List (Int × Int) := (List.range os.length).map fun (j : Nat) => ((j : Int) + 1, pickF (os.getD j 0) 1000)
def takenSum (os : List Int) : Int := (os.map fun x => pickF x 1000).sum
/-- A result is what numbers determine. -/
structure ResIs (month : Int) (ls : List Quad) (os : List Int) (s : SlipM) : Prop where
  person : s.person = annB
  month : s.month = pickF month 1200
  len : s.lines.length = (ls.take 20).length
  lines : ∀ (j : Nat) (x : LineM) (q : Quad), s.lines[j]? = some x → (ls.take 20)[j]? = some q → LineIs q x
  gross : s.gross = grossF (ls.take 20)
  deduct : s.deduct = deductF (ls.take 20)
  tax : s.tax = s.gross.tdiv 5
  floor : s.floor = 0
  taken : s.taken = takenF (os.take 5)
  net : s.net = s.gross - s.tax - s.deduct - takenSum (os.take 5)
/-- append(v, src...) run, the row's own base apart from the world that is compared. -/
theorem run_app2 {P : Program} {W w0 : World} (base : Nat) (hb0 : w0.heap.size ≤ base) (hbW : base ≤ W.heap.size) (t ty e : TypeId) (i : TypeInfo) (z : Value) (size bytes : Nat) (ht : P.underlying t = some (.slice e)) (hi : P.info? e = some i) (hz : i.zero = some z)
    (hsize : i.size = size) (hby : i.bytes = bytes) (hzs : z.cells.size = size) (hsz : 0 < size) (v : Value) (n : Nat) (xs : List Value) (hown : W.ownsRow base e size v n xs) (hB : Below w0.heap.size w0 W)
    (sv : Value) (m : Nat) (cs : List Value) (hsrc : Src W size sv m cs) (h1 : ∀ u ∈ cs, u.oneCell' = true) (h63 : n + m ≤ maxLen) (hbytes : (n + m) * bytes ≤ 140737488355328) :
    ∃ v' w', (Builtin.append_ #[t, t] ty #[v, sv]).run P W = .ok v' w' ∧ w'.ownsRow base e size v' (n + m) (xs ++ cs) ∧ Below w0.heap.size w0 w' ∧ Kept W v w' := by
  rcases hsrc with ⟨rfl, rfl, rfl⟩ | ⟨ad, c, rfl, hl, hc⟩
  · have hrun := run_append_owned_none (P := P) (w := W) base t ty e i size ht hi v n xs hown
    exact ⟨v, W, hrun, by simpa using hown, hB, Nat.le_refl _, fun _ _ _ => rfl⟩
  · obtain ⟨v', w', hr, h2, h3, h4⟩ := run_append_own (P := P) W base t ty e i z size bytes ht hi hz hsize hby hzs hsz v n xs hown ad m c cs hl hc h1 h63 hbytes hbW
    exact ⟨v', w', hr, h2, hB.grown h3 hB.size (fun k hk => Nat.le_trans hb0 (hown.lt k hk).1), h3.size, fun b hb hne => h3.block b hb (fun e => hne e.symm)⟩
theorem step_src2 {P : Program} {W w0 : World} {ops : Array Oper} {o : Oper} {a : Act} {K : Act → World → Prop} {Q : Exit → Act → World → Prop} {E : Prop} (base : Nat) (hb0 : w0.heap.size ≤ base) (hbW : base ≤ W.heap.size) (hgd : o.guard = none) (s x : Operand) (t : TypeId)
    (ho : o.op = .call { callee := .builtin .append, args := #[s, x], argTypes := #[t, t] }) (e : TypeId) (i : TypeInfo) (z : Value) (size bytes : Nat) (ht : P.underlying t = some (.slice e)) (hi : P.info? e = some i) (hz : i.zero = some z)
    (hsize : i.size = size) (hby : i.bytes = bytes) (hzs : z.cells.size = size) (hsz : 0 < size) (v : Value) (n : Nat) (xs : List Value) (hs : a.eval s = v) (hown : W.ownsRow base e size v n xs) (hB : Below w0.heap.size w0 W)
    (sv : Value) (m : Nat) (cs : List Value) (hx : a.eval x = sv) (hsrc : Src W size sv m cs) (h1 : ∀ u ∈ cs, u.oneCell' = true) (h63 : n + m ≤ maxLen) (hbytes : (n + m) * bytes ≤ 140737488355328)
    (h : ∀ v' w', w'.ownsRow base e size v' (n + m) (xs ++ cs) → Below w0.heap.size w0 w' → Kept W v w' → K (a.put o.dst v') w') :
    if Region.wanted o (yielded ops a.tmps) = true then Oper.wp P o a W K Q else E := by
  obtain ⟨v', w', hr, h2, h3, h4⟩ := run_app2 base hb0 hbW (ty := o.type) t e i z size bytes ht hi hz hsize hby hzs hsz v n xs hown hB sv m cs hsrc h1 h63 hbytes
  rw [if_pos (by simp [Region.wanted, hgd])]
  unfold Oper.wp
  simp [execOp, ho, resolve, invoke, builtin, hs, hx, hr, Result.andThen]
  exact h v' w' h2 h3 h4
theorem app_src2 {P : Program} {W w0 : World} {ops : Array Oper} {rest : List Oper} {o : Oper} {a : Act} {Q : Exit → Act → World → Prop} (base : Nat) (hb0 : w0.heap.size ≤ base) (hbW : base ≤ W.heap.size) (hgd : o.guard = none) (s x : Operand) (t : TypeId)
    (ho : o.op = .call { callee := .builtin .append, args := #[s, x], argTypes := #[t, t] }) (e : TypeId) (i : TypeInfo) (z : Value) (size bytes : Nat) (ht : P.underlying t = some (.slice e)) (hi : P.info? e = some i) (hz : i.zero = some z)
    (hsize : i.size = size) (hby : i.bytes = bytes) (hzs : z.cells.size = size) (hsz : 0 < size) (v : Value) (n : Nat) (xs : List Value) (hs : a.eval s = v) (hown : W.ownsRow base e size v n xs) (hB : Below w0.heap.size w0 W)
    (sv : Value) (m : Nat) (cs : List Value) (hx : a.eval x = sv) (hsrc : Src W size sv m cs) (h1 : ∀ u ∈ cs, u.oneCell' = true) (h63 : n + m ≤ maxLen) (hbytes : (n + m) * bytes ≤ 140737488355328)
    (h : ∀ v' w', w'.ownsRow base e size v' (n + m) (xs ++ cs) → Below w0.heap.size w0 w' → Kept W v w' → wpList P ops Q rest (a.put o.dst v') w') : wpList P ops Q (o :: rest) a W := by
  obtain ⟨v', w', hr, h2, h3, h4⟩ := run_app2 base hb0 hbW (ty := o.type) t e i z size bytes ht hi hz hsize hby hzs hsz v n xs hown hB sv m cs hsrc h1 h63 hbytes
  refine wpList_plain hgd fun K hK => ?_
  unfold Oper.wp
  simp [execOp, ho, resolve, invoke, builtin, hs, hx, hr, Result.andThen]
  exact hK _ _ (h v' w' h2 h3 h4)
theorem facts_snoc (q : Quad) (k : Nat) : factsF q (k + 1) = factsF q k ++ [3 * (k : Int) + pickF q.a 3] := by simp [factsF, List.range_succ]
end Go.Proofs.YtfjkmhbipkoefaaGreatDoor
