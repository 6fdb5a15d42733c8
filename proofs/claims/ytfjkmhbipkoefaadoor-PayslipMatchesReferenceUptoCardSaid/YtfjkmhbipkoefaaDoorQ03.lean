/- Two laws for a range over a function whose iterator hands memory on: the record of the loop is named, the invariants are the caller's own. The walks of package merkle, second part: the iterator over the rows. The walks of package merkle, third part: Root. The walks of package merkle, fourth part: Path. The walks of package merkle, fifth part: Path's errors, sides, proper. The walks of package merkle, sixth part: proper, climb, Verify. -/
import Derived.RangeFuncSeq
import Derived.RangeFuncRecord
import Derived.RangeFuncIn
import Derived.OrdersIn
import Derived.RangeFuncCalls
import Derived.Test.YtfjkmhbipkoefaaDoorQ02
import Derived.StillTailTactics
import Derived.OwnWalkIn
import Derived.TacticsInMore
import Derived.LoopNIn
import Derived.LoopIn
import Derived.RangeFuncBox
import Derived.Maps.AppendAt
import Derived.Deep.OwnRows
import Derived.Deep.Draws
import Derived.Deep.RegionHeld3
import Derived.IntWalk
import Derived.Deep.AppendLies
import Derived.RangeFuncLeaves
import Derived.Shelf.Abstract
import Derived.BigRegionIn
namespace Go.Rng
variable {F : Fence} {n : Nat} {P : Program}
/-- The record of a loop in its states. -/
def busyOf (r : Loop) : Obj := .loop { r with state := .busy, pending := none }
def readyOf (r : Loop) : Obj := .loop { r with state := .ready, pending := none }
def doneOf (r : Loop) (c : Code) : Obj := .loop { r with state := .done, pending := some c }
def overOf (r : Loop) (c : Option Code) : Obj := .loop { r with state := .exhausted, pending := c }
/-- How the body of a round may be left: the record is busy, and what yield hands back is what R takes. -/
def roundEnd (l : Nat) (r : Loop) (R : Ending → World → Prop) : Exit → Act → World → Prop
  | .normal, _, W => W.heap[l]? = some (busyOf r) ∧ R (.returned (.bool true)) (W.putObj l (readyOf r))
  | .ret, _, W => W.heap[l]? = some (busyOf r) ∧ R (.returned (.bool false)) (W.putObj l (doneOf r .ret))
  | .exit id, _, W => W.heap[l]? = some (busyOf r) ∧ R (.returned (.bool false)) (W.putObj l (doneOf r (.exit id)))
  | .goto t, _, W => W.heap[l]? = some (busyOf r) ∧ R (.returned (.bool false)) (W.putObj l (doneOf r (.goto t)))
  | .panic _, _, _ => False
  | .outgrown, _, _ => False
/-- One call of yield. -/
theorem yield_at {l : Nat} {r : Loop} {args : Array Value} {W : World} {R : Ending → World → Prop} {assign body : Code} {tmps : Array Value} (hl : W.heap[l]? = some (readyOf r)) (ha : r.assign = assign) (hb : r.body = body)
    (ht : (r.params.zip args).foldl (fun t (p, v) => t.setIfInBounds p v) r.tmps = tmps) (hs : args.size = r.params.size) (hF : F.fn r.fn)
    (h : assign.wpIn (F.inRound l) n P (Exit.then (fun a₁ W₁ => W₁.heap[l]? = some (readyOf r) ∧ body.wpIn (F.inRound l) n P (roundEnd l r R) a₁ (W₁.putObj l (busyOf r))) (fun _ _ _ => False))
      { tmps := tmps, defers := [] } W) : YieldAt F n P l args W R := by
  subst ha hb ht
  refine ⟨r.fn, _, r.assign, r.body, run_yield (r := { r with state := .ready, pending := none }) hl hs, roundIn_of_wpIn hF (wpIn_mono h ?_)⟩
  intro e a W1 h1
  cases e with
  | normal =>
    refine ⟨W1.putObj l (busyOf r), run_beginRound (r := { r with state := .ready, pending := none }) h1.1 rfl, wpIn_mono h1.2 ?_⟩
    intro e2 a2 W2 h2
    cases e2 with
    | normal => exact ⟨_, _, run_endRound (r := { r with state := .busy, pending := none }) none h2.1, h2.2⟩
    | ret => exact ⟨_, _, run_endRound (r := { r with state := .busy, pending := none }) (some .ret) h2.1, h2.2⟩
    | exit id => exact ⟨_, _, run_endRound (r := { r with state := .busy, pending := none }) (some (.exit id)) h2.1, h2.2⟩
    | goto t => exact ⟨_, _, run_endRound (r := { r with state := .busy, pending := none }) (some (.goto t)) h2.1, h2.2⟩
    | panic c => exact h2.elim
    | outgrown => exact h2.elim
  | ret => exact h1
  | exit id => exact h1
  | goto t => exact h1
  | panic c => exact h1
  | outgrown => exact h1
/-- What the iterator's call must come to. -/
def callEnd (F : Fence) (n : Nat) (P : Program) (l : Nat) (r : Loop) (Q : Exit → Act → World → Prop) (a : Act) (e : Ending) (W : World) : Prop :=
  ∃ v, e = .returned v ∧ ((W.heap[l]? = some (readyOf r) ∧ Q .normal a (W.putObj l (overOf r none))) ∨
    ∃ c, W.heap[l]? = some (doneOf r c) ∧ c.wpIn F n P Q a (W.putObj l (overOf r (some c))))
/-- The statement: the record is laid, the iterator is called. -/
theorem range_any {g : Operand} {ps : Array Tmp} {assign body : Code} {Q : Exit → Act → World → Prop} {a : Act} {w : World} (hro : F.round = none) (h1 : 1 ≤ n)
    {gf : Nat} {lb : Array Value} (hg : a.eval g = .func (.func gf) #[] lb) (hFg : F.fn gf) (eg : ∀ args w, (callFunc gf args).run P w = .ok (.enter gf args) w)
    (h : ∀ (r : Loop), F.fn r.fn → r.assign = assign → r.body = body → r.tmps = a.tmps → r.params = ps →
      CallsIn F (n - 1) P gf (#[.func (.yield (w.heap.size + 1)) #[] #[]] ++ lb) ((w.alloc (.deferred (some []))).alloc (readyOf r))
        (callEnd F n P (w.heap.size + 1) r Q { tmps := a.tmps, defers := { target := .collected w.heap.size, args := #[] } :: a.defers })) :
    (Code.rangeFunc g ps assign body).wpIn F n P Q a w := by
  refine wpIn_rangeFunc ?_
  intro fn hfn
  rw [hro]
  obtain ⟨r, hr⟩ : ∃ r : Loop, r = { state := .ready, pending := none, fn := fn, tmps := a.tmps, params := ps, assign := assign, body := body, defers := w.heap.size } := ⟨_, rfl⟩
  have hrr : readyOf r = .loop r := by rw [hr]; rfl
  refine ⟨w.heap.size + 1, [{ target := .collected w.heap.size, args := #[] }], (w.alloc (.deferred (some []))).alloc (readyOf r), { target := .fn (.func gf) lb, args := #[.func (.yield (w.heap.size + 1)) #[] #[]] }, (w.alloc (.deferred (some []))).alloc (readyOf r), gf,
    #[.func (.yield (w.heap.size + 1)) #[] #[]] ++ lb, (w.alloc (.deferred (some []))).alloc (readyOf r), ?_, ?_, ?_, ?_, fun _ => h1, ?_⟩
  · rw [hrr, hr]; exact run_enterLoop_outer _ _ _ _ _
  · simp only [resolve, hg]
    simp [go_sem]
  · intro f' hf'
    simp [Target.leads] at hf'
    subst hf'
    exact hFg
  · simp [invoke, go_sem, eg]
  · refine (h r (by rw [hr]; exact hfn) (by rw [hr]) (by rw [hr]) (by rw [hr]) (by rw [hr])).mono ?_
    rintro e W ⟨v, rfl, (⟨hl, hq⟩ | ⟨c, hl, hq⟩)⟩
    · exact ⟨none, _, run_endLoop (r := { r with state := .ready, pending := none }) hl (by simp), hq⟩
    · exact ⟨some c, _, run_endLoop (r := { r with state := .done, pending := some c }) hl (by simp), hq⟩
def noDefer (ops : Array Oper) : Bool := ops.all fun o => match o.op with
  | .defer _ => false
  | _ => true
theorem op_in {l : Nat} {o : Oper} (h : ∀ c, o.op ≠ .defer c) {a : Act} {w : World} {K K' : Act → World → Prop} {Q : Exit → Act → World → Prop} (hK : ∀ a w, K a w → K' a w) (hh : o.wpIn Fence.wide n P a w K Q) : o.wpIn (Fence.wide.inRound l) n P a w K' Q := by
  have h2 := Oper.wpIn_mono hK hh
  unfold Oper.wpIn at h2 ⊢
  refine ⟨fun f _ => trivial, ?_⟩
  have h3 := h2.2
  rw [Oper.semAt_eq _ _ _ h] at h3 ⊢
  generalize (execOp a.eval o).run P w = r at h3 ⊢
  cases r with
  | ok x w' =>
    cases x <;> exact h3
  | halt e w' => cases e <;> exact h3
theorem any_in {l : Nat} {md : Region.Mode} {ops : Array Oper} {Q : Exit → Act → World → Prop} (hd : noDefer ops = true) : ∀ (fuel : Nat) (listed : Array Bool) (a : Act) (w : World),
    wpAnyIn Fence.wide n P md ops Q fuel listed a w → wpAnyIn (Fence.wide.inRound l) n P md ops Q fuel listed a w
  | 0, _, _, _, h => h
  | fuel + 1, listed, a, w, h => by
    refine ⟨h.1, fun i hi => ?_⟩
    have hi2 := h.2 i hi
    unfold wpOpIn at hi2 ⊢
    cases ho : ops[i]? with
    | none => rw [ho] at hi2; exact any_in hd fuel _ _ _ hi2
    | some o =>
      rw [ho] at hi2
      simp only [] at hi2 ⊢
      have hnd : ∀ c, o.op ≠ .defer c := by
        intro c hc
        obtain ⟨hlt, hoe⟩ := Array.getElem?_eq_some_iff.1 ho
        have := Array.all_eq_true.1 hd i hlt
        rw [hoe, hc] at this
        cases this
      split
      · rename_i hw
        rw [if_pos hw] at hi2
        exact op_in hnd (fun a w => any_in hd fuel _ a w) hi2
      · rename_i hw
        rw [if_neg hw] at hi2
        exact ⟨fun f _ => trivial, any_in hd fuel _ _ _ hi2.2⟩
/-- A region that draws its order, in a round: as in the wide fence. -/
theorem region_in {l id : Nat} {ops : Array Oper} {Q : Exit → Act → World → Prop} {a : Act} {w : World} (hm : P.follows .mixedOrders = true) (hd : noDefer ops = true)
    (h : wpAnyIn Fence.wide n P .any ops Q ops.size (Array.replicate ops.size false) a w.drew) : (Code.region id ops true).wpIn (Fence.wide.inRound l) n P Q a w :=
  wpIn_region_any hm (any_in hd _ _ _ _ h)
end Go.Rng
namespace Go.Proofs.YtfjkmhbipkoefaaDoor
open Go.RowKit
set_option linter.unusedVariables false
def leavesD (ss : List ByteArray) : List UInt64 := ss.map fun s => Mk.leafD s.data.toList
theorem info_digest : (Tryd.prog.info? 41).map (fun i => (i.zero, i.size, i.bytes)) = some (some (.int .u64 0), 1, 8) := by kernel_rfl
theorem leaf_size (s : ByteArray) (h : s.size ≤ 140737488355328) : (⟨(0 :: s.data.toList).toArray⟩ : ByteArray).size ≤ maxLen := by
  have e : (⟨(0 :: s.data.toList).toArray⟩ : ByteArray).size = s.size + 1 := by
    show (0 :: s.data.toList).toArray.size = s.data.size + 1
    rw [List.size_toArray, List.length_cons, Array.length_toList]
  rw [e]; unfold maxLen; omega
theorem leavesD_snoc (ss : List ByteArray) (k : Nat) (h : k < ss.length) : leavesD (ss.take (k + 1)) = leavesD (ss.take k) ++ [Dig.sum (0 :: ss[k].data.toList)] := by
  unfold leavesD
  rw [List.take_succ_eq_append_getElem h, List.map_append]
  rfl
/-- What the iterator needs of each call of yield, and what it gives. -/
def RowYield (P : Program) (l m E : Nat) (R : List UInt64) (J : Nat → World → Prop) : Prop :=
  ∀ (k : Nat) (W0 W1 : World) (v : Value), J k W0 → Below W0.heap.size W0 W1 → W1.ownsRow W0.heap.size E 1 v (Mk.rowN R k).length (u64V (Mk.rowN R k)) → (∀ j, j < k → 1 < (Mk.rowN R j).length) → 1 ≤ (Mk.rowN R k).length →
    YieldAt Fence.wide m P l #[v] W1 fun e W' => e = .returned (.bool true) ∧ J (k + 1) W' ∧ W'.ownsRow W0.heap.size E 1 v (Mk.rowN R k).length (u64V (Mk.rowN R k)) ∧ W1.heap.size ≤ W'.heap.size
def RowsEnd (R : List UInt64) (J : Nat → World → Prop) (e : Ending) (W' : World) : Prop :=
  ∃ v k W0, e = .returned v ∧ J (k + 1) W0 ∧ Below W0.heap.size W0 W' ∧ (Mk.rowN R k).length ≤ 1 ∧ ∀ j, j < k → 1 < (Mk.rowN R j).length
set_option maxRecDepth 100000 in
set_option maxHeartbeats 4000000 in
theorem rows1_any (l m Bn : Nat) (A : Option Addr) (c : Nat) (ss : List ByteArray) (W : World) (J : Nat → World → Prop) (hA : Sl W W.heap.size 1 A ss.length (strV ss)) (hBn : W.cell? ⟨Bn, 0, none⟩ = some (.slice A ss.length c))
    (hs : ∀ s ∈ ss, s.size ≤ 140737488355328) (h1 : 1 ≤ ss.length) (hn : ss.length ≤ 1024) (hJ : J 0 W) (hY : RowYield Tryd.prog l m 41 (leavesD ss) J) :
    Calls Tryd.prog 66 #[.func (.yield l) #[] #[], .pointer (some ⟨Bn, 0, none⟩)] W (RowsEnd (leavesD ss) J) := by
  obtain ⟨i0, hi0, hz0, hz1, hz2⟩ := info_parts info_digest
  have Hs := Lib.hid hs
  have HA := Lib.hid hA
  clear hs hA
  go_enter Tryd.func66, Tryd.ntmps66
  go_wp2
  go_loopw [3, 10] (fun v i wr => ∃ k : Nat, k ≤ ss.length ∧ i = .int .i64 k ∧ wr.ownsRow W.heap.size 41 1 v (leavesD (ss.take k)).length (u64V (leavesD (ss.take k))) ∧ Below W.heap.size W wr) (fun _ i _ => ss.length - (intOf i).toNat)
  case atStart => exact ⟨0, Nat.zero_le _, rfl, ⟨rfl, .inl ⟨rfl, rfl⟩⟩, Below.refl _ _⟩
  case round =>
    obtain ⟨k, hk, rfl, hown, hB⟩ := hrel
    have Hown := Lib.hid hown
    clear hown
    by_cases hlt : k < ss.length
    · obtain ⟨b, off, rfl, hb, hcell⟩ := (HA.out).2 (by omega)
      have hc : wr.cell? ⟨b, off + k, none⟩ = some (.string ss[k]) := (hB.cell (p := ⟨b, off + k, none⟩) hb).trans (hcell k _ (by simp [strV, hlt]))
      have hsz := Hs.out ss[k] (List.getElem_mem hlt)
      clear hcell
      go_wp2_with fail
      refine (leafText_any _ _ (by omega)).mono ?_
      rintro e w' ⟨rfl, rfl⟩
      go_wp2_with fail
      refine (sum_any _ _ (leaf_size _ hsz)).mono ?_
      rintro e w' ⟨rfl, rfl⟩
      go_wp2_with (at_builtin; refine wpList_append_own _ rfl _ _ 115 rfl W.heap.size 41 i0 (.int .u64 0) 1 8 Tryd.underlying115 hi0 hz0 hz1 hz2 rfl (by decide) _ _ _ rfl (Hown.out.alloc _) ⟨wr.heap.size, 0, none⟩ 1 1 [.int .u64 (Dig.sum (0 :: ss[k].data.toList)).toNat] rfl rfl ?c1 ?c2 ?c3 ?c4 ?c5 ?_)
      case c1 => exact cell_one_new _ _ _
      case c2 => simp [Value.oneCell']
      case c3 => simp [leavesD, maxLen]; omega
      case c4 => simp [leavesD]; omega
      case c5 => have := hB.size; simp; omega
      intro v' w1 hown1 hg1 _
      have hB1 : Below W.heap.size W w1 := (hB.alloc hB.size _).grown hg1 (by have := hB.size; simp; omega) (fun k hk => (Hown.out.lt k hk).1)
      have HR := Lib.hid hown1
      clear hown1 hg1
      go_wp2
      go_roundw
      case rel => exact ⟨k + 1, by omega, by go_num, by rw [leavesD_snoc ss k hlt, u64V_snoc, List.length_append]; exact HR.out, hB1⟩
      case measure => simp [intOf]; omega
    · have hE : ss.take k = ss := List.take_of_length_le (by omega)
      rw [hE] at Hown
      clear hE
      go_wp2
      go_loopw [3] (fun v wx => ∃ (k : Nat) (W0 : World), wx.ownsRow W0.heap.size 41 1 v (Mk.rowN (leavesD ss) k).length (u64V (Mk.rowN (leavesD ss) k)) ∧ J k W0 ∧ Below W0.heap.size W0 wx ∧ (∀ j, j < k → 1 < (Mk.rowN (leavesD ss) j).length) ∧ 1 ≤ (Mk.rowN (leavesD ss) k).length ∧ (Mk.rowN (leavesD ss) k).length ≤ 1024) (fun v _ => sliceLen v)
      case atStart => exact ⟨0, W, Hown.out, hJ, hB, fun j hj => absurd hj (Nat.not_lt_zero j), by simp only [Mk.rowN, leavesD, List.length_map]; exact h1, by simp only [Mk.rowN, leavesD, List.length_map]; exact hn⟩
      case round =>
        clear Hown hk hlt hB
        obtain ⟨k, W0, hown, hJk, hB, hj, hr1, hrn⟩ := hrel
        obtain ⟨r, hr⟩ : ∃ r, r = Mk.rowN (leavesD ss) k := ⟨_, rfl⟩
        have hyl := hY k W0 wr _ hJk hB hown hj hr1
        have HJ := Lib.hid hj
        clear hj
        obtain ⟨fn, tmps, assign, body, hy, hR⟩ := hyl
        have HR := Lib.hid hR
        clear hR
        rw [← hr] at hown hr1 hrn
        obtain ⟨g, cap, hv⟩ : ∃ g cap, u3 = .slice (some ⟨g, 0, none⟩) r.length cap := by
          obtain ⟨n', hn'⟩ : ∃ n', r.length = n' + 1 := ⟨r.length - 1, by omega⟩
          rw [hn'] at hown ⊢
          exact ownsRow_succ hown
        subst hv
        have Hr := Lib.hid hr
        clear hr
        have Hown := Lib.hid hown
        clear hown
        refine (wpIn_wide (n := m + 1)).1 ?_
        by_cases hlen : 1 < r.length
        · have hd : decide ((1 : Int) < (r.length : Int)) = true := by simp; omega
          gi_wp2
          refine HR.out.mono ?_
          rintro e W2 ⟨rfl, hJ2, hown2, hsz2⟩
          rw [← Hr.out] at hown2
          have Hown2 := Lib.hid hown2
          clear hown2
          gi_wp2
          refine wpIn_wide.2 ?_
          go_loopw [6, 7] (fun v i wx => ∃ q p : Nat, p = 2 * q ∧ p ≤ r.length ∧ i = .int .i64 p ∧ wx.ownsRow W2.heap.size 41 1 v q (u64V ((Mk.nextRow r).take q)) ∧ Below W2.heap.size W2 wx) (fun _ i _ => r.length - (intOf i).toNat)
          case atStart => exact ⟨0, 0, rfl, by omega, rfl, ⟨rfl, .inl ⟨rfl, rfl⟩⟩, Below.refl _ _⟩
          case round =>
            obtain ⟨q, p, hp, hpr, rfl, hownq, hBq⟩ := hrel
            have Hownq := Lib.hid hownq
            clear hownq
            have Hp := Lib.hid hp
            clear hp
            have hgl : g < W2.heap.size := (Hown2.out.lt g rfl).2
            have hcell : ∀ j, j < r.length → wr.cell? ⟨g, j, none⟩ = some (.int .u64 (r.getD j 0).toNat) := fun j hj => (hBq.cell (p := ⟨g, j, none⟩) hgl).trans ((Hown2.out.cellAt j (by omega)).trans (u64V_get r j hj))
            by_cases hq2 : p + 1 < r.length
            · have hc0 := hcell p (by omega)
              have hc1 := hcell (p + 1) hq2
              clear hcell
              obtain ⟨x, hx⟩ : ∃ x, x = r.getD p 0 := ⟨_, rfl⟩
              obtain ⟨y, hy1⟩ : ∃ y, y = r.getD (p + 1) 0 := ⟨_, rfl⟩
              rw [← hx] at hc0
              rw [← hy1] at hc1
              have Hx := Lib.hid hx
              have Hy := Lib.hid hy1
              clear hx hy1
              go_wp2
              have hi1 : (p : Int) < (r.length : Int) := by omega
              have hi2 : (p : Int) + 1 < (r.length : Int) := by omega
              have hi3 : (0 : Int) ≤ (p : Int) := Int.natCast_nonneg _
              have hi4 : (0 : Int) ≤ (p : Int) + 1 := by omega
              have hgw : g < wr.heap.size := Nat.lt_of_lt_of_le hgl hBq.size
              have hne : some g ≠ Value.ownBlock u6 := fun e => by have := (Hownq.out.lt g e.symm).1; omega
              have hml : q + 1 ≤ maxLen := by have := Hp.out; unfold maxLen; omega
              have hmb : (q + 1) * 8 ≤ 140737488355328 := by have := Hp.out; omega
              have hwr : IntKind.i64.wrap ((p : Int) + 1) = (p : Int) + 1 := IntWalk.i64_in _ (by omega)
              have htn : ((p : Int) + 1).toNat = p + 1 := by omega
              go_region_held3 (fun w' => w'.cell? ⟨g, p, none⟩ = some (.int .u64 x.toNat) ∧ w'.cell? ⟨g, p + 1, none⟩ = some (.int .u64 y.toNat))
                (go_keep)
                (first
                  | (go_at_call 68; refine (pair_any _ _ _).mono ?_; rintro e wp ⟨rfl, hbp⟩; have hp0 := (hbp.cell (p := ⟨g, p, none⟩) hgw).trans hc0; have hp1 := (hbp.cell (p := ⟨g, p + 1, none⟩) hgw).trans hc1; have hgp := Nat.lt_of_lt_of_le hgw hbp.size)
                  | (refine step_append_lies _ (by rfl) _ _ _ (by rfl) W2.heap.size 41 i0 (.int .u64 0) 1 8 Tryd.underlying115 hi0 hz0 hz1 hz2 (by rfl) Nat.one_pos u6 q (u64V ((Mk.nextRow r).take q)) (by rfl) ((own_below (w := wr.drew) Hownq.out hbp).alloc _)
                      ⟨wp.heap.size, 0, none⟩ 1 1 [.int .u64 (Dig.pair x y).toNat] (by rfl) (by rfl) (World.news_of_block (cs := #[.int .u64 (Dig.pair x y).toNat]) (t := 41) (fr := (0, 0)) (heap_alloc_new wp _)) (by simp [Value.oneCell'])
                      Nat.one_pos hml hmb (Nat.le_trans (Nat.le_trans hBq.size hbp.size) (by simp)) (wp.heap.size + 1) (by simp) ?_; intro gg cap2 w1 hown1 hgrow hat hlt
                     have hq0 : w1.cell? ⟨g, p, none⟩ = some (.int .u64 x.toNat) := (World.cell?_of_block (hgrow.block g (by simp; omega) hne)).trans ((World.cell?_alloc_lt wp _ ⟨g, p, none⟩ hgp).trans hp0)
                     have hq1 : w1.cell? ⟨g, p + 1, none⟩ = some (.int .u64 y.toNat) := (World.cell?_of_block (hgrow.block g (by simp; omega) hne)).trans ((World.cell?_alloc_lt wp _ ⟨g, p + 1, none⟩ hgp).trans hp1)))
              clear hwr htn hq0 hq1 hp0 hp1 hc0 hc1 hi1 hi2 hi3 hi4
              have hB1 : Below W2.heap.size W2 w1 := ((hBq.trans (below_undrew (hbp.mono hBq.size))).alloc (Nat.le_trans hBq.size hbp.size) _).grown hgrow (Nat.le_trans (Nat.le_trans hBq.size hbp.size) (by simp)) (fun k hk => (Hownq.out.lt k hk).1)
              have HO := Lib.hid hown1
              clear hown1 hgrow hat
              go_wp2
              go_roundw
              case rel => exact ⟨q + 1, p + 2, by have := Hp.out; omega, by omega, by go_num, by rw [Mk.take_pair r q (by have := Hp.out; omega), u64V_snoc, ← Hp.out, ← Hx.out, ← Hy.out]; exact HO.out, hB1⟩
              case measure => simp [intOf]; omega
            · by_cases hodd : r.length % 2 = 1
              · have hd2 : (((r.length : Int) % 2) == 1) = true := by simp; omega
                have hcl := hcell (r.length - 1) (by omega)
                clear hcell
                have hi5 : ((r.length : Int) - 1).toNat = r.length - 1 := by omega
                obtain ⟨x, hx⟩ : ∃ x, x = r.getD (r.length - 1) 0 := ⟨_, rfl⟩
                rw [← hx] at hcl
                have Hx := Lib.hid hx
                clear hx
                go_wp2
                refine wpIn_wide.2 ?_
                go_wp2_with (at_builtin; refine wpList_append_own _ rfl _ _ 115 rfl W2.heap.size 41 i0 (.int .u64 0) 1 8 Tryd.underlying115 hi0 hz0 hz1 hz2 rfl (by decide) _ _ _ rfl (Hownq.out.alloc _) ⟨wr.heap.size, 0, none⟩ 1 1 [.int .u64 x.toNat] rfl rfl ?c1 ?c2 ?c3 ?c4 ?c5 ?_)
                case c1 => exact cell_one_new _ _ _
                case c2 => simp [Value.oneCell']
                case c3 => have := Hp.out; unfold maxLen; omega
                case c4 => have := Hp.out; omega
                case c5 => have := hBq.size; simp; omega
                intro v' w1 hown1 hg1 _
                have hB1 : Below W2.heap.size W2 w1 := (hBq.alloc hBq.size _).grown hg1 (by have := hBq.size; simp; omega) (fun k hk => (Hownq.out.lt k hk).1)
                have HO := Lib.hid hown1
                clear hown1 hg1
                go_wp2
                go_roundw
                case rel =>
                  have hnl := Mk.nextRow_length r
                  have hq' := Hp.out
                  have hqe : q = r.length / 2 := by omega
                  have hrow : Mk.rowN (leavesD ss) (k + 1) = Mk.nextRow r := by rw [Mk.rowN, ← Hr.out]
                  refine ⟨k + 1, W2, ?_, hJ2, hB1, ?_, ?_, ?_⟩
                  · rw [hrow, Mk.take_odd r hodd, u64V_snoc, List.length_append, List.length_take, ← Hx.out, ← hqe, show min q (Mk.nextRow r).length = q by rw [hnl]; omega]
                    exact HO.out
                  · intro j hj
                    rcases Nat.lt_succ_iff_lt_or_eq.1 hj with h | h
                    · exact HJ.out j h
                    · rw [h, ← Hr.out]; exact hlen
                  · rw [hrow, hnl]; omega
                  · rw [hrow, hnl]; omega
                case measure =>
                  have hq' := Hp.out
                  rw [own_len HO.out]
                  show q + 1 < r.length
                  omega
              · have hd2 : (((r.length : Int) % 2) == 1) = false := by simp; omega
                clear hcell
                go_wp2
                refine wpIn_wide.2 ?_
                go_wp2
                go_roundw
                case rel =>
                  have hnl := Mk.nextRow_length r
                  have hq' := Hp.out
                  have hqe : q = r.length / 2 := by omega
                  have hrow : Mk.rowN (leavesD ss) (k + 1) = Mk.nextRow r := by rw [Mk.rowN, ← Hr.out]
                  refine ⟨k + 1, W2, ?_, hJ2, hBq, ?_, ?_, ?_⟩
                  · rw [hrow, hnl, show (r.length + 1) / 2 = q by omega, ← Mk.take_even r (by omega), ← hqe]
                    exact Hownq.out
                  · intro j hj
                    rcases Nat.lt_succ_iff_lt_or_eq.1 hj with h | h
                    · exact HJ.out j h
                    · rw [h, ← Hr.out]; exact hlen
                  · rw [hrow, hnl]; omega
                  · rw [hrow, hnl]; omega
                case measure =>
                  have hq' := Hp.out
                  rw [own_len Hownq.out]
                  show q < r.length
                  omega
        · have hd : decide ((1 : Int) < (r.length : Int)) = false := by simp; omega
          gi_wp2
          refine HR.out.mono ?_
          rintro e W2 ⟨rfl, hJ2, hown2, hsz2⟩
          gi_wp2
          go_end0
          exact ⟨_, k, W2, rfl, hJ2, Below.refl _ _, by rw [← Hr.out]; omega, HJ.out⟩
end Go.Proofs.YtfjkmhbipkoefaaDoor
namespace Go.Proofs.YtfjkmhbipkoefaaDoor
open Go.RowKit Go.Shelf
set_option linter.unusedVariables false
attribute [local go_sem] Oper.semAt_some
def rootV (ss : List ByteArray) : UInt64 := if checkE ss.length = 0 then Mk.rootF 10 (leavesD ss) else 0
theorem rows_any (A : Option Addr) (n c : Nat) (w : World) : Calls Tryd.prog 51 #[.slice A n c] w fun e w' => e = .returned (.func (.func 66) #[] #[.pointer (some ⟨w.heap.size, 0, none⟩)]) ∧ w.alloc (.cells #[.slice A n c] 88) = w' := by
  go_enter Tryd.func51, Tryd.ntmps51
  go_wp2
  go_ret
  exact ⟨rfl, rfl⟩
def rootAt (R : List UInt64) : Nat → UInt64
  | 0 => 0
  | k + 1 => (Mk.rowN R k).getD 0 0
/-- The loop of Root between two rounds. -/
def RootJ (w : World) (l : Nat) (r : Loop) (R : List UInt64) (k : Nat) (W : World) : Prop :=
  W.heap[l]? = some (Rng.readyOf r) ∧ W.heap[w.heap.size + 2]? = some (.deferred (some [])) ∧ W.cell? ⟨w.heap.size, 0, none⟩ = some (.int .u64 (rootAt R k).toNat) ∧ W.frozen? ⟨w.heap.size, 0, none⟩ = false ∧ Below w.heap.size w W ∧ w.heap.size + 4 ≤ W.heap.size
set_option maxRecDepth 100000 in
set_option maxHeartbeats 4000000 in
theorem root_any (A : Option Addr) (c : Nat) (ss : List ByteArray) (w : World) (hA : Sl w w.heap.size 1 A ss.length (strV ss)) (hs : ∀ s ∈ ss, s.size ≤ 140737488355328) (hl : ss.length ≤ maxLen) :
    Calls Tryd.prog 29 #[.slice A ss.length c] w fun e w' => e = .returned (.tuple #[.int .u64 (rootV ss).toNat, .int .i64 (checkE ss.length)]) ∧ Below w.heap.size w w' := by
  by_cases hok : checkE ss.length = 0
  · have hroot : rootV ss = Mk.rootF 10 (leavesD ss) := by unfold rootV; rw [if_pos hok]
    have h1 : 1 ≤ ss.length ∧ ss.length ≤ 1024 := by
      unfold checkE at hok
      split at hok
      · cases hok
      · split at hok
        · cases hok
        · omega
    have Hok := Lib.hid hok
    have Hroot := Lib.hid hroot
    have Hs := Lib.hid hs
    have HA := Lib.hid hA
    clear hroot hs hA
    refine (callsIn_wide (n := 4)).1 ?_
    refine callsIn_of_wp_marks Tryd.func29 rfl trivial ?_ rfl
    simp only [Tryd.ntmps29, List.size_toArray, List.length_cons, List.length_nil, Nat.reduceAdd, Nat.reduceSub, Array.replicate_succ, Array.replicate_zero, List.push_toArray, List.append_toArray, List.nil_append, List.cons_append]
    refine wpIn_wide.2 ?_
    go_wp2_with fail
    refine (check_any _ _ _ _ hl).mono ?_
    rintro e w' ⟨rfl, rfl⟩
    go_wp2_with fail
    refine (rows_any _ _ _ _).mono ?_
    rintro e w' ⟨rfl, rfl⟩
    go_wp2_with fail
    obtain ⟨w1, hw1⟩ : ∃ w1, w1 = (w.alloc (.cells #[.int .u64 0] 41)).alloc (.cells #[.slice A ss.length c] 88) := ⟨_, rfl⟩
    rw [← hw1]
    have hsz : w1.heap.size = w.heap.size + 2 := by rw [hw1]; simp
    have hB1 : Below w.heap.size w w1 := by rw [hw1]; exact ((Below.refl _ _).alloc (Nat.le_refl _) _).alloc (by simp) _
    have hc0 : w1.cell? ⟨w.heap.size, 0, none⟩ = some (.int .u64 0) := by rw [hw1]; simp [go_sem]
    have hf0 : w1.frozen? ⟨w.heap.size, 0, none⟩ = false := by rw [hw1]; simp [go_sem]
    have hcl : w1.cell? ⟨w.heap.size + 1, 0, none⟩ = some (.slice A ss.length c) := by rw [hw1]; simp [go_sem]
    clear hw1
    have Hsz := Lib.hid hsz
    refine (wpIn_wide (n := 3)).1 ?_
    refine Rng.range_any rfl (by omega) (gf := 66) (lb := #[.pointer (some ⟨w.heap.size + 1, 0, none⟩)]) rfl trivial (enters_of Tryd.func66 (by kernel_rfl) rfl) ?_
    intro r hfn hra hrb hrt hrp
    refine callsIn_wide.2 ?_
    obtain ⟨W2, hW2⟩ : ∃ W2, W2 = (w1.alloc (.deferred (some []))).alloc (Rng.readyOf r) := ⟨_, rfl⟩
    rw [← hW2]
    have hS2 : W2.heap.size = w.heap.size + 4 := by rw [hW2]; simp [hsz]
    have hB2 : Below w1.heap.size w1 W2 := by rw [hW2]; exact ((Below.refl _ _).alloc (Nat.le_refl _) _).alloc (by simp) _
    have hl2 : W2.heap[w1.heap.size + 1]? = some (Rng.readyOf r) := by rw [hW2]; have := World.alloc_heap_new (w1.alloc (.deferred (some []))) (Rng.readyOf r); rwa [World.size_alloc] at this
    have hd2 : W2.heap[w.heap.size + 2]? = some (.deferred (some [])) := by rw [hW2, ← hsz]; exact (Below.heap_alloc _ _ _ (by simp)).trans (World.alloc_heap_new w1 _)
    clear hW2
    show Calls Tryd.prog 66 #[.func (.yield (w1.heap.size + 1)) #[] #[], .pointer (some ⟨w.heap.size + 1, 0, none⟩)] W2 _
    refine (rows1_any (w1.heap.size + 1) 1 (w.heap.size + 1) A c ss W2 (RootJ w (w1.heap.size + 1) r (leavesD ss)) ?hA ?hBn Hs.out h1.1 h1.2 ?hJ ?hY).mono ?_
    case hA => exact ((HA.out.below hB1).mono hB1.size).below hB2 |>.mono hB2.size
    case hBn => exact (hB2.cell (p := ⟨w.heap.size + 1, 0, none⟩) (by rw [hsz]; simp)).trans hcl
    case hJ => exact ⟨hl2, hd2, (hB2.cell (p := ⟨w.heap.size, 0, none⟩) (by rw [hsz]; simp)).trans hc0, (hB2.frozen (p := ⟨w.heap.size, 0, none⟩) (by rw [hsz]; simp)).trans hf0, hB1.trans (hB2.mono hB1.size), by omega⟩
    case hY =>
      intro k W0 W3 v hJ hB hown hj hr1
      obtain ⟨hl0, hd0, hr0, hf0, hBw, hsz0⟩ := hJ
      have hl3 : W3.heap[w1.heap.size + 1]? = some (Rng.readyOf r) := (hB.block _ (by omega)).trans hl0
      obtain ⟨g, cap, hv⟩ : ∃ g cap, v = .slice (some ⟨g, 0, none⟩) (Mk.rowN (leavesD ss) k).length cap := by
        obtain ⟨n', hn'⟩ : ∃ n', (Mk.rowN (leavesD ss) k).length = n' + 1 := ⟨(Mk.rowN (leavesD ss) k).length - 1, by omega⟩
        rw [hn'] at hown ⊢
        exact ownsRow_succ hown
      subst hv
      have hgb := hown.lt g rfl
      refine Rng.yield_at hl3 hra hrb (by rw [hrt, hrp]) (by rw [hrp]; rfl) hfn ?_
      have hx := hown.cellAt 0 (by omega)
      rw [u64V_get _ 0 hr1] at hx
      obtain ⟨x, hxe⟩ : ∃ x, x = (Mk.rowN (leavesD ss) k).getD 0 0 := ⟨_, rfl⟩
      rw [← hxe] at hx
      have hg2 : g ≠ w1.heap.size + 1 := by omega
      obtain ⟨W4, hW4⟩ : ∃ W4, W4 = W3.putObj (w1.heap.size + 1) (Rng.busyOf r) := ⟨_, rfl⟩
      have hx4 : W4.cell? ⟨g, 0, none⟩ = some (.int .u64 x.toNat) := by rw [hW4]; exact (World.cell?_of_block (World.putObj_heap_other hg2)).trans hx
      have hr4 : W4.cell? ⟨w.heap.size, 0, none⟩ = some (.int .u64 (rootAt (leavesD ss) k).toNat) := by rw [hW4]; exact (World.cell?_of_block (World.putObj_heap_other (by simp; omega))).trans ((hB.cell (p := ⟨w.heap.size, 0, none⟩) (by simp; omega)).trans hr0)
      have hf4 : W4.frozen? ⟨w.heap.size, 0, none⟩ = false := by rw [hW4]; exact (World.frozen?_of_block (World.putObj_heap_other (by simp; omega))).trans ((hB.frozen (p := ⟨w.heap.size, 0, none⟩) (by simp; omega)).trans hf0)
      have hl4 : W4.heap[w1.heap.size + 1]? = some (Rng.busyOf r) := by rw [hW4]; exact World.putObj_heap_same (by have := hB.size; omega)
      have hrn : 1 ≤ (Mk.rowN (leavesD ss) k).length := hr1
      have HW4 := Lib.hid hW4
      have Hxe := Lib.hid hxe
      have Hown := Lib.hid hown
      have Hl3 := Lib.hid hl3
      have Hl4 := Lib.hid hl4
      clear hxe hown hr0 hl3 hl4 hl0 hl2 hd2 hc0 hcl hx hra hrb hrt hrp hsz hS2
      gi_wp2
      refine ⟨Hl3.out, ?_⟩
      rw [← hW4]
      clear hW4
      gi_wp2
      have hsz := Hsz.out
      have hs3 := hB.size
      have h43 : ∀ j, j ≠ w1.heap.size + 1 → W4.heap[j]? = W3.heap[j]? := fun j hj => by rw [HW4.out]; exact World.putObj_heap_other hj
      have hs4 : W4.heap.size = W3.heap.size := by rw [HW4.out]; simp
      obtain ⟨W5, hW5⟩ : ∃ W5, W5 = W4.setCell ⟨w.heap.size, 0, none⟩ (.int .u64 x.toNat) := ⟨_, rfl⟩
      rw [← hW5]
      have h54 : ∀ j, j ≠ w.heap.size → W5.heap[j]? = W4.heap[j]? := fun j hj => by rw [hW5]; exact Below.heap_setCell _ _ _ _ hj
      have hs5 : W5.heap.size = W4.heap.size := by rw [hW5]; simp [World.setCell]
      have hc5 : W5.cell? ⟨w.heap.size, 0, none⟩ = some (.int .u64 x.toNat) := by rw [hW5]; exact World.cell?_setCell_same' _ _ _ (by rw [hr4]; rfl)
      have hf5 : W5.frozen? ⟨w.heap.size, 0, none⟩ = false := by rw [hW5, World.frozen?_setCell]; exact hf4
      have hB5 : Below w.heap.size w W5 := by
        rw [hW5, HW4.out]
        exact (below_putObj (hBw.trans (hB.mono hBw.size)) (by omega) (by omega) _).setCell (Nat.le_refl _) _
      refine ⟨(h54 _ (by omega)).trans Hl4.out, rfl, ⟨World.putObj_heap_same (by omega), ?_, ?_, ?_, below_putObj hB5 (by omega) (by omega) _, by simp; omega⟩, ?_, by simp; omega⟩
      · exact (World.putObj_heap_other (by omega)).trans ((h54 _ (by omega)).trans ((h43 _ (by omega)).trans ((hB.block _ (by omega)).trans hd0)))
      · rw [World.cell?_of_block (World.putObj_heap_other (by simp; omega)), hc5, Hxe.out]
        rfl
      · rw [World.frozen?_of_block (World.putObj_heap_other (by simp; omega)), hf5]
      · exact own_same Hown.out ((World.putObj_heap_other hg2).trans ((h54 _ (by omega)).trans (h43 _ hg2)))
    rintro e W3 ⟨v, k, W0, rfl, ⟨hl0, hd0, hr0, hf0, hBw, hsz0⟩, hB, hlen, hj⟩
    refine ⟨_, rfl, .inl ⟨(hB.block _ (by omega)).trans hl0, ?_⟩⟩
    dsimp only
    obtain ⟨W4, hW4⟩ : ∃ W4, W4 = W3.putObj (w1.heap.size + 1) (Rng.overOf r none) := ⟨_, rfl⟩
    rw [← hW4]
    have hroot : Mk.rootF 10 (leavesD ss) = (Mk.rowN (leavesD ss) k).getD 0 0 := by
      refine Mk.root_row k 10 _ ?_ hlen hj
      rcases Nat.lt_or_ge 10 k with h | h
      · have h10 := hj 10 h
        have := Mk.rowN_len (leavesD ss) 10 (by simp only [leavesD, List.length_map]; omega) 10 (Nat.le_refl _)
        simp at this; omega
      · exact h
    have hr4 : W4.cell? ⟨w.heap.size, 0, none⟩ = some (.int .u64 (rootV ss).toNat) := by
      rw [hW4, World.cell?_of_block (World.putObj_heap_other (by simp; omega)), hB.cell (p := ⟨w.heap.size, 0, none⟩) (by simp; omega), hr0, Hroot.out, hroot]
      rfl
    have hd4 : W4.heap[w1.heap.size]? = some (.deferred (some [])) := by
      rw [hW4, hsz]
      exact (World.putObj_heap_other (by omega)).trans ((hB.block _ (by omega)).trans hd0)
    have hB4 : Below w.heap.size w W4 := by rw [hW4]; exact below_putObj (hBw.trans (hB.mono hBw.size)) (by have := hB.size; omega) (by omega) _
    have Hd4 := Lib.hid hd4
    clear hW4 hd4 hroot hsz hS2 hl2 hd2 hc0 hcl hl0 hd0 hr0 hra hrb hrt hrp
    gi_wp2
    go_wp2
    refine ⟨by simp, .inl ⟨_, _, rfl, run_takeDeferred Hd4.out, ?_⟩⟩
    refine ⟨_, results_tmp2 rfl _ _ _, ?_⟩
    rw [Hok.out]
    exact ⟨rfl, below_putObj hB4 hB4.size (by have := Hsz.out; omega) _⟩
  · have h0 : rootV ss = 0 := by unfold rootV; rw [if_neg hok]
    rw [h0]
    have hne : (checkE ss.length != 0) = true := by simpa using hok
    have Hok := Lib.hid hok
    clear hok h0
    go_enter Tryd.func29, Tryd.ntmps29
    go_wp2_with fail
    refine (check_any _ _ _ _ hl).mono ?_
    rintro e w' ⟨rfl, rfl⟩
    go_wp2_with fail
    go_ret2
    exact ⟨rfl, Below.refl _ _⟩
end Go.Proofs.YtfjkmhbipkoefaaDoor
namespace Go.Proofs.YtfjkmhbipkoefaaDoor
open Go.RowKit Go.Shelf
set_option linter.unusedVariables false
attribute [local go_sem] Oper.semAt_some
/-- The run of an append, folded, so that a fact on it can be laid ahead of a region. -/
def appRes (P : Program) (t ty : TypeId) (args : Array Value) (w : World) : Result Value := (Builtin.append_ #[t, t] ty args).run P w
theorem append_fold {P : Program} {ro : Option Nat} {ρ : Operand → Value} {d : Option Tmp} {s x : Operand} {t ty : TypeId} {p : String} {af : Array Edge} {gd : Option (Nat × Bool)} {w : World} :
    Sem.run P (Oper.semAt ro ρ { dst := d, op := Op.call { callee := Callee.builtin Builtin.append, args := #[s, x], argTypes := #[t, t] }, type := ty, pos := p, after := af, guard := gd }) w = (appRes P t ty #[ρ s, ρ x] w).andThen (fun v w' => .ok (.value v) w') := by
  rw [Oper.semAt_eq ro ρ _ (fun c h => by cases h)]
  unfold execOp appRes
  simp only [resolve, invoke, builtin, Sem.run_bind, Sem.run_pure, Result.andThen_ok, List.map_toArray, List.map_cons, List.map_nil]
theorem append_fold2 {P : Program} {ρ : Operand → Value} {d : Option Tmp} {s x : Operand} {t ty : TypeId} {p : String} {af : Array Edge} {gd : Option (Nat × Bool)} {w : World} :
    Sem.run P (execOp ρ { dst := d, op := Op.call { callee := Callee.builtin Builtin.append, args := #[s, x], argTypes := #[t, t] }, type := ty, pos := p, after := af, guard := gd }) w = (appRes P t ty #[ρ s, ρ x] w).andThen (fun v w' => .ok (.value v) w') := by
  unfold execOp appRes
  simp only [resolve, invoke, builtin, Sem.run_bind, Sem.run_pure, Result.andThen_ok, List.map_toArray, List.map_cons, List.map_nil]
theorem app_step {n : Nat} {P : Program} {o : Oper} {d : Option Tmp} {s x : Operand} {t ty : TypeId} {ops : Array Oper} {a a' : Act} {w W5 : World} {K : Act → World → Prop} {Q : Exit → Act → World → Prop} {v : Value}
    (hop : o.op = Op.call { callee := Callee.builtin Builtin.append, args := #[s, x], argTypes := #[t, t] }) (hg : o.guard = none) (hd : o.dst = d) (hty : o.type = ty)
    (h : appRes P t ty #[a.eval s, a.eval x] w = .ok v W5) (ha : a.put d v = a') (hk : K a' W5) :
    if Region.wanted o (yielded ops a.tmps) = true then Oper.wpIn Fence.wide n P o a w K Q else (∀ f, o.about P w a.eval = some f → Fence.wide.fn f) ∧ K (a.put o.dst undef) w := by
  obtain ⟨d', op', ty', p', af', g'⟩ := o
  cases hop; cases hg; cases hd; cases hty
  rw [if_pos (by simp [Region.wanted])]
  refine ⟨fun f _ => trivial, ?_⟩
  rw [append_fold, h]
  subst ha
  exact hk
attribute [local go_sem ↓] append_fold append_fold2
def forkV (l : List (UInt64 × Bool)) : List Value := l.flatMap fun p => [.int .u64 p.1.toNat, .bool p.2]
theorem forkV_len (l : List (UInt64 × Bool)) : (forkV l).length = l.length * 2 := by
  induction l with
  | nil => rfl
  | cons a l ih => simp [forkV] at ih ⊢; omega
theorem forkV_snoc (l : List (UInt64 × Bool)) (x : UInt64) (b : Bool) : forkV (l ++ [(x, b)]) = forkV l ++ [.int .u64 x.toNat, .bool b] := by simp [forkV]
def pathV (ss : List ByteArray) (i : Nat) : List (UInt64 × Bool) := Mk.pathF 10 (leavesD ss) i
theorem rows_bound (l : List UInt64) (hl : l.length ≤ 1024) (k : Nat) (h : ∀ j, j < k → 1 < (Mk.rowN l j).length) : k ≤ 10 := by
  rcases Nat.lt_or_ge 10 k with h1 | h1
  · have h10 := h 10 h1
    have := Mk.rowN_len l 10 (by omega) 10 (Nat.le_refl _)
    simp at this; omega
  · exact h1
theorem pathTo_len (l : List UInt64) (i k : Nat) : (Mk.pathTo l i k).length ≤ k := by
  induction k with
  | zero => exact Nat.le_refl _
  | succ k ih =>
    have : (Mk.stepOf (Mk.rowN l k) (i / 2 ^ k)).length ≤ 1 := by
      unfold Mk.stepOf
      split
      · exact Nat.le_refl _
      · split
        · exact Nat.le_refl _
        · exact Nat.zero_le _
    rw [Mk.pathTo, List.length_append]
    omega
end Go.Proofs.YtfjkmhbipkoefaaDoor
namespace Go.Proofs.YtfjkmhbipkoefaaDoor
open Go.RowKit Go.Shelf
set_option linter.unusedVariables false
/-- Path's error and answer. -/
def pathE (n : Nat) (i : Int) : Int := if checkE n = 0 then (if 0 ≤ i ∧ i < n then 0 else 1) else checkE n
def pathL (ss : List ByteArray) (i : Int) : List (UInt64 × Bool) := if pathE ss.length i = 0 then pathV ss i.toNat else []
def boolV (l : List Bool) : List Value := l.map Value.bool
def sidesOk (n i : Int) : Prop := (1 ≤ n ∧ n ≤ 1024) ∧ 0 ≤ i ∧ i < n
instance (n i : Int) : Decidable (sidesOk n i) := by unfold sidesOk; exact inferInstance
def sidesL (n i : Int) : List Bool := if sidesOk n i then Mk.sidesF 10 n.toNat i.toNat else []
theorem info_bool : (Tryd.prog.info? 4).map (fun i => (i.zero, i.size, i.bytes)) = some (some (.bool false), 1, 1) := by kernel_rfl
end Go.Proofs.YtfjkmhbipkoefaaDoor
namespace Go.Proofs.YtfjkmhbipkoefaaDoor
open Go.RowKit Go.Shelf
set_option linter.unusedVariables false
def properB (n i : Int) (p : List (UInt64 × Bool)) : Bool := decide (sidesOk n i ∧ sidesL n i = p.map (·.2))
theorem forkV_get1 (p : List (UInt64 × Bool)) (k : Nat) (h : k < p.length) : (forkV p)[k * 2]? = some (.int .u64 (p[k]).1.toNat) := by
  induction p generalizing k with
  | nil => cases h
  | cons a p ih =>
    cases k with
    | zero => rfl
    | succ k => rw [show (k + 1) * 2 = k * 2 + 2 from by omega]; exact ih k (by simpa using h)
theorem forkV_get2 (p : List (UInt64 × Bool)) (k : Nat) (h : k < p.length) : (forkV p)[k * 2 + 1]? = some (.bool (p[k]).2) := by
  induction p generalizing k with
  | nil => cases h
  | cons a p ih =>
    cases k with
    | zero => rfl
    | succ k => rw [show (k + 1) * 2 + 1 = k * 2 + 1 + 2 from by omega]; exact ih k (by simpa using h)
theorem sidesF_len : ∀ (f n i : Nat), (Mk.sidesF f n i).length ≤ f
  | 0, _, _ => Nat.le_refl _
  | f + 1, n, i => by
    rw [Mk.sidesF]
    split
    · exact Nat.zero_le _
    · have h1 := sidesF_len f ((n + 1) / 2) (i / 2)
      have h2 : (Mk.sideOf n i).length ≤ 1 := by unfold Mk.sideOf; split <;> simp
      rw [List.length_append]; omega
theorem sidesL_len (n i : Int) : (sidesL n i).length ≤ 10 := by
  unfold sidesL
  split
  · exact sidesF_len _ _ _
  · exact Nat.zero_le _
end Go.Proofs.YtfjkmhbipkoefaaDoor
