/- pick and Made of the law package (layer 29). The reference's Same of two lists of totals (layer 29). The walk of the law package's head (layer 25): the fixed examples hold. The walks of the reference package of digest. -/
import Derived.Test.YtpmakhfpdidleaaDoorQ19
import Derived.OpenShut
import Derived.BigQuiet
import Derived.Test.YtpmakhfpdidleaaDoorQ15
import Derived.Test.YtpmakhfpdidleaaDoorQ01
namespace Go.Proofs.YtpmakhfpdidleaaDoor
open Go.RowKit Go.Shelf
set_option linter.unusedVariables false
set_option linter.unusedSimpArgs false
set_option maxRecDepth 100000
def pickF (c n : Int) : Int := (if c < 0 then -(c + 1) else c) % n
theorem pickF_lt (c n : Int) (hn : 0 < n) : 0 ≤ pickF c n ∧ pickF c n < n := ⟨Int.emod_nonneg _ (by omega), Int.emod_lt_of_pos _ hn⟩
theorem pick_any (c n : Int) (w : World) (hb : I64 c) (h1 : 1 ≤ n) (h2 : n ≤ 9223372036854775807) : Calls Tryd.prog 7 #[.int .i64 c, .int .i64 n] w fun e w' => e = .returned (.int .i64 (pickF c n)) ∧ w = w' := by
  unfold I64 at hb
  have hne : (n == 0) = false := by rw [beq_eq_false_iff_ne]; omega
  by_cases h : c < 0
  · have hp : pickF c n = (-(c + 1)) % n := by unfold pickF; rw [if_pos h]
    rw [hp]
    go_enter Tryd.func7, Tryd.ntmps7
    go_wp2
    go_ret
    refine ⟨?_, rfl⟩
    have e : -(c + 1).tmod n = -(c + 1) % n := by rw [← Int.neg_tmod, Int.tmod_eq_emod_of_nonneg (by omega)]
    rw [e]
    rfl
  · have hp : pickF c n = c % n := by unfold pickF; rw [if_neg h]
    rw [hp]
    go_enter Tryd.func7, Tryd.ntmps7
    go_wp2
    go_ret
    exact ⟨rfl, rfl⟩
theorem pick_at (c n v : Int) (hv : Hid (pickF c n = v)) (w : World) (hb : I64 c) (h1 : 1 ≤ n) (h2 : n ≤ 9223372036854775807) : Calls Tryd.prog 7 #[.int .i64 c, .int .i64 n] w fun e w' => e = .returned (.int .i64 v) ∧ w = w' := by
  rw [← hv.out]; exact pick_any c n w hb h1 h2
theorem heap_set5 (W : World) (X b : Nat) (v0 v1 v2 v3 v4 : Value) (h : b ≠ X) : (((((W.setCell ⟨X, 0, none⟩ v0).setCell ⟨X, 1, none⟩ v1).setCell ⟨X, 2, none⟩ v2).setCell ⟨X, 3, none⟩ v3).setCell ⟨X, 4, none⟩ v4).heap[b]? = W.heap[b]? :=
  (Below.heap_setCell _ _ _ _ h).trans ((Below.heap_setCell _ _ _ _ h).trans ((Below.heap_setCell _ _ _ _ h).trans ((Below.heap_setCell _ _ _ _ h).trans (Below.heap_setCell _ _ _ _ h))))
theorem set5_heap {W : World} {X : Nat} {u0 u1 u2 u3 u4 v0 v1 v2 v3 v4 : Value} {t : TypeId} (h : W.heap[X]? = some (.cells #[u0, u1, u2, u3, u4] t (0, 0))) : (((((W.setCell ⟨X, 0, none⟩ v0).setCell ⟨X, 1, none⟩ v1).setCell ⟨X, 2, none⟩ v2).setCell ⟨X, 3, none⟩ v3).setCell ⟨X, 4, none⟩ v4).heap[X]? = some (.cells #[v0, v1, v2, v3, v4] t (0, 0)) :=
  setCell_heap (setCell_heap (setCell_heap (setCell_heap (setCell_heap h))))
def empL : List ByteArray := [⟨#[97, 99, 109, 101]⟩, ⟨#[98, 111, 108, 116]⟩, ⟨#[99, 95, 51]⟩]
def perL : List ByteArray := [⟨#[97, 110, 110]⟩, ⟨#[98, 111, 98]⟩]
/-- What Made returns. -/
def madeT (a b c d : Int) : TotD := ⟨empL.getD (pickF a 3).toNat ⟨#[]⟩, perL.getD (pickF (a.tdiv 3) 2).toNat ⟨#[]⟩, 270 + pickF b 40, pickF c 2000001 - 1000000, pickF d 2000001 - 1000000⟩
theorem emp_name : ∀ k : Nat, k < 3 → isNameB (empL.getD k ⟨#[]⟩) = true := by
  intro k hk
  match k, hk with
  | 0, _ => decide +kernel
  | 1, _ => decide +kernel
  | 2, _ => decide +kernel
theorem per_name : ∀ k : Nat, k < 2 → isNameB (perL.getD k ⟨#[]⟩) = true := by
  intro k hk
  match k, hk with
  | 0, _ => decide +kernel
  | 1, _ => decide +kernel
theorem made_valid (a b c d : Int) : validTB (madeT a b c d) = true := by
  have h1 := pickF_lt a 3 (by omega)
  have h2 := pickF_lt (a.tdiv 3) 2 (by omega)
  have h3 := pickF_lt b 40 (by omega)
  have h4 := pickF_lt c 2000001 (by omega)
  have h5 := pickF_lt d 2000001 (by omega)
  unfold validTB madeT
  dsimp only
  rw [emp_name _ (by omega), per_name _ (by omega)]
  simp
  omega
theorem tdiv3_I64 {a : Int} (h : I64 a) : I64 (a.tdiv 3) := by
  unfold I64 at h ⊢
  rcases Int.lt_or_le a 0 with k | k
  · have e : a.tdiv 3 = -((-a) / 3) := by
      rw [← Int.tdiv_eq_ediv_of_nonneg (by omega), Int.neg_tdiv, Int.neg_neg]
    rw [e]
    omega
  · rw [Int.tdiv_eq_ediv_of_nonneg k]
    omega
set_option maxHeartbeats 4000000 in
theorem made_any (a b c d : Int) (te tp : ByteArray) (tm tg tx : Int) (hr : Hid (madeT a b c d = ⟨te, tp, tm, tg, tx⟩)) (ha : I64 a) (hb : I64 b) (hc : I64 c) (hd : I64 d) (w : World) :
    Calls Tryd.prog 5 #[.agg #[.int .i64 a, .int .i64 b, .int .i64 c, .int .i64 d]] w fun e w' => e = .returned (.agg #[.string te, .string tp, .int .i64 tm, .int .i64 tg, .int .i64 tx]) ∧ Below w.heap.size w w' := by
  obtain ⟨v0, hv0⟩ : ∃ q : Nat, pickF a 3 = (q : Int) := ⟨(pickF a 3).toNat, by have := pickF_lt a 3 (by omega); omega⟩
  obtain ⟨v1, hv1⟩ : ∃ q : Nat, pickF (a.tdiv 3) 2 = (q : Int) := ⟨(pickF (a.tdiv 3) 2).toNat, by have := pickF_lt (a.tdiv 3) 2 (by omega); omega⟩
  obtain ⟨v2, hv2⟩ : ∃ q, pickF b 40 = q := ⟨_, rfl⟩
  obtain ⟨v3, hv3⟩ : ∃ q, pickF c 2000001 = q := ⟨_, rfl⟩
  obtain ⟨v4, hv4⟩ : ∃ q, pickF d 2000001 = q := ⟨_, rfl⟩
  have b0 : v0 < 3 := by have := (pickF_lt a 3 (by omega)).2; omega
  have b1 : v1 < 2 := by have := (pickF_lt (a.tdiv 3) 2 (by omega)).2; omega
  have b2 := pickF_lt b 40 (by omega)
  have b3 := pickF_lt c 2000001 (by omega)
  have b4 := pickF_lt d 2000001 (by omega)
  rw [hv2] at b2
  rw [hv3] at b3
  rw [hv4] at b4
  have hre := hr.out
  unfold madeT at hre
  rw [hv0, hv1, hv2, hv3, hv4] at hre
  rw [Int.toNat_natCast, Int.toNat_natCast] at hre
  injection hre with r0 r1 r2 r3 r4
  subst r2 r3 r4
  have R0 := Lib.hid r0
  have R1 := Lib.hid r1
  have P0 := Lib.hid hv0
  have P1 := Lib.hid hv1
  have P2 := Lib.hid hv2
  have P3 := Lib.hid hv3
  have P4 := Lib.hid hv4
  have hat := tdiv3_I64 ha
  have hwr : IntKind.i64.wrap (a.tdiv 3) = a.tdiv 3 := IntWalk.i64_in _ hat
  have hwr2 : IntKind.i64.wrap (270 + v2) = 270 + v2 := IntWalk.i64_in _ (by omega)
  have hwr3 : IntKind.i64.wrap (v3 - 1000000) = v3 - 1000000 := IntWalk.i64_in _ (by omega)
  have hwr4 : IntKind.i64.wrap (v4 - 1000000) = v4 - 1000000 := IntWalk.i64_in _ (by omega)
  have HA := Lib.hid (And.intro ha (And.intro hb (And.intro hc (And.intro hd hat))))
  clear hr r0 r1 hv0 hv1 hv2 hv3 hv4 ha hb hc hd hat
  go_enter Tryd.func5, Tryd.ntmps5
  go_upto_region 3 with fail
  obtain ⟨W, hW⟩ : ∃ W, W = (((w.alloc (.cells #[.int .i64 a, .int .i64 b, .int .i64 c, .int .i64 d] 22)).alloc (.cells #[.string ⟨#[]⟩, .string ⟨#[]⟩, .int .i64 0, .int .i64 0, .int .i64 0] 25)).alloc (.cells #[.string ⟨#[97, 99, 109, 101]⟩, .string ⟨#[98, 111, 108, 116]⟩, .string ⟨#[99, 95, 51]⟩] 9)).alloc (.cells #[.string ⟨#[97, 110, 110]⟩, .string ⟨#[98, 111, 98]⟩] 9) := ⟨_, rfl⟩
  obtain ⟨Q, hQ⟩ : ∃ x, x = w.heap.size := ⟨_, rfl⟩
  obtain ⟨X, hX⟩ : ∃ x, x = w.heap.size + 1 := ⟨_, rfl⟩
  obtain ⟨E, hE⟩ : ∃ x, x = w.heap.size + 1 + 1 := ⟨_, rfl⟩
  obtain ⟨N, hN⟩ : ∃ x, x = w.heap.size + 1 + 1 + 1 := ⟨_, rfl⟩
  rw [← hW]
  try rw [← hN]
  try rw [← hE]
  try rw [← hX]
  try rw [← hQ]
  have gQ : W.heap[Q]? = some (.cells #[.int .i64 a, .int .i64 b, .int .i64 c, .int .i64 d] 22) := by
    rw [hW, hQ]
    exact (Below.heap_alloc _ _ _ (by simp; omega)).trans ((Below.heap_alloc _ _ _ (by simp; omega)).trans (heap_alloc2_old w _ _))
  have gX : W.heap[X]? = some (.cells #[.string ⟨#[]⟩, .string ⟨#[]⟩, .int .i64 0, .int .i64 0, .int .i64 0] 25) := by
    rw [hW, hX]
    exact (Below.heap_alloc _ _ _ (by simp)).trans ((Below.heap_alloc _ _ _ (by simp)).trans (heap_alloc2_new w _ _))
  have gE : W.heap[E]? = some (.cells #[.string ⟨#[97, 99, 109, 101]⟩, .string ⟨#[98, 111, 108, 116]⟩, .string ⟨#[99, 95, 51]⟩] 9) := by
    rw [hW, hE]
    have := heap_alloc2_old ((w.alloc (.cells #[.int .i64 a, .int .i64 b, .int .i64 c, .int .i64 d] 22)).alloc (.cells #[.string ⟨#[]⟩, .string ⟨#[]⟩, .int .i64 0, .int .i64 0, .int .i64 0] 25)) (.cells #[.string ⟨#[97, 99, 109, 101]⟩, .string ⟨#[98, 111, 108, 116]⟩, .string ⟨#[99, 95, 51]⟩] 9) (.cells #[.string ⟨#[97, 110, 110]⟩, .string ⟨#[98, 111, 98]⟩] 9)
    rwa [show ((w.alloc (.cells #[.int .i64 a, .int .i64 b, .int .i64 c, .int .i64 d] 22)).alloc (.cells #[.string ⟨#[]⟩, .string ⟨#[]⟩, .int .i64 0, .int .i64 0, .int .i64 0] 25)).heap.size = w.heap.size + 1 + 1 by simp] at this
  have gN : W.heap[N]? = some (.cells #[.string ⟨#[97, 110, 110]⟩, .string ⟨#[98, 111, 98]⟩] 9) := by
    rw [hW, hN]
    have := heap_alloc2_new ((w.alloc (.cells #[.int .i64 a, .int .i64 b, .int .i64 c, .int .i64 d] 22)).alloc (.cells #[.string ⟨#[]⟩, .string ⟨#[]⟩, .int .i64 0, .int .i64 0, .int .i64 0] 25)) (.cells #[.string ⟨#[97, 99, 109, 101]⟩, .string ⟨#[98, 111, 108, 116]⟩, .string ⟨#[99, 95, 51]⟩] 9) (.cells #[.string ⟨#[97, 110, 110]⟩, .string ⟨#[98, 111, 98]⟩] 9)
    rwa [show ((w.alloc (.cells #[.int .i64 a, .int .i64 b, .int .i64 c, .int .i64 d] 22)).alloc (.cells #[.string ⟨#[]⟩, .string ⟨#[]⟩, .int .i64 0, .int .i64 0, .int .i64 0] 25)).heap.size = w.heap.size + 1 + 1 by simp] at this
  have hBW : Below w.heap.size w W := by rw [hW]; exact bal (bal (bal (bal (Below.refl _ _) _) _) _) _
  have hXw : w.heap.size ≤ X := by omega
  have hne : E ≠ X ∧ N ≠ X ∧ Q ≠ X := by omega
  clear hW hX hE hN hQ
  have q5 : W.drew.cell? ⟨E, v0, none⟩ = some (.string te) := by
    rw [Lib.cell_of_heap (show W.drew.heap[E]? = _ from gE), ← R0.out]
    match v0, b0 with
    | 0, _ => rfl
    | 1, _ => rfl
    | 2, _ => rfl
  have q12 : W.drew.cell? ⟨N, v1, none⟩ = some (.string tp) := by
    rw [Lib.cell_of_heap (show W.drew.heap[N]? = _ from gN), ← R1.out]
    match v1, b1 with
    | 0, _ => rfl
    | 1, _ => rfl
  have q0 : W.drew.cell? ⟨Q, 0, none⟩ = some (.int .i64 a) := by rw [Lib.cell_of_heap (show W.drew.heap[Q]? = _ from gQ)]; rfl
  have q1 : W.drew.cell? ⟨Q, 1, none⟩ = some (.int .i64 b) := by rw [Lib.cell_of_heap (show W.drew.heap[Q]? = _ from gQ)]; rfl
  have q2 : W.drew.cell? ⟨Q, 2, none⟩ = some (.int .i64 c) := by rw [Lib.cell_of_heap (show W.drew.heap[Q]? = _ from gQ)]; rfl
  have q3 : W.drew.cell? ⟨Q, 3, none⟩ = some (.int .i64 d) := by rw [Lib.cell_of_heap (show W.drew.heap[Q]? = _ from gQ)]; rfl
  have gXd : W.drew.heap[X]? = some (.cells #[.string ⟨#[]⟩, .string ⟨#[]⟩, .int .i64 0, .int .i64 0, .int .i64 0] 25) := gX
  have gQd : W.drew.heap[Q]? = some (.cells #[.int .i64 a, .int .i64 b, .int .i64 c, .int .i64 d] 22) := gQ
  have S0 : W.drew.cell? ⟨E, v0, none⟩ = some (.string te) ∧ W.drew.cell? ⟨N, v1, none⟩ = some (.string tp) ∧ W.drew.cell? ⟨Q, 0, none⟩ = some (.int .i64 a) ∧ W.drew.cell? ⟨Q, 1, none⟩ = some (.int .i64 b) ∧ W.drew.cell? ⟨Q, 2, none⟩ = some (.int .i64 c) ∧ W.drew.cell? ⟨Q, 3, none⟩ = some (.int .i64 d) := ⟨q5, q12, q0, q1, q2, q3⟩
  have c0 : (v0 : Int) < 3 := by omega
  have c1 : (v1 : Int) < 2 := by omega
  have hB0 : Below w.heap.size w W.drew := hBW.drew
  have G := Lib.hid (And.intro gXd hB0)
  have HS0 := Lib.hid S0
  clear q5 q12 q0 q1 q2 q3 gX gE gN gQ gQd hBW gXd hB0 S0
  refine wp_region_noPanic ?_
  refine wp_region_held_drew (S := fun W' => W'.cell? ⟨E, v0, none⟩ = some (.string te) ∧ W'.cell? ⟨N, v1, none⟩ = some (.string tp) ∧ W'.cell? ⟨Q, 0, none⟩ = some (.int .i64 a) ∧ W'.cell? ⟨Q, 1, none⟩ = some (.int .i64 b) ∧ W'.cell? ⟨Q, 2, none⟩ = some (.int .i64 c) ∧ W'.cell? ⟨Q, 3, none⟩ = some (.int .i64 d)) (by kernel_rfl) HS0.out (fun hHeld => ?_)
  obtain ⟨Wd, hWd⟩ : ∃ x, x = W.drew := ⟨_, rfl⟩
  rw [← hWd] at HS0 G ⊢
  clear hWd
  refine wpAnyH_take (i := 0) (v := ?_) rfl (by kernel_rfl) (by kernel_rfl) (by kernel_rfl) (fun _ _ _ h => h) (Or.inl ⟨by kernel_rfl, ?_⟩) (by assumption) ?_
  rotate_left
  · intro w hSw
    (try dsimp only at hSw)
    go_simp
    first | done | with_reducible rfl
  simp only [List.getElem_toArray, List.getElem_cons_zero, List.getElem_cons_succ, Act.put, List.setIfInBounds_toArray, List.set_cons_zero, List.set_cons_succ]
  refine wpAnyH_take (i := 1) (v := ?_) rfl (by kernel_rfl) (by kernel_rfl) (by kernel_rfl) (fun _ _ _ h => h) (Or.inl ⟨by kernel_rfl, ?_⟩) (by assumption) ?_
  rotate_left
  · intro w hSw
    (try dsimp only at hSw)
    go_simp
    first | done | with_reducible rfl
  simp only [List.getElem_toArray, List.getElem_cons_zero, List.getElem_cons_succ, Act.put, List.setIfInBounds_toArray, List.set_cons_zero, List.set_cons_succ]
  refine wpAnyH_take (i := 2) (v := ?_) rfl (by kernel_rfl) (by kernel_rfl) (by kernel_rfl) (fun _ _ _ h => h) (Or.inl ⟨by kernel_rfl, ?_⟩) (by assumption) ?_
  rotate_left
  · intro w hSw
    (try dsimp only at hSw)
    obtain ⟨z0, z1, z2, z3, z4, z5⟩ := hSw
    (try dsimp only at z0 z1 z2 z3 z4 z5)
    go_simp
    first | done | with_reducible rfl
  simp only [List.getElem_toArray, List.getElem_cons_zero, List.getElem_cons_succ, Act.put, List.setIfInBounds_toArray, List.set_cons_zero, List.set_cons_succ]
  refine wpAnyH_take (i := 6) (v := ?_) rfl (by kernel_rfl) (by kernel_rfl) (by kernel_rfl) (fun _ _ _ h => h) (Or.inl ⟨by kernel_rfl, ?_⟩) (by assumption) ?_
  rotate_left
  · intro w hSw
    (try dsimp only at hSw)
    go_simp
    first | done | with_reducible rfl
  simp only [List.getElem_toArray, List.getElem_cons_zero, List.getElem_cons_succ, Act.put, List.setIfInBounds_toArray, List.set_cons_zero, List.set_cons_succ]
  refine wpAnyH_take (i := 7) (v := ?_) rfl (by kernel_rfl) (by kernel_rfl) (by kernel_rfl) (fun _ _ _ h => h) (Or.inl ⟨by kernel_rfl, ?_⟩) (by assumption) ?_
  rotate_left
  · intro w hSw
    (try dsimp only at hSw)
    go_simp
    first | done | with_reducible rfl
  simp only [List.getElem_toArray, List.getElem_cons_zero, List.getElem_cons_succ, Act.put, List.setIfInBounds_toArray, List.set_cons_zero, List.set_cons_succ]
  refine wpAnyH_take (i := 8) (v := ?_) rfl (by kernel_rfl) (by kernel_rfl) (by kernel_rfl) (fun _ _ _ h => h) (Or.inl ⟨by kernel_rfl, ?_⟩) (by assumption) ?_
  rotate_left
  · intro w hSw
    (try dsimp only at hSw)
    obtain ⟨z0, z1, z2, z3, z4, z5⟩ := hSw
    (try dsimp only at z0 z1 z2 z3 z4 z5)
    go_simp
    first | done | with_reducible rfl
  simp only [List.getElem_toArray, List.getElem_cons_zero, List.getElem_cons_succ, Act.put, List.setIfInBounds_toArray, List.set_cons_zero, List.set_cons_succ]
  refine wpAnyH_take (i := 9) (v := ?_) rfl (by kernel_rfl) (by kernel_rfl) (by kernel_rfl) (fun _ _ _ h => h) (Or.inl ⟨by kernel_rfl, ?_⟩) (by assumption) ?_
  rotate_left
  · intro w hSw
    (try dsimp only at hSw)
    go_simp
    first | done | with_reducible rfl
  simp only [List.getElem_toArray, List.getElem_cons_zero, List.getElem_cons_succ, Act.put, List.setIfInBounds_toArray, List.set_cons_zero, List.set_cons_succ]
  refine wpAnyH_take (i := 13) (v := ?_) rfl (by kernel_rfl) (by kernel_rfl) (by kernel_rfl) (fun _ _ _ h => h) (Or.inl ⟨by kernel_rfl, ?_⟩) (by assumption) ?_
  rotate_left
  · intro w hSw
    (try dsimp only at hSw)
    go_simp
    first | done | with_reducible rfl
  simp only [List.getElem_toArray, List.getElem_cons_zero, List.getElem_cons_succ, Act.put, List.setIfInBounds_toArray, List.set_cons_zero, List.set_cons_succ]
  refine wpAnyH_take (i := 14) (v := ?_) rfl (by kernel_rfl) (by kernel_rfl) (by kernel_rfl) (fun _ _ _ h => h) (Or.inl ⟨by kernel_rfl, ?_⟩) (by assumption) ?_
  rotate_left
  · intro w hSw
    (try dsimp only at hSw)
    obtain ⟨z0, z1, z2, z3, z4, z5⟩ := hSw
    (try dsimp only at z0 z1 z2 z3 z4 z5)
    go_simp
    first | done | with_reducible rfl
  simp only [List.getElem_toArray, List.getElem_cons_zero, List.getElem_cons_succ, Act.put, List.setIfInBounds_toArray, List.set_cons_zero, List.set_cons_succ]
  refine wpAnyH_take (i := 17) (v := ?_) rfl (by kernel_rfl) (by kernel_rfl) (by kernel_rfl) (fun _ _ _ h => h) (Or.inl ⟨by kernel_rfl, ?_⟩) (by assumption) ?_
  rotate_left
  · intro w hSw
    (try dsimp only at hSw)
    go_simp
    first | done | with_reducible rfl
  simp only [List.getElem_toArray, List.getElem_cons_zero, List.getElem_cons_succ, Act.put, List.setIfInBounds_toArray, List.set_cons_zero, List.set_cons_succ]
  refine wpAnyH_take (i := 18) (v := ?_) rfl (by kernel_rfl) (by kernel_rfl) (by kernel_rfl) (fun _ _ _ h => h) (Or.inl ⟨by kernel_rfl, ?_⟩) (by assumption) ?_
  rotate_left
  · intro w hSw
    (try dsimp only at hSw)
    obtain ⟨z0, z1, z2, z3, z4, z5⟩ := hSw
    (try dsimp only at z0 z1 z2 z3 z4 z5)
    go_simp
    first | done | with_reducible rfl
  simp only [List.getElem_toArray, List.getElem_cons_zero, List.getElem_cons_succ, Act.put, List.setIfInBounds_toArray, List.set_cons_zero, List.set_cons_succ]
  refine wpAnyH_take (i := 21) (v := ?_) rfl (by kernel_rfl) (by kernel_rfl) (by kernel_rfl) (fun _ _ _ h => h) (Or.inl ⟨by kernel_rfl, ?_⟩) (by assumption) ?_
  rotate_left
  · intro w hSw
    (try dsimp only at hSw)
    go_simp
    first | done | with_reducible rfl
  simp only [List.getElem_toArray, List.getElem_cons_zero, List.getElem_cons_succ, Act.put, List.setIfInBounds_toArray, List.set_cons_zero, List.set_cons_succ]
  refine wpAnyH_take (i := 22) (v := ?_) rfl (by kernel_rfl) (by kernel_rfl) (by kernel_rfl) (fun _ _ _ h => h) (Or.inl ⟨by kernel_rfl, ?_⟩) (by assumption) ?_
  rotate_left
  · intro w hSw
    (try dsimp only at hSw)
    obtain ⟨z0, z1, z2, z3, z4, z5⟩ := hSw
    (try dsimp only at z0 z1 z2 z3 z4 z5)
    go_simp
    first | done | with_reducible rfl
  simp only [List.getElem_toArray, List.getElem_cons_zero, List.getElem_cons_succ, Act.put, List.setIfInBounds_toArray, List.set_cons_zero, List.set_cons_succ]
  refine wpAnyH_ready (rs := [3]) (by kernel_rfl) (by simp) ?_
  refine AllReadyH.cons rfl (fun K hK => ?_) ?_
  · simp only [List.getElem_toArray, List.getElem_cons_zero, List.getElem_cons_succ]
    go_simp
    (with_reducible refine (pick_at a 3 (v0 : Int) P0 _ HA.out.1 (by decide) (by decide)).mono ?_)
    rintro e wq ⟨rfl, hwq⟩
    obtain rfl := hwq
    dsimp only
    refine hK.out _ _ HS0.out (fun hHeld => ?_)
    clear hK K
    try simp only [List.getElem_toArray, List.getElem_cons_zero, List.getElem_cons_succ, Act.put, List.setIfInBounds_toArray, List.set_cons_zero, List.set_cons_succ]
    refine wpAnyH_take (i := 4) (v := ?_) rfl (by kernel_rfl) (by kernel_rfl) (by kernel_rfl) (fun _ _ _ h => h) (Or.inl ⟨by kernel_rfl, ?_⟩) (by assumption) ?_
    rotate_left
    · intro w hSw
      (try dsimp only at hSw)
      go_simp
      first | done | with_reducible rfl
    simp only [List.getElem_toArray, List.getElem_cons_zero, List.getElem_cons_succ, Act.put, List.setIfInBounds_toArray, List.set_cons_zero, List.set_cons_succ]
    refine wpAnyH_take (i := 5) (v := ?_) rfl (by kernel_rfl) (by kernel_rfl) (by kernel_rfl) (fun _ _ _ h => h) (Or.inl ⟨by kernel_rfl, ?_⟩) (by assumption) ?_
    rotate_left
    · intro w hSw
      (try dsimp only at hSw)
      obtain ⟨z0, z1, z2, z3, z4, z5⟩ := hSw
      (try dsimp only at z0 z1 z2 z3 z4 z5)
      go_simp
      first | done | with_reducible rfl
    simp only [List.getElem_toArray, List.getElem_cons_zero, List.getElem_cons_succ, Act.put, List.setIfInBounds_toArray, List.set_cons_zero, List.set_cons_succ]
    refine wpAnyH_ready (rs := [10]) (by kernel_rfl) (by simp) ?_
    refine AllReadyH.cons rfl (fun K hK => ?_) ?_
    · simp only [List.getElem_toArray, List.getElem_cons_zero, List.getElem_cons_succ]
      go_simp
      (with_reducible refine (pick_at (a.tdiv 3) 2 (v1 : Int) P1 _ HA.out.2.2.2.2 (by decide) (by decide)).mono ?_)
      rintro e wq ⟨rfl, hwq⟩
      obtain rfl := hwq
      dsimp only
      refine hK.out _ _ HS0.out (fun hHeld => ?_)
      clear hK K
      try simp only [List.getElem_toArray, List.getElem_cons_zero, List.getElem_cons_succ, Act.put, List.setIfInBounds_toArray, List.set_cons_zero, List.set_cons_succ]
      refine wpAnyH_take (i := 11) (v := ?_) rfl (by kernel_rfl) (by kernel_rfl) (by kernel_rfl) (fun _ _ _ h => h) (Or.inl ⟨by kernel_rfl, ?_⟩) (by assumption) ?_
      rotate_left
      · intro w hSw
        (try dsimp only at hSw)
        go_simp
        first | done | with_reducible rfl
      simp only [List.getElem_toArray, List.getElem_cons_zero, List.getElem_cons_succ, Act.put, List.setIfInBounds_toArray, List.set_cons_zero, List.set_cons_succ]
      refine wpAnyH_take (i := 12) (v := ?_) rfl (by kernel_rfl) (by kernel_rfl) (by kernel_rfl) (fun _ _ _ h => h) (Or.inl ⟨by kernel_rfl, ?_⟩) (by assumption) ?_
      rotate_left
      · intro w hSw
        (try dsimp only at hSw)
        obtain ⟨z0, z1, z2, z3, z4, z5⟩ := hSw
        (try dsimp only at z0 z1 z2 z3 z4 z5)
        go_simp
        first | done | with_reducible rfl
      simp only [List.getElem_toArray, List.getElem_cons_zero, List.getElem_cons_succ, Act.put, List.setIfInBounds_toArray, List.set_cons_zero, List.set_cons_succ]
      refine wpAnyH_ready (rs := [15]) (by kernel_rfl) (by simp) ?_
      refine AllReadyH.cons rfl (fun K hK => ?_) ?_
      · simp only [List.getElem_toArray, List.getElem_cons_zero, List.getElem_cons_succ]
        go_simp
        (with_reducible refine (pick_at b 40 v2 P2 _ HA.out.2.1 (by decide) (by decide)).mono ?_)
        rintro e wq ⟨rfl, hwq⟩
        obtain rfl := hwq
        dsimp only
        refine hK.out _ _ HS0.out (fun hHeld => ?_)
        clear hK K
        try simp only [List.getElem_toArray, List.getElem_cons_zero, List.getElem_cons_succ, Act.put, List.setIfInBounds_toArray, List.set_cons_zero, List.set_cons_succ]
        refine wpAnyH_take (i := 16) (v := ?_) rfl (by kernel_rfl) (by kernel_rfl) (by kernel_rfl) (fun _ _ _ h => h) (Or.inl ⟨by kernel_rfl, ?_⟩) (by assumption) ?_
        rotate_left
        · intro w hSw
          (try dsimp only at hSw)
          go_simp
          first | done | with_reducible rfl
        simp only [List.getElem_toArray, List.getElem_cons_zero, List.getElem_cons_succ, Act.put, List.setIfInBounds_toArray, List.set_cons_zero, List.set_cons_succ]
        refine wpAnyH_ready (rs := [19]) (by kernel_rfl) (by simp) ?_
        refine AllReadyH.cons rfl (fun K hK => ?_) ?_
        · simp only [List.getElem_toArray, List.getElem_cons_zero, List.getElem_cons_succ]
          go_simp
          (with_reducible refine (pick_at c 2000001 v3 P3 _ HA.out.2.2.1 (by decide) (by decide)).mono ?_)
          rintro e wq ⟨rfl, hwq⟩
          obtain rfl := hwq
          dsimp only
          refine hK.out _ _ HS0.out (fun hHeld => ?_)
          clear hK K
          try simp only [List.getElem_toArray, List.getElem_cons_zero, List.getElem_cons_succ, Act.put, List.setIfInBounds_toArray, List.set_cons_zero, List.set_cons_succ]
          refine wpAnyH_take (i := 20) (v := ?_) rfl (by kernel_rfl) (by kernel_rfl) (by kernel_rfl) (fun _ _ _ h => h) (Or.inl ⟨by kernel_rfl, ?_⟩) (by assumption) ?_
          rotate_left
          · intro w hSw
            (try dsimp only at hSw)
            go_simp
            first | done | with_reducible rfl
          simp only [List.getElem_toArray, List.getElem_cons_zero, List.getElem_cons_succ, Act.put, List.setIfInBounds_toArray, List.set_cons_zero, List.set_cons_succ]
          refine wpAnyH_ready (rs := [23]) (by kernel_rfl) (by simp) ?_
          refine AllReadyH.cons rfl (fun K hK => ?_) ?_
          · simp only [List.getElem_toArray, List.getElem_cons_zero, List.getElem_cons_succ]
            go_simp
            (with_reducible refine (pick_at d 2000001 v4 P4 _ HA.out.2.2.2.1 (by decide) (by decide)).mono ?_)
            rintro e wq ⟨rfl, hwq⟩
            obtain rfl := hwq
            dsimp only
            refine hK.out _ _ HS0.out (fun hHeld => ?_)
            clear hK K
            try simp only [List.getElem_toArray, List.getElem_cons_zero, List.getElem_cons_succ, Act.put, List.setIfInBounds_toArray, List.set_cons_zero, List.set_cons_succ]
            refine wpAnyH_take (i := 24) (v := ?_) rfl (by kernel_rfl) (by kernel_rfl) (by kernel_rfl) (fun _ _ _ h => h) (Or.inl ⟨by kernel_rfl, ?_⟩) (by assumption) ?_
            rotate_left
            · intro w hSw
              (try dsimp only at hSw)
              go_simp
              first | done | with_reducible rfl
            simp only [List.getElem_toArray, List.getElem_cons_zero, List.getElem_cons_succ, Act.put, List.setIfInBounds_toArray, List.set_cons_zero, List.set_cons_succ]
            refine wpAnyH_take (i := 25) (v := ?_) rfl (by kernel_rfl) (by kernel_rfl) (by kernel_rfl) (fun _ _ _ h => h) (Or.inl ⟨by kernel_rfl, ?_⟩) (by assumption) ?_
            rotate_left
            · intro w hSw
              (try dsimp only at hSw)
              go_simp
              first | done | with_reducible rfl
            simp only [List.getElem_toArray, List.getElem_cons_zero, List.getElem_cons_succ, Act.put, List.setIfInBounds_toArray, List.set_cons_zero, List.set_cons_succ]
            refine wpAnyH_ready (rs := [26]) (by kernel_rfl) (by simp) ?_
            refine AllReadyH.cons rfl (fun K hK => ?_) ?_
            · simp only [List.getElem_toArray, List.getElem_cons_zero, List.getElem_cons_succ]
              have gx := G.out.1
              have x0 : Wd.cell? ⟨X, 0, none⟩ = some (.string ⟨#[]⟩) := by rw [Lib.cell_of_heap gx]; rfl
              have x1 : Wd.cell? ⟨X, 1, none⟩ = some (.string ⟨#[]⟩) := by rw [Lib.cell_of_heap gx]; rfl
              have x2 : Wd.cell? ⟨X, 2, none⟩ = some (.int .i64 0) := by rw [Lib.cell_of_heap gx]; rfl
              have x3 : Wd.cell? ⟨X, 3, none⟩ = some (.int .i64 0) := by rw [Lib.cell_of_heap gx]; rfl
              have x4 : Wd.cell? ⟨X, 4, none⟩ = some (.int .i64 0) := by rw [Lib.cell_of_heap gx]; rfl
              have yX : ∀ j, Wd.frozen? ⟨X, j, none⟩ = false := fun j => Lib.frozen_of_heap gx j
              go_simp
              clear x0 x1 x2 x3 x4 yX
              obtain ⟨W5, hW5⟩ : ∃ W5, W5 = ((((Wd.setCell ⟨X, 0, none⟩ (.string te)).setCell ⟨X, 1, none⟩ (.string tp)).setCell ⟨X, 2, none⟩ (.int .i64 (270 + v2))).setCell ⟨X, 3, none⟩ (.int .i64 (v3 - 1000000))).setCell ⟨X, 4, none⟩ (.int .i64 (v4 - 1000000)) := ⟨_, rfl⟩
              rw [← hW5]
              have hot : ∀ b, b ≠ X → W5.heap[b]? = Wd.heap[b]? := fun b h => by rw [hW5]; exact heap_set5 _ _ _ _ _ _ _ _ h
              have g5 : W5.heap[X]? = some (.cells #[.string te, .string tp, .int .i64 (270 + v2), .int .i64 (v3 - 1000000), .int .i64 (v4 - 1000000)] 25) := by rw [hW5]; exact set5_heap gx
              have hB5 : Below w.heap.size w W5 := by rw [hW5]; exact ((((G.out.2.setCell hXw _).setCell hXw _).setCell hXw _).setCell hXw _).setCell hXw _
              have G5 := Lib.hid (And.intro g5 hB5)
              have oE := World.cell?_of_block (a := ⟨E, v0, none⟩) (hot E (by omega))
              have oN := World.cell?_of_block (a := ⟨N, v1, none⟩) (hot N (by omega))
              have oQ : ∀ j, W5.cell? ⟨Q, j, none⟩ = Wd.cell? ⟨Q, j, none⟩ := fun j => World.cell?_of_block (hot Q (by omega))
              have S5 := Lib.hid (And.intro (oE.trans HS0.out.1) (And.intro (oN.trans HS0.out.2.1) (And.intro ((oQ 0).trans HS0.out.2.2.1) (And.intro ((oQ 1).trans HS0.out.2.2.2.1) (And.intro ((oQ 2).trans HS0.out.2.2.2.2.1) ((oQ 3).trans HS0.out.2.2.2.2.2))))))
              clear hW5 hot g5 hB5 oE oN oQ gx
              refine hK.out _ _ S5.out (fun hHeld => ?_)
              clear hK K
              try simp only [List.getElem_toArray, List.getElem_cons_zero, List.getElem_cons_succ, Act.put, List.setIfInBounds_toArray, List.set_cons_zero, List.set_cons_succ]
              refine wpAnyH_done (by kernel_rfl) ?_ _
              dsimp only [NoPanic]
              clear hHeld
              have x0 : W5.cell? ⟨X, 0, none⟩ = some (.string te) := by rw [Lib.cell_of_heap G5.out.1]; rfl
              have x1 : W5.cell? ⟨X, 1, none⟩ = some (.string tp) := by rw [Lib.cell_of_heap G5.out.1]; rfl
              have x2 : W5.cell? ⟨X, 2, none⟩ = some (.int .i64 (270 + v2)) := by rw [Lib.cell_of_heap G5.out.1]; rfl
              have x3 : W5.cell? ⟨X, 3, none⟩ = some (.int .i64 (v3 - 1000000)) := by rw [Lib.cell_of_heap G5.out.1]; rfl
              have x4 : W5.cell? ⟨X, 4, none⟩ = some (.int .i64 (v4 - 1000000)) := by rw [Lib.cell_of_heap G5.out.1]; rfl
              go_wp2_with fail
              refine bodyPost_ret (v := .agg #[.string te, .string tp, .int .i64 (270 + v2), .int .i64 (v3 - 1000000), .int .i64 (v4 - 1000000)]) (by simp [results, Tryd.results5, go_sem, x0, x1, x2, x3, x4]) rfl ⟨rfl, G5.out.2⟩
            exact AllReadyH.nil
          exact AllReadyH.nil
        exact AllReadyH.nil
      exact AllReadyH.nil
    exact AllReadyH.nil
  exact AllReadyH.nil
end Go.Proofs.YtpmakhfpdidleaaDoor
namespace Go.Proofs.YtpmakhfpdidleaaDoor
open Go.RowKit Go.Shelf
set_option linter.unusedVariables false
set_option linter.unusedSimpArgs false
set_option maxRecDepth 100000
attribute [-go_sem] run_equalIn_agg
attribute [local go_sem] eqTot
set_option maxHeartbeats 4000000 in
theorem same29_any (A B : Option Addr) (ca cb n m : Nat) (a b : List TotD) (ha : a.length = n) (hb : b.length = m) (hl : n ≤ 1000000) (r : Bool) (hr : Hid (decide (a = b) = r)) (w : World) (hA : Sl w w.heap.size 5 A n (a.flatMap totL5)) (hB : Sl w w.heap.size 5 B m (b.flatMap totL5)) :
    Calls Tryd.prog 11 #[.slice A n ca, .slice B m cb] w fun e w' => e = .returned (.bool r) ∧ Below w.heap.size w w' := by
  have HA := Lib.hid hA
  have HB := Lib.hid hB
  have Ha := Lib.hid ha
  have Hb := Lib.hid hb
  clear hA hB ha hb
  by_cases hnm : n = m
  · subst hnm
    have hne : ((n : Int) != (n : Int)) = false := by simp
    go_enter Tryd.func11, Tryd.ntmps11
    go_wp2
    go_loopw [5] (fun i wr => ∃ k : Nat, k ≤ n ∧ i = .int .i64 k ∧ Below w.heap.size w wr ∧ a.take k = b.take k) (fun i _ => n - (intOf i).toNat)
    case atStart => exact ⟨0, by omega, rfl, Below.refl _ _, rfl⟩
    case round =>
      obtain ⟨k, hk, rfl, hW, heq⟩ := hrel
      have Heq := Lib.hid heq
      clear heq
      by_cases hlt : k < n
      · obtain ⟨b1, off, rfl, hb1, hcell⟩ := (HA.out).2 (by omega)
        obtain ⟨b2, off2, rfl, hb2, hcell2⟩ := (HB.out).2 (by omega)
        have hkl : k < a.length := by rw [Ha.out]; exact hlt
        have hkl2 : k < b.length := by rw [Hb.out]; exact hlt
        have hget := flat_get totL5 5 (fun _ => rfl) a k hkl
        have hget2 := flat_get totL5 5 (fun _ => rfl) b k hkl2
        obtain ⟨x, hx⟩ : ∃ x, a[k] = x := ⟨_, rfl⟩
        obtain ⟨y, hy⟩ : ∃ y, b[k] = y := ⟨_, rfl⟩
        rw [hx] at hget
        rw [hy] at hget2
        have hta : a.take (k + 1) = a.take k ++ [x] := by rw [List.take_succ_eq_append_getElem hkl, hx]
        have htb : b.take (k + 1) = b.take k ++ [y] := by rw [List.take_succ_eq_append_getElem hkl2, hy]
        obtain ⟨xe, xp, xm, xg, xx⟩ := x
        obtain ⟨ye, yp, ym, yg, yx⟩ := y
        have g0 : wr.cell? ⟨b1, off + k * 5, none⟩ = some (.string xe) := (hW.cell (p := ⟨b1, off + k * 5, none⟩) hb1).trans (hcell _ _ (hget 0 (by decide)))
        have h0 : wr.cell? ⟨b2, off2 + k * 5, none⟩ = some (.string ye) := (hW.cell (p := ⟨b2, off2 + k * 5, none⟩) hb2).trans (hcell2 _ _ (hget2 0 (by decide)))
        have g1 : wr.cell? ⟨b1, off + k * 5 + 1, none⟩ = some (.string xp) := (hW.cell (p := ⟨b1, off + k * 5 + 1, none⟩) hb1).trans (hcell _ _ (hget 1 (by decide)))
        have h1 : wr.cell? ⟨b2, off2 + k * 5 + 1, none⟩ = some (.string yp) := (hW.cell (p := ⟨b2, off2 + k * 5 + 1, none⟩) hb2).trans (hcell2 _ _ (hget2 1 (by decide)))
        have g2 : wr.cell? ⟨b1, off + k * 5 + 2, none⟩ = some (.int .i64 xm) := (hW.cell (p := ⟨b1, off + k * 5 + 2, none⟩) hb1).trans (hcell _ _ (hget 2 (by decide)))
        have h2 : wr.cell? ⟨b2, off2 + k * 5 + 2, none⟩ = some (.int .i64 ym) := (hW.cell (p := ⟨b2, off2 + k * 5 + 2, none⟩) hb2).trans (hcell2 _ _ (hget2 2 (by decide)))
        have g3 : wr.cell? ⟨b1, off + k * 5 + 3, none⟩ = some (.int .i64 xg) := (hW.cell (p := ⟨b1, off + k * 5 + 3, none⟩) hb1).trans (hcell _ _ (hget 3 (by decide)))
        have h3 : wr.cell? ⟨b2, off2 + k * 5 + 3, none⟩ = some (.int .i64 yg) := (hW.cell (p := ⟨b2, off2 + k * 5 + 3, none⟩) hb2).trans (hcell2 _ _ (hget2 3 (by decide)))
        have g4 : wr.cell? ⟨b1, off + k * 5 + 4, none⟩ = some (.int .i64 xx) := (hW.cell (p := ⟨b1, off + k * 5 + 4, none⟩) hb1).trans (hcell _ _ (hget 4 (by decide)))
        have h4 : wr.cell? ⟨b2, off2 + k * 5 + 4, none⟩ = some (.int .i64 yx) := (hW.cell (p := ⟨b2, off2 + k * 5 + 4, none⟩) hb2).trans (hcell2 _ _ (hget2 4 (by decide)))
        have hlt' : (k : Int) < (n : Int) := by omega
        have Hta := Lib.hid hta
        have Htb := Lib.hid htb
        clear hcell hcell2 hget hget2 hx hy hkl hkl2 hta htb
        by_cases hxy : (⟨xe, xp, xm, xg, xx⟩ : TotD) = ⟨ye, yp, ym, yg, yx⟩
        · have hte : totEq xe xp xm xg xx ye yp ym yg yx = true := decide_eq_true hxy
          have Hxy := Lib.hid hxy
          clear hxy
          go_wp2
          go_region
          go_wp2
          go_roundw
          case rel => exact ⟨k + 1, by omega, by go_num, hW.drew, by rw [Hta.out, Htb.out, Heq.out, Hxy.out]⟩
          case measure => simp [intOf]; omega
        · have hte : totEq xe xp xm xg xx ye yp ym yg yx = false := decide_eq_false hxy
          have hrf : false = r := by
            rw [← hr.out, eq_comm, decide_eq_false_iff_not]
            intro e
            have h1 := Hta.out
            rw [e, Htb.out] at h1
            exact hxy (List.singleton_inj.1 (List.append_inj_right' h1 rfl)).symm
          have Hrf := Lib.hid hrf
          clear hrf hxy
          go_wp2
          go_region
          go_wp2
          go_ret
          exact ⟨congrArg (fun q => Ending.returned (.bool q)) Hrf.out, hW.drew⟩
      · obtain rfl : n = k := by omega
        have hab : a = b := by
          have := Heq.out
          rwa [List.take_of_length_le (Nat.le_of_eq Ha.out), List.take_of_length_le (Nat.le_of_eq Hb.out)] at this
        have hrt : true = r := by rw [← hr.out, decide_eq_true hab]
        have Hrt := Lib.hid hrt
        clear hab hrt
        go_wp2
        go_ret
        exact ⟨congrArg (fun q => Ending.returned (.bool q)) Hrt.out, hW⟩
  · have hrf : false = r := by
      rw [← hr.out, eq_comm, decide_eq_false_iff_not]
      intro e
      subst e
      exact hnm (Ha.out.symm.trans Hb.out)
    have hne : ((n : Int) != (m : Int)) = true := by rw [bne_iff_ne]; omega
    subst hrf
    go_enter Tryd.func11, Tryd.ntmps11
    go_wp2
    go_ret
    exact ⟨rfl, Below.refl _ _⟩
end Go.Proofs.YtpmakhfpdidleaaDoor
namespace Go.Proofs.YtpmakhfpdidleaaDoor
open Go.RowKit Go.Shelf
set_option linter.unusedVariables false
def seedB : ByteArray := ⟨#[115, 101, 101, 100]⟩
def tB : ByteArray := ⟨#[116, 101, 120, 116]⟩
theorem reu_dec (is : List Int) (ts : List ByteArray) (n i j : Nat) (h1 : j < n) (h2 : i < j) (h3 : is.getD i 0 = is.getD j 0) (h4 : ts.getD i ⟨#[]⟩ ≠ ts.getD j ⟨#[]⟩) (h5 : ∀ j', j' < j → ∀ i', i' < j' → is.getD i' 0 = is.getD j' 0 → ts.getD i' ⟨#[]⟩ = ts.getD j' ⟨#[]⟩) (h6 : ∀ i', i' < i → is.getD i' 0 = is.getD j 0 → ts.getD i' ⟨#[]⟩ = ts.getD j ⟨#[]⟩) : On.Reu is ts n (some (i, j)) :=
  ⟨h1, ⟨h2, h3, h4⟩, fun i' j' hj hp => hp.2.2 (h5 j' hj i' hp.1 hp.2.1), fun i' hi hp => hp.2.2 (h6 i' hi hp.2.1)⟩
theorem reu_dec0 (is : List Int) (ts : List ByteArray) (n : Nat) (h5 : ∀ j', j' < n → ∀ i', i' < j' → is.getD i' 0 = is.getD j' 0 → ts.getD i' ⟨#[]⟩ = ts.getD j' ⟨#[]⟩) : On.Reu is ts n none :=
  fun i' j' hj hp => hp.2.2 (h5 j' hj i' hp.1 hp.2.1)
def hS1 : List ByteArray := [⟨#[97]⟩, ⟨#[98]⟩, ⟨#[97]⟩, ⟨#[99]⟩]
def hS2 : List ByteArray := [⟨#[97]⟩, ⟨#[97]⟩]
def hG (i : Int) : Sg := ⟨i, none, 0, 0, none, 0, 0⟩
theorem hReu1 : On.Reu (idxs [hG 1, hG 2, hG 1, hG 1]) hS1 4 (some (0, 3)) := reu_dec _ _ _ _ _ (by decide) (by decide) (by decide) (by decide +kernel) (by decide +kernel) (by decide +kernel)
theorem hReu2 : On.Reu (idxs [hG 1, hG 1]) hS2 2 none := reu_dec0 _ _ _ (by decide +kernel)
theorem two_slices (w : World) (n : Nat) (ss : List ByteArray) (sg : Sigs) (cs1 cs2 : Array Value) (t1 t2 : TypeId) (hn : ss.length = n) (hn' : sg.length = n) (h1 : cs1.toList = strV ss) (h2 : cs2.toList = sigsV sg) :
    Sl ((w.alloc (.cells cs1 t1)).alloc (.cells cs2 t2)) ((w.alloc (.cells cs1 t1)).alloc (.cells cs2 t2)).heap.size 1 (some ⟨w.heap.size, 0, none⟩) n (strV ss) ∧
    Sl ((w.alloc (.cells cs1 t1)).alloc (.cells cs2 t2)) ((w.alloc (.cells cs1 t1)).alloc (.cells cs2 t2)).heap.size 3 (some ⟨w.heap.size + 1, 0, none⟩) n (sigsV sg) :=
  ⟨sl_cells (heap_alloc2_old w _ _) h1 (by rw [strV, List.length_map, hn]; omega), sl_cells (heap_alloc2_new w _ _) h2 (by rw [sigsV_len, hn'])⟩
theorem bgo1 {w W' : World} {a : Obj} (k : Below (w.alloc a).heap.size (w.alloc a) W') : Below w.heap.size w W' := bgo (bal (Below.refl _ _) _) k
theorem bgo2 {w W' : World} {a b : Obj} (k : Below ((w.alloc a).alloc b).heap.size ((w.alloc a).alloc b) W') : Below w.heap.size w W' := bgo1 (bgo1 k)
theorem head_path : ∃ x, keyP seedB 2 1 = [(x, true)] := by
  have h := keyP_map seedB 2 1 (by decide) (by decide)
  rw [show sidesL ((2 : Nat) : Int) ((1 : Nat) : Int) = [true] by decide +kernel] at h
  generalize keyP seedB 2 ((1 : Nat) : Int) = p at h
  match p, h with
  | [(x, y)], h => exact ⟨x, by simp at h; rw [h]⟩
end Go.Proofs.YtpmakhfpdidleaaDoor
namespace Go.Proofs.YtpmakhfpdidleaaDoor
open Go.RowKit
theorem u64_quo_k (a : UInt64) (k : Nat) (hk : k < 64) : IntKind.u64.wrap ((a.toNat : Int).tdiv ((2 ^ k : Nat) : Int)) = ((a >>> UInt64.ofNat k).toNat : Int) := by
  rw [← u64_shr_k a k hk, Int.tdiv_eq_ediv_of_nonneg (by omega), IntKind.wrap_u64]
  have h1 := a.toNat_lt
  have h2 : (a.toNat : Int) / ((2 ^ k : Nat) : Int) ≤ a.toNat := Int.ediv_le_self _ (by omega)
  have h3 : 0 ≤ (a.toNat : Int) / ((2 ^ k : Nat) : Int) := Int.ediv_nonneg (by omega) (Int.natCast_nonneg _)
  exact Int.emod_eq_of_lt h3 (by omega)
theorem u64_quo_32 (a : UInt64) : IntKind.u64.wrap ((a.toNat : Int).tdiv (4294967296 : Int)) = ((a >>> 32).toNat : Int) := u64_quo_k a 32 (by decide)
theorem u64_quo_31 (a : UInt64) : IntKind.u64.wrap ((a.toNat : Int).tdiv (2147483648 : Int)) = ((a >>> 31).toNat : Int) := u64_quo_k a 31 (by decide)
theorem u64_quo_27 (a : UInt64) : IntKind.u64.wrap ((a.toNat : Int).tdiv (134217728 : Int)) = ((a >>> 27).toNat : Int) := u64_quo_k a 27 (by decide)
theorem u64_quo_33 (a : UInt64) : IntKind.u64.wrap ((a.toNat : Int).tdiv (8589934592 : Int)) = ((a >>> 33).toNat : Int) := u64_quo_k a 33 (by decide)
set_option maxHeartbeats 400000 in
theorem rstate_any (s : ByteArray) (w : World) (hs : s.size ≤ maxLen) : Calls Tryd.prog 60 #[.string s] w fun e w' => e = .returned (.int .u64 (Dig.state s.data.toList).toNat) ∧ w = w' := by
  unfold maxLen at hs
  go_enter Tryd.func60, Tryd.ntmps60
  go_wp2
  go_loop [3, 4] (fun v i => ∃ k : Nat, k ≤ s.size ∧ i = .int .i64 k ∧ v = .int .u64 ((s.data.toList.take k).foldl Dig.feed Dig.init).toNat) (fun _ i => s.size - (intOf i).toNat)
  case atStart => exact ⟨0, Nat.zero_le _, rfl, rfl⟩
  case round =>
    obtain ⟨k, hk, rfl, rfl⟩ := hrel
    by_cases hlt : k < s.size
    · have HS := Lib.hid (take_snoc s k hlt)
      go_wp2
      simp only [u64_of_u8, u64_xor_uu, u64_mul_feed, u64_quo_32]
      go_round
      case rel => exact ⟨k + 1, by omega, by go_num, by rw [HS.out, List.foldl_append]; rfl⟩
      case measure => simp [intOf]; omega
    · have hE : s.data.toList.take k = s.data.toList := List.take_of_length_le (by simp; omega)
      have HE := Lib.hid hE
      clear hE
      go_wp2
      go_ret
      simp only [HE.out]
      exact ⟨rfl, trivial⟩
theorem rfinish_any (s : UInt64) (n : Nat) (hn : n ≤ maxLen) (w : World) : Calls Tryd.prog 59 #[.int .u64 s.toNat, .int .i64 n] w fun e w' => e = .returned (.int .u64 (Dig.finish s (UInt64.ofNat n)).toNat) ∧ w = w' := by
  unfold maxLen at hn
  go_enter Tryd.func59, Tryd.ntmps59
  go_wp2
  go_ret
  simp only [u64_xor_un _ n (by omega), u64_xor_uu, u64_mul_first, u64_quo_31, u64_mul_second, u64_quo_27, u64_quo_33]
  exact ⟨rfl, trivial⟩
theorem rsum_any (s : ByteArray) (w : World) (hs : s.size ≤ maxLen) : Calls Tryd.prog 30 #[.string s] w fun e w' => e = .returned (.int .u64 (Dig.sum s.data.toList).toNat) ∧ w = w' := by
  go_enter Tryd.func30, Tryd.ntmps30
  go_wp2_with fail
  refine (rstate_any _ _ hs).mono ?_
  rintro e w' ⟨rfl, rfl⟩
  go_wp2_with fail
  refine (rfinish_any _ _ hs _).mono ?_
  rintro e w' ⟨rfl, rfl⟩
  go_wp2_with fail
  go_ret
  refine ⟨?_, rfl⟩
  unfold Dig.sum
  rw [show s.data.toList.length = s.size by simp]
  rfl
end Go.Proofs.YtpmakhfpdidleaaDoor
