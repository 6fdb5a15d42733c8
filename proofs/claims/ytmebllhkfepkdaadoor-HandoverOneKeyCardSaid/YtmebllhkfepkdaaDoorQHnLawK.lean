/- The walk of HandoverOneKey. -/
import Derived.Test.YtmebllhkfepkdaaDoorQ25
import Derived.IntWalk
namespace Go.Proofs.YtmebllhkfepkdaaDoor
open Go.RowKit Go.Shelf
set_option linter.unusedVariables false
set_option linter.unusedSimpArgs false
set_option maxRecDepth 100000
attribute [-go_sem] run_equalIn_agg
attribute [local go_sem] eqTot
structure KyH (X Y Z : Nat) (cx cy cz : List Value) (W : World) : Prop where
  x : W.heap[X]? = some (.cells cx.toArray 25 (0, 0))
  y : W.heap[Y]? = some (.cells cy.toArray 25 (0, 0))
  z : W.heap[Z]? = some (.cells cz.toArray 25 (0, 0))
theorem KyH.go {X Y Z : Nat} {cx cy cz : List Value} {W W' : World} (h : KyH X Y Z cx cy cz W) (k : Below W.heap.size W W') : KyH X Y Z cx cy cz W' :=
  ⟨(k.block _ (Array.getElem?_eq_some_iff.1 h.x).1).trans h.x, (k.block _ (Array.getElem?_eq_some_iff.1 h.y).1).trans h.y, (k.block _ (Array.getElem?_eq_some_iff.1 h.z).1).trans h.z⟩
theorem blk_go {W W' : World} {b : Nat} {o : Obj} (h : W.heap[b]? = some o) (k : Below W.heap.size W W') : W'.heap[b]? = some o := (k.block _ (Array.getElem?_eq_some_iff.1 h).1).trans h
theorem tot_mix {xe xp ye yp : ByteArray} {xm xg xx ym yg yx : Int} (hx : validTB ⟨xe, xp, xm, xg, xx⟩ = true) (hy : validTB ⟨ye, yp, ym, yg, yx⟩ = true) : validTB ⟨xe, xp, xm, yg, yx⟩ = true := by
  obtain ⟨h1, h2, h3, h4, h5⟩ := valid_out hx
  obtain ⟨_, _, _, k4, k5⟩ := valid_out hy
  dsimp only at h1 h2 h3 k4 k5
  unfold validTB
  dsimp only
  rw [h1, h2]
  simp
  omega
theorem key_other (k q : Nat) (hk : k < 8) (hq : q < 7) : (k + 1 + q) % 8 < 8 ∧ ¬ k = (k + 1 + q) % 8 := by omega
theorem bool_if {p : Prop} [Decidable p] {a : Int} (ha : ¬ a = 0) : ((if p then (0 : Int) else a) == 0) = decide p := by
  by_cases h : p <;> simp [h, ha]
set_option maxHeartbeats 16000000 in
theorem handoverOneKey_walk (qa qb : Quad) (key other : Int) (w : World) (Sa : QuadOk qa) (Sb : QuadOk qb) (wk : (Lit.int .i64 key).wf = true) (wo : (Lit.int .i64 other).wf = true) (hT : Tabs w) :
    Calls Tryd.prog 6 #[.agg #[.int .i64 qa.a, .int .i64 qa.b, .int .i64 qa.c, .int .i64 qa.d], .agg #[.int .i64 qb.a, .int .i64 qb.b, .int .i64 qb.c, .int .i64 qb.d], .int .i64 key, .int .i64 other] w fun e w' => e = .returned (.bool true) ∧ Below w.heap.size w w' := by
  replace wk : I64 key := bounds_i64 wk
  replace wo : I64 other := bounds_i64 wo
  obtain ⟨a0, a1, a2, a3⟩ := qa
  obtain ⟨b0, b1, b2, b3⟩ := qb
  obtain ⟨x, hx⟩ : ∃ t, madeT a0 a1 a2 a3 = t := ⟨_, rfl⟩
  obtain ⟨y, hy⟩ : ∃ t, madeT b0 b1 b2 b3 = t := ⟨_, rfl⟩
  have hvx : validTB x = true := by rw [← hx]; exact made_valid _ _ _ _
  have hvy : validTB y = true := by rw [← hy]; exact made_valid _ _ _ _
  obtain ⟨xe, xp, xm, xg, xx⟩ := x
  obtain ⟨ye, yp, ym, yg, yx⟩ := y
  have hvz := tot_mix hvx hvy
  obtain ⟨k, hk⟩ : ∃ k : Nat, pickF key 8 = (k : Int) := ⟨(pickF key 8).toNat, by have := pickF_lt key 8 (by omega); omega⟩
  have hk8 : k < 8 := by have := pickF_lt key 8 (by omega); omega
  obtain ⟨q, hq⟩ : ∃ q : Nat, pickF other 7 = (q : Int) := ⟨(pickF other 7).toNat, by have := pickF_lt other 7 (by omega); omega⟩
  have hq7 : q < 7 := by have := pickF_lt other 7 (by omega); omega
  obtain ⟨n, hn⟩ : ∃ n, (k + 1 + q) % 8 = n := ⟨_, rfl⟩
  have hn8 : n < 8 ∧ ¬ k = n := by rw [← hn]; exact key_other k q hk8 hq7
  have hni : ((k : Int) + 1 + (q : Int)) % 8 = (n : Int) := by rw [← hn]; omega
  obtain ⟨rt, hrt⟩ : ∃ r, root29 = r := ⟨_, rfl⟩
  obtain ⟨bxy, hbxy⟩ : ∃ q, totEq xe xp xm xg xx ye yp ym yg yx = q := ⟨_, rfl⟩
  obtain ⟨bxz, hbxz⟩ : ∃ q, totEq xe xp xm xg xx xe xp xm yg yx = q := ⟨_, rfl⟩
  have Hx := Lib.hid hx
  have Hy := Lib.hid hy
  have Hvx := Lib.hid hvx
  have Hvy := Lib.hid hvy
  have Hvz := Lib.hid hvz
  have Hk := Lib.hid hk
  have Hq := Lib.hid hq
  have Hni := Lib.hid hni
  have Hrt := Lib.hid hrt
  obtain ⟨r0, hr0⟩ : ∃ r, (if bxy = true then (0 : Int) else 251) = r := ⟨_, rfl⟩
  obtain ⟨r1, hr1⟩ : ∃ r, (if bxz = true then (0 : Int) else 5) = r := ⟨_, rfl⟩
  have Hr0 := Lib.hid hr0
  have Hr1 := Lib.hid hr1
  clear hr0 hr1
  have Hxy := Lib.hid hbxy
  have Hxz := Lib.hid hbxz
  have HT := Lib.hid hT
  clear hx hy hvx hvy hvz hk hq hn hni hrt hbxy hbxz hT
  go_enter Tryd.func6, Tryd.ntmps6
  go_upto_region 1 with fail
  obtain ⟨V0, hV0⟩ : ∃ W, W = (w.alloc (.cells #[.int .i64 a0, .int .i64 a1, .int .i64 a2, .int .i64 a3] 22)).alloc (.cells #[.int .i64 b0, .int .i64 b1, .int .i64 b2, .int .i64 b3] 22) := ⟨_, rfl⟩
  obtain ⟨A, hA⟩ : ∃ i, i = w.heap.size := ⟨_, rfl⟩
  obtain ⟨B, hB⟩ : ∃ i, i = w.heap.size + 1 := ⟨_, rfl⟩
  rw [← hV0]
  try rw [← hB]
  try rw [← hA]
  have gA : V0.heap[A]? = some (.cells #[.int .i64 a0, .int .i64 a1, .int .i64 a2, .int .i64 a3] 22) := by rw [hV0, hA]; exact heap_alloc2_old w _ _
  have gB : V0.heap[B]? = some (.cells #[.int .i64 b0, .int .i64 b1, .int .i64 b2, .int .i64 b3] 22) := by rw [hV0, hB]; exact heap_alloc2_new w _ _
  have hb0 : Below w.heap.size w V0 := by rw [hV0]; exact bal (bal (Below.refl _ _) _) _
  clear hV0 hA hB
  go_wp2_with fail
  refine (head29_any V0 (HT.out.go hb0).1 (HT.out.go hb0).2).mono ?_
  rintro e w1 ⟨rfl, hB1⟩
  have gA1 := blk_go gA hB1
  have gB1 := blk_go gB hB1
  have hb1 := bgo hb0 hB1
  clear hB1 hb0 gA gB
  have k0 : w1.cell? ⟨A, 0, none⟩ = some (.int .i64 a0) := by rw [Lib.cell_of_heap gA1]; rfl
  have k1 : w1.cell? ⟨A, 1, none⟩ = some (.int .i64 a1) := by rw [Lib.cell_of_heap gA1]; rfl
  have k2 : w1.cell? ⟨A, 2, none⟩ = some (.int .i64 a2) := by rw [Lib.cell_of_heap gA1]; rfl
  have k3 : w1.cell? ⟨A, 3, none⟩ = some (.int .i64 a3) := by rw [Lib.cell_of_heap gA1]; rfl
  clear gA1
  go_wp2_with fail
  refine (made_any a0 a1 a2 a3 xe xp xm xg xx Hx Sa.1 Sa.2.1 Sa.2.2.1 Sa.2.2.2 w1).mono ?_
  rintro e w2 ⟨rfl, hB2⟩
  clear k0 k1 k2 k3
  go_upto_region 3 with fail
  obtain ⟨V3, hV3⟩ : ∃ W, W = w2.alloc (.cells #[.string xe, .string xp, .int .i64 xm, .int .i64 xg, .int .i64 xx] 25) := ⟨_, rfl⟩
  obtain ⟨X, hX⟩ : ∃ i, i = w2.heap.size := ⟨_, rfl⟩
  rw [← hV3, ← hX]
  have gX : V3.heap[X]? = some (.cells #[.string xe, .string xp, .int .i64 xm, .int .i64 xg, .int .i64 xx] 25) := by rw [hV3, hX]; exact World.alloc_heap_new _ _
  have hB3 : Below w1.heap.size w1 V3 := by rw [hV3]; exact bal hB2 _
  have hb3 := bgo hb1 hB3
  have gB3 := blk_go gB1 hB3
  clear hV3 hX hB3 hB2 gB1
  have k0 : V3.cell? ⟨B, 0, none⟩ = some (.int .i64 b0) := by rw [Lib.cell_of_heap gB3]; rfl
  have k1 : V3.cell? ⟨B, 1, none⟩ = some (.int .i64 b1) := by rw [Lib.cell_of_heap gB3]; rfl
  have k2 : V3.cell? ⟨B, 2, none⟩ = some (.int .i64 b2) := by rw [Lib.cell_of_heap gB3]; rfl
  have k3 : V3.cell? ⟨B, 3, none⟩ = some (.int .i64 b3) := by rw [Lib.cell_of_heap gB3]; rfl
  clear gB3
  go_wp2_with fail
  refine (made_any b0 b1 b2 b3 ye yp ym yg yx Hy Sb.1 Sb.2.1 Sb.2.2.1 Sb.2.2.2 V3).mono ?_
  rintro e w4 ⟨rfl, hB4⟩
  clear k0 k1 k2 k3
  have gX4 := blk_go gX hB4
  have hb4 := bgo hb3 hB4
  go_upto_region 4 with fail
  obtain ⟨V5, hV5⟩ : ∃ W, W = w4.alloc (.cells #[.string ye, .string yp, .int .i64 ym, .int .i64 yg, .int .i64 yx] 25) := ⟨_, rfl⟩
  obtain ⟨Y, hY⟩ : ∃ i, i = w4.heap.size := ⟨_, rfl⟩
  rw [← hV5, ← hY]
  have gY : V5.heap[Y]? = some (.cells #[.string ye, .string yp, .int .i64 ym, .int .i64 yg, .int .i64 yx] 25) := by rw [hV5, hY]; exact World.alloc_heap_new _ _
  have hB5 : Below w4.heap.size w4 V5 := by rw [hV5]; exact bal (Below.refl _ _) _
  have hb5 := bgo hb4 hB5
  have gX5 := blk_go gX4 hB5
  have hXY : X < Y := by rw [hY]; exact (Array.getElem?_eq_some_iff.1 gX4).1
  clear hV5 hY hB5 hB4 gX gX4 hb3 hb1 hb4
  go_wp2_with fail
  refine (pick_at key 8 (k : Int) Hk V5 wk (by decide) (by decide)).mono ?_
  rintro e wq ⟨rfl, hwq⟩
  obtain rfl := hwq
  go_wp2_with fail
  refine (pick_at other 7 (q : Int) Hq V5 wo (by decide) (by decide)).mono ?_
  rintro e wq ⟨rfl, hwq⟩
  obtain rfl := hwq
  have k0 : V5.cell? ⟨Y, 0, none⟩ = some (.string ye) := by rw [Lib.cell_of_heap gY]; rfl
  have k1 : V5.cell? ⟨Y, 1, none⟩ = some (.string yp) := by rw [Lib.cell_of_heap gY]; rfl
  have k2 : V5.cell? ⟨Y, 2, none⟩ = some (.int .i64 ym) := by rw [Lib.cell_of_heap gY]; rfl
  have k3 : V5.cell? ⟨Y, 3, none⟩ = some (.int .i64 yg) := by rw [Lib.cell_of_heap gY]; rfl
  have k4 : V5.cell? ⟨Y, 4, none⟩ = some (.int .i64 yx) := by rw [Lib.cell_of_heap gY]; rfl
  go_upto_region 7 with fail
  simp only [Hni.out]
  clear k0 k1 k2 k3 k4
  obtain ⟨V6, hV6⟩ : ∃ W, W = V5.alloc (.cells #[.string ye, .string yp, .int .i64 ym, .int .i64 yg, .int .i64 yx] 25) := ⟨_, rfl⟩
  obtain ⟨Z, hZ⟩ : ∃ i, i = V5.heap.size := ⟨_, rfl⟩
  rw [← hV6, ← hZ]
  have gZ : V6.heap[Z]? = some (.cells #[.string ye, .string yp, .int .i64 ym, .int .i64 yg, .int .i64 yx] 25) := by rw [hV6, hZ]; exact World.alloc_heap_new _ _
  have hB6 : Below V5.heap.size V5 V6 := by rw [hV6]; exact bal (Below.refl _ _) _
  have hb6 := bgo hb5 hB6
  have gX6 := blk_go gX5 hB6
  have gY6 := blk_go gY hB6
  have hYZ : Y < Z := by rw [hZ]; exact (Array.getElem?_eq_some_iff.1 gY).1
  have hZw : w.heap.size ≤ Z := by rw [hZ]; exact hb5.size
  clear hV6 hZ hB6 gX5 gY hb5
  have k0 : V6.cell? ⟨X, 0, none⟩ = some (.string xe) := by rw [Lib.cell_of_heap gX6]; rfl
  have k1 : V6.cell? ⟨X, 1, none⟩ = some (.string xp) := by rw [Lib.cell_of_heap gX6]; rfl
  have k2 : V6.cell? ⟨X, 2, none⟩ = some (.int .i64 xm) := by rw [Lib.cell_of_heap gX6]; rfl
  have l0 : V6.cell? ⟨Z, 0, none⟩ = some (.string ye) := by rw [Lib.cell_of_heap gZ]; rfl
  have l1 : V6.cell? ⟨Z, 1, none⟩ = some (.string yp) := by rw [Lib.cell_of_heap gZ]; rfl
  have l2 : V6.cell? ⟨Z, 2, none⟩ = some (.int .i64 ym) := by rw [Lib.cell_of_heap gZ]; rfl
  have fz : ∀ j, V6.frozen? ⟨Z, j, none⟩ = false := fun j => Lib.frozen_of_heap gZ j
  have hne : X ≠ Z := by omega
  have hne' : ¬ X = Z := by omega
  go_upto_region 10 with fail
  obtain ⟨V7, hV7⟩ : ∃ W, W = ((V6.setCell ⟨Z, 0, none⟩ (.string xe)).setCell ⟨Z, 1, none⟩ (.string xp)).setCell ⟨Z, 2, none⟩ (.int .i64 xm) := ⟨_, rfl⟩
  rw [← hV7]
  have ho7 : ∀ b, b ≠ Z → V7.heap[b]? = V6.heap[b]? := fun b h => by rw [hV7]; exact (Below.heap_setCell _ _ _ _ h).trans ((Below.heap_setCell _ _ _ _ h).trans (Below.heap_setCell _ _ _ _ h))
  have gZ7 : V7.heap[Z]? = some (.cells #[.string xe, .string xp, .int .i64 xm, .int .i64 yg, .int .i64 yx] 25) := by rw [hV7]; exact setCell_heap (setCell_heap (setCell_heap gZ))
  have hb7 : Below w.heap.size w V7 := by rw [hV7]; exact ((hb6.setCell hZw _).setCell hZw _).setCell hZw _
  have H7 := Lib.hid (And.intro (KyH.mk (cx := [.string xe, .string xp, .int .i64 xm, .int .i64 xg, .int .i64 xx]) (cy := [.string ye, .string yp, .int .i64 ym, .int .i64 yg, .int .i64 yx]) (cz := [.string xe, .string xp, .int .i64 xm, .int .i64 yg, .int .i64 yx]) ((ho7 X hne).trans gX6) ((ho7 Y (by omega)).trans gY6) gZ7) hb7)
  clear hV7 ho7 gZ7 hb7 hb6 gX6 gY6 gZ k0 k1 k2 l0 l1 l2 fz hne hne'
  go_wp2_with fail
  refine (rkey_any seedB 3 rt 0 Hrt (Lib.hid (by decide +kernel)) V7 (by decide) (HT.out.go H7.out.2).2).mono ?_
  rintro e w8 ⟨rfl, hB8⟩
  have H8 := Lib.hid (And.intro (H7.out.1.go hB8) (bgo H7.out.2 hB8))
  clear hB8
  have k0 : w8.cell? ⟨X, 0, none⟩ = some (.string xe) := by rw [Lib.cell_of_heap H8.out.1.x]; rfl
  have k1 : w8.cell? ⟨X, 1, none⟩ = some (.string xp) := by rw [Lib.cell_of_heap H8.out.1.x]; rfl
  have k2 : w8.cell? ⟨X, 2, none⟩ = some (.int .i64 xm) := by rw [Lib.cell_of_heap H8.out.1.x]; rfl
  have k3 : w8.cell? ⟨X, 3, none⟩ = some (.int .i64 xg) := by rw [Lib.cell_of_heap H8.out.1.x]; rfl
  have k4 : w8.cell? ⟨X, 4, none⟩ = some (.int .i64 xx) := by rw [Lib.cell_of_heap H8.out.1.x]; rfl
  go_wp2_with fail
  with_reducible refine (issue_el xe xp xm xg xx k hk8 Hvx w8 (HT.out.go H8.out.2).ct (HT.out.go H8.out.2).ot).mono ?_
  rintro e u1 ⟨pA, pa, pB, pb, rfl, hiss, hB⟩
  clear k0 k1 k2 k3 k4
  go_upto_region 12 with fail
  obtain ⟨V1s, hV⟩ : ∃ W, W = u1.alloc (.cells #[.string xe, .string xp, .int .i64 xm, .int .i64 xg, .int .i64 xx, .int .i64 (k : Int), .slice pA 18 pa, .slice pB 3 pb] 34) := ⟨_, rfl⟩
  obtain ⟨S1, hS⟩ : ∃ i, i = u1.heap.size := ⟨_, rfl⟩
  rw [← hV, ← hS]
  have gS1 : V1s.heap[S1]? = some (.cells #[.string xe, .string xp, .int .i64 xm, .int .i64 xg, .int .i64 xx, .int .i64 (k : Int), .slice pA 18 pa, .slice pB 3 pb] 34) := by rw [hV, hS]; exact World.alloc_heap_new _ _
  have hst : Below u1.heap.size u1 V1s := by rw [hV]; exact bal (Below.refl _ _) _
  clear hV hS
  have hB2 := bgo hB hst
  have I1 := Lib.hid (And.intro gS1 (hiss.go hst))
  have HH1 := Lib.hid (And.intro (H8.out.1.go hB2) (bgo H8.out.2 hB2))
  clear gS1 hst hiss hB hB2
  have k0 : V1s.cell? ⟨Y, 0, none⟩ = some (.string ye) := by rw [Lib.cell_of_heap HH1.out.1.y]; rfl
  have k1 : V1s.cell? ⟨Y, 1, none⟩ = some (.string yp) := by rw [Lib.cell_of_heap HH1.out.1.y]; rfl
  have k2 : V1s.cell? ⟨Y, 2, none⟩ = some (.int .i64 ym) := by rw [Lib.cell_of_heap HH1.out.1.y]; rfl
  have k3 : V1s.cell? ⟨Y, 3, none⟩ = some (.int .i64 yg) := by rw [Lib.cell_of_heap HH1.out.1.y]; rfl
  have k4 : V1s.cell? ⟨Y, 4, none⟩ = some (.int .i64 yx) := by rw [Lib.cell_of_heap HH1.out.1.y]; rfl
  go_wp2_with fail
  with_reducible refine (issue_el ye yp ym yg yx k hk8 Hvy V1s (HT.out.go HH1.out.2).ct (HT.out.go HH1.out.2).ot).mono ?_
  rintro e u2 ⟨qA, qa, qB, qb, rfl, hiss, hB⟩
  clear k0 k1 k2 k3 k4
  go_upto_region 13 with fail
  obtain ⟨V2s, hV⟩ : ∃ W, W = u2.alloc (.cells #[.string ye, .string yp, .int .i64 ym, .int .i64 yg, .int .i64 yx, .int .i64 (k : Int), .slice qA 18 qa, .slice qB 3 qb] 34) := ⟨_, rfl⟩
  obtain ⟨S2, hS⟩ : ∃ i, i = u2.heap.size := ⟨_, rfl⟩
  rw [← hV, ← hS]
  have gS2 : V2s.heap[S2]? = some (.cells #[.string ye, .string yp, .int .i64 ym, .int .i64 yg, .int .i64 yx, .int .i64 (k : Int), .slice qA 18 qa, .slice qB 3 qb] 34) := by rw [hV, hS]; exact World.alloc_heap_new _ _
  have hst : Below u2.heap.size u2 V2s := by rw [hV]; exact bal (Below.refl _ _) _
  clear hV hS
  have hB2 := bgo hB hst
  have I2 := Lib.hid (And.intro gS2 (hiss.go hst))
  have HH2 := Lib.hid (And.intro (HH1.out.1.go hB2) (bgo HH1.out.2 hB2))
  have I1_2 := Lib.hid (And.intro (blk_go I1.out.1 hB2) (I1.out.2.go hB2))
  clear gS2 hst hiss hB hB2
  have k0 : V2s.cell? ⟨Z, 0, none⟩ = some (.string xe) := by rw [Lib.cell_of_heap HH2.out.1.z]; rfl
  have k1 : V2s.cell? ⟨Z, 1, none⟩ = some (.string xp) := by rw [Lib.cell_of_heap HH2.out.1.z]; rfl
  have k2 : V2s.cell? ⟨Z, 2, none⟩ = some (.int .i64 xm) := by rw [Lib.cell_of_heap HH2.out.1.z]; rfl
  have k3 : V2s.cell? ⟨Z, 3, none⟩ = some (.int .i64 yg) := by rw [Lib.cell_of_heap HH2.out.1.z]; rfl
  have k4 : V2s.cell? ⟨Z, 4, none⟩ = some (.int .i64 yx) := by rw [Lib.cell_of_heap HH2.out.1.z]; rfl
  go_wp2_with fail
  with_reducible refine (issue_el xe xp xm yg yx n hn8.1 Hvz V2s (HT.out.go HH2.out.2).ct (HT.out.go HH2.out.2).ot).mono ?_
  rintro e u3 ⟨rA, ra, rB, rb, rfl, hiss, hB⟩
  clear k0 k1 k2 k3 k4
  go_upto_region 14 with fail
  obtain ⟨V3s, hV⟩ : ∃ W, W = u3.alloc (.cells #[.string xe, .string xp, .int .i64 xm, .int .i64 yg, .int .i64 yx, .int .i64 (n : Int), .slice rA 18 ra, .slice rB 3 rb] 34) := ⟨_, rfl⟩
  obtain ⟨S3, hS⟩ : ∃ i, i = u3.heap.size := ⟨_, rfl⟩
  rw [← hV, ← hS]
  have gS3 : V3s.heap[S3]? = some (.cells #[.string xe, .string xp, .int .i64 xm, .int .i64 yg, .int .i64 yx, .int .i64 (n : Int), .slice rA 18 ra, .slice rB 3 rb] 34) := by rw [hV, hS]; exact World.alloc_heap_new _ _
  have hst : Below u3.heap.size u3 V3s := by rw [hV]; exact bal (Below.refl _ _) _
  clear hV hS
  have hB2 := bgo hB hst
  have I3 := Lib.hid (And.intro gS3 (hiss.go hst))
  have HH3 := Lib.hid (And.intro (HH2.out.1.go hB2) (bgo HH2.out.2 hB2))
  have I1_3 := Lib.hid (And.intro (blk_go I1_2.out.1 hB2) (I1_2.out.2.go hB2))
  have I2_3 := Lib.hid (And.intro (blk_go I2.out.1 hB2) (I2.out.2.go hB2))
  clear gS3 hst hiss hB hB2
  have k0 : V3s.cell? ⟨S1, 0, none⟩ = some (.string xe) := by rw [Lib.cell_of_heap I1_3.out.1]; rfl
  have k1 : V3s.cell? ⟨S1, 1, none⟩ = some (.string xp) := by rw [Lib.cell_of_heap I1_3.out.1]; rfl
  have k2 : V3s.cell? ⟨S1, 2, none⟩ = some (.int .i64 xm) := by rw [Lib.cell_of_heap I1_3.out.1]; rfl
  have k3 : V3s.cell? ⟨S1, 3, none⟩ = some (.int .i64 xg) := by rw [Lib.cell_of_heap I1_3.out.1]; rfl
  have k4 : V3s.cell? ⟨S1, 4, none⟩ = some (.int .i64 xx) := by rw [Lib.cell_of_heap I1_3.out.1]; rfl
  have k5 : V3s.cell? ⟨S1, 5, none⟩ = some (.int .i64 (k : Int)) := by rw [Lib.cell_of_heap I1_3.out.1]; rfl
  have k6 : V3s.cell? ⟨S1, 6, none⟩ = some (.slice pA 18 pa) := by rw [Lib.cell_of_heap I1_3.out.1]; rfl
  have k7 : V3s.cell? ⟨S1, 7, none⟩ = some (.slice pB 3 pb) := by rw [Lib.cell_of_heap I1_3.out.1]; rfl
  have l0 : V3s.cell? ⟨S2, 0, none⟩ = some (.string ye) := by rw [Lib.cell_of_heap I2_3.out.1]; rfl
  have l1 : V3s.cell? ⟨S2, 1, none⟩ = some (.string yp) := by rw [Lib.cell_of_heap I2_3.out.1]; rfl
  have l2 : V3s.cell? ⟨S2, 2, none⟩ = some (.int .i64 ym) := by rw [Lib.cell_of_heap I2_3.out.1]; rfl
  have l3 : V3s.cell? ⟨S2, 3, none⟩ = some (.int .i64 yg) := by rw [Lib.cell_of_heap I2_3.out.1]; rfl
  have l4 : V3s.cell? ⟨S2, 4, none⟩ = some (.int .i64 yx) := by rw [Lib.cell_of_heap I2_3.out.1]; rfl
  have l5 : V3s.cell? ⟨S2, 5, none⟩ = some (.int .i64 (k : Int)) := by rw [Lib.cell_of_heap I2_3.out.1]; rfl
  have l6 : V3s.cell? ⟨S2, 6, none⟩ = some (.slice qA 18 qa) := by rw [Lib.cell_of_heap I2_3.out.1]; rfl
  have l7 : V3s.cell? ⟨S2, 7, none⟩ = some (.slice qB 3 qb) := by rw [Lib.cell_of_heap I2_3.out.1]; rfl
  go_wp2_with fail
  clear k0 k1 k2 k3 k4 k5 k6 k7 l0 l1 l2 l3 l4 l5 l6 l7
  obtain ⟨R, hR⟩ : ∃ W, W = V3s.alloc (.cells #[.string xe, .string xp, .int .i64 xm, .int .i64 xg, .int .i64 xx, .int .i64 (k : Int), .slice pA 18 pa, .slice pB 3 pb, .string ye, .string yp, .int .i64 ym, .int .i64 yg, .int .i64 yx, .int .i64 (k : Int), .slice qA 18 qa, .slice qB 3 qb] 34) := ⟨_, rfl⟩
  obtain ⟨rbk, hrbk⟩ : ∃ i, i = V3s.heap.size := ⟨_, rfl⟩
  rw [← hR]
  try rw [← hrbk]
  have hBR : Below V3s.heap.size V3s R := by rw [hR]; exact bal (Below.refl _ _) _
  have hSR : Sl R R.heap.size 8 (some ⟨rbk, 0, none⟩) 2 ([⟨⟨xe, xp, xm, xg, xx⟩, (k : Int), pA, 18, pa, pB, 3, pb⟩, ⟨⟨ye, yp, ym, yg, yx⟩, (k : Int), qA, 18, qa, qB, 3, qb⟩].flatMap elV) := by rw [hR, hrbk]; exact sl_cells (World.alloc_heap_new _ _) rfl rfl
  clear hR hrbk
  have hel : ∀ z ∈ [(⟨⟨xe, xp, xm, xg, xx⟩, (k : Int), pA, 18, pa, pB, 3, pb⟩ : ElM), ⟨⟨ye, yp, ym, yg, yx⟩, (k : Int), qA, 18, qa, qB, 3, qb⟩], ElOk R rt 3 (fun _ => true) z := by
    intro z hz
    rw [← Hrt.out]
    rcases List.mem_cons.1 hz with h | h
    · rw [h]; exact (I1_3.out.2.go hBR).ok
    · rw [List.mem_singleton.1 h]; exact (I2_3.out.2.go hBR).ok
  obtain ⟨TL, hTL⟩ := acc_two ⟨⟨xe, xp, xm, xg, xx⟩, (k : Int), pA, 18, pa, pB, 3, pb⟩ ⟨⟨ye, yp, ym, yg, yx⟩, (k : Int), qA, 18, qa, qB, 3, qb⟩ r0 Hvx.out Hvy.out (by rw [wl_key, ← Hr0.out, ← Hxy.out]; unfold totEq; simp only [decide_eq_true_eq])
  with_reducible refine (accept_any rt 3 (some ⟨rbk, 0, none⟩) 2 2 [⟨⟨xe, xp, xm, xg, xx⟩, (k : Int), pA, 18, pa, pB, 3, pb⟩, ⟨⟨ye, yp, ym, yg, yx⟩, (k : Int), qA, 18, qa, qB, 3, qb⟩] rfl (fun _ => true) r0 TL (Lib.hid hTL) R (HT.out.go (bgo HH3.out.2 hBR)).ct (HT.out.go (bgo HH3.out.2 hBR)).ot hSR hel (by decide) (by decide)).mono ?_
  rintro e y0 ⟨v0, rfl, _, hBa⟩
  have hB2 := bgo hBR hBa
  have HX0 := Lib.hid (And.intro (HH3.out.1.go hB2) (bgo HH3.out.2 hB2))
  have J0_0 := Lib.hid (And.intro (blk_go I1_3.out.1 hB2) (I1_3.out.2.go hB2))
  have J0_1 := Lib.hid (And.intro (blk_go I2_3.out.1 hB2) (I2_3.out.2.go hB2))
  have J0_2 := Lib.hid (And.intro (blk_go I3.out.1 hB2) (I3.out.2.go hB2))
  clear hBR hSR hel hTL hBa hB2
  have k0 : y0.cell? ⟨S1, 0, none⟩ = some (.string xe) := by rw [Lib.cell_of_heap J0_0.out.1]; rfl
  have k1 : y0.cell? ⟨S1, 1, none⟩ = some (.string xp) := by rw [Lib.cell_of_heap J0_0.out.1]; rfl
  have k2 : y0.cell? ⟨S1, 2, none⟩ = some (.int .i64 xm) := by rw [Lib.cell_of_heap J0_0.out.1]; rfl
  have k3 : y0.cell? ⟨S1, 3, none⟩ = some (.int .i64 xg) := by rw [Lib.cell_of_heap J0_0.out.1]; rfl
  have k4 : y0.cell? ⟨S1, 4, none⟩ = some (.int .i64 xx) := by rw [Lib.cell_of_heap J0_0.out.1]; rfl
  have k5 : y0.cell? ⟨S1, 5, none⟩ = some (.int .i64 (k : Int)) := by rw [Lib.cell_of_heap J0_0.out.1]; rfl
  have k6 : y0.cell? ⟨S1, 6, none⟩ = some (.slice pA 18 pa) := by rw [Lib.cell_of_heap J0_0.out.1]; rfl
  have k7 : y0.cell? ⟨S1, 7, none⟩ = some (.slice pB 3 pb) := by rw [Lib.cell_of_heap J0_0.out.1]; rfl
  have l0 : y0.cell? ⟨S3, 0, none⟩ = some (.string xe) := by rw [Lib.cell_of_heap J0_2.out.1]; rfl
  have l1 : y0.cell? ⟨S3, 1, none⟩ = some (.string xp) := by rw [Lib.cell_of_heap J0_2.out.1]; rfl
  have l2 : y0.cell? ⟨S3, 2, none⟩ = some (.int .i64 xm) := by rw [Lib.cell_of_heap J0_2.out.1]; rfl
  have l3 : y0.cell? ⟨S3, 3, none⟩ = some (.int .i64 yg) := by rw [Lib.cell_of_heap J0_2.out.1]; rfl
  have l4 : y0.cell? ⟨S3, 4, none⟩ = some (.int .i64 yx) := by rw [Lib.cell_of_heap J0_2.out.1]; rfl
  have l5 : y0.cell? ⟨S3, 5, none⟩ = some (.int .i64 (n : Int)) := by rw [Lib.cell_of_heap J0_2.out.1]; rfl
  have l6 : y0.cell? ⟨S3, 6, none⟩ = some (.slice rA 18 ra) := by rw [Lib.cell_of_heap J0_2.out.1]; rfl
  have l7 : y0.cell? ⟨S3, 7, none⟩ = some (.slice rB 3 rb) := by rw [Lib.cell_of_heap J0_2.out.1]; rfl
  go_wp2_with fail
  clear k0 k1 k2 k3 k4 k5 k6 k7 l0 l1 l2 l3 l4 l5 l6 l7
  obtain ⟨R, hR⟩ : ∃ W, W = y0.alloc (.cells #[.string xe, .string xp, .int .i64 xm, .int .i64 xg, .int .i64 xx, .int .i64 (k : Int), .slice pA 18 pa, .slice pB 3 pb, .string xe, .string xp, .int .i64 xm, .int .i64 yg, .int .i64 yx, .int .i64 (n : Int), .slice rA 18 ra, .slice rB 3 rb] 34) := ⟨_, rfl⟩
  obtain ⟨rbk, hrbk⟩ : ∃ i, i = y0.heap.size := ⟨_, rfl⟩
  rw [← hR]
  try rw [← hrbk]
  have hBR : Below y0.heap.size y0 R := by rw [hR]; exact bal (Below.refl _ _) _
  have hSR : Sl R R.heap.size 8 (some ⟨rbk, 0, none⟩) 2 ([⟨⟨xe, xp, xm, xg, xx⟩, (k : Int), pA, 18, pa, pB, 3, pb⟩, ⟨⟨xe, xp, xm, yg, yx⟩, (n : Int), rA, 18, ra, rB, 3, rb⟩].flatMap elV) := by rw [hR, hrbk]; exact sl_cells (World.alloc_heap_new _ _) rfl rfl
  clear hR hrbk
  have hel : ∀ z ∈ [(⟨⟨xe, xp, xm, xg, xx⟩, (k : Int), pA, 18, pa, pB, 3, pb⟩ : ElM), ⟨⟨xe, xp, xm, yg, yx⟩, (n : Int), rA, 18, ra, rB, 3, rb⟩], ElOk R rt 3 (fun _ => true) z := by
    intro z hz
    rw [← Hrt.out]
    rcases List.mem_cons.1 hz with h | h
    · rw [h]; exact (J0_0.out.2.go hBR).ok
    · rw [List.mem_singleton.1 h]; exact (J0_2.out.2.go hBR).ok
  obtain ⟨TL, hTL⟩ := acc_two ⟨⟨xe, xp, xm, xg, xx⟩, (k : Int), pA, 18, pa, pB, 3, pb⟩ ⟨⟨xe, xp, xm, yg, yx⟩, (n : Int), rA, 18, ra, rB, 3, rb⟩ r1 Hvx.out Hvz.out ((wl_twice ⟨xe, xp, xm, xg, xx⟩ ⟨xe, xp, xm, yg, yx⟩ (k : Int) (n : Int) (by omega) ⟨rfl, rfl, rfl⟩).trans (by rw [← Hr1.out, ← Hxz.out]; unfold totEq; simp only [decide_eq_true_eq]))
  with_reducible refine (accept_any rt 3 (some ⟨rbk, 0, none⟩) 2 2 [⟨⟨xe, xp, xm, xg, xx⟩, (k : Int), pA, 18, pa, pB, 3, pb⟩, ⟨⟨xe, xp, xm, yg, yx⟩, (n : Int), rA, 18, ra, rB, 3, rb⟩] rfl (fun _ => true) r1 TL (Lib.hid hTL) R (HT.out.go (bgo HX0.out.2 hBR)).ct (HT.out.go (bgo HX0.out.2 hBR)).ot hSR hel (by decide) (by decide)).mono ?_
  rintro e y1 ⟨v1, rfl, _, hBa⟩
  have hB2 := bgo hBR hBa
  have HX1 := Lib.hid (And.intro (HX0.out.1.go hB2) (bgo HX0.out.2 hB2))
  have J1_0 := Lib.hid (And.intro (blk_go J0_0.out.1 hB2) (J0_0.out.2.go hB2))
  have J1_1 := Lib.hid (And.intro (blk_go J0_1.out.1 hB2) (J0_1.out.2.go hB2))
  have J1_2 := Lib.hid (And.intro (blk_go J0_2.out.1 hB2) (J0_2.out.2.go hB2))
  clear hBR hSR hel hTL hBa hB2
  have k0 : y1.cell? ⟨X, 0, none⟩ = some (.string xe) := by rw [Lib.cell_of_heap HX1.out.1.x]; rfl
  have k1 : y1.cell? ⟨X, 1, none⟩ = some (.string xp) := by rw [Lib.cell_of_heap HX1.out.1.x]; rfl
  have k2 : y1.cell? ⟨X, 2, none⟩ = some (.int .i64 xm) := by rw [Lib.cell_of_heap HX1.out.1.x]; rfl
  have k3 : y1.cell? ⟨X, 3, none⟩ = some (.int .i64 xg) := by rw [Lib.cell_of_heap HX1.out.1.x]; rfl
  have k4 : y1.cell? ⟨X, 4, none⟩ = some (.int .i64 xx) := by rw [Lib.cell_of_heap HX1.out.1.x]; rfl
  have l0 : y1.cell? ⟨Y, 0, none⟩ = some (.string ye) := by rw [Lib.cell_of_heap HX1.out.1.y]; rfl
  have l1 : y1.cell? ⟨Y, 1, none⟩ = some (.string yp) := by rw [Lib.cell_of_heap HX1.out.1.y]; rfl
  have l2 : y1.cell? ⟨Y, 2, none⟩ = some (.int .i64 ym) := by rw [Lib.cell_of_heap HX1.out.1.y]; rfl
  have l3 : y1.cell? ⟨Y, 3, none⟩ = some (.int .i64 yg) := by rw [Lib.cell_of_heap HX1.out.1.y]; rfl
  have l4 : y1.cell? ⟨Y, 4, none⟩ = some (.int .i64 yx) := by rw [Lib.cell_of_heap HX1.out.1.y]; rfl
  have m0 : y1.cell? ⟨Z, 0, none⟩ = some (.string xe) := by rw [Lib.cell_of_heap HX1.out.1.z]; rfl
  have m1 : y1.cell? ⟨Z, 1, none⟩ = some (.string xp) := by rw [Lib.cell_of_heap HX1.out.1.z]; rfl
  have m2 : y1.cell? ⟨Z, 2, none⟩ = some (.int .i64 xm) := by rw [Lib.cell_of_heap HX1.out.1.z]; rfl
  have m3 : y1.cell? ⟨Z, 3, none⟩ = some (.int .i64 yg) := by rw [Lib.cell_of_heap HX1.out.1.z]; rfl
  have m4 : y1.cell? ⟨Z, 4, none⟩ = some (.int .i64 yx) := by rw [Lib.cell_of_heap HX1.out.1.z]; rfl
  have f1 := Hxy.out
  have f2 := Hxz.out
  have hr0 := Hr0.out
  have hr1 := Hr1.out
  cases bxy <;> cases bxz <;> · simp only [if_true, Bool.false_eq_true, if_false] at hr0 hr1; subst hr0 hr1; go_wp2_with fail; go_ret; exact ⟨by first | rfl | simp, HX1.out.2⟩
end Go.Proofs.YtmebllhkfepkdaaDoor
