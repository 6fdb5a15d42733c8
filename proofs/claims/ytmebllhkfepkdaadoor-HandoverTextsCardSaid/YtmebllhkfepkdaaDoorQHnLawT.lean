/- The walk of HandoverTexts. -/
import Derived.Test.YtmebllhkfepkdaaDoorQ24
import Derived.Deep.DeepCutAuto
import Derived.Deep.CutBlock
namespace Go.Proofs.YtmebllhkfepkdaaDoor
open Go.RowKit Go.Shelf
set_option linter.unusedVariables false
set_option linter.unusedSimpArgs false
set_option maxRecDepth 100000
attribute [-go_sem] run_equalIn_agg
attribute [local go_sem] eqTot
theorem text_no {t : TotD} (h : validTB t = false) : textT t = ⟨#[]⟩ := by unfold textT; rw [h]; rfl
theorem text_eq {x y : TotD} (hx : validTB x = true) (hy : validTB y = true) : ((textT x).toList == (textT y).toList) = decide (x = y) := by
  rw [tl_dec]
  by_cases h : x = y
  · subst h; simp
  · rw [decide_eq_false h]
    exact decide_eq_false (fun e => h (text_inj hx hy e))
theorem name_cat (e p : ByteArray) : isNameB (e ++ ⟨#[32]⟩ ++ p) = false := by
  cases h : isNameB (e ++ ⟨#[32]⟩ ++ p) with
  | false => rfl
  | true =>
    have := name_word h
    simp at this
/-- A total of which a field is spoiled. -/
structure TxH (X Y Z : Nat) (x y z : TotD) (W : World) : Prop where
  x : W.heap[X]? = some (.cells (totL5 x).toArray 25 (0, 0))
  y : W.heap[Y]? = some (.cells (totL5 y).toArray 25 (0, 0))
  z : W.heap[Z]? = some (.cells (totL5 z).toArray 25 (0, 0))
theorem TxH.go {X Y Z : Nat} {x y z : TotD} {W W' : World} (h : TxH X Y Z x y z W) (k : Below W.heap.size W W') : TxH X Y Z x y z W' :=
  ⟨(k.block _ (Array.getElem?_eq_some_iff.1 h.x).1).trans h.x, (k.block _ (Array.getElem?_eq_some_iff.1 h.y).1).trans h.y, (k.block _ (Array.getElem?_eq_some_iff.1 h.z).1).trans h.z⟩
set_option maxHeartbeats 8000000 in
theorem handoverTexts_walk (qa qb : Quad) (field n : Int) (w : World) (Sa : QuadOk qa) (Sb : QuadOk qb) (wf : (Lit.int .i64 field).wf = true) (wn : (Lit.int .i64 n).wf = true) (hT : Tabs w) :
    Calls Tryd.prog 3 #[.agg #[.int .i64 qa.a, .int .i64 qa.b, .int .i64 qa.c, .int .i64 qa.d], .agg #[.int .i64 qb.a, .int .i64 qb.b, .int .i64 qb.c, .int .i64 qb.d], .int .i64 field, .int .i64 n] w fun e w' => e = .returned (.bool true) ∧ Below w.heap.size w w' := by
  replace wf : I64 field := bounds_i64 wf
  replace wn : I64 n := bounds_i64 wn
  obtain ⟨a0, a1, a2, a3⟩ := qa
  obtain ⟨b0, b1, b2, b3⟩ := qb
  obtain ⟨x, hx⟩ : ∃ t, madeT a0 a1 a2 a3 = t := ⟨_, rfl⟩
  obtain ⟨y, hy⟩ : ∃ t, madeT b0 b1 b2 b3 = t := ⟨_, rfl⟩
  have hvx : validTB x = true := by rw [← hx]; exact made_valid _ _ _ _
  have hvy : validTB y = true := by rw [← hy]; exact made_valid _ _ _ _
  have htx := text_eq hvx hvy
  have hne := text_ne hvx
  obtain ⟨sx, hsx⟩ : ∃ s, textT x = s := ⟨_, rfl⟩
  obtain ⟨sy, hsy⟩ : ∃ s, textT y = s := ⟨_, rfl⟩
  rw [hsx, hsy] at htx
  rw [hsx] at hne
  have hzx := valid_sz hvx
  have hzy := valid_sz hvy
  have hvo := valid_out hvx
  obtain ⟨xe, xp, xm, xg, xx⟩ := x
  obtain ⟨ye, yp, ym, yg, yx⟩ := y
  dsimp only at hzx hzy hvo
  obtain ⟨bb, hbb⟩ : ∃ q, totEq xe xp xm xg xx ye yp ym yg yx = q := ⟨_, rfl⟩
  have hteq : (sx.toList == sy.toList) = bb := htx.trans hbb
  obtain ⟨p, hp⟩ : ∃ q, pickF field 5 = q := ⟨_, rfl⟩
  obtain ⟨r, hr⟩ : ∃ q, pickF n 1000 = q := ⟨_, rfl⟩
  have hpb := pickF_lt field 5 (by omega)
  have hrb := pickF_lt n 1000 (by omega)
  rw [hp] at hpb
  rw [hr] at hrb
  have Hx := Lib.hid hx
  have Hy := Lib.hid hy
  have Hsx := Lib.hid hsx
  have Hsy := Lib.hid hsy
  have Hp := Lib.hid hp
  have Hr := Lib.hid hr
  have Hvx := Lib.hid (And.intro hvx hvy)
  have Hvo := Lib.hid hvo
  have Hteq := Lib.hid hteq
  have Hbb := Lib.hid hbb
  have Hne := Lib.hid hne
  have HT := Lib.hid hT
  clear hx hy hsx hsy hp hr hvx hvy htx hvo hteq hbb hne hT
  go_enter Tryd.func3, Tryd.ntmps3
  go_upto_region 1 with fail
  obtain ⟨V0, hV0⟩ : ∃ W, W = (w.alloc (.cells #[.int .i64 a0, .int .i64 a1, .int .i64 a2, .int .i64 a3] 22)).alloc (.cells #[.int .i64 b0, .int .i64 b1, .int .i64 b2, .int .i64 b3] 22) := ⟨_, rfl⟩
  obtain ⟨A, hA⟩ : ∃ i, i = w.heap.size := ⟨_, rfl⟩
  obtain ⟨B, hB⟩ : ∃ i, i = w.heap.size + 1 := ⟨_, rfl⟩
  rw [← hV0]
  try rw [← hB]
  try rw [← hA]
  have gA : V0.heap[A]? = some (.cells #[.int .i64 a0, .int .i64 a1, .int .i64 a2, .int .i64 a3] 22) := by rw [hV0, hA]; exact heap_alloc2_old w _ _
  have gB : V0.heap[B]? = some (.cells #[.int .i64 b0, .int .i64 b1, .int .i64 b2, .int .i64 b3] 22) := by rw [hV0, hB]; exact heap_alloc2_new w _ _
  have hb0 : Below w.heap.size w V0 := by rw [hV0]; exact bal (bal (Below.refl _ _) _) _
  clear hV0 hA hB
  go_wp2_with fail
  refine (head29_any V0 (HT.out.go hb0).1 (HT.out.go hb0).2).mono ?_
  rintro e w1 ⟨rfl, hB1⟩
  have gA1 := (hB1.block _ (Array.getElem?_eq_some_iff.1 gA).1).trans gA
  have gB1 := (hB1.block _ (Array.getElem?_eq_some_iff.1 gB).1).trans gB
  have hb1 := bgo hb0 hB1
  clear hB1 hb0 gA gB
  have k0 : w1.cell? ⟨A, 0, none⟩ = some (.int .i64 a0) := by rw [Lib.cell_of_heap gA1]; rfl
  have k1 : w1.cell? ⟨A, 1, none⟩ = some (.int .i64 a1) := by rw [Lib.cell_of_heap gA1]; rfl
  have k2 : w1.cell? ⟨A, 2, none⟩ = some (.int .i64 a2) := by rw [Lib.cell_of_heap gA1]; rfl
  have k3 : w1.cell? ⟨A, 3, none⟩ = some (.int .i64 a3) := by rw [Lib.cell_of_heap gA1]; rfl
  clear gA1
  go_wp2_with fail
  refine (made_any a0 a1 a2 a3 xe xp xm xg xx Hx Sa.1 Sa.2.1 Sa.2.2.1 Sa.2.2.2 w1).mono ?_
  rintro e w2 ⟨rfl, hB2⟩
  clear k0 k1 k2 k3
  go_upto_region 3 with fail
  obtain ⟨V3, hV3⟩ : ∃ W, W = w2.alloc (.cells #[.string xe, .string xp, .int .i64 xm, .int .i64 xg, .int .i64 xx] 25) := ⟨_, rfl⟩
  obtain ⟨X, hX⟩ : ∃ i, i = w2.heap.size := ⟨_, rfl⟩
  rw [← hV3, ← hX]
  have gX : V3.heap[X]? = some (.cells #[.string xe, .string xp, .int .i64 xm, .int .i64 xg, .int .i64 xx] 25) := by rw [hV3, hX]; exact World.alloc_heap_new _ _
  have hB3 : Below w1.heap.size w1 V3 := by rw [hV3]; exact bal hB2 _
  have hb3 := bgo hb1 hB3
  have gB3 := (hB3.block _ (Array.getElem?_eq_some_iff.1 gB1).1).trans gB1
  clear hV3 hX hB3 hB2 gB1
  have k0 : V3.cell? ⟨B, 0, none⟩ = some (.int .i64 b0) := by rw [Lib.cell_of_heap gB3]; rfl
  have k1 : V3.cell? ⟨B, 1, none⟩ = some (.int .i64 b1) := by rw [Lib.cell_of_heap gB3]; rfl
  have k2 : V3.cell? ⟨B, 2, none⟩ = some (.int .i64 b2) := by rw [Lib.cell_of_heap gB3]; rfl
  have k3 : V3.cell? ⟨B, 3, none⟩ = some (.int .i64 b3) := by rw [Lib.cell_of_heap gB3]; rfl
  clear gB3
  go_wp2_with fail
  refine (made_any b0 b1 b2 b3 ye yp ym yg yx Hy Sb.1 Sb.2.1 Sb.2.2.1 Sb.2.2.2 V3).mono ?_
  rintro e w4 ⟨rfl, hB4⟩
  clear k0 k1 k2 k3
  have gX4 := (hB4.block _ (Array.getElem?_eq_some_iff.1 gX).1).trans gX
  have hb4 := bgo hb3 hB4
  go_upto_region 4 with fail
  obtain ⟨V5, hV5⟩ : ∃ W, W = w4.alloc (.cells #[.string ye, .string yp, .int .i64 ym, .int .i64 yg, .int .i64 yx] 25) := ⟨_, rfl⟩
  obtain ⟨Y, hY⟩ : ∃ i, i = w4.heap.size := ⟨_, rfl⟩
  rw [← hV5, ← hY]
  have gY : V5.heap[Y]? = some (.cells #[.string ye, .string yp, .int .i64 ym, .int .i64 yg, .int .i64 yx] 25) := by rw [hV5, hY]; exact World.alloc_heap_new _ _
  have hB5 : Below w4.heap.size w4 V5 := by rw [hV5]; exact bal (Below.refl _ _) _
  have hb5 := bgo hb4 hB5
  have gX5 := (hB5.block _ (Array.getElem?_eq_some_iff.1 gX4).1).trans gX4
  have hXY : X < Y := by rw [hY]; exact (Array.getElem?_eq_some_iff.1 gX4).1
  clear hV5 hY hB5 hB4 gX gX4 hb3 hb1 hb4
  have k0 : V5.cell? ⟨X, 0, none⟩ = some (.string xe) := by rw [Lib.cell_of_heap gX5]; rfl
  have k1 : V5.cell? ⟨X, 1, none⟩ = some (.string xp) := by rw [Lib.cell_of_heap gX5]; rfl
  have k2 : V5.cell? ⟨X, 2, none⟩ = some (.int .i64 xm) := by rw [Lib.cell_of_heap gX5]; rfl
  have k3 : V5.cell? ⟨X, 3, none⟩ = some (.int .i64 xg) := by rw [Lib.cell_of_heap gX5]; rfl
  have k4 : V5.cell? ⟨X, 4, none⟩ = some (.int .i64 xx) := by rw [Lib.cell_of_heap gX5]; rfl
  go_upto_region 5 with fail
  clear k0 k1 k2 k3 k4
  obtain ⟨V6, hV6⟩ : ∃ W, W = V5.alloc (.cells #[.string xe, .string xp, .int .i64 xm, .int .i64 xg, .int .i64 xx] 25) := ⟨_, rfl⟩
  obtain ⟨Z, hZ⟩ : ∃ i, i = V5.heap.size := ⟨_, rfl⟩
  rw [← hV6, ← hZ]
  have gZ : V6.heap[Z]? = some (.cells #[.string xe, .string xp, .int .i64 xm, .int .i64 xg, .int .i64 xx] 25) := by rw [hV6, hZ]; exact World.alloc_heap_new _ _
  have hB6 : Below V5.heap.size V5 V6 := by rw [hV6]; exact bal (Below.refl _ _) _
  have hb6 := bgo hb5 hB6
  have gX6 := (hB6.block _ (Array.getElem?_eq_some_iff.1 gX5).1).trans gX5
  have gY6 := (hB6.block _ (Array.getElem?_eq_some_iff.1 gY).1).trans gY
  have hYZ : Y < Z := by rw [hZ]; exact (Array.getElem?_eq_some_iff.1 gY).1
  have hZw : w.heap.size ≤ Z := by rw [hZ]; exact hb5.size
  have G := Lib.hid (And.intro gX6 (And.intro gY6 (And.intro gZ hb6)))
  clear hV6 hZ hB6 gX5 gY hb5 gX6 gY6 hb6
  have k0 : V6.cell? ⟨Z, 0, none⟩ = some (.string xe) := by rw [Lib.cell_of_heap gZ]; rfl
  have k1 : V6.cell? ⟨Z, 1, none⟩ = some (.string xp) := by rw [Lib.cell_of_heap gZ]; rfl
  have k2 : V6.cell? ⟨Z, 2, none⟩ = some (.int .i64 xm) := by rw [Lib.cell_of_heap gZ]; rfl
  have k3 : V6.cell? ⟨Z, 3, none⟩ = some (.int .i64 xg) := by rw [Lib.cell_of_heap gZ]; rfl
  have k4 : V6.cell? ⟨Z, 4, none⟩ = some (.int .i64 xx) := by rw [Lib.cell_of_heap gZ]; rfl
  have fz : ∀ j, V6.frozen? ⟨Z, j, none⟩ = false := fun j => Lib.frozen_of_heap gZ j
  clear gZ
  go_wp2_with fail
  refine (pick_at field 5 p Hp V6 wf (by decide) (by decide)).mono ?_
  rintro e wq ⟨rfl, hwq⟩
  obtain rfl := hwq
  go_upto_block 0 with fail
  go_cut [] (fun wc => ∃ z : TotD, TxH X Y Z ⟨xe, xp, xm, xg, xx⟩ ⟨ye, yp, ym, yg, yx⟩ z wc ∧ validTB z = false ∧ (z.e.size ≤ maxLen ∧ z.p.size ≤ maxLen) ∧ Below w.heap.size w wc)
  case first =>
    have hcase : p = 0 ∨ p = 1 ∨ p = 2 ∨ p = 3 ∨ p = 4 := by omega
    have fin : ∀ (z : TotD) (W7 : World), (∀ b, b ≠ Z → W7.heap[b]? = V6.heap[b]?) → W7.heap[Z]? = some (.cells (totL5 z).toArray 25 (0, 0)) → Below w.heap.size w W7 → validTB z = false → (z.e.size ≤ maxLen ∧ z.p.size ≤ maxLen) → ∃ z : TotD, TxH X Y Z ⟨xe, xp, xm, xg, xx⟩ ⟨ye, yp, ym, yg, yx⟩ z W7 ∧ validTB z = false ∧ (z.e.size ≤ maxLen ∧ z.p.size ≤ maxLen) ∧ Below w.heap.size w W7 :=
      fun z W7 h1 h2 h3 h4 h5 => ⟨z, ⟨(h1 X (by omega)).trans G.out.1, (h1 Y (by omega)).trans G.out.2.1, h2⟩, h4, h5, h3⟩
    have Fin := Lib.hid fin
    clear fin
    rcases hcase with hpk | hpk | hpk | hpk | hpk
    · subst hpk
      have hs1 := name_size Hvo.out.1
      have hs2 := name_size Hvo.out.2.1
      (try dsimp only at hs1 hs2)
      have hs3 : xe.size + 1 + xp.size ≤ 33 := by omega
      have hc0 : ((0 : Int) == 0) = true := by decide
      go_wp2_with fail
      go_meet
      refine Fin.out ⟨(xe ++ ⟨#[32]⟩ ++ xp), xp, xm, xg, xx⟩ _ (fun b h => Below.heap_setCell _ _ _ _ h) (setCell_heap G.out.2.2.1) (G.out.2.2.2.setCell hZw _) ?_ ?_
      · unfold validTB
        dsimp only
        rw [name_cat]; rfl
      · have h1 := name_size Hvo.out.1; have h2 := name_size Hvo.out.2.1; dsimp only; rw [ByteArray.size_append, ByteArray.size_append]; have h3 : (⟨#[32]⟩ : ByteArray).size = 1 := rfl; unfold maxLen; omega
    · subst hpk
      have hc0 : ((1 : Int) == 0) = false := by decide
      have hc1 : ((1 : Int) == 1) = true := by decide
      go_wp2_with fail
      go_meet
      refine Fin.out ⟨xe, ⟨#[]⟩, xm, xg, xx⟩ _ (fun b h => Below.heap_setCell _ _ _ _ h) (setCell_heap G.out.2.2.1) (G.out.2.2.2.setCell hZw _) ?_ ?_
      · unfold validTB
        dsimp only
        rw [show isNameB ⟨#[]⟩ = false by decide +kernel]; simp
      · exact ⟨hzx.1, Nat.zero_le _⟩
    · subst hpk
      have hw1 : IntKind.i64.wrap (1200 + r) = 1200 + r := IntWalk.i64_in _ (by omega)
      have hc0 : ((2 : Int) == 0) = false := by decide
      have hc1 : ((2 : Int) == 1) = false := by decide
      have hc2 : ((2 : Int) == 2) = true := by decide
      go_wp2_with fail
      refine (pick_at n 1000 r Hr V6 wn (by decide) (by decide)).mono ?_
      rintro e wq ⟨rfl, hwq⟩
      obtain rfl := hwq
      go_wp2_with fail
      go_meet
      refine Fin.out ⟨xe, xp, (1200 + r), xg, xx⟩ _ (fun b h => Below.heap_setCell _ _ _ _ h) (setCell_heap G.out.2.2.1) (G.out.2.2.2.setCell hZw _) ?_ ?_
      · unfold validTB
        dsimp only
        simp; intros; omega
      · exact hzx
    · subst hpk
      have hw1 : IntKind.i64.wrap (1000000000001 + r) = 1000000000001 + r := IntWalk.i64_in _ (by omega)
      have hc0 : ((3 : Int) == 0) = false := by decide
      have hc1 : ((3 : Int) == 1) = false := by decide
      have hc2 : ((3 : Int) == 2) = false := by decide
      have hc3 : ((3 : Int) == 3) = true := by decide
      go_wp2_with fail
      refine (pick_at n 1000 r Hr V6 wn (by decide) (by decide)).mono ?_
      rintro e wq ⟨rfl, hwq⟩
      obtain rfl := hwq
      go_wp2_with fail
      go_meet
      refine Fin.out ⟨xe, xp, xm, (1000000000001 + r), xx⟩ _ (fun b h => Below.heap_setCell _ _ _ _ h) (setCell_heap G.out.2.2.1) (G.out.2.2.2.setCell hZw _) ?_ ?_
      · unfold validTB
        dsimp only
        simp; intros; omega
      · exact hzx
    · subst hpk
      have hw1 : IntKind.i64.wrap (-1000000000001 - r) = -1000000000001 - r := IntWalk.i64_in _ (by omega)
      have hc0 : ((4 : Int) == 0) = false := by decide
      have hc1 : ((4 : Int) == 1) = false := by decide
      have hc2 : ((4 : Int) == 2) = false := by decide
      have hc3 : ((4 : Int) == 3) = false := by decide
      go_wp2_with fail
      refine (pick_at n 1000 r Hr V6 wn (by decide) (by decide)).mono ?_
      rintro e wq ⟨rfl, hwq⟩
      obtain rfl := hwq
      go_wp2_with fail
      go_meet
      refine Fin.out ⟨xe, xp, xm, xg, (-1000000000001 - r)⟩ _ (fun b h => Below.heap_setCell _ _ _ _ h) (setCell_heap G.out.2.2.1) (G.out.2.2.2.setCell hZw _) ?_ ?_
      · unfold validTB
        dsimp only
        simp; intros; omega
      · exact hzx
  case rest =>
    clear k0 k1 k2 k3 k4 fz G
    obtain ⟨z, hH, hzv, hzs, hbx⟩ := hcut
    have hzt := text_no hzv
    obtain ⟨ze, zp, zm, zg, zx⟩ := z
    have H7 := Lib.hid (And.intro hH hbx)
    have Hzv := Lib.hid hzv
    have Hzt := Lib.hid hzt
    dsimp only at hzs
    have Hzs := Lib.hid hzs
    clear hH hzv hzt hzs hbx
    have k0 : wc.cell? ⟨X, 0, none⟩ = some (.string xe) := by rw [Lib.cell_of_heap H7.out.1.x]; rfl
    have k1 : wc.cell? ⟨X, 1, none⟩ = some (.string xp) := by rw [Lib.cell_of_heap H7.out.1.x]; rfl
    have k2 : wc.cell? ⟨X, 2, none⟩ = some (.int .i64 xm) := by rw [Lib.cell_of_heap H7.out.1.x]; rfl
    have k3 : wc.cell? ⟨X, 3, none⟩ = some (.int .i64 xg) := by rw [Lib.cell_of_heap H7.out.1.x]; rfl
    have k4 : wc.cell? ⟨X, 4, none⟩ = some (.int .i64 xx) := by rw [Lib.cell_of_heap H7.out.1.x]; rfl
    go_wp2_with fail
    refine (text29_any xe xp xm xg xx sx Hsx wc hzx.1 hzx.2 (HT.out.go H7.out.2).1).mono ?_
    rintro e w8 ⟨rfl, hB8⟩
    clear k0 k1 k2 k3 k4
    have H8 := Lib.hid (And.intro (H7.out.1.go hB8) (bgo H7.out.2 hB8))
    clear hB8
    have k0 : w8.cell? ⟨Y, 0, none⟩ = some (.string ye) := by rw [Lib.cell_of_heap H8.out.1.y]; rfl
    have k1 : w8.cell? ⟨Y, 1, none⟩ = some (.string yp) := by rw [Lib.cell_of_heap H8.out.1.y]; rfl
    have k2 : w8.cell? ⟨Y, 2, none⟩ = some (.int .i64 ym) := by rw [Lib.cell_of_heap H8.out.1.y]; rfl
    have k3 : w8.cell? ⟨Y, 3, none⟩ = some (.int .i64 yg) := by rw [Lib.cell_of_heap H8.out.1.y]; rfl
    have k4 : w8.cell? ⟨Y, 4, none⟩ = some (.int .i64 yx) := by rw [Lib.cell_of_heap H8.out.1.y]; rfl
    go_wp2_with fail
    refine (text29_any ye yp ym yg yx sy Hsy w8 hzy.1 hzy.2 (HT.out.go H8.out.2).1).mono ?_
    rintro e w9 ⟨rfl, hB9⟩
    clear k0 k1 k2 k3 k4
    have H9 := Lib.hid (And.intro (H8.out.1.go hB9) (bgo H8.out.2 hB9))
    clear hB9
    have k0 : w9.cell? ⟨Z, 0, none⟩ = some (.string ze) := by rw [Lib.cell_of_heap H9.out.1.z]; rfl
    have k1 : w9.cell? ⟨Z, 1, none⟩ = some (.string zp) := by rw [Lib.cell_of_heap H9.out.1.z]; rfl
    have k2 : w9.cell? ⟨Z, 2, none⟩ = some (.int .i64 zm) := by rw [Lib.cell_of_heap H9.out.1.z]; rfl
    have k3 : w9.cell? ⟨Z, 3, none⟩ = some (.int .i64 zg) := by rw [Lib.cell_of_heap H9.out.1.z]; rfl
    have k4 : w9.cell? ⟨Z, 4, none⟩ = some (.int .i64 zx) := by rw [Lib.cell_of_heap H9.out.1.z]; rfl
    go_wp2_with fail
    refine (issue_no seedB 3 0 ze zp zm zg zx Hzv w9 Hzs.out.1 Hzs.out.2).mono ?_
    rintro e wa ⟨rfl, hBa⟩
    clear k0 k1 k2 k3 k4
    go_upto_region 18 with fail
    obtain ⟨Vb, hVb⟩ : ∃ W, W = wa.alloc (.cells #[.string ⟨#[]⟩, .string ⟨#[]⟩, .int .i64 0, .int .i64 0, .int .i64 0, .int .i64 0, .slice none 0 0, .slice none 0 0] 34) := ⟨_, rfl⟩
    rw [← hVb]
    have hBb : Below w9.heap.size w9 Vb := by rw [hVb]; exact bal hBa _
    have Hb := Lib.hid (And.intro (H9.out.1.go hBb) (bgo H9.out.2 hBb))
    clear hVb hBb hBa
    have k0 : Vb.cell? ⟨X, 0, none⟩ = some (.string xe) := by rw [Lib.cell_of_heap Hb.out.1.x]; rfl
    have k1 : Vb.cell? ⟨X, 1, none⟩ = some (.string xp) := by rw [Lib.cell_of_heap Hb.out.1.x]; rfl
    have k2 : Vb.cell? ⟨X, 2, none⟩ = some (.int .i64 xm) := by rw [Lib.cell_of_heap Hb.out.1.x]; rfl
    have k3 : Vb.cell? ⟨X, 3, none⟩ = some (.int .i64 xg) := by rw [Lib.cell_of_heap Hb.out.1.x]; rfl
    have k4 : Vb.cell? ⟨X, 4, none⟩ = some (.int .i64 xx) := by rw [Lib.cell_of_heap Hb.out.1.x]; rfl
    have l0 : Vb.cell? ⟨Y, 0, none⟩ = some (.string ye) := by rw [Lib.cell_of_heap Hb.out.1.y]; rfl
    have l1 : Vb.cell? ⟨Y, 1, none⟩ = some (.string yp) := by rw [Lib.cell_of_heap Hb.out.1.y]; rfl
    have l2 : Vb.cell? ⟨Y, 2, none⟩ = some (.int .i64 ym) := by rw [Lib.cell_of_heap Hb.out.1.y]; rfl
    have l3 : Vb.cell? ⟨Y, 3, none⟩ = some (.int .i64 yg) := by rw [Lib.cell_of_heap Hb.out.1.y]; rfl
    have l4 : Vb.cell? ⟨Y, 4, none⟩ = some (.int .i64 yx) := by rw [Lib.cell_of_heap Hb.out.1.y]; rfl
    have m0 : Vb.cell? ⟨Z, 0, none⟩ = some (.string ze) := by rw [Lib.cell_of_heap Hb.out.1.z]; rfl
    have m1 : Vb.cell? ⟨Z, 1, none⟩ = some (.string zp) := by rw [Lib.cell_of_heap Hb.out.1.z]; rfl
    have m2 : Vb.cell? ⟨Z, 2, none⟩ = some (.int .i64 zm) := by rw [Lib.cell_of_heap Hb.out.1.z]; rfl
    have m3 : Vb.cell? ⟨Z, 3, none⟩ = some (.int .i64 zg) := by rw [Lib.cell_of_heap Hb.out.1.z]; rfl
    have m4 : Vb.cell? ⟨Z, 4, none⟩ = some (.int .i64 zx) := by rw [Lib.cell_of_heap Hb.out.1.z]; rfl
    have f1 := Hteq.out
    have f2 := Hbb.out
    have f3 : (bb == bb) = true := by simp
    have f4 : (sx.toList != []) = true := by
      rw [bne_iff_ne]
      intro h
      exact Hne.out (bytes_eq (by rw [← ByteArray.toList_eq, h]))
    have f5 : ¬ sx.toList = [] := bne_iff_ne.1 f4
    have f6 : (sx.toList == []) = false := beq_eq_false_iff_ne.2 f5
    go_wp2_with fail
    refine (text29_any ze zp zm zg zx ⟨#[]⟩ Hzt Vb Hzs.out.1 Hzs.out.2 (HT.out.go Hb.out.2).1).mono ?_
    rintro e wc ⟨rfl, hBc⟩
    have hBwc := bgo Hb.out.2 hBc
    clear k0 k1 k2 k3 k4 l0 l1 l2 l3 l4 m0 m1 m2 m3 m4 hBc
    go_wp2_with fail
    go_ret
    exact ⟨by first | rfl | simp, hBwc⟩
end Go.Proofs.YtmebllhkfepkdaaDoor
