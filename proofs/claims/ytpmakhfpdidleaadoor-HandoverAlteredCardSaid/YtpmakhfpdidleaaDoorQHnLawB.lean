/- The walk of HandoverAltered. -/
import Derived.Test.YtpmakhfpdidleaaDoorQ25
import Derived.Deep.DeepCutAuto
import Derived.Deep.CutBlock
import Derived.IntWalk
namespace Go.Proofs.YtpmakhfpdidleaaDoor
open Go.RowKit Go.Shelf
set_option linter.unusedVariables false
set_option linter.unusedSimpArgs false
set_option maxRecDepth 100000
attribute [-go_sem] run_equalIn_agg
attribute [local go_sem] eqTot
def mkD18 : Array Value := #[.int .u64 0, .int .u64 0, .int .u64 0, .int .u64 0, .int .u64 0, .int .u64 0, .int .u64 0, .int .u64 0, .int .u64 0, .int .u64 0, .int .u64 0, .int .u64 0, .int .u64 0, .int .u64 0, .int .u64 0, .int .u64 0, .int .u64 0, .int .u64 0]
def mkF3 : Array Value := #[.int .u64 0, .bool false, .int .u64 0, .bool false, .int .u64 0, .bool false]
def XtH (B O : Nat) (cb co : List Value) (W : World) : Prop := W.heap[B]? = some (.cells cb.toArray 22 (0, 0)) ∧ W.heap[O]? = some (.cells co.toArray 25 (0, 0))
theorem share1 {G : Prop} {A0 : Type} (F : A0 → Prop) {P : A0 → Prop} (h1 : (∀ x0, F x0 → P x0) → G) (h2 : ∀ x0, F x0 → P x0) : G := h1 h2
theorem share2 {G : Prop} {A0 A1 : Type} (F : A0 → A1 → Prop) {P : A0 → A1 → Prop} (h1 : (∀ x0 x1, F x0 x1 → P x0 x1) → G) (h2 : ∀ x0 x1, F x0 x1 → P x0 x1) : G := h1 h2
theorem share3 {G : Prop} {A0 A1 A2 : Type} (F : A0 → A1 → A2 → Prop) {P : A0 → A1 → A2 → Prop} (h1 : (∀ x0 x1 x2, F x0 x1 x2 → P x0 x1 x2) → G) (h2 : ∀ x0 x1 x2, F x0 x1 x2 → P x0 x1 x2) : G := h1 h2
theorem share4 {G : Prop} {A0 A1 A2 A3 : Type} (F : A0 → A1 → A2 → A3 → Prop) {P : A0 → A1 → A2 → A3 → Prop} (h1 : (∀ x0 x1 x2 x3, F x0 x1 x2 x3 → P x0 x1 x2 x3) → G) (h2 : ∀ x0 x1 x2 x3, F x0 x1 x2 x3 → P x0 x1 x2 x3) : G := h1 h2
theorem share5 {G : Prop} {A0 A1 A2 A3 A4 : Type} (F : A0 → A1 → A2 → A3 → A4 → Prop) {P : A0 → A1 → A2 → A3 → A4 → Prop} (h1 : (∀ x0 x1 x2 x3 x4, F x0 x1 x2 x3 x4 → P x0 x1 x2 x3 x4) → G) (h2 : ∀ x0 x1 x2 x3 x4, F x0 x1 x2 x3 x4 → P x0 x1 x2 x3 x4) : G := h1 h2
theorem share6 {G : Prop} {A0 A1 A2 A3 A4 A5 : Type} (F : A0 → A1 → A2 → A3 → A4 → A5 → Prop) {P : A0 → A1 → A2 → A3 → A4 → A5 → Prop} (h1 : (∀ x0 x1 x2 x3 x4 x5, F x0 x1 x2 x3 x4 x5 → P x0 x1 x2 x3 x4 x5) → G) (h2 : ∀ x0 x1 x2 x3 x4 x5, F x0 x1 x2 x3 x4 x5 → P x0 x1 x2 x3 x4 x5) : G := h1 h2
theorem share7 {G : Prop} {A0 A1 A2 A3 A4 A5 A6 : Type} (F : A0 → A1 → A2 → A3 → A4 → A5 → A6 → Prop) {P : A0 → A1 → A2 → A3 → A4 → A5 → A6 → Prop} (h1 : (∀ x0 x1 x2 x3 x4 x5 x6, F x0 x1 x2 x3 x4 x5 x6 → P x0 x1 x2 x3 x4 x5 x6) → G) (h2 : ∀ x0 x1 x2 x3 x4 x5 x6, F x0 x1 x2 x3 x4 x5 x6 → P x0 x1 x2 x3 x4 x5 x6) : G := h1 h2
theorem share8 {G : Prop} {A0 A1 A2 A3 A4 A5 A6 A7 : Type} (F : A0 → A1 → A2 → A3 → A4 → A5 → A6 → A7 → Prop) {P : A0 → A1 → A2 → A3 → A4 → A5 → A6 → A7 → Prop} (h1 : (∀ x0 x1 x2 x3 x4 x5 x6 x7, F x0 x1 x2 x3 x4 x5 x6 x7 → P x0 x1 x2 x3 x4 x5 x6 x7) → G) (h2 : ∀ x0 x1 x2 x3 x4 x5 x6 x7, F x0 x1 x2 x3 x4 x5 x6 x7 → P x0 x1 x2 x3 x4 x5 x6 x7) : G := h1 h2
theorem blk_go' {W W' : World} {b : Nat} {o : Obj} (h : W.heap[b]? = some o) (k : Below W.heap.size W W') : W'.heap[b]? = some o := (k.block _ (Array.getElem?_eq_some_iff.1 h).1).trans h
/-- What the switch leaves behind. -/
def AltS (w : World) (X : Nat) (v : Value) (W : World) : Prop := ∃ (t : TotD) (j : Int) (A : Option Addr) (ca : Nat) (c : List UInt64) (B : Option Addr) (cb : Nat) (p : Forks) (r : UInt64), v = .int .u64 r.toNat ∧ AltB w.heap.size X t j A ca c B cb p W ∧ validTB t = true ∧ Below w.heap.size w W
theorem tot_mk {xe xp oe op : ByteArray} {xm xg xx om og ox : Int} (hx : validTB ⟨xe, xp, xm, xg, xx⟩ = true) (ho : validTB ⟨oe, op, om, og, ox⟩ = true) :
    validTB ⟨oe, xp, xm, xg, xx⟩ = true ∧ validTB ⟨xe, op, xm, xg, xx⟩ = true ∧ validTB ⟨xe, xp, om, xg, xx⟩ = true ∧ validTB ⟨xe, xp, xm, og, xx⟩ = true ∧ validTB ⟨xe, xp, xm, xg, ox⟩ = true := by
  obtain ⟨h1, h2, h3, h4, h5⟩ := valid_out hx
  obtain ⟨k1, k2, k3, k4, k5⟩ := valid_out ho
  dsimp only at h1 h2 h3 h4 h5 k1 k2 k3 k4 k5
  unfold validTB
  dsimp only
  rw [h1, h2, k1, k2]
  simp
  omega
set_option maxHeartbeats 100000000 in
theorem handoverAltered_walk (qa qb : Quad) (kind at_ bit : Int) (w : World) (Sa : QuadOk qa) (Sb : QuadOk qb) (wk : (Lit.int .i64 kind).wf = true) (wa : (Lit.int .i64 at_).wf = true) (wbi : (Lit.int .i64 bit).wf = true) (hT : Tabs w) :
    Calls Tryd.prog 3 #[.agg #[.int .i64 qa.a, .int .i64 qa.b, .int .i64 qa.c, .int .i64 qa.d], .agg #[.int .i64 qb.a, .int .i64 qb.b, .int .i64 qb.c, .int .i64 qb.d], .int .i64 kind, .int .i64 at_, .int .i64 bit] w fun e w' => e = .returned (.bool true) ∧ Below w.heap.size w w' := by
  replace wk : I64 kind := bounds_i64 wk
  replace wa : I64 at_ := bounds_i64 wa
  replace wbi : I64 bit := bounds_i64 wbi
  obtain ⟨j0, hj0, hj1, hj2, hj3⟩ := info_parts info_dgt
  obtain ⟨i0, hi0, hi1, hi2, hi3⟩ := info_parts info_fkt
  obtain ⟨a0, a1, a2, a3⟩ := qa
  obtain ⟨b0, b1, b2, b3⟩ := qb
  obtain ⟨x, hx⟩ : ∃ t, madeT a0 a1 a2 a3 = t := ⟨_, rfl⟩
  obtain ⟨o, ho⟩ : ∃ t, madeT b0 b1 b2 b3 = t := ⟨_, rfl⟩
  have hvx : validTB x = true := by rw [← hx]; exact made_valid _ _ _ _
  have hvo : validTB o = true := by rw [← ho]; exact made_valid _ _ _ _
  obtain ⟨xe, xp, xm, xg, xx⟩ := x
  obtain ⟨oe, op, om, og, ox⟩ := o
  have hmx := tot_mk hvx hvo
  obtain ⟨rt, hrt⟩ : ∃ r, root29 = r := ⟨_, rfl⟩
  obtain ⟨p, hp⟩ : ∃ q, pickF kind 9 = q := ⟨_, rfl⟩
  have hpb := pickF_lt kind 9 (by omega)
  rw [hp] at hpb
  obtain ⟨pb, hpbit⟩ : ∃ q : Nat, pickF bit 64 = (q : Int) := ⟨(pickF bit 64).toNat, by have := pickF_lt bit 64 (by omega); omega⟩
  have hpb64 : pb < 64 := by have := pickF_lt bit 64 (by omega); omega
  obtain ⟨p10, hp10⟩ : ∃ q, pickF at_ 10 = q := ⟨_, rfl⟩
  have hp10b := pickF_lt at_ 10 (by omega)
  rw [hp10] at hp10b
  obtain ⟨p18, hp18⟩ : ∃ q : Nat, pickF at_ 18 = (q : Int) := ⟨(pickF at_ 18).toNat, by have := pickF_lt at_ 18 (by omega); omega⟩
  have hp18b : p18 < 18 := by have := pickF_lt at_ 18 (by omega); omega
  obtain ⟨p3, hp3⟩ : ∃ q : Nat, pickF at_ 3 = (q : Int) := ⟨(pickF at_ 3).toNat, by have := pickF_lt at_ 3 (by omega); omega⟩
  have hp3b : p3 < 3 := by have := pickF_lt at_ 3 (by omega); omega
  have Hx := Lib.hid hx
  have Ho := Lib.hid ho
  have Hvx := Lib.hid hvx
  have Hmx := Lib.hid hmx
  have Hrt := Lib.hid hrt
  have Hp := Lib.hid hp
  have Hpb := Lib.hid hpbit
  have H10 := Lib.hid hp10
  have H18 := Lib.hid hp18
  have H3 := Lib.hid hp3
  have HT := Lib.hid hT
  clear hx ho hvx hvo hmx hrt hp hpbit hp10 hp18 hp3 hT
  go_enter Tryd.func3, Tryd.ntmps3
  go_upto_region 1 with fail
  obtain ⟨V0, hV0⟩ : ∃ W, W = (w.alloc (.cells #[.int .i64 a0, .int .i64 a1, .int .i64 a2, .int .i64 a3] 22)).alloc (.cells #[.int .i64 b0, .int .i64 b1, .int .i64 b2, .int .i64 b3] 22) := ⟨_, rfl⟩
  obtain ⟨A, hA⟩ : ∃ i, i = w.heap.size := ⟨_, rfl⟩
  obtain ⟨B, hB⟩ : ∃ i, i = w.heap.size + 1 := ⟨_, rfl⟩
  rw [← hV0]
  try rw [← hB]
  try rw [← hA]
  have gA : V0.heap[A]? = some (.cells #[.int .i64 a0, .int .i64 a1, .int .i64 a2, .int .i64 a3] 22) := by rw [hV0, hA]; exact heap_alloc2_old w _ _
  have gB : V0.heap[B]? = some (.cells #[.int .i64 b0, .int .i64 b1, .int .i64 b2, .int .i64 b3] 22) := by rw [hV0, hB]; exact heap_alloc2_new w _ _
  have hb0 : Below w.heap.size w V0 := by rw [hV0]; exact bal (bal (Below.refl _ _) _) _
  clear hV0 hA hB
  go_wp2_with fail
  refine (head29_any V0 (HT.out.go hb0).1 (HT.out.go hb0).2).mono ?_
  rintro e w1 ⟨rfl, hB1⟩
  have gA1 := blk_go' gA hB1
  have gB1 := blk_go' gB hB1
  have hb1 := bgo hb0 hB1
  clear hB1 hb0 gA gB
  have k0 : w1.cell? ⟨A, 0, none⟩ = some (.int .i64 a0) := by rw [Lib.cell_of_heap gA1]; rfl
  have k1 : w1.cell? ⟨A, 1, none⟩ = some (.int .i64 a1) := by rw [Lib.cell_of_heap gA1]; rfl
  have k2 : w1.cell? ⟨A, 2, none⟩ = some (.int .i64 a2) := by rw [Lib.cell_of_heap gA1]; rfl
  have k3 : w1.cell? ⟨A, 3, none⟩ = some (.int .i64 a3) := by rw [Lib.cell_of_heap gA1]; rfl
  clear gA1
  go_wp2_with fail
  refine (made_any a0 a1 a2 a3 xe xp xm xg xx Hx Sa.1 Sa.2.1 Sa.2.2.1 Sa.2.2.2 w1).mono ?_
  rintro e w2 ⟨rfl, hB2⟩
  clear k0 k1 k2 k3
  go_upto_region 3 with fail
  obtain ⟨V3, hV3⟩ : ∃ W, W = w2.alloc (.cells #[.string xe, .string xp, .int .i64 xm, .int .i64 xg, .int .i64 xx] 25) := ⟨_, rfl⟩
  obtain ⟨TX, hX⟩ : ∃ i, i = w2.heap.size := ⟨_, rfl⟩
  rw [← hV3, ← hX]
  have gX : V3.heap[TX]? = some (.cells #[.string xe, .string xp, .int .i64 xm, .int .i64 xg, .int .i64 xx] 25) := by rw [hV3, hX]; exact World.alloc_heap_new _ _
  have hB3 : Below w1.heap.size w1 V3 := by rw [hV3]; exact bal hB2 _
  have hb3 := bgo hb1 hB3
  have gB3 := blk_go' gB1 hB3
  clear hV3 hX hB3 hB2 gB1 hb1
  have k0 : V3.cell? ⟨TX, 0, none⟩ = some (.string xe) := by rw [Lib.cell_of_heap gX]; rfl
  have k1 : V3.cell? ⟨TX, 1, none⟩ = some (.string xp) := by rw [Lib.cell_of_heap gX]; rfl
  have k2 : V3.cell? ⟨TX, 2, none⟩ = some (.int .i64 xm) := by rw [Lib.cell_of_heap gX]; rfl
  have k3 : V3.cell? ⟨TX, 3, none⟩ = some (.int .i64 xg) := by rw [Lib.cell_of_heap gX]; rfl
  have k4 : V3.cell? ⟨TX, 4, none⟩ = some (.int .i64 xx) := by rw [Lib.cell_of_heap gX]; rfl
  clear gX
  go_wp2_with fail
  clear k0 k1 k2 k3 k4
  obtain ⟨V4, hV4⟩ : ∃ W, W = V3.alloc (.cells #[.string xe, .string xp, .int .i64 xm, .int .i64 xg, .int .i64 xx] 25) := ⟨_, rfl⟩
  obtain ⟨E4, hE4⟩ : ∃ i, i = V3.heap.size := ⟨_, rfl⟩
  rw [← hV4]
  try rw [← hE4]
  have hB4 : Below V3.heap.size V3 V4 := by rw [hV4]; exact bal (Below.refl _ _) _
  have hS4 : Sl V4 V4.heap.size 5 (some ⟨E4, 0, none⟩) 1 ([(⟨xe, xp, xm, xg, xx⟩ : TotD)].flatMap totL5) := by rw [hV4, hE4]; exact sl_cells (World.alloc_heap_new _ _) rfl rfl
  clear hV4 hE4
  have hb4 := bgo hb3 hB4
  have gB4 := blk_go' gB3 hB4
  refine (issued_any _ 1 1 [⟨xe, xp, xm, xg, xx⟩] rfl (by decide) (fun t ht => by rw [List.mem_singleton.1 ht]; exact Hvx.out) V4 (HT.out.go hb4).1 (HT.out.go hb4).2 hS4).mono ?_
  rintro e w5 ⟨v, es, rfl, hown, hiss, hB5⟩
  rw [Hrt.out]
  obtain ⟨el, rfl⟩ : ∃ x, es = [x] := by
    have := hiss.1
    match es, this with
    | [x], _ => exact ⟨x, rfl⟩
  have hx := hiss.2 0 _ el rfl rfl
  obtain ⟨et, ej, eA, ean, eac, eB, ebn, ebc⟩ := el
  obtain ⟨x1, x2, x3, x4, _, _, x7, x8⟩ := hx
  dsimp only at x1 x2 x3 x4 x7 x8
  subst x1 x2 x3 x4
  obtain ⟨pq, hpq⟩ : ∃ q, paT 0 = q := ⟨_, rfl⟩
  rw [hpq] at x8
  have Hpq := Lib.hid (show pq.length = 3 by rw [← hpq]; exact paT_len (by decide))
  clear hpq
  obtain ⟨As, cas, rfl, hSl, hc1, hc2⟩ := own_slice2 hown
  obtain ⟨sb, so, rfl, hsb, hsc⟩ := hSl.2 (by simp)
  have hsg : SgC sb so ([.string xe, .string xp, .int .i64 xm, .int .i64 xg, .int .i64 xx, .int .i64 0, .slice eA 18 eac, .slice eB 3 ebc]) w5 := ⟨fun j u hu => hsc j u hu, hsb⟩
  have gB5 := blk_go' gB4 hB5
  have H5 := Lib.hid (And.intro hsg (And.intro x7 (And.intro x8 (And.intro gB5 (bgo hb4 hB5)))))
  clear hown hiss hB5 hSl hc1 hc2 hsc gB4 hb4 hS4 hB4 gB3 hb3 x7 x8 gB5 hsb
  have z0 : w5.cell? ⟨sb, so, none⟩ = some (.string xe) := hsg.at_ 0 _ rfl
  have z1 : w5.cell? ⟨sb, so + 1, none⟩ = some (.string xp) := hsg.at_ 1 _ rfl
  have z2 : w5.cell? ⟨sb, so + 2, none⟩ = some (.int .i64 xm) := hsg.at_ 2 _ rfl
  have z3 : w5.cell? ⟨sb, so + 3, none⟩ = some (.int .i64 xg) := hsg.at_ 3 _ rfl
  have z4 : w5.cell? ⟨sb, so + 4, none⟩ = some (.int .i64 xx) := hsg.at_ 4 _ rfl
  have z5 : w5.cell? ⟨sb, so + 5, none⟩ = some (.int .i64 0) := hsg.at_ 5 _ rfl
  have z6 : w5.cell? ⟨sb, so + 6, none⟩ = some (.slice eA 18 eac) := hsg.at_ 6 _ rfl
  have z7 : w5.cell? ⟨sb, so + 7, none⟩ = some (.slice eB 3 ebc) := hsg.at_ 7 _ rfl
  clear hsg
  go_upto_region 6 with fail
  clear z0 z1 z2 z3 z4 z5 z6 z7
  have hmkD : ∀ w, (Instr.makeSlice 33 (.int .i64 0) (.int .i64 18)).run Tryd.prog w = .ok (.slice (some ⟨w.heap.size, 0, none⟩) 0 18) (w.alloc (.cells mkD18 29)) := fun _ => by kernel_rfl
  have hmkF : ∀ w, (Instr.makeSlice 34 (.int .i64 0) (.int .i64 3)).run Tryd.prog w = .ok (.slice (some ⟨w.heap.size, 0, none⟩) 0 3) (w.alloc (.cells mkF3 41)) := fun _ => by kernel_rfl
  have Hs1 : Hid (∀ W, Below w5.heap.size w5 W → Src W 1 (.slice eA 18 eac) 18 (u64V (chT ⟨xe, xp, xm, xg, xx⟩ 0))) := Lib.hid fun W hW => (own_src H5.out.2.1).go hW
  have Hs2 : Hid (∀ W, Below w5.heap.size w5 W → Src W 2 (.slice eB 3 ebc) 3 (forkV pq)) := Lib.hid fun W hW => (own_src H5.out.2.2.1).go hW
  have HG := Lib.hid H5.out.1.drew
  go_cut [16] (fun v wc => ∃ X A ca B cb, v = .pointer (some ⟨X, 0, none⟩) ∧ AltB w5.heap.size X ⟨xe, xp, xm, xg, xx⟩ 0 A ca (chT ⟨xe, xp, xm, xg, xx⟩ 0) B cb pq wc ∧ Below w5.heap.size w5 wc)
  case first =>
    refine wp_region_noPanic ?_
    refine wp_region_held_drew (S := SgC sb so ([.string xe, .string xp, .int .i64 xm, .int .i64 xg, .int .i64 xx, .int .i64 0, .slice eA 18 eac, .slice eB 3 ebc])) (by kernel_rfl) HG.out (fun hHeld => ?_)
    apply share8 (fun (W : World) (b9 : Nat) (A15 : Option Addr) (c15 : Nat) (b16 : Nat) (A22 : Option Addr) (c22 : Nat) (bX : Nat) => (Below w5.heap.size w5 W) ∧ (SgC sb so [.string xe, .string xp, .int .i64 xm, .int .i64 xg, .int .i64 xx, .int .i64 0, .slice eA 18 eac, .slice eB 3 ebc] W) ∧ (W.ownsRow w5.heap.size 29 1 (.slice A15 18 c15) 18 (u64V (chT ⟨xe, xp, xm, xg, xx⟩ 0))) ∧ (W.ownsRow w5.heap.size 41 2 (.slice A22 3 c22) 3 (forkV pq)) ∧ (W.heap[bX]? = some (.cells #[.string xe, .string xp, .int .i64 xm, .int .i64 xg, .int .i64 xx, .int .i64 0, .slice A15 18 c15, .slice A22 3 c22] 38 (0, 0))) ∧ (w5.heap.size ≤ bX))
    case h1 =>
      intro d_9_15_16_22_25_26
      apply share8 (fun (W : World) (b9 : Nat) (A15 : Option Addr) (c15 : Nat) (b16 : Nat) (A22 : Option Addr) (c22 : Nat) (bX : Nat) => (Below w5.heap.size w5 W) ∧ (SgC sb so [.string xe, .string xp, .int .i64 xm, .int .i64 xg, .int .i64 xx, .int .i64 0, .slice eA 18 eac, .slice eB 3 ebc] W) ∧ (W.ownsRow w5.heap.size 29 1 (.slice A15 18 c15) 18 (u64V (chT ⟨xe, xp, xm, xg, xx⟩ 0))) ∧ (W.ownsRow w5.heap.size 41 2 (.slice A22 3 c22) 3 (forkV pq)) ∧ (W.heap[bX]? = some (.cells #[.string ⟨#[]⟩, .string ⟨#[]⟩, .int .i64 0, .int .i64 0, .int .i64 0, .int .i64 0, .slice none 0 0, .slice none 0 0] 38)) ∧ (w5.heap.size ≤ bX))
      case h1 =>
        intro d_9_15_16_22_25
        apply share6 (fun (W : World) (b9 : Nat) (A15 : Option Addr) (c15 : Nat) (b16 : Nat) (bX : Nat) => (Below w5.heap.size w5 W) ∧ (SgC sb so [.string xe, .string xp, .int .i64 xm, .int .i64 xg, .int .i64 xx, .int .i64 0, .slice eA 18 eac, .slice eB 3 ebc] W) ∧ (W.ownsRow w5.heap.size 29 1 (.slice A15 18 c15) 18 (u64V (chT ⟨xe, xp, xm, xg, xx⟩ 0))) ∧ (W.ownsRow w5.heap.size 41 2 (.slice (some ⟨b16, 0, none⟩) 0 3) 0 []) ∧ (W.heap[bX]? = some (.cells #[.string ⟨#[]⟩, .string ⟨#[]⟩, .int .i64 0, .int .i64 0, .int .i64 0, .int .i64 0, .slice none 0 0, .slice none 0 0] 38)) ∧ (w5.heap.size ≤ bX))
        case h1 =>
          intro d_9_15_16_25
          apply share7 (fun (W : World) (b9 : Nat) (A15 : Option Addr) (c15 : Nat) (b16 : Nat) (A22 : Option Addr) (c22 : Nat) => (Below w5.heap.size w5 W) ∧ (SgC sb so [.string xe, .string xp, .int .i64 xm, .int .i64 xg, .int .i64 xx, .int .i64 0, .slice eA 18 eac, .slice eB 3 ebc] W) ∧ (W.ownsRow w5.heap.size 29 1 (.slice A15 18 c15) 18 (u64V (chT ⟨xe, xp, xm, xg, xx⟩ 0))) ∧ (W.ownsRow w5.heap.size 41 2 (.slice A22 3 c22) 3 (forkV pq)))
          case h1 =>
            intro d_9_15_16_22
            apply share4 (fun (W : World) (b9 : Nat) (b16 : Nat) (bX : Nat) => (Below w5.heap.size w5 W) ∧ (SgC sb so [.string xe, .string xp, .int .i64 xm, .int .i64 xg, .int .i64 xx, .int .i64 0, .slice eA 18 eac, .slice eB 3 ebc] W) ∧ (W.ownsRow w5.heap.size 29 1 (.slice (some ⟨b9, 0, none⟩) 0 18) 0 []) ∧ (W.ownsRow w5.heap.size 41 2 (.slice (some ⟨b16, 0, none⟩) 0 3) 0 []) ∧ (W.heap[bX]? = some (.cells #[.string ⟨#[]⟩, .string ⟨#[]⟩, .int .i64 0, .int .i64 0, .int .i64 0, .int .i64 0, .slice none 0 0, .slice none 0 0] 38)) ∧ (w5.heap.size ≤ bX))
            case h1 =>
              intro d_9_16_25
              apply share5 (fun (W : World) (b9 : Nat) (A15 : Option Addr) (c15 : Nat) (bX : Nat) => (Below w5.heap.size w5 W) ∧ (SgC sb so [.string xe, .string xp, .int .i64 xm, .int .i64 xg, .int .i64 xx, .int .i64 0, .slice eA 18 eac, .slice eB 3 ebc] W) ∧ (W.ownsRow w5.heap.size 29 1 (.slice A15 18 c15) 18 (u64V (chT ⟨xe, xp, xm, xg, xx⟩ 0))) ∧ (W.heap[bX]? = some (.cells #[.string ⟨#[]⟩, .string ⟨#[]⟩, .int .i64 0, .int .i64 0, .int .i64 0, .int .i64 0, .slice none 0 0, .slice none 0 0] 38)) ∧ (w5.heap.size ≤ bX))
              case h1 =>
                intro d_9_15_25
                apply share5 (fun (W : World) (b9 : Nat) (A15 : Option Addr) (c15 : Nat) (b16 : Nat) => (Below w5.heap.size w5 W) ∧ (SgC sb so [.string xe, .string xp, .int .i64 xm, .int .i64 xg, .int .i64 xx, .int .i64 0, .slice eA 18 eac, .slice eB 3 ebc] W) ∧ (W.ownsRow w5.heap.size 29 1 (.slice A15 18 c15) 18 (u64V (chT ⟨xe, xp, xm, xg, xx⟩ 0))) ∧ (W.ownsRow w5.heap.size 41 2 (.slice (some ⟨b16, 0, none⟩) 0 3) 0 []))
                case h1 =>
                  intro d_9_15_16
                  apply share3 (fun (W : World) (b16 : Nat) (bX : Nat) => (Below w5.heap.size w5 W) ∧ (SgC sb so [.string xe, .string xp, .int .i64 xm, .int .i64 xg, .int .i64 xx, .int .i64 0, .slice eA 18 eac, .slice eB 3 ebc] W) ∧ (W.ownsRow w5.heap.size 41 2 (.slice (some ⟨b16, 0, none⟩) 0 3) 0 []) ∧ (W.heap[bX]? = some (.cells #[.string ⟨#[]⟩, .string ⟨#[]⟩, .int .i64 0, .int .i64 0, .int .i64 0, .int .i64 0, .slice none 0 0, .slice none 0 0] 38)) ∧ (w5.heap.size ≤ bX))
                  case h1 =>
                    intro d_16_25
                    apply share3 (fun (W : World) (b9 : Nat) (bX : Nat) => (Below w5.heap.size w5 W) ∧ (SgC sb so [.string xe, .string xp, .int .i64 xm, .int .i64 xg, .int .i64 xx, .int .i64 0, .slice eA 18 eac, .slice eB 3 ebc] W) ∧ (W.ownsRow w5.heap.size 29 1 (.slice (some ⟨b9, 0, none⟩) 0 18) 0 []) ∧ (W.heap[bX]? = some (.cells #[.string ⟨#[]⟩, .string ⟨#[]⟩, .int .i64 0, .int .i64 0, .int .i64 0, .int .i64 0, .slice none 0 0, .slice none 0 0] 38)) ∧ (w5.heap.size ≤ bX))
                    case h1 =>
                      intro d_9_25
                      apply share3 (fun (W : World) (b9 : Nat) (b16 : Nat) => (Below w5.heap.size w5 W) ∧ (SgC sb so [.string xe, .string xp, .int .i64 xm, .int .i64 xg, .int .i64 xx, .int .i64 0, .slice eA 18 eac, .slice eB 3 ebc] W) ∧ (W.ownsRow w5.heap.size 29 1 (.slice (some ⟨b9, 0, none⟩) 0 18) 0 []) ∧ (W.ownsRow w5.heap.size 41 2 (.slice (some ⟨b16, 0, none⟩) 0 3) 0 []))
                      case h1 =>
                        intro d_9_16
                        apply share4 (fun (W : World) (b9 : Nat) (A15 : Option Addr) (c15 : Nat) => (Below w5.heap.size w5 W) ∧ (SgC sb so [.string xe, .string xp, .int .i64 xm, .int .i64 xg, .int .i64 xx, .int .i64 0, .slice eA 18 eac, .slice eB 3 ebc] W) ∧ (W.ownsRow w5.heap.size 29 1 (.slice A15 18 c15) 18 (u64V (chT ⟨xe, xp, xm, xg, xx⟩ 0))))
                        case h1 =>
                          intro d_9_15
                          apply share2 (fun (W : World) (bX : Nat) => (Below w5.heap.size w5 W) ∧ (SgC sb so [.string xe, .string xp, .int .i64 xm, .int .i64 xg, .int .i64 xx, .int .i64 0, .slice eA 18 eac, .slice eB 3 ebc] W) ∧ (W.heap[bX]? = some (.cells #[.string ⟨#[]⟩, .string ⟨#[]⟩, .int .i64 0, .int .i64 0, .int .i64 0, .int .i64 0, .slice none 0 0, .slice none 0 0] 38)) ∧ (w5.heap.size ≤ bX))
                          case h1 =>
                            intro d_25
                            apply share2 (fun (W : World) (b16 : Nat) => (Below w5.heap.size w5 W) ∧ (SgC sb so [.string xe, .string xp, .int .i64 xm, .int .i64 xg, .int .i64 xx, .int .i64 0, .slice eA 18 eac, .slice eB 3 ebc] W) ∧ (W.ownsRow w5.heap.size 41 2 (.slice (some ⟨b16, 0, none⟩) 0 3) 0 []))
                            case h1 =>
                              intro d_16
                              apply share2 (fun (W : World) (b9 : Nat) => (Below w5.heap.size w5 W) ∧ (SgC sb so [.string xe, .string xp, .int .i64 xm, .int .i64 xg, .int .i64 xx, .int .i64 0, .slice eA 18 eac, .slice eB 3 ebc] W) ∧ (W.ownsRow w5.heap.size 29 1 (.slice (some ⟨b9, 0, none⟩) 0 18) 0 []))
                              case h1 =>
                                intro d_9
                                refine wpAnyH_take (i := 0) (v := ?_) rfl (by kernel_rfl) (by kernel_rfl) (by kernel_rfl) (fun _ _ _ h => h) (Or.inl ⟨by kernel_rfl, ?_⟩) (by assumption) ?_
                                rotate_left
                                · intro w hSw
                                  (try dsimp only at hSw)
                                  go_simp
                                  first | done | with_reducible rfl
                                simp only [List.getElem_toArray, List.getElem_cons_zero, List.getElem_cons_succ, Act.put, List.setIfInBounds_toArray, List.set_cons_zero, List.set_cons_succ]
                                refine wpAnyH_take (i := 1) (v := ?_) rfl (by kernel_rfl) (by kernel_rfl) (by kernel_rfl) (fun _ _ _ h => h) (Or.inl ⟨by kernel_rfl, ?_⟩) (by assumption) ?_
                                rotate_left
                                · intro w hSw
                                  (try dsimp only at hSw)
                                  go_simp
                                  first | done | with_reducible rfl
                                simp only [List.getElem_toArray, List.getElem_cons_zero, List.getElem_cons_succ, Act.put, List.setIfInBounds_toArray, List.set_cons_zero, List.set_cons_succ]
                                refine wpAnyH_take (i := 2) (v := ?_) rfl (by kernel_rfl) (by kernel_rfl) (by kernel_rfl) (fun _ _ _ h => h) (Or.inl ⟨by kernel_rfl, ?_⟩) (by assumption) ?_
                                rotate_left
                                · intro w hSw
                                  (try dsimp only at hSw)
                                  go_simp
                                  first | done | with_reducible rfl
                                simp only [List.getElem_toArray, List.getElem_cons_zero, List.getElem_cons_succ, Act.put, List.setIfInBounds_toArray, List.set_cons_zero, List.set_cons_succ]
                                refine wpAnyH_take (i := 3) (v := ?_) rfl (by kernel_rfl) (by kernel_rfl) (by kernel_rfl) (fun _ _ _ h => h) (Or.inl ⟨by kernel_rfl, ?_⟩) (by assumption) ?_
                                rotate_left
                                · intro w hSw
                                  (try dsimp only at hSw)
                                  have z0 : w.cell? ⟨sb, so, none⟩ = some (.string xe) := hSw.at_ 0 _ rfl
                                  have z1 : w.cell? ⟨sb, so + 1, none⟩ = some (.string xp) := hSw.at_ 1 _ rfl
                                  have z2 : w.cell? ⟨sb, so + 2, none⟩ = some (.int .i64 xm) := hSw.at_ 2 _ rfl
                                  have z3 : w.cell? ⟨sb, so + 3, none⟩ = some (.int .i64 xg) := hSw.at_ 3 _ rfl
                                  have z4 : w.cell? ⟨sb, so + 4, none⟩ = some (.int .i64 xx) := hSw.at_ 4 _ rfl
                                  clear hSw
                                  go_simp
                                  first | done | with_reducible rfl
                                simp only [List.getElem_toArray, List.getElem_cons_zero, List.getElem_cons_succ, Act.put, List.setIfInBounds_toArray, List.set_cons_zero, List.set_cons_succ]
                                refine wpAnyH_take (i := 4) (v := ?_) rfl (by kernel_rfl) (by kernel_rfl) (by kernel_rfl) (fun _ _ _ h => h) (Or.inl ⟨by kernel_rfl, ?_⟩) (by assumption) ?_
                                rotate_left
                                · intro w hSw
                                  (try dsimp only at hSw)
                                  go_simp
                                  first | done | with_reducible rfl
                                simp only [List.getElem_toArray, List.getElem_cons_zero, List.getElem_cons_succ, Act.put, List.setIfInBounds_toArray, List.set_cons_zero, List.set_cons_succ]
                                refine wpAnyH_take (i := 5) (v := ?_) rfl (by kernel_rfl) (by kernel_rfl) (by kernel_rfl) (fun _ _ _ h => h) (Or.inl ⟨by kernel_rfl, ?_⟩) (by assumption) ?_
                                rotate_left
                                · intro w hSw
                                  (try dsimp only at hSw)
                                  go_simp
                                  first | done | with_reducible rfl
                                simp only [List.getElem_toArray, List.getElem_cons_zero, List.getElem_cons_succ, Act.put, List.setIfInBounds_toArray, List.set_cons_zero, List.set_cons_succ]
                                refine wpAnyH_take (i := 6) (v := ?_) rfl (by kernel_rfl) (by kernel_rfl) (by kernel_rfl) (fun _ _ _ h => h) (Or.inl ⟨by kernel_rfl, ?_⟩) (by assumption) ?_
                                rotate_left
                                · intro w hSw
                                  (try dsimp only at hSw)
                                  go_simp
                                  first | done | with_reducible rfl
                                simp only [List.getElem_toArray, List.getElem_cons_zero, List.getElem_cons_succ, Act.put, List.setIfInBounds_toArray, List.set_cons_zero, List.set_cons_succ]
                                refine wpAnyH_take (i := 7) (v := ?_) rfl (by kernel_rfl) (by kernel_rfl) (by kernel_rfl) (fun _ _ _ h => h) (Or.inl ⟨by kernel_rfl, ?_⟩) (by assumption) ?_
                                rotate_left
                                · intro w hSw
                                  (try dsimp only at hSw)
                                  go_simp
                                  first | done | with_reducible rfl
                                simp only [List.getElem_toArray, List.getElem_cons_zero, List.getElem_cons_succ, Act.put, List.setIfInBounds_toArray, List.set_cons_zero, List.set_cons_succ]
                                refine wpAnyH_take (i := 8) (v := ?_) rfl (by kernel_rfl) (by kernel_rfl) (by kernel_rfl) (fun _ _ _ h => h) (Or.inl ⟨by kernel_rfl, ?_⟩) (by assumption) ?_
                                rotate_left
                                · intro w hSw
                                  (try dsimp only at hSw)
                                  have z5 : w.cell? ⟨sb, so + 5, none⟩ = some (.int .i64 0) := hSw.at_ 5 _ rfl
                                  clear hSw
                                  go_simp
                                  first | done | with_reducible rfl
                                simp only [List.getElem_toArray, List.getElem_cons_zero, List.getElem_cons_succ, Act.put, List.setIfInBounds_toArray, List.set_cons_zero, List.set_cons_succ]
                                refine wpAnyH_take (i := 10) (v := ?_) rfl (by kernel_rfl) (by kernel_rfl) (by kernel_rfl) (fun _ _ _ h => h) (Or.inl ⟨by kernel_rfl, ?_⟩) (by assumption) ?_
                                rotate_left
                                · intro w hSw
                                  (try dsimp only at hSw)
                                  go_simp
                                  first | done | with_reducible rfl
                                simp only [List.getElem_toArray, List.getElem_cons_zero, List.getElem_cons_succ, Act.put, List.setIfInBounds_toArray, List.set_cons_zero, List.set_cons_succ]
                                refine wpAnyH_take (i := 11) (v := ?_) rfl (by kernel_rfl) (by kernel_rfl) (by kernel_rfl) (fun _ _ _ h => h) (Or.inl ⟨by kernel_rfl, ?_⟩) (by assumption) ?_
                                rotate_left
                                · intro w hSw
                                  (try dsimp only at hSw)
                                  go_simp
                                  first | done | with_reducible rfl
                                simp only [List.getElem_toArray, List.getElem_cons_zero, List.getElem_cons_succ, Act.put, List.setIfInBounds_toArray, List.set_cons_zero, List.set_cons_succ]
                                refine wpAnyH_take (i := 12) (v := ?_) rfl (by kernel_rfl) (by kernel_rfl) (by kernel_rfl) (fun _ _ _ h => h) (Or.inl ⟨by kernel_rfl, ?_⟩) (by assumption) ?_
                                rotate_left
                                · intro w hSw
                                  (try dsimp only at hSw)
                                  go_simp
                                  first | done | with_reducible rfl
                                simp only [List.getElem_toArray, List.getElem_cons_zero, List.getElem_cons_succ, Act.put, List.setIfInBounds_toArray, List.set_cons_zero, List.set_cons_succ]
                                refine wpAnyH_take (i := 13) (v := ?_) rfl (by kernel_rfl) (by kernel_rfl) (by kernel_rfl) (fun _ _ _ h => h) (Or.inl ⟨by kernel_rfl, ?_⟩) (by assumption) ?_
                                rotate_left
                                · intro w hSw
                                  (try dsimp only at hSw)
                                  go_simp
                                  first | done | with_reducible rfl
                                simp only [List.getElem_toArray, List.getElem_cons_zero, List.getElem_cons_succ, Act.put, List.setIfInBounds_toArray, List.set_cons_zero, List.set_cons_succ]
                                refine wpAnyH_take (i := 14) (v := ?_) rfl (by kernel_rfl) (by kernel_rfl) (by kernel_rfl) (fun _ _ _ h => h) (Or.inl ⟨by kernel_rfl, ?_⟩) (by assumption) ?_
                                rotate_left
                                · intro w hSw
                                  (try dsimp only at hSw)
                                  have z6 : w.cell? ⟨sb, so + 6, none⟩ = some (.slice eA 18 eac) := hSw.at_ 6 _ rfl
                                  clear hSw
                                  go_simp
                                  first | done | with_reducible rfl
                                simp only [List.getElem_toArray, List.getElem_cons_zero, List.getElem_cons_succ, Act.put, List.setIfInBounds_toArray, List.set_cons_zero, List.set_cons_succ]
                                refine wpAnyH_take (i := 17) (v := ?_) rfl (by kernel_rfl) (by kernel_rfl) (by kernel_rfl) (fun _ _ _ h => h) (Or.inl ⟨by kernel_rfl, ?_⟩) (by assumption) ?_
                                rotate_left
                                · intro w hSw
                                  (try dsimp only at hSw)
                                  go_simp
                                  first | done | with_reducible rfl
                                simp only [List.getElem_toArray, List.getElem_cons_zero, List.getElem_cons_succ, Act.put, List.setIfInBounds_toArray, List.set_cons_zero, List.set_cons_succ]
                                refine wpAnyH_take (i := 18) (v := ?_) rfl (by kernel_rfl) (by kernel_rfl) (by kernel_rfl) (fun _ _ _ h => h) (Or.inl ⟨by kernel_rfl, ?_⟩) (by assumption) ?_
                                rotate_left
                                · intro w hSw
                                  (try dsimp only at hSw)
                                  go_simp
                                  first | done | with_reducible rfl
                                simp only [List.getElem_toArray, List.getElem_cons_zero, List.getElem_cons_succ, Act.put, List.setIfInBounds_toArray, List.set_cons_zero, List.set_cons_succ]
                                refine wpAnyH_take (i := 19) (v := ?_) rfl (by kernel_rfl) (by kernel_rfl) (by kernel_rfl) (fun _ _ _ h => h) (Or.inl ⟨by kernel_rfl, ?_⟩) (by assumption) ?_
                                rotate_left
                                · intro w hSw
                                  (try dsimp only at hSw)
                                  go_simp
                                  first | done | with_reducible rfl
                                simp only [List.getElem_toArray, List.getElem_cons_zero, List.getElem_cons_succ, Act.put, List.setIfInBounds_toArray, List.set_cons_zero, List.set_cons_succ]
                                refine wpAnyH_take (i := 20) (v := ?_) rfl (by kernel_rfl) (by kernel_rfl) (by kernel_rfl) (fun _ _ _ h => h) (Or.inl ⟨by kernel_rfl, ?_⟩) (by assumption) ?_
                                rotate_left
                                · intro w hSw
                                  (try dsimp only at hSw)
                                  go_simp
                                  first | done | with_reducible rfl
                                simp only [List.getElem_toArray, List.getElem_cons_zero, List.getElem_cons_succ, Act.put, List.setIfInBounds_toArray, List.set_cons_zero, List.set_cons_succ]
                                refine wpAnyH_take (i := 21) (v := ?_) rfl (by kernel_rfl) (by kernel_rfl) (by kernel_rfl) (fun _ _ _ h => h) (Or.inl ⟨by kernel_rfl, ?_⟩) (by assumption) ?_
                                rotate_left
                                · intro w hSw
                                  (try dsimp only at hSw)
                                  have z7 : w.cell? ⟨sb, so + 7, none⟩ = some (.slice eB 3 ebc) := hSw.at_ 7 _ rfl
                                  clear hSw
                                  go_simp
                                  first | done | with_reducible rfl
                                simp only [List.getElem_toArray, List.getElem_cons_zero, List.getElem_cons_succ, Act.put, List.setIfInBounds_toArray, List.set_cons_zero, List.set_cons_succ]
                                refine wpAnyH_ready (rs := [9, 16, 25]) (by kernel_rfl) (by simp) ?_
                                refine AllReadyH.cons rfl (fun K hK => ?_) ?_
                                · simp only [List.getElem_toArray, List.getElem_cons_zero, List.getElem_cons_succ]
                                  go_simp
                                  obtain ⟨Wn, hWn⟩ : ∃ z, z = (w5.alloc (.cells mkD18 29)).drew := ⟨_, rfl⟩
                                  rw [← hWn]
                                  have stn : Below w5.heap.size w5 Wn := by rw [hWn]; exact (bal (Below.refl w5.heap.size w5) _).drew
                                  have beln : Below w5.heap.size w5 Wn := stn
                                  obtain ⟨b9, hbn⟩ : ∃ z, z = w5.heap.size := ⟨_, rfl⟩
                                  have oDn : Wn.ownsRow w5.heap.size 29 1 (.slice (some ⟨b9, 0, none⟩) 0 18) 0 [] := by rw [hWn, hbn]; exact hn_mk w5 mkD18 18 29 1 rfl (by decide) _ (Nat.le_refl _)
                                  try rw [← hbn]
                                  clear hWn hbn
                                  refine hK.out _ Wn (H5.out.1.go beln) (fun hHeldn => ?_)
                                  clear hK K
                                  try simp only [List.getElem_toArray, List.getElem_cons_zero, List.getElem_cons_succ, Act.put, List.setIfInBounds_toArray, List.set_cons_zero, List.set_cons_succ]
                                  exact d_9 Wn b9 ⟨beln, hHeldn, oDn⟩
                                refine AllReadyH.cons rfl (fun K hK => ?_) ?_
                                · simp only [List.getElem_toArray, List.getElem_cons_zero, List.getElem_cons_succ]
                                  go_simp
                                  obtain ⟨Wn, hWn⟩ : ∃ z, z = (w5.alloc (.cells mkF3 41)).drew := ⟨_, rfl⟩
                                  rw [← hWn]
                                  have stn : Below w5.heap.size w5 Wn := by rw [hWn]; exact (bal (Below.refl w5.heap.size w5) _).drew
                                  have beln : Below w5.heap.size w5 Wn := stn
                                  obtain ⟨b16, hbn⟩ : ∃ z, z = w5.heap.size := ⟨_, rfl⟩
                                  have oFn : Wn.ownsRow w5.heap.size 41 2 (.slice (some ⟨b16, 0, none⟩) 0 3) 0 [] := by rw [hWn, hbn]; exact hn_mk w5 mkF3 3 41 2 rfl (by decide) _ (Nat.le_refl _)
                                  try rw [← hbn]
                                  clear hWn hbn
                                  refine hK.out _ Wn (H5.out.1.go beln) (fun hHeldn => ?_)
                                  clear hK K
                                  try simp only [List.getElem_toArray, List.getElem_cons_zero, List.getElem_cons_succ, Act.put, List.setIfInBounds_toArray, List.set_cons_zero, List.set_cons_succ]
                                  exact d_16 Wn b16 ⟨beln, hHeldn, oFn⟩
                                refine AllReadyH.cons rfl (fun K hK => ?_) ?_
                                · simp only [List.getElem_toArray, List.getElem_cons_zero, List.getElem_cons_succ]
                                  go_simp
                                  obtain ⟨Wn, hWn⟩ : ∃ z, z = (w5.alloc (.cells #[.string ⟨#[]⟩, .string ⟨#[]⟩, .int .i64 0, .int .i64 0, .int .i64 0, .int .i64 0, .slice none 0 0, .slice none 0 0] 38)).drew := ⟨_, rfl⟩
                                  rw [← hWn]
                                  have stn : Below w5.heap.size w5 Wn := by rw [hWn]; exact (bal (Below.refl w5.heap.size w5) _).drew
                                  have beln : Below w5.heap.size w5 Wn := stn
                                  obtain ⟨bX, hbn⟩ : ∃ z, z = w5.heap.size := ⟨_, rfl⟩
                                  have gXn : Wn.heap[bX]? = some (.cells #[.string ⟨#[]⟩, .string ⟨#[]⟩, .int .i64 0, .int .i64 0, .int .i64 0, .int .i64 0, .slice none 0 0, .slice none 0 0] 38) := by rw [hWn, hbn]; exact World.alloc_heap_new _ _
                                  have hXn : w5.heap.size ≤ bX := by rw [hbn]; exact Nat.le_refl _
                                  try rw [← hbn]
                                  clear hWn hbn
                                  refine hK.out _ Wn (H5.out.1.go beln) (fun hHeldn => ?_)
                                  clear hK K
                                  try simp only [List.getElem_toArray, List.getElem_cons_zero, List.getElem_cons_succ, Act.put, List.setIfInBounds_toArray, List.set_cons_zero, List.set_cons_succ]
                                  exact d_25 Wn bX ⟨beln, hHeldn, gXn, hXn⟩
                                exact AllReadyH.nil
                              case h2 =>
                                intro W b9 hF
                                obtain ⟨bel, hHeld, oD⟩ := hF
                                refine wpAnyH_ready (rs := [15, 16, 25]) (by kernel_rfl) (by simp) ?_
                                refine AllReadyH.cons rfl (fun K hK => ?_) ?_
                                · refine step_src (w0 := w5) (by rfl) _ _ 33 (by rfl) 29 j0 _ 1 8 Tryd.underlying33 hj0 hj1 hj2 hj3 (by rfl) (by decide) ((.slice (some ⟨b9, 0, none⟩) 0 18)) (0) ([]) (by rfl) (oD) (bel) (.slice eA 18 eac) (18) ((u64V (chT ⟨xe, xp, xm, xg, xx⟩ 0))) (by rfl) (Hs1.out W bel) (u64s_one _) (by unfold maxLen; omega) (by omega) ?_
                                  intro vn Wn ownn beln keptn
                                  have ownN : Wn.ownsRow w5.heap.size 29 1 vn 18 (u64V (chT ⟨xe, xp, xm, xg, xx⟩ 0)) := by (have h := ownn; rw [List.nil_append] at h; exact h)
                                  obtain ⟨A15, c15, hvn, _, _, _⟩ := own_slice2 ownN
                                  subst hvn
                                  clear ownn keptn
                                  refine hK.out _ Wn (H5.out.1.go beln) (fun hHeldn => ?_)
                                  clear hK K
                                  try simp only [List.getElem_toArray, List.getElem_cons_zero, List.getElem_cons_succ, Act.put, List.setIfInBounds_toArray, List.set_cons_zero, List.set_cons_succ]
                                  exact d_9_15 Wn b9 A15 c15 ⟨beln, hHeldn, ownN⟩
                                refine AllReadyH.cons rfl (fun K hK => ?_) ?_
                                · simp only [List.getElem_toArray, List.getElem_cons_zero, List.getElem_cons_succ]
                                  go_simp
                                  obtain ⟨Wn, hWn⟩ : ∃ z, z = (W.alloc (.cells mkF3 41)) := ⟨_, rfl⟩
                                  rw [← hWn]
                                  have stn : Below W.heap.size W Wn := by rw [hWn]; exact (bal (Below.refl W.heap.size W) _)
                                  have beln : Below w5.heap.size w5 Wn := bgo bel stn
                                  have oDn := own_below oD stn
                                  obtain ⟨b16, hbn⟩ : ∃ z, z = W.heap.size := ⟨_, rfl⟩
                                  have oFn : Wn.ownsRow w5.heap.size 41 2 (.slice (some ⟨b16, 0, none⟩) 0 3) 0 [] := by rw [hWn, hbn]; exact hn_mk W mkF3 3 41 2 rfl (by decide) _ (bel.size)
                                  try rw [← hbn]
                                  clear hWn hbn
                                  refine hK.out _ Wn (H5.out.1.go beln) (fun hHeldn => ?_)
                                  clear hK K
                                  try simp only [List.getElem_toArray, List.getElem_cons_zero, List.getElem_cons_succ, Act.put, List.setIfInBounds_toArray, List.set_cons_zero, List.set_cons_succ]
                                  exact d_9_16 Wn b9 b16 ⟨beln, hHeldn, oDn, oFn⟩
                                refine AllReadyH.cons rfl (fun K hK => ?_) ?_
                                · simp only [List.getElem_toArray, List.getElem_cons_zero, List.getElem_cons_succ]
                                  go_simp
                                  obtain ⟨Wn, hWn⟩ : ∃ z, z = (W.alloc (.cells #[.string ⟨#[]⟩, .string ⟨#[]⟩, .int .i64 0, .int .i64 0, .int .i64 0, .int .i64 0, .slice none 0 0, .slice none 0 0] 38)) := ⟨_, rfl⟩
                                  rw [← hWn]
                                  have stn : Below W.heap.size W Wn := by rw [hWn]; exact (bal (Below.refl W.heap.size W) _)
                                  have beln : Below w5.heap.size w5 Wn := bgo bel stn
                                  have oDn := own_below oD stn
                                  obtain ⟨bX, hbn⟩ : ∃ z, z = W.heap.size := ⟨_, rfl⟩
                                  have gXn : Wn.heap[bX]? = some (.cells #[.string ⟨#[]⟩, .string ⟨#[]⟩, .int .i64 0, .int .i64 0, .int .i64 0, .int .i64 0, .slice none 0 0, .slice none 0 0] 38) := by rw [hWn, hbn]; exact World.alloc_heap_new _ _
                                  have hXn : w5.heap.size ≤ bX := by rw [hbn]; exact bel.size
                                  try rw [← hbn]
                                  clear hWn hbn
                                  refine hK.out _ Wn (H5.out.1.go beln) (fun hHeldn => ?_)
                                  clear hK K
                                  try simp only [List.getElem_toArray, List.getElem_cons_zero, List.getElem_cons_succ, Act.put, List.setIfInBounds_toArray, List.set_cons_zero, List.set_cons_succ]
                                  exact d_9_25 Wn b9 bX ⟨beln, hHeldn, oDn, gXn, hXn⟩
                                exact AllReadyH.nil
                            case h2 =>
                              intro W b16 hF
                              obtain ⟨bel, hHeld, oF⟩ := hF
                              refine wpAnyH_ready (rs := [9, 25]) (by kernel_rfl) (by simp) ?_
                              refine AllReadyH.cons rfl (fun K hK => ?_) ?_
                              · simp only [List.getElem_toArray, List.getElem_cons_zero, List.getElem_cons_succ]
                                go_simp
                                obtain ⟨Wn, hWn⟩ : ∃ z, z = (W.alloc (.cells mkD18 29)) := ⟨_, rfl⟩
                                rw [← hWn]
                                have stn : Below W.heap.size W Wn := by rw [hWn]; exact (bal (Below.refl W.heap.size W) _)
                                have beln : Below w5.heap.size w5 Wn := bgo bel stn
                                have oFn := own_below oF stn
                                obtain ⟨b9, hbn⟩ : ∃ z, z = W.heap.size := ⟨_, rfl⟩
                                have oDn : Wn.ownsRow w5.heap.size 29 1 (.slice (some ⟨b9, 0, none⟩) 0 18) 0 [] := by rw [hWn, hbn]; exact hn_mk W mkD18 18 29 1 rfl (by decide) _ (bel.size)
                                try rw [← hbn]
                                clear hWn hbn
                                refine hK.out _ Wn (H5.out.1.go beln) (fun hHeldn => ?_)
                                clear hK K
                                try simp only [List.getElem_toArray, List.getElem_cons_zero, List.getElem_cons_succ, Act.put, List.setIfInBounds_toArray, List.set_cons_zero, List.set_cons_succ]
                                exact d_9_16 Wn b9 b16 ⟨beln, hHeldn, oDn, oFn⟩
                              refine AllReadyH.cons rfl (fun K hK => ?_) ?_
                              · simp only [List.getElem_toArray, List.getElem_cons_zero, List.getElem_cons_succ]
                                go_simp
                                obtain ⟨Wn, hWn⟩ : ∃ z, z = (W.alloc (.cells #[.string ⟨#[]⟩, .string ⟨#[]⟩, .int .i64 0, .int .i64 0, .int .i64 0, .int .i64 0, .slice none 0 0, .slice none 0 0] 38)) := ⟨_, rfl⟩
                                rw [← hWn]
                                have stn : Below W.heap.size W Wn := by rw [hWn]; exact (bal (Below.refl W.heap.size W) _)
                                have beln : Below w5.heap.size w5 Wn := bgo bel stn
                                have oFn := own_below oF stn
                                obtain ⟨bX, hbn⟩ : ∃ z, z = W.heap.size := ⟨_, rfl⟩
                                have gXn : Wn.heap[bX]? = some (.cells #[.string ⟨#[]⟩, .string ⟨#[]⟩, .int .i64 0, .int .i64 0, .int .i64 0, .int .i64 0, .slice none 0 0, .slice none 0 0] 38) := by rw [hWn, hbn]; exact World.alloc_heap_new _ _
                                have hXn : w5.heap.size ≤ bX := by rw [hbn]; exact bel.size
                                try rw [← hbn]
                                clear hWn hbn
                                refine hK.out _ Wn (H5.out.1.go beln) (fun hHeldn => ?_)
                                clear hK K
                                try simp only [List.getElem_toArray, List.getElem_cons_zero, List.getElem_cons_succ, Act.put, List.setIfInBounds_toArray, List.set_cons_zero, List.set_cons_succ]
                                exact d_16_25 Wn b16 bX ⟨beln, hHeldn, oFn, gXn, hXn⟩
                              exact AllReadyH.nil
                          case h2 =>
                            intro W bX hF
                            obtain ⟨bel, hHeld, gX, hX⟩ := hF
                            refine wpAnyH_ready (rs := [9, 16]) (by kernel_rfl) (by simp) ?_
                            refine AllReadyH.cons rfl (fun K hK => ?_) ?_
                            · simp only [List.getElem_toArray, List.getElem_cons_zero, List.getElem_cons_succ]
                              go_simp
                              obtain ⟨Wn, hWn⟩ : ∃ z, z = (W.alloc (.cells mkD18 29)) := ⟨_, rfl⟩
                              rw [← hWn]
                              have stn : Below W.heap.size W Wn := by rw [hWn]; exact (bal (Below.refl W.heap.size W) _)
                              have beln : Below w5.heap.size w5 Wn := bgo bel stn
                              have gXn := blk_go' gX stn
                              obtain ⟨b9, hbn⟩ : ∃ z, z = W.heap.size := ⟨_, rfl⟩
                              have oDn : Wn.ownsRow w5.heap.size 29 1 (.slice (some ⟨b9, 0, none⟩) 0 18) 0 [] := by rw [hWn, hbn]; exact hn_mk W mkD18 18 29 1 rfl (by decide) _ (bel.size)
                              try rw [← hbn]
                              clear hWn hbn
                              refine hK.out _ Wn (H5.out.1.go beln) (fun hHeldn => ?_)
                              clear hK K
                              try simp only [List.getElem_toArray, List.getElem_cons_zero, List.getElem_cons_succ, Act.put, List.setIfInBounds_toArray, List.set_cons_zero, List.set_cons_succ]
                              exact d_9_25 Wn b9 bX ⟨beln, hHeldn, oDn, gXn, hX⟩
                            refine AllReadyH.cons rfl (fun K hK => ?_) ?_
                            · simp only [List.getElem_toArray, List.getElem_cons_zero, List.getElem_cons_succ]
                              go_simp
                              obtain ⟨Wn, hWn⟩ : ∃ z, z = (W.alloc (.cells mkF3 41)) := ⟨_, rfl⟩
                              rw [← hWn]
                              have stn : Below W.heap.size W Wn := by rw [hWn]; exact (bal (Below.refl W.heap.size W) _)
                              have beln : Below w5.heap.size w5 Wn := bgo bel stn
                              have gXn := blk_go' gX stn
                              obtain ⟨b16, hbn⟩ : ∃ z, z = W.heap.size := ⟨_, rfl⟩
                              have oFn : Wn.ownsRow w5.heap.size 41 2 (.slice (some ⟨b16, 0, none⟩) 0 3) 0 [] := by rw [hWn, hbn]; exact hn_mk W mkF3 3 41 2 rfl (by decide) _ (bel.size)
                              try rw [← hbn]
                              clear hWn hbn
                              refine hK.out _ Wn (H5.out.1.go beln) (fun hHeldn => ?_)
                              clear hK K
                              try simp only [List.getElem_toArray, List.getElem_cons_zero, List.getElem_cons_succ, Act.put, List.setIfInBounds_toArray, List.set_cons_zero, List.set_cons_succ]
                              exact d_16_25 Wn b16 bX ⟨beln, hHeldn, oFn, gXn, hX⟩
                            exact AllReadyH.nil
                        case h2 =>
                          intro W b9 A15 c15 hF
                          obtain ⟨bel, hHeld, oD⟩ := hF
                          refine wpAnyH_ready (rs := [16, 25]) (by kernel_rfl) (by simp) ?_
                          refine AllReadyH.cons rfl (fun K hK => ?_) ?_
                          · simp only [List.getElem_toArray, List.getElem_cons_zero, List.getElem_cons_succ]
                            go_simp
                            obtain ⟨Wn, hWn⟩ : ∃ z, z = (W.alloc (.cells mkF3 41)) := ⟨_, rfl⟩
                            rw [← hWn]
                            have stn : Below W.heap.size W Wn := by rw [hWn]; exact (bal (Below.refl W.heap.size W) _)
                            have beln : Below w5.heap.size w5 Wn := bgo bel stn
                            have oDn := own_below oD stn
                            obtain ⟨b16, hbn⟩ : ∃ z, z = W.heap.size := ⟨_, rfl⟩
                            have oFn : Wn.ownsRow w5.heap.size 41 2 (.slice (some ⟨b16, 0, none⟩) 0 3) 0 [] := by rw [hWn, hbn]; exact hn_mk W mkF3 3 41 2 rfl (by decide) _ (bel.size)
                            try rw [← hbn]
                            clear hWn hbn
                            refine hK.out _ Wn (H5.out.1.go beln) (fun hHeldn => ?_)
                            clear hK K
                            try simp only [List.getElem_toArray, List.getElem_cons_zero, List.getElem_cons_succ, Act.put, List.setIfInBounds_toArray, List.set_cons_zero, List.set_cons_succ]
                            exact d_9_15_16 Wn b9 A15 c15 b16 ⟨beln, hHeldn, oDn, oFn⟩
                          refine AllReadyH.cons rfl (fun K hK => ?_) ?_
                          · simp only [List.getElem_toArray, List.getElem_cons_zero, List.getElem_cons_succ]
                            go_simp
                            obtain ⟨Wn, hWn⟩ : ∃ z, z = (W.alloc (.cells #[.string ⟨#[]⟩, .string ⟨#[]⟩, .int .i64 0, .int .i64 0, .int .i64 0, .int .i64 0, .slice none 0 0, .slice none 0 0] 38)) := ⟨_, rfl⟩
                            rw [← hWn]
                            have stn : Below W.heap.size W Wn := by rw [hWn]; exact (bal (Below.refl W.heap.size W) _)
                            have beln : Below w5.heap.size w5 Wn := bgo bel stn
                            have oDn := own_below oD stn
                            obtain ⟨bX, hbn⟩ : ∃ z, z = W.heap.size := ⟨_, rfl⟩
                            have gXn : Wn.heap[bX]? = some (.cells #[.string ⟨#[]⟩, .string ⟨#[]⟩, .int .i64 0, .int .i64 0, .int .i64 0, .int .i64 0, .slice none 0 0, .slice none 0 0] 38) := by rw [hWn, hbn]; exact World.alloc_heap_new _ _
                            have hXn : w5.heap.size ≤ bX := by rw [hbn]; exact bel.size
                            try rw [← hbn]
                            clear hWn hbn
                            refine hK.out _ Wn (H5.out.1.go beln) (fun hHeldn => ?_)
                            clear hK K
                            try simp only [List.getElem_toArray, List.getElem_cons_zero, List.getElem_cons_succ, Act.put, List.setIfInBounds_toArray, List.set_cons_zero, List.set_cons_succ]
                            exact d_9_15_25 Wn b9 A15 c15 bX ⟨beln, hHeldn, oDn, gXn, hXn⟩
                          exact AllReadyH.nil
                      case h2 =>
                        intro W b9 b16 hF
                        obtain ⟨bel, hHeld, oD, oF⟩ := hF
                        refine wpAnyH_ready (rs := [15, 25]) (by kernel_rfl) (by simp) ?_
                        refine AllReadyH.cons rfl (fun K hK => ?_) ?_
                        · refine step_src (w0 := w5) (by rfl) _ _ 33 (by rfl) 29 j0 _ 1 8 Tryd.underlying33 hj0 hj1 hj2 hj3 (by rfl) (by decide) ((.slice (some ⟨b9, 0, none⟩) 0 18)) (0) ([]) (by rfl) (oD) (bel) (.slice eA 18 eac) (18) ((u64V (chT ⟨xe, xp, xm, xg, xx⟩ 0))) (by rfl) (Hs1.out W bel) (u64s_one _) (by unfold maxLen; omega) (by omega) ?_
                          intro vn Wn ownn beln keptn
                          have oFn := keptn.row oD oF (by decide)
                          have ownN : Wn.ownsRow w5.heap.size 29 1 vn 18 (u64V (chT ⟨xe, xp, xm, xg, xx⟩ 0)) := by (have h := ownn; rw [List.nil_append] at h; exact h)
                          obtain ⟨A15, c15, hvn, _, _, _⟩ := own_slice2 ownN
                          subst hvn
                          clear ownn keptn
                          refine hK.out _ Wn (H5.out.1.go beln) (fun hHeldn => ?_)
                          clear hK K
                          try simp only [List.getElem_toArray, List.getElem_cons_zero, List.getElem_cons_succ, Act.put, List.setIfInBounds_toArray, List.set_cons_zero, List.set_cons_succ]
                          exact d_9_15_16 Wn b9 A15 c15 b16 ⟨beln, hHeldn, ownN, oFn⟩
                        refine AllReadyH.cons rfl (fun K hK => ?_) ?_
                        · simp only [List.getElem_toArray, List.getElem_cons_zero, List.getElem_cons_succ]
                          go_simp
                          obtain ⟨Wn, hWn⟩ : ∃ z, z = (W.alloc (.cells #[.string ⟨#[]⟩, .string ⟨#[]⟩, .int .i64 0, .int .i64 0, .int .i64 0, .int .i64 0, .slice none 0 0, .slice none 0 0] 38)) := ⟨_, rfl⟩
                          rw [← hWn]
                          have stn : Below W.heap.size W Wn := by rw [hWn]; exact (bal (Below.refl W.heap.size W) _)
                          have beln : Below w5.heap.size w5 Wn := bgo bel stn
                          have oDn := own_below oD stn
                          have oFn := own_below oF stn
                          obtain ⟨bX, hbn⟩ : ∃ z, z = W.heap.size := ⟨_, rfl⟩
                          have gXn : Wn.heap[bX]? = some (.cells #[.string ⟨#[]⟩, .string ⟨#[]⟩, .int .i64 0, .int .i64 0, .int .i64 0, .int .i64 0, .slice none 0 0, .slice none 0 0] 38) := by rw [hWn, hbn]; exact World.alloc_heap_new _ _
                          have hXn : w5.heap.size ≤ bX := by rw [hbn]; exact bel.size
                          try rw [← hbn]
                          clear hWn hbn
                          refine hK.out _ Wn (H5.out.1.go beln) (fun hHeldn => ?_)
                          clear hK K
                          try simp only [List.getElem_toArray, List.getElem_cons_zero, List.getElem_cons_succ, Act.put, List.setIfInBounds_toArray, List.set_cons_zero, List.set_cons_succ]
                          exact d_9_16_25 Wn b9 b16 bX ⟨beln, hHeldn, oDn, oFn, gXn, hXn⟩
                        exact AllReadyH.nil
                    case h2 =>
                      intro W b9 bX hF
                      obtain ⟨bel, hHeld, oD, gX, hX⟩ := hF
                      refine wpAnyH_ready (rs := [15, 16]) (by kernel_rfl) (by simp) ?_
                      refine AllReadyH.cons rfl (fun K hK => ?_) ?_
                      · refine step_src (w0 := w5) (by rfl) _ _ 33 (by rfl) 29 j0 _ 1 8 Tryd.underlying33 hj0 hj1 hj2 hj3 (by rfl) (by decide) ((.slice (some ⟨b9, 0, none⟩) 0 18)) (0) ([]) (by rfl) (oD) (bel) (.slice eA 18 eac) (18) ((u64V (chT ⟨xe, xp, xm, xg, xx⟩ 0))) (by rfl) (Hs1.out W bel) (u64s_one _) (by unfold maxLen; omega) (by omega) ?_
                        intro vn Wn ownn beln keptn
                        have gXn := keptn.box oD gX (by decide)
                        have ownN : Wn.ownsRow w5.heap.size 29 1 vn 18 (u64V (chT ⟨xe, xp, xm, xg, xx⟩ 0)) := by (have h := ownn; rw [List.nil_append] at h; exact h)
                        obtain ⟨A15, c15, hvn, _, _, _⟩ := own_slice2 ownN
                        subst hvn
                        clear ownn keptn
                        refine hK.out _ Wn (H5.out.1.go beln) (fun hHeldn => ?_)
                        clear hK K
                        try simp only [List.getElem_toArray, List.getElem_cons_zero, List.getElem_cons_succ, Act.put, List.setIfInBounds_toArray, List.set_cons_zero, List.set_cons_succ]
                        exact d_9_15_25 Wn b9 A15 c15 bX ⟨beln, hHeldn, ownN, gXn, hX⟩
                      refine AllReadyH.cons rfl (fun K hK => ?_) ?_
                      · simp only [List.getElem_toArray, List.getElem_cons_zero, List.getElem_cons_succ]
                        go_simp
                        obtain ⟨Wn, hWn⟩ : ∃ z, z = (W.alloc (.cells mkF3 41)) := ⟨_, rfl⟩
                        rw [← hWn]
                        have stn : Below W.heap.size W Wn := by rw [hWn]; exact (bal (Below.refl W.heap.size W) _)
                        have beln : Below w5.heap.size w5 Wn := bgo bel stn
                        have oDn := own_below oD stn
                        have gXn := blk_go' gX stn
                        obtain ⟨b16, hbn⟩ : ∃ z, z = W.heap.size := ⟨_, rfl⟩
                        have oFn : Wn.ownsRow w5.heap.size 41 2 (.slice (some ⟨b16, 0, none⟩) 0 3) 0 [] := by rw [hWn, hbn]; exact hn_mk W mkF3 3 41 2 rfl (by decide) _ (bel.size)
                        try rw [← hbn]
                        clear hWn hbn
                        refine hK.out _ Wn (H5.out.1.go beln) (fun hHeldn => ?_)
                        clear hK K
                        try simp only [List.getElem_toArray, List.getElem_cons_zero, List.getElem_cons_succ, Act.put, List.setIfInBounds_toArray, List.set_cons_zero, List.set_cons_succ]
                        exact d_9_16_25 Wn b9 b16 bX ⟨beln, hHeldn, oDn, oFn, gXn, hX⟩
                      exact AllReadyH.nil
                  case h2 =>
                    intro W b16 bX hF
                    obtain ⟨bel, hHeld, oF, gX, hX⟩ := hF
                    refine wpAnyH_ready (rs := [9]) (by kernel_rfl) (by simp) ?_
                    refine AllReadyH.cons rfl (fun K hK => ?_) ?_
                    · simp only [List.getElem_toArray, List.getElem_cons_zero, List.getElem_cons_succ]
                      go_simp
                      obtain ⟨Wn, hWn⟩ : ∃ z, z = (W.alloc (.cells mkD18 29)) := ⟨_, rfl⟩
                      rw [← hWn]
                      have stn : Below W.heap.size W Wn := by rw [hWn]; exact (bal (Below.refl W.heap.size W) _)
                      have beln : Below w5.heap.size w5 Wn := bgo bel stn
                      have oFn := own_below oF stn
                      have gXn := blk_go' gX stn
                      obtain ⟨b9, hbn⟩ : ∃ z, z = W.heap.size := ⟨_, rfl⟩
                      have oDn : Wn.ownsRow w5.heap.size 29 1 (.slice (some ⟨b9, 0, none⟩) 0 18) 0 [] := by rw [hWn, hbn]; exact hn_mk W mkD18 18 29 1 rfl (by decide) _ (bel.size)
                      try rw [← hbn]
                      clear hWn hbn
                      refine hK.out _ Wn (H5.out.1.go beln) (fun hHeldn => ?_)
                      clear hK K
                      try simp only [List.getElem_toArray, List.getElem_cons_zero, List.getElem_cons_succ, Act.put, List.setIfInBounds_toArray, List.set_cons_zero, List.set_cons_succ]
                      exact d_9_16_25 Wn b9 b16 bX ⟨beln, hHeldn, oDn, oFn, gXn, hX⟩
                    exact AllReadyH.nil
                case h2 =>
                  intro W b9 A15 c15 b16 hF
                  obtain ⟨bel, hHeld, oD, oF⟩ := hF
                  refine wpAnyH_ready (rs := [22, 25]) (by kernel_rfl) (by simp) ?_
                  refine AllReadyH.cons rfl (fun K hK => ?_) ?_
                  · refine step_src (w0 := w5) (by rfl) _ _ 34 (by rfl) 41 i0 _ 2 16 Tryd.underlying34 hi0 hi1 hi2 hi3 (by rfl) (by decide) ((.slice (some ⟨b16, 0, none⟩) 0 3)) (0) ([]) (by rfl) (oF) (bel) (.slice eB 3 ebc) (3) ((forkV pq)) (by rfl) (Hs2.out W bel) (forks_one _) (by unfold maxLen; omega) (by omega) ?_
                    intro vn Wn ownn beln keptn
                    have oDn := keptn.row oF oD (by decide)
                    have ownN : Wn.ownsRow w5.heap.size 41 2 vn 3 (forkV pq) := by (have h := ownn; rw [List.nil_append] at h; exact h)
                    obtain ⟨A22, c22, hvn, _, _, _⟩ := own_slice2 ownN
                    subst hvn
                    clear ownn keptn
                    refine hK.out _ Wn (H5.out.1.go beln) (fun hHeldn => ?_)
                    clear hK K
                    try simp only [List.getElem_toArray, List.getElem_cons_zero, List.getElem_cons_succ, Act.put, List.setIfInBounds_toArray, List.set_cons_zero, List.set_cons_succ]
                    refine wpAnyH_take (i := 23) (v := ?_) rfl (by kernel_rfl) (by kernel_rfl) (by kernel_rfl) (fun _ _ _ h => h) (Or.inl ⟨by kernel_rfl, ?_⟩) (by assumption) ?_
                    rotate_left
                    · intro w hSw
                      (try dsimp only at hSw)
                      go_simp
                      first | done | with_reducible rfl
                    simp only [List.getElem_toArray, List.getElem_cons_zero, List.getElem_cons_succ, Act.put, List.setIfInBounds_toArray, List.set_cons_zero, List.set_cons_succ]
                    refine wpAnyH_take (i := 24) (v := ?_) rfl (by kernel_rfl) (by kernel_rfl) (by kernel_rfl) (fun _ _ _ h => h) (Or.inl ⟨by kernel_rfl, ?_⟩) (by assumption) ?_
                    rotate_left
                    · intro w hSw
                      (try dsimp only at hSw)
                      go_simp
                      first | done | with_reducible rfl
                    simp only [List.getElem_toArray, List.getElem_cons_zero, List.getElem_cons_succ, Act.put, List.setIfInBounds_toArray, List.set_cons_zero, List.set_cons_succ]
                    exact d_9_15_16_22 Wn b9 A15 c15 b16 A22 c22 ⟨beln, hHeldn, oDn, ownN⟩
                  refine AllReadyH.cons rfl (fun K hK => ?_) ?_
                  · simp only [List.getElem_toArray, List.getElem_cons_zero, List.getElem_cons_succ]
                    go_simp
                    obtain ⟨Wn, hWn⟩ : ∃ z, z = (W.alloc (.cells #[.string ⟨#[]⟩, .string ⟨#[]⟩, .int .i64 0, .int .i64 0, .int .i64 0, .int .i64 0, .slice none 0 0, .slice none 0 0] 38)) := ⟨_, rfl⟩
                    rw [← hWn]
                    have stn : Below W.heap.size W Wn := by rw [hWn]; exact (bal (Below.refl W.heap.size W) _)
                    have beln : Below w5.heap.size w5 Wn := bgo bel stn
                    have oDn := own_below oD stn
                    have oFn := own_below oF stn
                    obtain ⟨bX, hbn⟩ : ∃ z, z = W.heap.size := ⟨_, rfl⟩
                    have gXn : Wn.heap[bX]? = some (.cells #[.string ⟨#[]⟩, .string ⟨#[]⟩, .int .i64 0, .int .i64 0, .int .i64 0, .int .i64 0, .slice none 0 0, .slice none 0 0] 38) := by rw [hWn, hbn]; exact World.alloc_heap_new _ _
                    have hXn : w5.heap.size ≤ bX := by rw [hbn]; exact bel.size
                    try rw [← hbn]
                    clear hWn hbn
                    refine hK.out _ Wn (H5.out.1.go beln) (fun hHeldn => ?_)
                    clear hK K
                    try simp only [List.getElem_toArray, List.getElem_cons_zero, List.getElem_cons_succ, Act.put, List.setIfInBounds_toArray, List.set_cons_zero, List.set_cons_succ]
                    exact d_9_15_16_25 Wn b9 A15 c15 b16 bX ⟨beln, hHeldn, oDn, oFn, gXn, hXn⟩
                  exact AllReadyH.nil
              case h2 =>
                intro W b9 A15 c15 bX hF
                obtain ⟨bel, hHeld, oD, gX, hX⟩ := hF
                refine wpAnyH_ready (rs := [16]) (by kernel_rfl) (by simp) ?_
                refine AllReadyH.cons rfl (fun K hK => ?_) ?_
                · simp only [List.getElem_toArray, List.getElem_cons_zero, List.getElem_cons_succ]
                  go_simp
                  obtain ⟨Wn, hWn⟩ : ∃ z, z = (W.alloc (.cells mkF3 41)) := ⟨_, rfl⟩
                  rw [← hWn]
                  have stn : Below W.heap.size W Wn := by rw [hWn]; exact (bal (Below.refl W.heap.size W) _)
                  have beln : Below w5.heap.size w5 Wn := bgo bel stn
                  have oDn := own_below oD stn
                  have gXn := blk_go' gX stn
                  obtain ⟨b16, hbn⟩ : ∃ z, z = W.heap.size := ⟨_, rfl⟩
                  have oFn : Wn.ownsRow w5.heap.size 41 2 (.slice (some ⟨b16, 0, none⟩) 0 3) 0 [] := by rw [hWn, hbn]; exact hn_mk W mkF3 3 41 2 rfl (by decide) _ (bel.size)
                  try rw [← hbn]
                  clear hWn hbn
                  refine hK.out _ Wn (H5.out.1.go beln) (fun hHeldn => ?_)
                  clear hK K
                  try simp only [List.getElem_toArray, List.getElem_cons_zero, List.getElem_cons_succ, Act.put, List.setIfInBounds_toArray, List.set_cons_zero, List.set_cons_succ]
                  exact d_9_15_16_25 Wn b9 A15 c15 b16 bX ⟨beln, hHeldn, oDn, oFn, gXn, hX⟩
                exact AllReadyH.nil
            case h2 =>
              intro W b9 b16 bX hF
              obtain ⟨bel, hHeld, oD, oF, gX, hX⟩ := hF
              refine wpAnyH_ready (rs := [15]) (by kernel_rfl) (by simp) ?_
              refine AllReadyH.cons rfl (fun K hK => ?_) ?_
              · refine step_src (w0 := w5) (by rfl) _ _ 33 (by rfl) 29 j0 _ 1 8 Tryd.underlying33 hj0 hj1 hj2 hj3 (by rfl) (by decide) ((.slice (some ⟨b9, 0, none⟩) 0 18)) (0) ([]) (by rfl) (oD) (bel) (.slice eA 18 eac) (18) ((u64V (chT ⟨xe, xp, xm, xg, xx⟩ 0))) (by rfl) (Hs1.out W bel) (u64s_one _) (by unfold maxLen; omega) (by omega) ?_
                intro vn Wn ownn beln keptn
                have oFn := keptn.row oD oF (by decide)
                have gXn := keptn.box oD gX (by decide)
                have ownN : Wn.ownsRow w5.heap.size 29 1 vn 18 (u64V (chT ⟨xe, xp, xm, xg, xx⟩ 0)) := by (have h := ownn; rw [List.nil_append] at h; exact h)
                obtain ⟨A15, c15, hvn, _, _, _⟩ := own_slice2 ownN
                subst hvn
                clear ownn keptn
                refine hK.out _ Wn (H5.out.1.go beln) (fun hHeldn => ?_)
                clear hK K
                try simp only [List.getElem_toArray, List.getElem_cons_zero, List.getElem_cons_succ, Act.put, List.setIfInBounds_toArray, List.set_cons_zero, List.set_cons_succ]
                exact d_9_15_16_25 Wn b9 A15 c15 b16 bX ⟨beln, hHeldn, ownN, oFn, gXn, hX⟩
              exact AllReadyH.nil
          case h2 =>
            intro W b9 A15 c15 b16 A22 c22 hF
            obtain ⟨bel, hHeld, oD, oF⟩ := hF
            refine wpAnyH_ready (rs := [25]) (by kernel_rfl) (by simp) ?_
            refine AllReadyH.cons rfl (fun K hK => ?_) ?_
            · simp only [List.getElem_toArray, List.getElem_cons_zero, List.getElem_cons_succ]
              go_simp
              obtain ⟨Wn, hWn⟩ : ∃ z, z = (W.alloc (.cells #[.string ⟨#[]⟩, .string ⟨#[]⟩, .int .i64 0, .int .i64 0, .int .i64 0, .int .i64 0, .slice none 0 0, .slice none 0 0] 38)) := ⟨_, rfl⟩
              rw [← hWn]
              have stn : Below W.heap.size W Wn := by rw [hWn]; exact (bal (Below.refl W.heap.size W) _)
              have beln : Below w5.heap.size w5 Wn := bgo bel stn
              have oDn := own_below oD stn
              have oFn := own_below oF stn
              obtain ⟨bX, hbn⟩ : ∃ z, z = W.heap.size := ⟨_, rfl⟩
              have gXn : Wn.heap[bX]? = some (.cells #[.string ⟨#[]⟩, .string ⟨#[]⟩, .int .i64 0, .int .i64 0, .int .i64 0, .int .i64 0, .slice none 0 0, .slice none 0 0] 38) := by rw [hWn, hbn]; exact World.alloc_heap_new _ _
              have hXn : w5.heap.size ≤ bX := by rw [hbn]; exact bel.size
              try rw [← hbn]
              clear hWn hbn
              refine hK.out _ Wn (H5.out.1.go beln) (fun hHeldn => ?_)
              clear hK K
              try simp only [List.getElem_toArray, List.getElem_cons_zero, List.getElem_cons_succ, Act.put, List.setIfInBounds_toArray, List.set_cons_zero, List.set_cons_succ]
              exact d_9_15_16_22_25 Wn b9 A15 c15 b16 A22 c22 bX ⟨beln, hHeldn, oDn, oFn, gXn, hXn⟩
            exact AllReadyH.nil
        case h2 =>
          intro W b9 A15 c15 b16 bX hF
          obtain ⟨bel, hHeld, oD, oF, gX, hX⟩ := hF
          refine wpAnyH_ready (rs := [22]) (by kernel_rfl) (by simp) ?_
          refine AllReadyH.cons rfl (fun K hK => ?_) ?_
          · refine step_src (w0 := w5) (by rfl) _ _ 34 (by rfl) 41 i0 _ 2 16 Tryd.underlying34 hi0 hi1 hi2 hi3 (by rfl) (by decide) ((.slice (some ⟨b16, 0, none⟩) 0 3)) (0) ([]) (by rfl) (oF) (bel) (.slice eB 3 ebc) (3) ((forkV pq)) (by rfl) (Hs2.out W bel) (forks_one _) (by unfold maxLen; omega) (by omega) ?_
            intro vn Wn ownn beln keptn
            have oDn := keptn.row oF oD (by decide)
            have gXn := keptn.box oF gX (by decide)
            have ownN : Wn.ownsRow w5.heap.size 41 2 vn 3 (forkV pq) := by (have h := ownn; rw [List.nil_append] at h; exact h)
            obtain ⟨A22, c22, hvn, _, _, _⟩ := own_slice2 ownN
            subst hvn
            clear ownn keptn
            refine hK.out _ Wn (H5.out.1.go beln) (fun hHeldn => ?_)
            clear hK K
            try simp only [List.getElem_toArray, List.getElem_cons_zero, List.getElem_cons_succ, Act.put, List.setIfInBounds_toArray, List.set_cons_zero, List.set_cons_succ]
            refine wpAnyH_take (i := 23) (v := ?_) rfl (by kernel_rfl) (by kernel_rfl) (by kernel_rfl) (fun _ _ _ h => h) (Or.inl ⟨by kernel_rfl, ?_⟩) (by assumption) ?_
            rotate_left
            · intro w hSw
              (try dsimp only at hSw)
              go_simp
              first | done | with_reducible rfl
            simp only [List.getElem_toArray, List.getElem_cons_zero, List.getElem_cons_succ, Act.put, List.setIfInBounds_toArray, List.set_cons_zero, List.set_cons_succ]
            refine wpAnyH_take (i := 24) (v := ?_) rfl (by kernel_rfl) (by kernel_rfl) (by kernel_rfl) (fun _ _ _ h => h) (Or.inl ⟨by kernel_rfl, ?_⟩) (by assumption) ?_
            rotate_left
            · intro w hSw
              (try dsimp only at hSw)
              go_simp
              first | done | with_reducible rfl
            simp only [List.getElem_toArray, List.getElem_cons_zero, List.getElem_cons_succ, Act.put, List.setIfInBounds_toArray, List.set_cons_zero, List.set_cons_succ]
            exact d_9_15_16_22_25 Wn b9 A15 c15 b16 A22 c22 bX ⟨beln, hHeldn, oDn, ownN, gXn, hX⟩
          exact AllReadyH.nil
      case h2 =>
        intro W b9 A15 c15 b16 A22 c22 bX hF
        obtain ⟨bel, hHeld, oD, oF, gX, hX⟩ := hF
        refine wpAnyH_ready (rs := [26]) (by kernel_rfl) (by simp) ?_
        refine AllReadyH.cons rfl (fun K hK => ?_) ?_
        · simp only [List.getElem_toArray, List.getElem_cons_zero, List.getElem_cons_succ]
          have x0 : W.cell? ⟨bX, 0, none⟩ = some (.string ⟨#[]⟩) := by rw [Lib.cell_of_heap gX]; rfl
          have x1 : W.cell? ⟨bX, 1, none⟩ = some (.string ⟨#[]⟩) := by rw [Lib.cell_of_heap gX]; rfl
          have x2 : W.cell? ⟨bX, 2, none⟩ = some (.int .i64 0) := by rw [Lib.cell_of_heap gX]; rfl
          have x3 : W.cell? ⟨bX, 3, none⟩ = some (.int .i64 0) := by rw [Lib.cell_of_heap gX]; rfl
          have x4 : W.cell? ⟨bX, 4, none⟩ = some (.int .i64 0) := by rw [Lib.cell_of_heap gX]; rfl
          have x5 : W.cell? ⟨bX, 5, none⟩ = some (.int .i64 0) := by rw [Lib.cell_of_heap gX]; rfl
          have x6 : W.cell? ⟨bX, 6, none⟩ = some (.slice none 0 0) := by rw [Lib.cell_of_heap gX]; rfl
          have x7 : W.cell? ⟨bX, 7, none⟩ = some (.slice none 0 0) := by rw [Lib.cell_of_heap gX]; rfl
          have yX : ∀ j, W.frozen? ⟨bX, j, none⟩ = false := fun j => Lib.frozen_of_heap gX j
          go_simp
          clear x0 x1 x2 x3 x4 x5 x6 x7 yX
          obtain ⟨W8, hW8⟩ : ∃ z, z = ((((((((W.setCell ⟨bX, 0, none⟩ (.string xe)).setCell ⟨bX, 1, none⟩ (.string xp)).setCell ⟨bX, 2, none⟩ (.int .i64 xm)).setCell ⟨bX, 3, none⟩ (.int .i64 xg)).setCell ⟨bX, 4, none⟩ (.int .i64 xx)).setCell ⟨bX, 5, none⟩ (.int .i64 0)).setCell ⟨bX, 6, none⟩ (.slice A15 18 c15)).setCell ⟨bX, 7, none⟩ (.slice A22 3 c22)) := ⟨_, rfl⟩
          rw [← hW8]
          have hot : ∀ b, b ≠ bX → W8.heap[b]? = W.heap[b]? := fun b h => by rw [hW8]; exact heap_set8 _ _ _ _ _ _ _ _ _ _ _ h
          have g8 : W8.heap[bX]? = some (.cells #[.string xe, .string xp, .int .i64 xm, .int .i64 xg, .int .i64 xx, .int .i64 0, .slice A15 18 c15, .slice A22 3 c22] 38 (0, 0)) := by rw [hW8]; exact setCell_heap (setCell_heap (setCell_heap (setCell_heap (setCell_heap (setCell_heap (setCell_heap (setCell_heap gX)))))))
          have hB8 : Below w5.heap.size w5 W8 := by rw [hW8]; exact below_set8 bel hX _ _ _ _ _ _ _ _
          have o1 := own_keep oD (fun g hg => hot g (fun e => own_ne oD gX (by decide) (by rw [hg]; exact congrArg some e)))
          have o2 := own_keep oF (fun g hg => hot g (fun e => own_ne oF gX (by decide) (by rw [hg]; exact congrArg some e)))
          clear hW8 hot
          refine hK.out _ W8 (H5.out.1.go hB8) (fun hHeldn => ?_)
          clear hK K
          try simp only [List.getElem_toArray, List.getElem_cons_zero, List.getElem_cons_succ, Act.put, List.setIfInBounds_toArray, List.set_cons_zero, List.set_cons_succ]
          exact d_9_15_16_22_25_26 W8 b9 A15 c15 b16 A22 c22 bX ⟨hB8, hHeldn, o1, o2, g8, hX⟩
        exact AllReadyH.nil
    case h2 =>
      intro W b9 A15 c15 b16 A22 c22 bX hF
      obtain ⟨bel, hHeld, o1, o2, g8, hX⟩ := hF
      refine wpAnyH_done (by kernel_rfl) ?_ _
      dsimp only [NoPanic]
      clear hHeld
      go_wp2_with fail
      go_meet
      exact ⟨_, _, _, _, _, rfl, ⟨g8, o1, o2, chT_len _ _, Hpq.out, hX⟩, bel⟩
  case rest =>
    obtain ⟨X, Ac, ca, Bc, cb, rfl, hAlt, hBc⟩ := hcut
    obtain ⟨w6, hw6⟩ : ∃ z, z = wc := ⟨_, rfl⟩
    subst hw6
    have hw5 : w.heap.size ≤ w5.heap.size := H5.out.2.2.2.2.size
    have H6 := Lib.hid (And.intro (blk_go' H5.out.2.2.2.1 hBc) (bgo H5.out.2.2.2.2 hBc))
    have HAlt := Lib.hid (AltB.mk (base := w.heap.size) hAlt.bx (own_mono hAlt.oa hw5) (own_mono hAlt.ob hw5) hAlt.cl hAlt.pl (Nat.le_trans hw5 hAlt.xb))
    clear hAlt hBc hw5 hmkD hmkF Hs1 Hs2 HG
    have k0 : w6.cell? ⟨B, 0, none⟩ = some (.int .i64 b0) := by rw [Lib.cell_of_heap H6.out.1]; rfl
    have k1 : w6.cell? ⟨B, 1, none⟩ = some (.int .i64 b1) := by rw [Lib.cell_of_heap H6.out.1]; rfl
    have k2 : w6.cell? ⟨B, 2, none⟩ = some (.int .i64 b2) := by rw [Lib.cell_of_heap H6.out.1]; rfl
    have k3 : w6.cell? ⟨B, 3, none⟩ = some (.int .i64 b3) := by rw [Lib.cell_of_heap H6.out.1]; rfl
    go_wp2_with fail
    refine (made_any b0 b1 b2 b3 oe op om og ox Ho Sb.1 Sb.2.1 Sb.2.2.1 Sb.2.2.2 w6).mono ?_
    rintro e w7 ⟨rfl, hB7⟩
    clear k0 k1 k2 k3
    go_upto_region 8 with fail
    obtain ⟨V8, hV8⟩ : ∃ W, W = w7.alloc (.cells #[.string oe, .string op, .int .i64 om, .int .i64 og, .int .i64 ox] 25) := ⟨_, rfl⟩
    obtain ⟨O, hO⟩ : ∃ i, i = w7.heap.size := ⟨_, rfl⟩
    rw [← hV8, ← hO]
    have gO : V8.heap[O]? = some (.cells #[.string oe, .string op, .int .i64 om, .int .i64 og, .int .i64 ox] 25) := by rw [hV8, hO]; exact World.alloc_heap_new _ _
    have hB8 : Below w6.heap.size w6 V8 := by rw [hV8]; exact bal hB7 _
    clear hV8 hO hB7
    have hAlt := HAlt.out.go hB8
    have hb8 := bgo H6.out.2 hB8
    have hXO : X ≠ O := by
      intro e
      have h1 := hAlt.bx
      rw [e, gO] at h1
      injection h1 with h1
      injection h1 with h1 h2
      exact absurd h2 (by decide)
    have H8 := Lib.hid (And.intro hAlt (And.intro gO hb8))
    clear hAlt gO hb8 hB8
    go_wp2_with fail
    refine (pick_at kind 9 p Hp V8 wk (by decide) (by decide)).mono ?_
    rintro e wq ⟨rfl, hwq⟩
    obtain rfl := hwq
    go_upto_block 0 with fail
    go_cut [14] (fun v wc => AltS w X v wc)
    case first =>
      have hXw : w.heap.size ≤ X := H8.out.1.xb
      have hXn : ¬ X = O := hXO
      have hcase : p = 0 ∨ p = 1 ∨ p = 2 ∨ p = 3 ∨ p = 4 ∨ p = 5 ∨ p = 6 ∨ p = 7 ∨ p = 8 := by omega
      rcases hcase with hpk | hpk | hpk | hpk | hpk | hpk | hpk | hpk | hpk
      · subst hpk
        have hc0 : ((0 : Int) == 0) = true := by decide
        have kO : V8.cell? ⟨O, 0, none⟩ = some (.string oe) := by rw [Lib.cell_of_heap H8.out.2.1]; rfl
        have kX : V8.cell? ⟨X, 0, none⟩ = some (.string xe) := by rw [Lib.cell_of_heap H8.out.1.bx]; rfl
        have fX : V8.frozen? ⟨X, 0, none⟩ = false := Lib.frozen_of_heap H8.out.1.bx 0
        go_wp2_with fail
        go_meet
        exact ⟨⟨oe, xp, xm, xg, xx⟩, 0, _, _, _, _, _, _, rt, rfl, H8.out.1.set ⟨oe, xp, xm, xg, xx⟩ 0 0 _ rfl, Hmx.out.1, H8.out.2.2.setCell hXw _⟩
      · subst hpk
        have hc0 : ((1 : Int) == 0) = false := by decide
        have hc1 : ((1 : Int) == 1) = true := by decide
        have kO : V8.cell? ⟨O, 1, none⟩ = some (.string op) := by rw [Lib.cell_of_heap H8.out.2.1]; rfl
        have kX : V8.cell? ⟨X, 1, none⟩ = some (.string xp) := by rw [Lib.cell_of_heap H8.out.1.bx]; rfl
        have fX : V8.frozen? ⟨X, 1, none⟩ = false := Lib.frozen_of_heap H8.out.1.bx 1
        go_wp2_with fail
        go_meet
        exact ⟨⟨xe, op, xm, xg, xx⟩, 0, _, _, _, _, _, _, rt, rfl, H8.out.1.set ⟨xe, op, xm, xg, xx⟩ 0 1 _ rfl, Hmx.out.2.1, H8.out.2.2.setCell hXw _⟩
      · subst hpk
        have hc0 : ((2 : Int) == 0) = false := by decide
        have hc1 : ((2 : Int) == 1) = false := by decide
        have hc2 : ((2 : Int) == 2) = true := by decide
        have kO : V8.cell? ⟨O, 2, none⟩ = some (.int .i64 om) := by rw [Lib.cell_of_heap H8.out.2.1]; rfl
        have kX : V8.cell? ⟨X, 2, none⟩ = some (.int .i64 xm) := by rw [Lib.cell_of_heap H8.out.1.bx]; rfl
        have fX : V8.frozen? ⟨X, 2, none⟩ = false := Lib.frozen_of_heap H8.out.1.bx 2
        go_wp2_with fail
        go_meet
        exact ⟨⟨xe, xp, om, xg, xx⟩, 0, _, _, _, _, _, _, rt, rfl, H8.out.1.set ⟨xe, xp, om, xg, xx⟩ 0 2 _ rfl, Hmx.out.2.2.1, H8.out.2.2.setCell hXw _⟩
      · subst hpk
        have hc0 : ((3 : Int) == 0) = false := by decide
        have hc1 : ((3 : Int) == 1) = false := by decide
        have hc2 : ((3 : Int) == 2) = false := by decide
        have hc3 : ((3 : Int) == 3) = true := by decide
        have kO : V8.cell? ⟨O, 3, none⟩ = some (.int .i64 og) := by rw [Lib.cell_of_heap H8.out.2.1]; rfl
        have kX : V8.cell? ⟨X, 3, none⟩ = some (.int .i64 xg) := by rw [Lib.cell_of_heap H8.out.1.bx]; rfl
        have fX : V8.frozen? ⟨X, 3, none⟩ = false := Lib.frozen_of_heap H8.out.1.bx 3
        go_wp2_with fail
        go_meet
        exact ⟨⟨xe, xp, xm, og, xx⟩, 0, _, _, _, _, _, _, rt, rfl, H8.out.1.set ⟨xe, xp, xm, og, xx⟩ 0 3 _ rfl, Hmx.out.2.2.2.1, H8.out.2.2.setCell hXw _⟩
      · subst hpk
        have hc0 : ((4 : Int) == 0) = false := by decide
        have hc1 : ((4 : Int) == 1) = false := by decide
        have hc2 : ((4 : Int) == 2) = false := by decide
        have hc3 : ((4 : Int) == 3) = false := by decide
        have hc4 : ((4 : Int) == 4) = true := by decide
        have kO : V8.cell? ⟨O, 4, none⟩ = some (.int .i64 ox) := by rw [Lib.cell_of_heap H8.out.2.1]; rfl
        have kX : V8.cell? ⟨X, 4, none⟩ = some (.int .i64 xx) := by rw [Lib.cell_of_heap H8.out.1.bx]; rfl
        have fX : V8.frozen? ⟨X, 4, none⟩ = false := Lib.frozen_of_heap H8.out.1.bx 4
        go_wp2_with fail
        go_meet
        exact ⟨⟨xe, xp, xm, xg, ox⟩, 0, _, _, _, _, _, _, rt, rfl, H8.out.1.set ⟨xe, xp, xm, xg, ox⟩ 0 4 _ rfl, Hmx.out.2.2.2.2, H8.out.2.2.setCell hXw _⟩
      · subst hpk
        have hc0 : ((5 : Int) == 0) = false := by decide
        have hc1 : ((5 : Int) == 1) = false := by decide
        have hc2 : ((5 : Int) == 2) = false := by decide
        have hc3 : ((5 : Int) == 3) = false := by decide
        have hc4 : ((5 : Int) == 4) = false := by decide
        have hc5 : ((5 : Int) == 5) = true := by decide
        have hw10 : IntKind.i64.wrap (p10 - 1) = p10 - 1 := IntWalk.i64_in _ (by omega)
        have kX : V8.cell? ⟨X, 5, none⟩ = some (.int .i64 0) := by rw [Lib.cell_of_heap H8.out.1.bx]; rfl
        have fX : V8.frozen? ⟨X, 5, none⟩ = false := Lib.frozen_of_heap H8.out.1.bx 5
        go_wp2_with fail
        refine (pick_at at_ 10 p10 H10 V8 wa (by decide) (by decide)).mono ?_
        rintro e wq ⟨rfl, hwq⟩
        obtain rfl := hwq
        go_wp2_with fail
        go_meet
        exact ⟨⟨xe, xp, xm, xg, xx⟩, p10 - 1, _, _, _, _, _, _, rt, rfl, H8.out.1.set ⟨xe, xp, xm, xg, xx⟩ (p10 - 1) 5 _ rfl, Hvx.out, H8.out.2.2.setCell hXw _⟩
      · subst hpk
        as_aux_lemma =>
          have hc0 : ((6 : Int) == 0) = false := by decide
          have hc1 : ((6 : Int) == 1) = false := by decide
          have hc2 : ((6 : Int) == 2) = false := by decide
          have hc3 : ((6 : Int) == 3) = false := by decide
          have hc4 : ((6 : Int) == 4) = false := by decide
          have hc5 : ((6 : Int) == 5) = false := by decide
          have hc6 : ((6 : Int) == 6) = true := by decide
          obtain ⟨g, cs, hA, hg, hgb, hcap⟩ := own_addr H8.out.1.oa (by decide)
          obtain ⟨z0, hz0⟩ := u64V_at _ p18 (by rw [H8.out.1.cl]; exact hp18b)
          have hcell : V8.cell? ⟨g, p18, none⟩ = some (.int .u64 z0.toNat) := by (have h := H8.out.1.oa.cells (g := g) (by rw [hA]; rfl) _ _ hz0; rw [Addr.add_lit, Nat.zero_add] at h; exact h)
          have hXg : ¬ X = g := by
            intro e
            have h1 := H8.out.1.bx
            rw [e, hg] at h1
            injection h1 with h1
            injection h1 with h1 h2
            exact absurd h2 (by decide)
          subst hA
          have HC := Lib.hid (And.intro hcell (And.intro hg hz0))
          have HS8 := Lib.hid (show V8.drew.heap[X]? = some (.cells #[.string xe, .string xp, .int .i64 xm, .int .i64 xg, .int .i64 xx, .int .i64 0, .slice (some ⟨g, 0, none⟩) 18 ca, .slice Bc 3 cb] 38) ∧ V8.drew.heap[g]? = some (.cells cs 29 (0, 0)) from ⟨H8.out.1.bx, hg⟩)
          have hqi : (p18 : Int) < 18 := by omega
          have hqk : 0 ≤ (pb : Int) ∧ (pb : Int) < 64 := by omega
          clear hcell hg hz0
          go_upto_region 23 with fail
          refine wp_region_noPanic ?_
          refine wp_region_held_drew (S := fun W' => W'.heap[X]? = some (.cells #[.string xe, .string xp, .int .i64 xm, .int .i64 xg, .int .i64 xx, .int .i64 0, .slice (some ⟨g, 0, none⟩) 18 ca, .slice Bc 3 cb] 38)) (by kernel_rfl) HS8.out.1 (fun hHeld => ?_)
          refine wpAnyH_take (i := 0) (v := ?_) rfl (by kernel_rfl) (by kernel_rfl) (by kernel_rfl) (fun _ _ _ h => h) (Or.inl ⟨by kernel_rfl, ?_⟩) (by assumption) ?_
          rotate_left
          · intro w hSw
            (try dsimp only at hSw)
            go_simp
            first | done | with_reducible rfl
          simp only [List.getElem_toArray, List.getElem_cons_zero, List.getElem_cons_succ, Act.put, List.setIfInBounds_toArray, List.set_cons_zero, List.set_cons_succ]
          refine wpAnyH_take (i := 1) (v := ?_) rfl (by kernel_rfl) (by kernel_rfl) (by kernel_rfl) (fun _ _ _ h => h) (Or.inl ⟨by kernel_rfl, ?_⟩) (by assumption) ?_
          rotate_left
          · intro w hSw
            (try dsimp only at hSw)
            go_simp
            first | done | with_reducible rfl
          simp only [List.getElem_toArray, List.getElem_cons_zero, List.getElem_cons_succ, Act.put, List.setIfInBounds_toArray, List.set_cons_zero, List.set_cons_succ]
          refine wpAnyH_take (i := 2) (v := ?_) rfl (by kernel_rfl) (by kernel_rfl) (by kernel_rfl) (fun _ _ _ h => h) (Or.inl ⟨by kernel_rfl, ?_⟩) (by assumption) ?_
          rotate_left
          · intro w hSw
            (try dsimp only at hSw)
            have z : w.cell? ⟨X, 6, none⟩ = some (.slice (some ⟨g, 0, none⟩) 18 ca) := by rw [Lib.cell_of_heap hSw]; rfl
            clear hSw
            go_simp
            first | done | with_reducible rfl
          simp only [List.getElem_toArray, List.getElem_cons_zero, List.getElem_cons_succ, Act.put, List.setIfInBounds_toArray, List.set_cons_zero, List.set_cons_succ]
          refine wpAnyH_take (i := 3) (v := ?_) rfl (by kernel_rfl) (by kernel_rfl) (by kernel_rfl) (fun _ _ _ h => h) (Or.inl ⟨by kernel_rfl, ?_⟩) (by assumption) ?_
          rotate_left
          · intro w hSw
            (try dsimp only at hSw)
            go_simp
            first | done | with_reducible rfl
          simp only [List.getElem_toArray, List.getElem_cons_zero, List.getElem_cons_succ, Act.put, List.setIfInBounds_toArray, List.set_cons_zero, List.set_cons_succ]
          refine wpAnyH_take (i := 7) (v := ?_) rfl (by kernel_rfl) (by kernel_rfl) (by kernel_rfl) (fun _ _ _ h => h) (Or.inl ⟨by kernel_rfl, ?_⟩) (by assumption) ?_
          rotate_left
          · intro w hSw
            (try dsimp only at hSw)
            go_simp
            first | done | with_reducible rfl
          simp only [List.getElem_toArray, List.getElem_cons_zero, List.getElem_cons_succ, Act.put, List.setIfInBounds_toArray, List.set_cons_zero, List.set_cons_succ]
          refine wpAnyH_ready (rs := [4]) (by kernel_rfl) (by simp) ?_
          refine AllReadyH.cons rfl (fun K hK => ?_) ?_
          · simp only [List.getElem_toArray, List.getElem_cons_zero, List.getElem_cons_succ]
            go_simp
            (with_reducible refine (pick_at at_ 18 (p18 : Int) H18 _ wa (by decide) (by decide)).mono ?_)
            rintro e wq ⟨rfl, hwq⟩
            obtain rfl := hwq
            dsimp only
            refine hK.out _ _ hHeld (fun hHeld => ?_)
            clear hK K
            try simp only [List.getElem_toArray, List.getElem_cons_zero, List.getElem_cons_succ, Act.put, List.setIfInBounds_toArray, List.set_cons_zero, List.set_cons_succ]
            refine wpAnyH_take (i := 5) (v := ?_) rfl (by kernel_rfl) (by kernel_rfl) (by kernel_rfl) (fun _ _ _ h => h) (Or.inl ⟨by kernel_rfl, ?_⟩) (by assumption) ?_
            rotate_left
            · intro w hSw
              (try dsimp only at hSw)
              go_simp
              first | done | with_reducible rfl
            simp only [List.getElem_toArray, List.getElem_cons_zero, List.getElem_cons_succ, Act.put, List.setIfInBounds_toArray, List.set_cons_zero, List.set_cons_succ]
            refine wpAnyH_ready (rs := [6, 8]) (by kernel_rfl) (by simp) ?_
            refine AllReadyH.cons rfl (fun K hK => ?_) ?_
            · simp only [List.getElem_toArray, List.getElem_cons_zero, List.getElem_cons_succ]
              have kc := HC.out.1
              go_simp
              clear kc
              refine hK.out _ _ hHeld (fun hHeld => ?_)
              clear hK K
              try simp only [List.getElem_toArray, List.getElem_cons_zero, List.getElem_cons_succ, Act.put, List.setIfInBounds_toArray, List.set_cons_zero, List.set_cons_succ]
              refine wpAnyH_ready (rs := [8]) (by kernel_rfl) (by simp) ?_
              refine AllReadyH.cons rfl (fun K hK => ?_) ?_
              · simp only [List.getElem_toArray, List.getElem_cons_zero, List.getElem_cons_succ]
                go_simp
                (with_reducible refine (pick_at bit 64 (pb : Int) Hpb _ wbi (by decide) (by decide)).mono ?_)
                rintro e wq ⟨rfl, hwq⟩
                obtain rfl := hwq
                dsimp only
                refine hK.out _ _ hHeld (fun hHeld => ?_)
                clear hK K
                try simp only [List.getElem_toArray, List.getElem_cons_zero, List.getElem_cons_succ, Act.put, List.setIfInBounds_toArray, List.set_cons_zero, List.set_cons_succ]
                refine wpAnyH_take (i := 9) (v := ?_) rfl (by kernel_rfl) (by kernel_rfl) (by kernel_rfl) (fun _ _ _ h => h) (Or.inl ⟨by kernel_rfl, ?_⟩) (by assumption) ?_
                rotate_left
                · intro w hSw
                  (try dsimp only at hSw)
                  go_simp
                  first | done | with_reducible rfl
                simp only [List.getElem_toArray, List.getElem_cons_zero, List.getElem_cons_succ, Act.put, List.setIfInBounds_toArray, List.set_cons_zero, List.set_cons_succ]
                refine wpAnyH_take (i := 10) (v := ?_) rfl (by kernel_rfl) (by kernel_rfl) (by kernel_rfl) (fun _ _ _ h => h) (Or.inl ⟨by kernel_rfl, ?_⟩) (by assumption) ?_
                rotate_left
                · intro w hSw
                  (try dsimp only at hSw)
                  go_simp
                  first | done | with_reducible rfl
                simp only [List.getElem_toArray, List.getElem_cons_zero, List.getElem_cons_succ, Act.put, List.setIfInBounds_toArray, List.set_cons_zero, List.set_cons_succ]
                refine wpAnyH_take (i := 11) (v := ?_) rfl (by kernel_rfl) (by kernel_rfl) (by kernel_rfl) (fun _ _ _ h => h) (Or.inl ⟨by kernel_rfl, ?_⟩) (by assumption) ?_
                rotate_left
                · intro w hSw
                  (try dsimp only at hSw)
                  go_simp
                  first | done | with_reducible rfl
                simp only [List.getElem_toArray, List.getElem_cons_zero, List.getElem_cons_succ, Act.put, List.setIfInBounds_toArray, List.set_cons_zero, List.set_cons_succ]
                refine wpAnyH_ready (rs := [12]) (by kernel_rfl) (by simp) ?_
                refine AllReadyH.cons rfl (fun K hK => ?_) ?_
                · simp only [List.getElem_toArray, List.getElem_cons_zero, List.getElem_cons_succ]
                  have kc := HC.out.1
                  have kf : V8.frozen? ⟨g, p18, none⟩ = false := Lib.frozen_of_heap HC.out.2.1 _
                  go_simp
                  clear kc kf
                  obtain ⟨z1, hz1⟩ := bits_u64 .xor (z0.toNat : Int) (IntKind.u64.wrap (2 ^ pb))
                  rw [hz1]
                  obtain ⟨W9, hW9⟩ : ∃ z, z = (V8.setCell ⟨g, p18, none⟩ (.int .u64 z1.toNat)).drew := ⟨_, rfl⟩
                  rw [← hW9]
                  have bx9 : (V8.setCell ⟨g, p18, none⟩ (.int .u64 z1.toNat)).heap[X]? = some (.cells #[.string xe, .string xp, .int .i64 xm, .int .i64 xg, .int .i64 xx, .int .i64 0, .slice (some ⟨g, 0, none⟩) 18 ca, .slice Bc 3 cb] 38) := (Below.heap_setCell _ _ _ _ hXg).trans H8.out.1.bx
                  have H9 : AltB w.heap.size X ⟨xe, xp, xm, xg, xx⟩ 0 (some ⟨g, 0, none⟩) ca ((chT ⟨xe, xp, xm, xg, xx⟩ 0).set p18 z1) Bc cb pq W9 := by rw [hW9]; exact AltB.drew ⟨bx9, by (have h := own_upd H8.out.1.oa (p18) (.int .u64 z1.toNat); rw [u64V_set] at h; exact h), own_set H8.out.1.ob HC.out.2.1 (by decide), by rw [List.length_set]; exact H8.out.1.cl, H8.out.1.pl, H8.out.1.xb⟩
                  have hB9 : Below w.heap.size w W9 := by rw [hW9]; exact (H8.out.2.2.setCell hgb _).drew
                  have hS9 : W9.heap[X]? = some (.cells #[.string xe, .string xp, .int .i64 xm, .int .i64 xg, .int .i64 xx, .int .i64 0, .slice (some ⟨g, 0, none⟩) 18 ca, .slice Bc 3 cb] 38) := H9.bx
                  clear hW9
                  refine hK.out _ _ hS9 (fun hHeld => ?_)
                  clear hK K
                  try simp only [List.getElem_toArray, List.getElem_cons_zero, List.getElem_cons_succ, Act.put, List.setIfInBounds_toArray, List.set_cons_zero, List.set_cons_succ]
                  refine wpAnyH_done (by kernel_rfl) ?_ _
                  dsimp only [NoPanic]
                  clear hHeld
                  go_wp2_with fail
                  go_meet
                  exact ⟨⟨xe, xp, xm, xg, xx⟩, 0, _, _, _, _, _, _, rt, rfl, H9, Hvx.out, hB9⟩
                exact AllReadyH.nil
              exact AllReadyH.nil
            refine AllReadyH.cons rfl (fun K hK => ?_) ?_
            · simp only [List.getElem_toArray, List.getElem_cons_zero, List.getElem_cons_succ]
              go_simp
              (with_reducible refine (pick_at bit 64 (pb : Int) Hpb _ wbi (by decide) (by decide)).mono ?_)
              rintro e wq ⟨rfl, hwq⟩
              obtain rfl := hwq
              dsimp only
              refine hK.out _ _ hHeld (fun hHeld => ?_)
              clear hK K
              try simp only [List.getElem_toArray, List.getElem_cons_zero, List.getElem_cons_succ, Act.put, List.setIfInBounds_toArray, List.set_cons_zero, List.set_cons_succ]
              refine wpAnyH_take (i := 9) (v := ?_) rfl (by kernel_rfl) (by kernel_rfl) (by kernel_rfl) (fun _ _ _ h => h) (Or.inl ⟨by kernel_rfl, ?_⟩) (by assumption) ?_
              rotate_left
              · intro w hSw
                (try dsimp only at hSw)
                go_simp
                first | done | with_reducible rfl
              simp only [List.getElem_toArray, List.getElem_cons_zero, List.getElem_cons_succ, Act.put, List.setIfInBounds_toArray, List.set_cons_zero, List.set_cons_succ]
              refine wpAnyH_ready (rs := [6]) (by kernel_rfl) (by simp) ?_
              refine AllReadyH.cons rfl (fun K hK => ?_) ?_
              · simp only [List.getElem_toArray, List.getElem_cons_zero, List.getElem_cons_succ]
                have kc := HC.out.1
                go_simp
                clear kc
                refine hK.out _ _ hHeld (fun hHeld => ?_)
                clear hK K
                try simp only [List.getElem_toArray, List.getElem_cons_zero, List.getElem_cons_succ, Act.put, List.setIfInBounds_toArray, List.set_cons_zero, List.set_cons_succ]
                refine wpAnyH_take (i := 10) (v := ?_) rfl (by kernel_rfl) (by kernel_rfl) (by kernel_rfl) (fun _ _ _ h => h) (Or.inl ⟨by kernel_rfl, ?_⟩) (by assumption) ?_
                rotate_left
                · intro w hSw
                  (try dsimp only at hSw)
                  go_simp
                  first | done | with_reducible rfl
                simp only [List.getElem_toArray, List.getElem_cons_zero, List.getElem_cons_succ, Act.put, List.setIfInBounds_toArray, List.set_cons_zero, List.set_cons_succ]
                refine wpAnyH_take (i := 11) (v := ?_) rfl (by kernel_rfl) (by kernel_rfl) (by kernel_rfl) (fun _ _ _ h => h) (Or.inl ⟨by kernel_rfl, ?_⟩) (by assumption) ?_
                rotate_left
                · intro w hSw
                  (try dsimp only at hSw)
                  go_simp
                  first | done | with_reducible rfl
                simp only [List.getElem_toArray, List.getElem_cons_zero, List.getElem_cons_succ, Act.put, List.setIfInBounds_toArray, List.set_cons_zero, List.set_cons_succ]
                refine wpAnyH_ready (rs := [12]) (by kernel_rfl) (by simp) ?_
                refine AllReadyH.cons rfl (fun K hK => ?_) ?_
                · simp only [List.getElem_toArray, List.getElem_cons_zero, List.getElem_cons_succ]
                  have kc := HC.out.1
                  have kf : V8.frozen? ⟨g, p18, none⟩ = false := Lib.frozen_of_heap HC.out.2.1 _
                  go_simp
                  clear kc kf
                  obtain ⟨z1, hz1⟩ := bits_u64 .xor (z0.toNat : Int) (IntKind.u64.wrap (2 ^ pb))
                  rw [hz1]
                  obtain ⟨W9, hW9⟩ : ∃ z, z = (V8.setCell ⟨g, p18, none⟩ (.int .u64 z1.toNat)).drew := ⟨_, rfl⟩
                  rw [← hW9]
                  have bx9 : (V8.setCell ⟨g, p18, none⟩ (.int .u64 z1.toNat)).heap[X]? = some (.cells #[.string xe, .string xp, .int .i64 xm, .int .i64 xg, .int .i64 xx, .int .i64 0, .slice (some ⟨g, 0, none⟩) 18 ca, .slice Bc 3 cb] 38) := (Below.heap_setCell _ _ _ _ hXg).trans H8.out.1.bx
                  have H9 : AltB w.heap.size X ⟨xe, xp, xm, xg, xx⟩ 0 (some ⟨g, 0, none⟩) ca ((chT ⟨xe, xp, xm, xg, xx⟩ 0).set p18 z1) Bc cb pq W9 := by rw [hW9]; exact AltB.drew ⟨bx9, by (have h := own_upd H8.out.1.oa (p18) (.int .u64 z1.toNat); rw [u64V_set] at h; exact h), own_set H8.out.1.ob HC.out.2.1 (by decide), by rw [List.length_set]; exact H8.out.1.cl, H8.out.1.pl, H8.out.1.xb⟩
                  have hB9 : Below w.heap.size w W9 := by rw [hW9]; exact (H8.out.2.2.setCell hgb _).drew
                  have hS9 : W9.heap[X]? = some (.cells #[.string xe, .string xp, .int .i64 xm, .int .i64 xg, .int .i64 xx, .int .i64 0, .slice (some ⟨g, 0, none⟩) 18 ca, .slice Bc 3 cb] 38) := H9.bx
                  clear hW9
                  refine hK.out _ _ hS9 (fun hHeld => ?_)
                  clear hK K
                  try simp only [List.getElem_toArray, List.getElem_cons_zero, List.getElem_cons_succ, Act.put, List.setIfInBounds_toArray, List.set_cons_zero, List.set_cons_succ]
                  refine wpAnyH_done (by kernel_rfl) ?_ _
                  dsimp only [NoPanic]
                  clear hHeld
                  go_wp2_with fail
                  go_meet
                  exact ⟨⟨xe, xp, xm, xg, xx⟩, 0, _, _, _, _, _, _, rt, rfl, H9, Hvx.out, hB9⟩
                exact AllReadyH.nil
              exact AllReadyH.nil
            exact AllReadyH.nil
          exact AllReadyH.nil
      · subst hpk
        as_aux_lemma =>
          have hc0 : ((7 : Int) == 0) = false := by decide
          have hc1 : ((7 : Int) == 1) = false := by decide
          have hc2 : ((7 : Int) == 2) = false := by decide
          have hc3 : ((7 : Int) == 3) = false := by decide
          have hc4 : ((7 : Int) == 4) = false := by decide
          have hc5 : ((7 : Int) == 5) = false := by decide
          have hc6 : ((7 : Int) == 6) = false := by decide
          have hc7 : ((7 : Int) == 7) = true := by decide
          obtain ⟨g, cs, hA, hg, hgb, hcap⟩ := own_addr H8.out.1.ob (by decide)
          obtain ⟨z0, hz0⟩ := forkV_at _ p3 (by rw [H8.out.1.pl]; exact hp3b)
          have hcell : V8.cell? ⟨g, p3 * 2, none⟩ = some (.int .u64 z0.toNat) := by (have h := H8.out.1.ob.cells (g := g) (by rw [hA]; rfl) _ _ hz0; rw [Addr.add_lit, Nat.zero_add] at h; exact h)
          have hXg : ¬ X = g := by
            intro e
            have h1 := H8.out.1.bx
            rw [e, hg] at h1
            injection h1 with h1
            injection h1 with h1 h2
            exact absurd h2 (by decide)
          subst hA
          have HC := Lib.hid (And.intro hcell (And.intro hg hz0))
          have HS8 := Lib.hid (show V8.drew.heap[X]? = some (.cells #[.string xe, .string xp, .int .i64 xm, .int .i64 xg, .int .i64 xx, .int .i64 0, .slice Ac 18 ca, .slice (some ⟨g, 0, none⟩) 3 cb] 38) ∧ V8.drew.heap[g]? = some (.cells cs 41 (0, 0)) from ⟨H8.out.1.bx, hg⟩)
          have hqi : (p3 : Int) < 3 := by omega
          have hqk : 0 ≤ (pb : Int) ∧ (pb : Int) < 64 := by omega
          clear hcell hg hz0
          go_upto_region 25 with fail
          refine wp_region_noPanic ?_
          refine wp_region_held_drew (S := fun W' => W'.heap[X]? = some (.cells #[.string xe, .string xp, .int .i64 xm, .int .i64 xg, .int .i64 xx, .int .i64 0, .slice Ac 18 ca, .slice (some ⟨g, 0, none⟩) 3 cb] 38)) (by kernel_rfl) HS8.out.1 (fun hHeld => ?_)
          refine wpAnyH_take (i := 0) (v := ?_) rfl (by kernel_rfl) (by kernel_rfl) (by kernel_rfl) (fun _ _ _ h => h) (Or.inl ⟨by kernel_rfl, ?_⟩) (by assumption) ?_
          rotate_left
          · intro w hSw
            (try dsimp only at hSw)
            go_simp
            first | done | with_reducible rfl
          simp only [List.getElem_toArray, List.getElem_cons_zero, List.getElem_cons_succ, Act.put, List.setIfInBounds_toArray, List.set_cons_zero, List.set_cons_succ]
          refine wpAnyH_take (i := 1) (v := ?_) rfl (by kernel_rfl) (by kernel_rfl) (by kernel_rfl) (fun _ _ _ h => h) (Or.inl ⟨by kernel_rfl, ?_⟩) (by assumption) ?_
          rotate_left
          · intro w hSw
            (try dsimp only at hSw)
            go_simp
            first | done | with_reducible rfl
          simp only [List.getElem_toArray, List.getElem_cons_zero, List.getElem_cons_succ, Act.put, List.setIfInBounds_toArray, List.set_cons_zero, List.set_cons_succ]
          refine wpAnyH_take (i := 2) (v := ?_) rfl (by kernel_rfl) (by kernel_rfl) (by kernel_rfl) (fun _ _ _ h => h) (Or.inl ⟨by kernel_rfl, ?_⟩) (by assumption) ?_
          rotate_left
          · intro w hSw
            (try dsimp only at hSw)
            have z : w.cell? ⟨X, 7, none⟩ = some (.slice (some ⟨g, 0, none⟩) 3 cb) := by rw [Lib.cell_of_heap hSw]; rfl
            clear hSw
            go_simp
            first | done | with_reducible rfl
          simp only [List.getElem_toArray, List.getElem_cons_zero, List.getElem_cons_succ, Act.put, List.setIfInBounds_toArray, List.set_cons_zero, List.set_cons_succ]
          refine wpAnyH_take (i := 3) (v := ?_) rfl (by kernel_rfl) (by kernel_rfl) (by kernel_rfl) (fun _ _ _ h => h) (Or.inl ⟨by kernel_rfl, ?_⟩) (by assumption) ?_
          rotate_left
          · intro w hSw
            (try dsimp only at hSw)
            go_simp
            first | done | with_reducible rfl
          simp only [List.getElem_toArray, List.getElem_cons_zero, List.getElem_cons_succ, Act.put, List.setIfInBounds_toArray, List.set_cons_zero, List.set_cons_succ]
          refine wpAnyH_take (i := 8) (v := ?_) rfl (by kernel_rfl) (by kernel_rfl) (by kernel_rfl) (fun _ _ _ h => h) (Or.inl ⟨by kernel_rfl, ?_⟩) (by assumption) ?_
          rotate_left
          · intro w hSw
            (try dsimp only at hSw)
            go_simp
            first | done | with_reducible rfl
          simp only [List.getElem_toArray, List.getElem_cons_zero, List.getElem_cons_succ, Act.put, List.setIfInBounds_toArray, List.set_cons_zero, List.set_cons_succ]
          refine wpAnyH_ready (rs := [4]) (by kernel_rfl) (by simp) ?_
          refine AllReadyH.cons rfl (fun K hK => ?_) ?_
          · simp only [List.getElem_toArray, List.getElem_cons_zero, List.getElem_cons_succ]
            go_simp
            (with_reducible refine (pick_at at_ 3 (p3 : Int) H3 _ wa (by decide) (by decide)).mono ?_)
            rintro e wq ⟨rfl, hwq⟩
            obtain rfl := hwq
            dsimp only
            refine hK.out _ _ hHeld (fun hHeld => ?_)
            clear hK K
            try simp only [List.getElem_toArray, List.getElem_cons_zero, List.getElem_cons_succ, Act.put, List.setIfInBounds_toArray, List.set_cons_zero, List.set_cons_succ]
            refine wpAnyH_take (i := 5) (v := ?_) rfl (by kernel_rfl) (by kernel_rfl) (by kernel_rfl) (fun _ _ _ h => h) (Or.inl ⟨by kernel_rfl, ?_⟩) (by assumption) ?_
            rotate_left
            · intro w hSw
              (try dsimp only at hSw)
              go_simp
              first | done | with_reducible rfl
            simp only [List.getElem_toArray, List.getElem_cons_zero, List.getElem_cons_succ, Act.put, List.setIfInBounds_toArray, List.set_cons_zero, List.set_cons_succ]
            refine wpAnyH_take (i := 6) (v := ?_) rfl (by kernel_rfl) (by kernel_rfl) (by kernel_rfl) (fun _ _ _ h => h) (Or.inl ⟨by kernel_rfl, ?_⟩) (by assumption) ?_
            rotate_left
            · intro w hSw
              (try dsimp only at hSw)
              go_simp
              first | done | with_reducible rfl
            simp only [List.getElem_toArray, List.getElem_cons_zero, List.getElem_cons_succ, Act.put, List.setIfInBounds_toArray, List.set_cons_zero, List.set_cons_succ]
            refine wpAnyH_ready (rs := [7, 9]) (by kernel_rfl) (by simp) ?_
            refine AllReadyH.cons rfl (fun K hK => ?_) ?_
            · simp only [List.getElem_toArray, List.getElem_cons_zero, List.getElem_cons_succ]
              have kc := HC.out.1
              go_simp
              clear kc
              refine hK.out _ _ hHeld (fun hHeld => ?_)
              clear hK K
              try simp only [List.getElem_toArray, List.getElem_cons_zero, List.getElem_cons_succ, Act.put, List.setIfInBounds_toArray, List.set_cons_zero, List.set_cons_succ]
              refine wpAnyH_ready (rs := [9]) (by kernel_rfl) (by simp) ?_
              refine AllReadyH.cons rfl (fun K hK => ?_) ?_
              · simp only [List.getElem_toArray, List.getElem_cons_zero, List.getElem_cons_succ]
                go_simp
                (with_reducible refine (pick_at bit 64 (pb : Int) Hpb _ wbi (by decide) (by decide)).mono ?_)
                rintro e wq ⟨rfl, hwq⟩
                obtain rfl := hwq
                dsimp only
                refine hK.out _ _ hHeld (fun hHeld => ?_)
                clear hK K
                try simp only [List.getElem_toArray, List.getElem_cons_zero, List.getElem_cons_succ, Act.put, List.setIfInBounds_toArray, List.set_cons_zero, List.set_cons_succ]
                refine wpAnyH_take (i := 10) (v := ?_) rfl (by kernel_rfl) (by kernel_rfl) (by kernel_rfl) (fun _ _ _ h => h) (Or.inl ⟨by kernel_rfl, ?_⟩) (by assumption) ?_
                rotate_left
                · intro w hSw
                  (try dsimp only at hSw)
                  go_simp
                  first | done | with_reducible rfl
                simp only [List.getElem_toArray, List.getElem_cons_zero, List.getElem_cons_succ, Act.put, List.setIfInBounds_toArray, List.set_cons_zero, List.set_cons_succ]
                refine wpAnyH_take (i := 11) (v := ?_) rfl (by kernel_rfl) (by kernel_rfl) (by kernel_rfl) (fun _ _ _ h => h) (Or.inl ⟨by kernel_rfl, ?_⟩) (by assumption) ?_
                rotate_left
                · intro w hSw
                  (try dsimp only at hSw)
                  go_simp
                  first | done | with_reducible rfl
                simp only [List.getElem_toArray, List.getElem_cons_zero, List.getElem_cons_succ, Act.put, List.setIfInBounds_toArray, List.set_cons_zero, List.set_cons_succ]
                refine wpAnyH_take (i := 12) (v := ?_) rfl (by kernel_rfl) (by kernel_rfl) (by kernel_rfl) (fun _ _ _ h => h) (Or.inl ⟨by kernel_rfl, ?_⟩) (by assumption) ?_
                rotate_left
                · intro w hSw
                  (try dsimp only at hSw)
                  go_simp
                  first | done | with_reducible rfl
                simp only [List.getElem_toArray, List.getElem_cons_zero, List.getElem_cons_succ, Act.put, List.setIfInBounds_toArray, List.set_cons_zero, List.set_cons_succ]
                refine wpAnyH_take (i := 13) (v := ?_) rfl (by kernel_rfl) (by kernel_rfl) (by kernel_rfl) (fun _ _ _ h => h) (Or.inl ⟨by kernel_rfl, ?_⟩) (by assumption) ?_
                rotate_left
                · intro w hSw
                  (try dsimp only at hSw)
                  go_simp
                  first | done | with_reducible rfl
                simp only [List.getElem_toArray, List.getElem_cons_zero, List.getElem_cons_succ, Act.put, List.setIfInBounds_toArray, List.set_cons_zero, List.set_cons_succ]
                refine wpAnyH_ready (rs := [14]) (by kernel_rfl) (by simp) ?_
                refine AllReadyH.cons rfl (fun K hK => ?_) ?_
                · simp only [List.getElem_toArray, List.getElem_cons_zero, List.getElem_cons_succ]
                  have kc := HC.out.1
                  have kf : V8.frozen? ⟨g, p3 * 2, none⟩ = false := Lib.frozen_of_heap HC.out.2.1 _
                  go_simp
                  clear kc kf
                  obtain ⟨z1, hz1⟩ := bits_u64 .xor (z0.toNat : Int) (IntKind.u64.wrap (2 ^ pb))
                  rw [hz1]
                  obtain ⟨W9, hW9⟩ : ∃ z, z = (V8.setCell ⟨g, p3 * 2, none⟩ (.int .u64 z1.toNat)).drew := ⟨_, rfl⟩
                  rw [← hW9]
                  have bx9 : (V8.setCell ⟨g, p3 * 2, none⟩ (.int .u64 z1.toNat)).heap[X]? = some (.cells #[.string xe, .string xp, .int .i64 xm, .int .i64 xg, .int .i64 xx, .int .i64 0, .slice Ac 18 ca, .slice (some ⟨g, 0, none⟩) 3 cb] 38) := (Below.heap_setCell _ _ _ _ hXg).trans H8.out.1.bx
                  have H9 : AltB w.heap.size X ⟨xe, xp, xm, xg, xx⟩ 0 Ac ca (chT ⟨xe, xp, xm, xg, xx⟩ 0) (some ⟨g, 0, none⟩) cb (pq.set p3 (z1, (pq[p3]'(by rw [H8.out.1.pl]; exact hp3b)).2)) W9 := by rw [hW9]; exact AltB.drew ⟨bx9, own_set H8.out.1.oa HC.out.2.1 (by decide), by (have h := own_upd H8.out.1.ob (p3 * 2) (.int .u64 z1.toNat); rw [forkV_set _ _ _ (by rw [H8.out.1.pl]; exact hp3b)] at h; exact h), H8.out.1.cl, by rw [List.length_set]; exact H8.out.1.pl, H8.out.1.xb⟩
                  have hB9 : Below w.heap.size w W9 := by rw [hW9]; exact (H8.out.2.2.setCell hgb _).drew
                  have hS9 : W9.heap[X]? = some (.cells #[.string xe, .string xp, .int .i64 xm, .int .i64 xg, .int .i64 xx, .int .i64 0, .slice Ac 18 ca, .slice (some ⟨g, 0, none⟩) 3 cb] 38) := H9.bx
                  clear hW9
                  refine hK.out _ _ hS9 (fun hHeld => ?_)
                  clear hK K
                  try simp only [List.getElem_toArray, List.getElem_cons_zero, List.getElem_cons_succ, Act.put, List.setIfInBounds_toArray, List.set_cons_zero, List.set_cons_succ]
                  refine wpAnyH_done (by kernel_rfl) ?_ _
                  dsimp only [NoPanic]
                  clear hHeld
                  go_wp2_with fail
                  go_meet
                  exact ⟨⟨xe, xp, xm, xg, xx⟩, 0, _, _, _, _, _, _, rt, rfl, H9, Hvx.out, hB9⟩
                exact AllReadyH.nil
              exact AllReadyH.nil
            refine AllReadyH.cons rfl (fun K hK => ?_) ?_
            · simp only [List.getElem_toArray, List.getElem_cons_zero, List.getElem_cons_succ]
              go_simp
              (with_reducible refine (pick_at bit 64 (pb : Int) Hpb _ wbi (by decide) (by decide)).mono ?_)
              rintro e wq ⟨rfl, hwq⟩
              obtain rfl := hwq
              dsimp only
              refine hK.out _ _ hHeld (fun hHeld => ?_)
              clear hK K
              try simp only [List.getElem_toArray, List.getElem_cons_zero, List.getElem_cons_succ, Act.put, List.setIfInBounds_toArray, List.set_cons_zero, List.set_cons_succ]
              refine wpAnyH_take (i := 10) (v := ?_) rfl (by kernel_rfl) (by kernel_rfl) (by kernel_rfl) (fun _ _ _ h => h) (Or.inl ⟨by kernel_rfl, ?_⟩) (by assumption) ?_
              rotate_left
              · intro w hSw
                (try dsimp only at hSw)
                go_simp
                first | done | with_reducible rfl
              simp only [List.getElem_toArray, List.getElem_cons_zero, List.getElem_cons_succ, Act.put, List.setIfInBounds_toArray, List.set_cons_zero, List.set_cons_succ]
              refine wpAnyH_ready (rs := [7]) (by kernel_rfl) (by simp) ?_
              refine AllReadyH.cons rfl (fun K hK => ?_) ?_
              · simp only [List.getElem_toArray, List.getElem_cons_zero, List.getElem_cons_succ]
                have kc := HC.out.1
                go_simp
                clear kc
                refine hK.out _ _ hHeld (fun hHeld => ?_)
                clear hK K
                try simp only [List.getElem_toArray, List.getElem_cons_zero, List.getElem_cons_succ, Act.put, List.setIfInBounds_toArray, List.set_cons_zero, List.set_cons_succ]
                refine wpAnyH_take (i := 11) (v := ?_) rfl (by kernel_rfl) (by kernel_rfl) (by kernel_rfl) (fun _ _ _ h => h) (Or.inl ⟨by kernel_rfl, ?_⟩) (by assumption) ?_
                rotate_left
                · intro w hSw
                  (try dsimp only at hSw)
                  go_simp
                  first | done | with_reducible rfl
                simp only [List.getElem_toArray, List.getElem_cons_zero, List.getElem_cons_succ, Act.put, List.setIfInBounds_toArray, List.set_cons_zero, List.set_cons_succ]
                refine wpAnyH_take (i := 12) (v := ?_) rfl (by kernel_rfl) (by kernel_rfl) (by kernel_rfl) (fun _ _ _ h => h) (Or.inl ⟨by kernel_rfl, ?_⟩) (by assumption) ?_
                rotate_left
                · intro w hSw
                  (try dsimp only at hSw)
                  go_simp
                  first | done | with_reducible rfl
                simp only [List.getElem_toArray, List.getElem_cons_zero, List.getElem_cons_succ, Act.put, List.setIfInBounds_toArray, List.set_cons_zero, List.set_cons_succ]
                refine wpAnyH_take (i := 13) (v := ?_) rfl (by kernel_rfl) (by kernel_rfl) (by kernel_rfl) (fun _ _ _ h => h) (Or.inl ⟨by kernel_rfl, ?_⟩) (by assumption) ?_
                rotate_left
                · intro w hSw
                  (try dsimp only at hSw)
                  go_simp
                  first | done | with_reducible rfl
                simp only [List.getElem_toArray, List.getElem_cons_zero, List.getElem_cons_succ, Act.put, List.setIfInBounds_toArray, List.set_cons_zero, List.set_cons_succ]
                refine wpAnyH_ready (rs := [14]) (by kernel_rfl) (by simp) ?_
                refine AllReadyH.cons rfl (fun K hK => ?_) ?_
                · simp only [List.getElem_toArray, List.getElem_cons_zero, List.getElem_cons_succ]
                  have kc := HC.out.1
                  have kf : V8.frozen? ⟨g, p3 * 2, none⟩ = false := Lib.frozen_of_heap HC.out.2.1 _
                  go_simp
                  clear kc kf
                  obtain ⟨z1, hz1⟩ := bits_u64 .xor (z0.toNat : Int) (IntKind.u64.wrap (2 ^ pb))
                  rw [hz1]
                  obtain ⟨W9, hW9⟩ : ∃ z, z = (V8.setCell ⟨g, p3 * 2, none⟩ (.int .u64 z1.toNat)).drew := ⟨_, rfl⟩
                  rw [← hW9]
                  have bx9 : (V8.setCell ⟨g, p3 * 2, none⟩ (.int .u64 z1.toNat)).heap[X]? = some (.cells #[.string xe, .string xp, .int .i64 xm, .int .i64 xg, .int .i64 xx, .int .i64 0, .slice Ac 18 ca, .slice (some ⟨g, 0, none⟩) 3 cb] 38) := (Below.heap_setCell _ _ _ _ hXg).trans H8.out.1.bx
                  have H9 : AltB w.heap.size X ⟨xe, xp, xm, xg, xx⟩ 0 Ac ca (chT ⟨xe, xp, xm, xg, xx⟩ 0) (some ⟨g, 0, none⟩) cb (pq.set p3 (z1, (pq[p3]'(by rw [H8.out.1.pl]; exact hp3b)).2)) W9 := by rw [hW9]; exact AltB.drew ⟨bx9, own_set H8.out.1.oa HC.out.2.1 (by decide), by (have h := own_upd H8.out.1.ob (p3 * 2) (.int .u64 z1.toNat); rw [forkV_set _ _ _ (by rw [H8.out.1.pl]; exact hp3b)] at h; exact h), H8.out.1.cl, by rw [List.length_set]; exact H8.out.1.pl, H8.out.1.xb⟩
                  have hB9 : Below w.heap.size w W9 := by rw [hW9]; exact (H8.out.2.2.setCell hgb _).drew
                  have hS9 : W9.heap[X]? = some (.cells #[.string xe, .string xp, .int .i64 xm, .int .i64 xg, .int .i64 xx, .int .i64 0, .slice Ac 18 ca, .slice (some ⟨g, 0, none⟩) 3 cb] 38) := H9.bx
                  clear hW9
                  refine hK.out _ _ hS9 (fun hHeld => ?_)
                  clear hK K
                  try simp only [List.getElem_toArray, List.getElem_cons_zero, List.getElem_cons_succ, Act.put, List.setIfInBounds_toArray, List.set_cons_zero, List.set_cons_succ]
                  refine wpAnyH_done (by kernel_rfl) ?_ _
                  dsimp only [NoPanic]
                  clear hHeld
                  go_wp2_with fail
                  go_meet
                  exact ⟨⟨xe, xp, xm, xg, xx⟩, 0, _, _, _, _, _, _, rt, rfl, H9, Hvx.out, hB9⟩
                exact AllReadyH.nil
              exact AllReadyH.nil
            exact AllReadyH.nil
          exact AllReadyH.nil
      · subst hpk
        as_aux_lemma =>
          have hc0 : ((8 : Int) == 0) = false := by decide
          have hc1 : ((8 : Int) == 1) = false := by decide
          have hc2 : ((8 : Int) == 2) = false := by decide
          have hc3 : ((8 : Int) == 3) = false := by decide
          have hc4 : ((8 : Int) == 4) = false := by decide
          have hc5 : ((8 : Int) == 5) = false := by decide
          have hc6 : ((8 : Int) == 6) = false := by decide
          have hc7 : ((8 : Int) == 7) = false := by decide
          have hqk : 0 ≤ (pb : Int) ∧ (pb : Int) < 64 := by omega
          go_wp2_with fail
          refine (pick_at bit 64 (pb : Int) Hpb V8 wbi (by decide) (by decide)).mono ?_
          rintro e wq ⟨rfl, hwq⟩
          obtain rfl := hwq
          go_wp2_with fail
          go_meet
          obtain ⟨z1, hz1⟩ := bits_u64 .xor (rt.toNat : Int) (IntKind.u64.wrap (2 ^ pb))
          exact ⟨⟨xe, xp, xm, xg, xx⟩, 0, _, _, _, _, _, _, z1, by rw [hz1], H8.out.1, Hvx.out, H8.out.2.2⟩
    case rest =>
      obtain ⟨t, j, A2, ca2, c2, B2, cb2, p2, r2, rfl, hAlt, hv, hBw⟩ := hcut
      obtain ⟨w9, hw9⟩ : ∃ z, z = wc := ⟨_, rfl⟩
      subst hw9
      obtain ⟨te, tp, tm, tg, tx⟩ := t
      obtain ⟨tt, htt⟩ : ∃ q, textT ⟨te, tp, tm, tg, tx⟩ = q := ⟨_, rfl⟩
      obtain ⟨dd, hdd⟩ : ∃ q, Dig.sum tt.data.toList = q := ⟨_, rfl⟩
      obtain ⟨rr, hrr⟩ : ∃ q, overB r2 3 dd j c2 p2 = q := ⟨_, rfl⟩
      have htl : tt.size ≤ maxLen := by
        rw [← htt]
        unfold textT
        rw [if_pos hv]
        exact Nat.le_trans (text_size hv) (by decide)
      have hsz := valid_sz hv
      dsimp only at hsz
      have Htt := Lib.hid htt
      have Hdd := Lib.hid hdd
      have Hrr := Lib.hid hrr
      have H9 := Lib.hid (And.intro hAlt hBw)
      have Hv := Lib.hid hv
      have hXw := hAlt.xb
      obtain ⟨r0, hr0⟩ : ∃ q : Int, (if rr = true then 0 else 252) = q := ⟨_, rfl⟩
      obtain ⟨TL, hTL⟩ : ∃ q : List TotD, (if rr = true then [⟨te, tp, tm, tg, tx⟩] else []) = q := ⟨_, rfl⟩
      have hac : accE (fun _ => rr) [] [(⟨⟨te, tp, tm, tg, tx⟩, j, A2, 18, ca2, B2, 3, cb2⟩ : ElM)] [] = (r0, TL) := by
        rw [acc_single _ _ hv, ← hr0, ← hTL]
        cases rr <;> rfl
      have Hac := Lib.hid hac
      have Hr0 := Lib.hid hr0
      have HTL := Lib.hid hTL
      clear htt hdd hrr hAlt hBw hv hac hr0 hTL
      have k0 : w9.cell? ⟨X, 0, none⟩ = some (.string te) := by rw [Lib.cell_of_heap H9.out.1.bx]; rfl
      have k1 : w9.cell? ⟨X, 1, none⟩ = some (.string tp) := by rw [Lib.cell_of_heap H9.out.1.bx]; rfl
      have k2 : w9.cell? ⟨X, 2, none⟩ = some (.int .i64 tm) := by rw [Lib.cell_of_heap H9.out.1.bx]; rfl
      have k3 : w9.cell? ⟨X, 3, none⟩ = some (.int .i64 tg) := by rw [Lib.cell_of_heap H9.out.1.bx]; rfl
      have k4 : w9.cell? ⟨X, 4, none⟩ = some (.int .i64 tx) := by rw [Lib.cell_of_heap H9.out.1.bx]; rfl
      have k5 : w9.cell? ⟨X, 5, none⟩ = some (.int .i64 j) := by rw [Lib.cell_of_heap H9.out.1.bx]; rfl
      have k6 : w9.cell? ⟨X, 6, none⟩ = some (.slice A2 18 ca2) := by rw [Lib.cell_of_heap H9.out.1.bx]; rfl
      have k7 : w9.cell? ⟨X, 7, none⟩ = some (.slice B2 3 cb2) := by rw [Lib.cell_of_heap H9.out.1.bx]; rfl
      go_wp2_with fail
      clear k0 k1 k2 k3 k4 k5 k6 k7
      obtain ⟨Va, hVa⟩ : ∃ W, W = w9.alloc (.cells #[.string te, .string tp, .int .i64 tm, .int .i64 tg, .int .i64 tx, .int .i64 j, .slice A2 18 ca2, .slice B2 3 cb2] 38) := ⟨_, rfl⟩
      obtain ⟨Ea, hEa⟩ : ∃ i, i = w9.heap.size := ⟨_, rfl⟩
      rw [← hVa]
      try rw [← hEa]
      have hBa : Below w9.heap.size w9 Va := by rw [hVa]; exact bal (Below.refl _ _) _
      have hSa : Sl Va Va.heap.size 8 (some ⟨Ea, 0, none⟩) 1 ([(⟨⟨te, tp, tm, tg, tx⟩, j, A2, 18, ca2, B2, 3, cb2⟩ : ElM)].flatMap elV) := by rw [hVa, hEa]; exact sl_cells (World.alloc_heap_new _ _) rfl rfl
      clear hVa hEa
      obtain ⟨A3, c3, e3, s1⟩ := own_slice (own_below H9.out.1.oa hBa)
      injection e3 with e31 _ e33
      subst e31 e33
      obtain ⟨A4, c4, e4, s2⟩ := own_slice (own_below H9.out.1.ob hBa)
      injection e4 with e41 _ e43
      subst e41 e43
      have hel : ∀ z ∈ [(⟨⟨te, tp, tm, tg, tx⟩, j, A2, 18, ca2, B2, 3, cb2⟩ : ElM)], ElOk Va r2 3 (fun _ => rr) z := by
        intro z hz
        rw [List.mem_singleton.1 hz]
        exact ⟨c2, p2, H9.out.1.cl, H9.out.1.pl, (show 18 ≤ maxLen by decide), s1, s2, by rw [Htt.out, Hdd.out]; exact Hrr.out, valid_wf Hv.out⟩
      refine (accept_any r2 3 (some ⟨Ea, 0, none⟩) 1 1 [(⟨⟨te, tp, tm, tg, tx⟩, j, A2, 18, ca2, B2, 3, cb2⟩ : ElM)] rfl (fun _ => rr) r0 TL Hac Va (HT.out.go (bgo H9.out.2 hBa)).1 (HT.out.go (bgo H9.out.2 hBa)).2 hSa hel (by decide) (by decide)).mono ?_
      rintro e wa_ ⟨va_, rfl, ownA, hBA⟩
      obtain ⟨A5, c5, rfl, s5, _, _⟩ := own_slice2 ownA
      have hBx := bgo hBa hBA
      have Ha := Lib.hid (And.intro (H9.out.1.go hBx) (And.intro (bgo H9.out.2 hBx) s5))
      clear hBa hSa s1 s2 hel ownA hBA s5 hBx
      go_upto_region 27 with fail
      have gXd := Lib.hid (show wa_.drew.heap[X]? = some (.cells #[.string te, .string tp, .int .i64 tm, .int .i64 tg, .int .i64 tx, .int .i64 j, .slice A2 18 ca2, .slice B2 3 cb2] 38) from Ha.out.1.bx)
      go_cut [20] (fun v wc => v = .bool rr ∧ Below wa_.heap.size wa_ wc)
      case first =>
        refine wp_region_noPanic ?_
        refine wp_region_held_drew (S := fun W' => W'.heap[X]? = some (.cells #[.string te, .string tp, .int .i64 tm, .int .i64 tg, .int .i64 tx, .int .i64 j, .slice A2 18 ca2, .slice B2 3 cb2] 38)) (by kernel_rfl) gXd.out (fun hHeld => ?_)
        refine wpAnyH_take (i := 0) (v := ?_) rfl (by kernel_rfl) (by kernel_rfl) (by kernel_rfl) (fun _ _ _ h => h) (Or.inl ⟨by kernel_rfl, ?_⟩) (by assumption) ?_
        rotate_left
        · intro w hSw
          (try dsimp only at hSw)
          go_simp
          first | done | with_reducible rfl
        simp only [List.getElem_toArray, List.getElem_cons_zero, List.getElem_cons_succ, Act.put, List.setIfInBounds_toArray, List.set_cons_zero, List.set_cons_succ]
        refine wpAnyH_take (i := 1) (v := ?_) rfl (by kernel_rfl) (by kernel_rfl) (by kernel_rfl) (fun _ _ _ h => h) (Or.inl ⟨by kernel_rfl, ?_⟩) (by assumption) ?_
        rotate_left
        · intro w hSw
          (try dsimp only at hSw)
          go_simp
          first | done | with_reducible rfl
        simp only [List.getElem_toArray, List.getElem_cons_zero, List.getElem_cons_succ, Act.put, List.setIfInBounds_toArray, List.set_cons_zero, List.set_cons_succ]
        refine wpAnyH_take (i := 2) (v := ?_) rfl (by kernel_rfl) (by kernel_rfl) (by kernel_rfl) (fun _ _ _ h => h) (Or.inl ⟨by kernel_rfl, ?_⟩) (by assumption) ?_
        rotate_left
        · intro w hSw
          (try dsimp only at hSw)
          have z0 : w.cell? ⟨X, 0, none⟩ = some (.string te) := by rw [Lib.cell_of_heap hSw]; rfl
          have z1 : w.cell? ⟨X, 1, none⟩ = some (.string tp) := by rw [Lib.cell_of_heap hSw]; rfl
          have z2 : w.cell? ⟨X, 2, none⟩ = some (.int .i64 tm) := by rw [Lib.cell_of_heap hSw]; rfl
          have z3 : w.cell? ⟨X, 3, none⟩ = some (.int .i64 tg) := by rw [Lib.cell_of_heap hSw]; rfl
          have z4 : w.cell? ⟨X, 4, none⟩ = some (.int .i64 tx) := by rw [Lib.cell_of_heap hSw]; rfl
          clear hSw
          go_simp
          first | done | with_reducible rfl
        simp only [List.getElem_toArray, List.getElem_cons_zero, List.getElem_cons_succ, Act.put, List.setIfInBounds_toArray, List.set_cons_zero, List.set_cons_succ]
        refine wpAnyH_take (i := 4) (v := ?_) rfl (by kernel_rfl) (by kernel_rfl) (by kernel_rfl) (fun _ _ _ h => h) (Or.inl ⟨by kernel_rfl, ?_⟩) (by assumption) ?_
        rotate_left
        · intro w hSw
          (try dsimp only at hSw)
          go_simp
          first | done | with_reducible rfl
        simp only [List.getElem_toArray, List.getElem_cons_zero, List.getElem_cons_succ, Act.put, List.setIfInBounds_toArray, List.set_cons_zero, List.set_cons_succ]
        refine wpAnyH_take (i := 5) (v := ?_) rfl (by kernel_rfl) (by kernel_rfl) (by kernel_rfl) (fun _ _ _ h => h) (Or.inl ⟨by kernel_rfl, ?_⟩) (by assumption) ?_
        rotate_left
        · intro w hSw
          (try dsimp only at hSw)
          have z5 : w.cell? ⟨X, 5, none⟩ = some (.int .i64 j) := by rw [Lib.cell_of_heap hSw]; rfl
          have z6 : w.cell? ⟨X, 6, none⟩ = some (.slice A2 18 ca2) := by rw [Lib.cell_of_heap hSw]; rfl
          have z7 : w.cell? ⟨X, 7, none⟩ = some (.slice B2 3 cb2) := by rw [Lib.cell_of_heap hSw]; rfl
          clear hSw
          go_simp
          first | done | with_reducible rfl
        simp only [List.getElem_toArray, List.getElem_cons_zero, List.getElem_cons_succ, Act.put, List.setIfInBounds_toArray, List.set_cons_zero, List.set_cons_succ]
        refine wpAnyH_ready (rs := [3]) (by kernel_rfl) (by simp) ?_
        refine AllReadyH.cons rfl (fun K hK => ?_) ?_
        · simp only [List.getElem_toArray, List.getElem_cons_zero, List.getElem_cons_succ]
          go_simp
          (with_reducible refine (text29_any te tp tm tg tx tt Htt wa_.drew hsz.1 hsz.2 (HT.out.go (bgo Ha.out.2.1 ((Below.refl wa_.heap.size wa_).drew))).ct).mono ?_)
          rintro e wt ⟨rfl, hBt⟩
          dsimp only
          have belt := bgo ((Below.refl wa_.heap.size wa_).drew) hBt
          refine hK.out _ wt ((belt.block _ (Array.getElem?_eq_some_iff.1 Ha.out.1.bx).1).trans Ha.out.1.bx) (fun hHeld => ?_)
          clear hK K
          try simp only [List.getElem_toArray, List.getElem_cons_zero, List.getElem_cons_succ, Act.put, List.setIfInBounds_toArray, List.set_cons_zero, List.set_cons_succ]
          refine wpAnyH_ready (rs := [6]) (by kernel_rfl) (by simp) ?_
          refine AllReadyH.cons rfl (fun K hK => ?_) ?_
          · simp only [List.getElem_toArray, List.getElem_cons_zero, List.getElem_cons_succ]
            go_simp
            have Al := Ha.out.1.go belt
            obtain ⟨A3, c3, e3, s1⟩ := own_slice Al.oa
            injection e3 with e31 _ e33
            subst e31 e33
            obtain ⟨A4, c4, e4, s2⟩ := own_slice Al.ob
            injection e4 with e41 _ e43
            subst e41 e43
            (with_reducible refine (rover_at r2 3 tt dd Hdd htl j A2 B2 ca2 cb2 18 3 c2 p2 Ha.out.1.cl Ha.out.1.pl (by decide) (by decide) rr Hrr wt s1 s2).mono ?_)
            rintro e wv ⟨rfl, hBv⟩
            dsimp only
            have belv := bgo belt hBv
            refine hK.out _ wv ((belv.block _ (Array.getElem?_eq_some_iff.1 Ha.out.1.bx).1).trans Ha.out.1.bx) (fun hHeld => ?_)
            clear hK K
            try simp only [List.getElem_toArray, List.getElem_cons_zero, List.getElem_cons_succ, Act.put, List.setIfInBounds_toArray, List.set_cons_zero, List.set_cons_succ]
            refine wpAnyH_take (i := 7) (v := ?_) rfl (by kernel_rfl) (by kernel_rfl) (by kernel_rfl) (fun _ _ _ h => h) (Or.inl ⟨by kernel_rfl, ?_⟩) (by assumption) ?_
            rotate_left
            · intro w hSw
              (try dsimp only at hSw)
              go_simp
              first | done | with_reducible rfl
            simp only [List.getElem_toArray, List.getElem_cons_zero, List.getElem_cons_succ, Act.put, List.setIfInBounds_toArray, List.set_cons_zero, List.set_cons_succ]
            refine wpAnyH_done (by kernel_rfl) ?_ _
            dsimp only [NoPanic]
            clear hHeld
            go_wp2_with fail
            go_meet
            exact ⟨rfl, belv⟩
          exact AllReadyH.nil
        exact AllReadyH.nil
      case rest =>
        obtain ⟨rfl, hBv⟩ := hcut
        obtain ⟨wv, hwv⟩ : ∃ z, z = wc := ⟨_, rfl⟩
        subst hwv
        have Hz := Lib.hid (And.intro (Ha.out.1.go hBv) (And.intro (bgo Ha.out.2.1 hBv) (Ha.out.2.2.go hBv)))
        clear hBv
        cases rr with
        | false =>
          have h1 := Hr0.out
          have h2 := HTL.out
          rw [if_neg (by decide)] at h1 h2
          subst h1 h2
          go_wp2_with fail
          go_ret
          exact ⟨by first | rfl | simp, Hz.out.2.1⟩
        | true =>
          have h1 := Hr0.out
          have h2 := HTL.out
          rw [if_pos rfl] at h1 h2
          subst h1 h2
          have k0 : wv.cell? ⟨X, 0, none⟩ = some (.string te) := by rw [Lib.cell_of_heap Hz.out.1.bx]; rfl
          have k1 : wv.cell? ⟨X, 1, none⟩ = some (.string tp) := by rw [Lib.cell_of_heap Hz.out.1.bx]; rfl
          have k2 : wv.cell? ⟨X, 2, none⟩ = some (.int .i64 tm) := by rw [Lib.cell_of_heap Hz.out.1.bx]; rfl
          have k3 : wv.cell? ⟨X, 3, none⟩ = some (.int .i64 tg) := by rw [Lib.cell_of_heap Hz.out.1.bx]; rfl
          have k4 : wv.cell? ⟨X, 4, none⟩ = some (.int .i64 tx) := by rw [Lib.cell_of_heap Hz.out.1.bx]; rfl
          go_wp2_with fail
          clear k0 k1 k2 k3 k4
          obtain ⟨Vs, hVs⟩ : ∃ W, W = wv.alloc (.cells #[.string te, .string tp, .int .i64 tm, .int .i64 tg, .int .i64 tx] 25) := ⟨_, rfl⟩
          obtain ⟨Es, hEs⟩ : ∃ i, i = wv.heap.size := ⟨_, rfl⟩
          rw [← hVs]
          try rw [← hEs]
          have hBs : Below wv.heap.size wv Vs := by rw [hVs]; exact bal (Below.refl _ _) _
          have hSs : Sl Vs Vs.heap.size 5 (some ⟨Es, 0, none⟩) 1 ([(⟨te, tp, tm, tg, tx⟩ : TotD)].flatMap totL5) := by rw [hVs, hEs]; exact sl_cells (World.alloc_heap_new _ _) rfl rfl
          clear hVs hEs
          refine (same29_any A5 _ c5 1 1 1 [(⟨te, tp, tm, tg, tx⟩ : TotD)] [⟨te, tp, tm, tg, tx⟩] rfl rfl (by decide) true (Lib.hid (decide_eq_true rfl)) Vs (Hz.out.2.2.go hBs) hSs).mono ?_
          rintro e wy ⟨rfl, hBy⟩
          go_wp2_with fail
          go_ret
          exact ⟨by first | rfl | simp, bgo (bgo Hz.out.2.1 hBs) hBy⟩
end Go.Proofs.YtpmakhfpdidleaaDoor
