/- The walk of the law package's head (layer 29). Arguments of the laws of layer 29: the tables, quadruples, lists of quadruples. The latest totals do not depend on the order of a list (layer 29, plain). made (a list of totals) and distinct of the law package (layer 29). Appends of rows: where the new row lies; slices of rows (layer 29). -/
import Derived.Test.YtpmakhfpdidleaaDoorQ23
import Derived.Test.YtpmakhfpdidleaaDoorQ06
import Derived.Deep.SlicePairs
import Derived.Laws.IdiomArrays
import Derived.Lib.SmallJoins
namespace Go.Proofs.YtpmakhfpdidleaaDoor
open Go.RowKit Go.Shelf
set_option linter.unusedVariables false
set_option linter.unusedSimpArgs false
set_option maxRecDepth 100000
def hT29 : TotD := ⟨⟨#[97, 99, 109, 101]⟩, ⟨#[97, 110, 110]⟩, 290, 250000, -5⟩
def hL29 : List TotD := [⟨⟨#[97, 99, 109, 101]⟩, ⟨#[97, 110, 110]⟩, 288, 100, 10⟩, ⟨⟨#[97, 99, 109, 101]⟩, ⟨#[97, 110, 110]⟩, 289, 250, 20⟩, ⟨⟨#[98, 111, 108, 116]⟩, ⟨#[97, 110, 110]⟩, 288, 7, 1⟩]
theorem own_slice2 {W : World} {base : Nat} {e : TypeId} {size n : Nat} {v : Value} {xs : List Value} (h : W.ownsRow base e size v n xs) : ∃ A cap, v = .slice A n cap ∧ Sl W W.heap.size size A n xs ∧ n ≤ cap ∧ cap ≤ maxLen := by
  obtain ⟨A, cap, hv, hs⟩ := own_slice h
  subst hv
  refine ⟨A, cap, rfl, hs, ?_⟩
  rcases h.2 with ⟨h1, h0⟩ | ⟨g, cap', cur, h1, _, _, h4, h5, _⟩
  · injection h1 with _ _ h1
    subst h1 h0
    exact ⟨Nat.le_refl _, Nat.zero_le _⟩
  · injection h1 with _ _ h1
    subst h1
    exact ⟨h4, h5⟩
theorem bef_at (A : Option Addr) (n c : Nat) (ts : List TotD) (hn : ts.length = n) (hnl : n ≤ 100) (person : ByteArray) (m : Int) (G X : Int) (hG : Hid (sumA TotD.g (befT person m ts) = G)) (hX : Hid (sumA TotD.x (befT person m ts) = X)) (hm : 0 ≤ m ∧ m ≤ 1199) (hwf : ∀ t ∈ ts, t.e.size ≤ maxLen ∧ t.p.size ≤ maxLen) (w : World) (hS : Sl w w.heap.size 5 A n (ts.flatMap totL5)) :
    Calls Tryd.prog 12 #[.slice A n c, .string person, .int .i64 m] w fun e w' => e = .returned (.tuple #[.int .i64 G, .int .i64 X]) ∧ Below w.heap.size w w' := by
  obtain ⟨mo, rfl⟩ := Int.eq_ofNat_of_zero_le hm.1
  rw [← hG.out, ← hX.out]
  exact before_ok A n c ts hn hnl person mo (by omega) _ (Lib.hid rfl) hwf w hS
/-- Accept, of a list of issued totals that differ in employer, person or month. -/
theorem acc_one (t : TotD) (x : ElM) (hx : x.t = t) (hv : validTB t = true) : accE (fun _ => true) [] [x] [] = (0, [t]) := by
  subst hx
  have h0 : okE (fun _ => true) [] x = 0 := by
    unfold okE wrongE
    rw [if_pos hv, if_pos rfl]
    rfl
  unfold accE
  rw [if_pos h0]
  simp [accE]
theorem head_text : textT hT29 = ⟨#[116, 111, 116, 97, 108, 32, 97, 99, 109, 101, 32, 97, 110, 110, 32, 50, 48, 50, 52, 45, 48, 51, 32, 50, 53, 48, 48, 48, 48, 32, 45, 53]⟩ := by decide +kernel
theorem head_valid : validTB hT29 = true := by decide +kernel
theorem head_bad : validTB ⟨⟨#[]⟩, ⟨#[]⟩, 0, 0, 0⟩ = false := by decide +kernel
theorem hbef1 : sumA TotD.g (befT ⟨#[97, 110, 110]⟩ 290 hL29) = 257 ∧ sumA TotD.x (befT ⟨#[97, 110, 110]⟩ 290 hL29) = 21 := by decide +kernel
theorem hbef2 : sumA TotD.g (befT ⟨#[97, 110, 110]⟩ 289 hL29) = 107 ∧ sumA TotD.x (befT ⟨#[97, 110, 110]⟩ 289 hL29) = 11 := by decide +kernel
theorem hbef3 : sumA TotD.g (befT ⟨#[97, 110, 110]⟩ 288 hL29) = 0 ∧ sumA TotD.x (befT ⟨#[97, 110, 110]⟩ 288 hL29) = 0 := by decide +kernel
theorem hbef4 : sumA TotD.g (befT ⟨#[97, 110, 110]⟩ 300 hL29) = 0 ∧ sumA TotD.x (befT ⟨#[97, 110, 110]⟩ 300 hL29) = 0 := by decide +kernel
theorem hsz29 : ∀ t ∈ hL29, t.e.size ≤ maxLen ∧ t.p.size ≤ maxLen := by decide +kernel
structure HdH (T E : Nat) (W : World) : Prop where
  t : W.heap[T]? = some (.cells #[.string ⟨#[97, 99, 109, 101]⟩, .string ⟨#[97, 110, 110]⟩, .int .i64 290, .int .i64 250000, .int .i64 (-5)] 25)
  l : Sl W W.heap.size 5 (some ⟨E, 0, none⟩) 3 (hL29.flatMap totL5)
theorem HdH.go {T E : Nat} {W W' : World} (h : HdH T E W) (k : Below W.heap.size W W') : HdH T E W' := ⟨(k.block _ (Array.getElem?_eq_some_iff.1 h.t).1).trans h.t, h.l.go k⟩
theorem hbef (E : Nat) (T : Nat) (m G X : Int) (hG : sumA TotD.g (befT ⟨#[97, 110, 110]⟩ m hL29) = G ∧ sumA TotD.x (befT ⟨#[97, 110, 110]⟩ m hL29) = X) (hm : 0 ≤ m ∧ m ≤ 1199) (W : World) (h : HdH T E W) :
    Calls Tryd.prog 12 #[.slice (some ⟨E, 0, none⟩) 3 3, .string ⟨#[97, 110, 110]⟩, .int .i64 m] W fun e w' => e = .returned (.tuple #[.int .i64 G, .int .i64 X]) ∧ HdH T E w' ∧ Below W.heap.size W w' :=
  (bef_at _ 3 3 hL29 rfl (by decide) ⟨#[97, 110, 110]⟩ m G X (Lib.hid hG.1) (Lib.hid hG.2) hm hsz29 W h.l).mono fun e w' ⟨h1, h2⟩ => ⟨h1, h.go h2, h2⟩
theorem htext29 (w : World) (hT : CaT.Tabs w) : Calls Tryd.prog 10 #[.agg #[.string ⟨#[97, 99, 109, 101]⟩, .string ⟨#[97, 110, 110]⟩, .int .i64 290, .int .i64 250000, .int .i64 (-5)]] w fun e w' => e = .returned (.string ⟨#[116, 111, 116, 97, 108, 32, 97, 99, 109, 101, 32, 97, 110, 110, 32, 50, 48, 50, 52, 45, 48, 51, 32, 50, 53, 48, 48, 48, 48, 32, 45, 53]⟩) ∧ Below w.heap.size w w' :=
  text29_any ⟨#[97, 99, 109, 101]⟩ ⟨#[97, 110, 110]⟩ 290 250000 (-5) ⟨#[116, 111, 116, 97, 108, 32, 97, 99, 109, 101, 32, 97, 110, 110, 32, 50, 48, 50, 52, 45, 48, 51, 32, 50, 53, 48, 48, 48, 48, 32, 45, 53]⟩ (Lib.hid head_text) w (by decide) (by decide) hT
set_option maxHeartbeats 8000000 in
theorem head29_any (w : World) (hT : CaT.Tabs w) (hO : OTabs w) : Calls Tryd.prog 4 #[] w fun e w' => e = .returned (.bool true) ∧ Below w.heap.size w w' := by
  have HT := Lib.hid hT
  have HO := Lib.hid hO
  obtain ⟨rt, hrt⟩ : ∃ r, root29 = r := ⟨_, rfl⟩
  have Hrt := Lib.hid hrt
  clear hT hO hrt
  go_enter Tryd.func4, Tryd.ntmps4
  go_upto_region 3 with fail
  obtain ⟨V, hV⟩ : ∃ W, W = (w.alloc (.cells #[.string ⟨#[97, 99, 109, 101]⟩, .string ⟨#[97, 110, 110]⟩, .int .i64 290, .int .i64 250000, .int .i64 (-5)] 25)).alloc (.cells #[.string ⟨#[97, 99, 109, 101]⟩, .string ⟨#[97, 110, 110]⟩, .int .i64 288, .int .i64 100, .int .i64 10, .string ⟨#[97, 99, 109, 101]⟩, .string ⟨#[97, 110, 110]⟩, .int .i64 289, .int .i64 250, .int .i64 20, .string ⟨#[98, 111, 108, 116]⟩, .string ⟨#[97, 110, 110]⟩, .int .i64 288, .int .i64 7, .int .i64 1] 25) := ⟨_, rfl⟩
  obtain ⟨T, hT⟩ : ∃ x, x = w.heap.size := ⟨_, rfl⟩
  obtain ⟨E, hE⟩ : ∃ x, x = w.heap.size + 1 := ⟨_, rfl⟩
  rw [← hV]
  try rw [← hE]
  try rw [← hT]
  have hB : Below w.heap.size w V := by rw [hV]; exact bal (bal (Below.refl _ _) _) _
  have hH : HdH T E V := by
    constructor
    · rw [hV, hT]; exact heap_alloc2_old w _ _
    · rw [hV, hE]; exact sl_cells (heap_alloc2_new w _ _) rfl rfl
  have H0 := Lib.hid (And.intro hH hB)
  clear hV hT hE hB hH
  go_wp2_with fail
  refine (hbef E T 290 257 21 hbef1 (by decide) V H0.out.1).mono ?_
  rintro e w1 ⟨rfl, hH, hB⟩
  have H1 := Lib.hid (And.intro hH (bgo H0.out.2 hB))
  clear hH hB
  go_wp2_with fail
  refine (hbef E T 289 107 11 hbef2 (by decide) w1 H1.out.1).mono ?_
  rintro e w2 ⟨rfl, hH, hB⟩
  have H2 := Lib.hid (And.intro hH (bgo H1.out.2 hB))
  clear hH hB
  go_wp2_with fail
  refine (hbef E T 288 0 0 hbef3 (by decide) w2 H2.out.1).mono ?_
  rintro e w3 ⟨rfl, hH, hB⟩
  have H3 := Lib.hid (And.intro hH (bgo H2.out.2 hB))
  clear hH hB
  go_wp2_with fail
  refine (hbef E T 300 0 0 hbef4 (by decide) w3 H3.out.1).mono ?_
  rintro e w4 ⟨rfl, hH, hB⟩
  have H4 := Lib.hid (And.intro hH (bgo H3.out.2 hB))
  clear hH hB
  have gT := H4.out.1.t
  have x0 : w4.cell? ⟨T, 0, none⟩ = some (.string ⟨#[97, 99, 109, 101]⟩) := by rw [Lib.cell_of_heap gT]; rfl
  have x1 : w4.cell? ⟨T, 1, none⟩ = some (.string ⟨#[97, 110, 110]⟩) := by rw [Lib.cell_of_heap gT]; rfl
  have x2 : w4.cell? ⟨T, 2, none⟩ = some (.int .i64 290) := by rw [Lib.cell_of_heap gT]; rfl
  have x3 : w4.cell? ⟨T, 3, none⟩ = some (.int .i64 250000) := by rw [Lib.cell_of_heap gT]; rfl
  have x4 : w4.cell? ⟨T, 4, none⟩ = some (.int .i64 (-5)) := by rw [Lib.cell_of_heap gT]; rfl
  clear gT
  go_wp2_with fail
  clear x0 x1 x2 x3 x4
  obtain ⟨V5, hV5⟩ : ∃ W, W = w4.alloc (.cells #[.string ⟨#[97, 99, 109, 101]⟩, .string ⟨#[97, 110, 110]⟩, .int .i64 290, .int .i64 250000, .int .i64 (-5)] 25) := ⟨_, rfl⟩
  obtain ⟨E5, hE5⟩ : ∃ x, x = w4.heap.size := ⟨_, rfl⟩
  rw [← hV5]
  try rw [← hE5]
  have hB45 : Below w4.heap.size w4 V5 := by rw [hV5]; exact bal (Below.refl _ _) _
  have hS5 : Sl V5 V5.heap.size 5 (some ⟨E5, 0, none⟩) 1 ([hT29].flatMap totL5) := by rw [hV5, hE5]; exact sl_cells (World.alloc_heap_new _ _) rfl rfl
  have hB5 := bgo H4.out.2 hB45
  clear hV5 hE5
  refine (issued_any _ 1 1 [hT29] rfl (by decide) (fun t ht => by rw [List.mem_singleton.1 ht]; exact head_valid) V5 (HT.out.go hB5) (HO.out.go hB5) hS5).mono ?_
  rintro e w5 ⟨v, es, rfl, hown, hiss, hB⟩
  rw [Hrt.out]
  obtain ⟨x, rfl⟩ : ∃ x, es = [x] := by
    have := hiss.1
    match es, this with
    | [x], _ => exact ⟨x, rfl⟩
  have hx := hiss.2 0 hT29 x rfl rfl
  obtain ⟨A, cap, rfl, hSl, hc1, hc2⟩ := own_slice2 hown
  have H5 := Lib.hid (And.intro (H4.out.1.go (bgo hB45 hB)) (And.intro (bgo hB5 hB) (And.intro hx (And.intro hSl (And.intro hc1 hc2)))))
  clear hown hiss hB hx hSl hc1 hc2 hB5 hB45 hS5
  go_wp2_with fail
  have hxo : ElOk w5 rt 3 (fun _ => true) x := by rw [← Hrt.out]; exact H5.out.2.2.1.ok
  refine (accept_any rt 3 A cap 1 [x] rfl (fun _ => true) 0 [hT29] (Lib.hid (acc_one hT29 x H5.out.2.2.1.t_ head_valid)) w5 (HT.out.go H5.out.2.1) (HO.out.go H5.out.2.1) H5.out.2.2.2.1 (fun y hy => by rw [List.mem_singleton.1 hy]; exact hxo) H5.out.2.2.2.2 (by decide)).mono ?_
  rintro e w6 ⟨v6, rfl, hown6, hB6⟩
  obtain ⟨A6, cap6, rfl, hSl6, hc6, hc6'⟩ := own_slice2 hown6
  have H6 := Lib.hid (And.intro (H5.out.1.go hB6) (And.intro (bgo H5.out.2.1 hB6) hSl6))
  clear hxo hown6 hB6 hSl6 hc6 hc6'
  go_wp2_with fail
  refine (issue_no seedB 3 0 ⟨#[]⟩ ⟨#[]⟩ 0 0 0 (Lib.hid head_bad) w6 (by decide) (by decide)).mono ?_
  rintro e w7 ⟨rfl, hB7⟩
  have H7 := Lib.hid (And.intro (H6.out.1.go hB7) (And.intro (bgo H6.out.2.1 hB7) (H6.out.2.2.go hB7)))
  clear hB7
  go_upto_region 10 with fail
  obtain ⟨V8, hV8⟩ : ∃ W, W = w7.alloc (.cells #[.string ⟨#[]⟩, .string ⟨#[]⟩, .int .i64 0, .int .i64 0, .int .i64 0, .int .i64 0, .slice none 0 0, .slice none 0 0] 38) := ⟨_, rfl⟩
  rw [← hV8]
  have hB8 : Below w7.heap.size w7 V8 := by rw [hV8]; exact bal (Below.refl _ _) _
  have H8 := Lib.hid (And.intro (H7.out.1.go hB8) (And.intro (bgo H7.out.2.1 hB8) (H7.out.2.2.go hB8)))
  clear hV8 hB8
  have gT := H8.out.1.t
  have x0 : V8.cell? ⟨T, 0, none⟩ = some (.string ⟨#[97, 99, 109, 101]⟩) := by rw [Lib.cell_of_heap gT]; rfl
  have x1 : V8.cell? ⟨T, 1, none⟩ = some (.string ⟨#[97, 110, 110]⟩) := by rw [Lib.cell_of_heap gT]; rfl
  have x2 : V8.cell? ⟨T, 2, none⟩ = some (.int .i64 290) := by rw [Lib.cell_of_heap gT]; rfl
  have x3 : V8.cell? ⟨T, 3, none⟩ = some (.int .i64 250000) := by rw [Lib.cell_of_heap gT]; rfl
  have x4 : V8.cell? ⟨T, 4, none⟩ = some (.int .i64 (-5)) := by rw [Lib.cell_of_heap gT]; rfl
  clear gT
  go_wp2_with fail
  refine (issue_bad seedB 3 8 ⟨#[97, 99, 109, 101]⟩ ⟨#[97, 110, 110]⟩ 290 250000 (-5) (Lib.hid head_valid) (Lib.hid (by decide +kernel)) (by decide) V8 (by decide) (by decide) (HT.out.go H8.out.2.1)).mono ?_
  rintro e w9 ⟨rfl, hB9⟩
  clear x0 x1 x2 x3 x4
  have H9 := Lib.hid (And.intro (H8.out.1.go hB9) (And.intro (bgo H8.out.2.1 hB9) (H8.out.2.2.go hB9)))
  clear hB9
  go_upto_region 11 with fail
  obtain ⟨VA, hVA⟩ : ∃ W, W = w9.alloc (.cells #[.string ⟨#[]⟩, .string ⟨#[]⟩, .int .i64 0, .int .i64 0, .int .i64 0, .int .i64 0, .slice none 0 0, .slice none 0 0] 38) := ⟨_, rfl⟩
  rw [← hVA]
  have hBA : Below w9.heap.size w9 VA := by rw [hVA]; exact bal (Below.refl _ _) _
  have HA := Lib.hid (And.intro (H9.out.1.go hBA) (And.intro (bgo H9.out.2.1 hBA) (H9.out.2.2.go hBA)))
  clear hVA hBA
  have gT := HA.out.1.t
  have x0 : VA.cell? ⟨T, 0, none⟩ = some (.string ⟨#[97, 99, 109, 101]⟩) := by rw [Lib.cell_of_heap gT]; rfl
  have x1 : VA.cell? ⟨T, 1, none⟩ = some (.string ⟨#[97, 110, 110]⟩) := by rw [Lib.cell_of_heap gT]; rfl
  have x2 : VA.cell? ⟨T, 2, none⟩ = some (.int .i64 290) := by rw [Lib.cell_of_heap gT]; rfl
  have x3 : VA.cell? ⟨T, 3, none⟩ = some (.int .i64 250000) := by rw [Lib.cell_of_heap gT]; rfl
  have x4 : VA.cell? ⟨T, 4, none⟩ = some (.int .i64 (-5)) := by rw [Lib.cell_of_heap gT]; rfl
  clear gT
  go_wp2_with fail
  refine (htext29 VA (HT.out.go HA.out.2.1)).mono ?_
  rintro e wB ⟨rfl, hBB⟩
  clear x0 x1 x2 x3 x4
  have HB := Lib.hid (And.intro (HA.out.1.go hBB) (And.intro (bgo HA.out.2.1 hBB) (HA.out.2.2.go hBB)))
  clear hBB
  have gT := HB.out.1.t
  have x0 : wB.cell? ⟨T, 0, none⟩ = some (.string ⟨#[97, 99, 109, 101]⟩) := by rw [Lib.cell_of_heap gT]; rfl
  have x1 : wB.cell? ⟨T, 1, none⟩ = some (.string ⟨#[97, 110, 110]⟩) := by rw [Lib.cell_of_heap gT]; rfl
  have x2 : wB.cell? ⟨T, 2, none⟩ = some (.int .i64 290) := by rw [Lib.cell_of_heap gT]; rfl
  have x3 : wB.cell? ⟨T, 3, none⟩ = some (.int .i64 250000) := by rw [Lib.cell_of_heap gT]; rfl
  have x4 : wB.cell? ⟨T, 4, none⟩ = some (.int .i64 (-5)) := by rw [Lib.cell_of_heap gT]; rfl
  clear gT
  go_wp2_with fail
  clear x0 x1 x2 x3 x4
  obtain ⟨VC, hVC⟩ : ∃ W, W = wB.alloc (.cells #[.string ⟨#[97, 99, 109, 101]⟩, .string ⟨#[97, 110, 110]⟩, .int .i64 290, .int .i64 250000, .int .i64 (-5)] 25) := ⟨_, rfl⟩
  obtain ⟨EC, hEC⟩ : ∃ x, x = wB.heap.size := ⟨_, rfl⟩
  rw [← hVC]
  try rw [← hEC]
  have hBC : Below wB.heap.size wB VC := by rw [hVC]; exact bal (Below.refl _ _) _
  have hSC : Sl VC VC.heap.size 5 (some ⟨EC, 0, none⟩) 1 ([hT29].flatMap totL5) := by rw [hVC, hEC]; exact sl_cells (World.alloc_heap_new _ _) rfl rfl
  clear hVC hEC
  refine (same29_any A6 _ cap6 1 1 1 [hT29] [hT29] rfl rfl (by decide) true (Lib.hid (decide_eq_true rfl)) VC (HB.out.2.2.go hBC) hSC).mono ?_
  rintro e wD ⟨rfl, hBD⟩
  go_wp2
  go_ret
  exact ⟨rfl, bgo (bgo HB.out.2.1 hBC) hBD⟩
end Go.Proofs.YtpmakhfpdidleaaDoor
namespace Go.Proofs.YtpmakhfpdidleaaDoor
open Go.RowKit Go.ChangeShapes Go.WideShapes Go.Deep Go.Shelf
set_option linter.unusedVariables false
set_option linter.unusedSimpArgs false
set_option maxRecDepth 100000
def Tabs (w : World) : Prop := CaT.Tabs w ∧ OTabs w
theorem Tabs.go {w w' : World} (h : Tabs w) (hb : Below w.heap.size w w') : Tabs w' := ⟨h.1.go hb, h.2.go hb⟩
theorem gBef : Tryd.prog.globalNamed "wageoffice/calendar.before" = some 0 := by kernel_rfl
theorem gDig : Tryd.prog.globalNamed "wageoffice/digest.digits" = some 1 := by kernel_rfl
theorem tab_heap {W : World} {name : String} {g : Nat} {k : IntKind} {zs : List Int} (hg : Tryd.prog.globalNamed name = some g) (h : Lib.TabIs Tryd.prog W name k zs) : ∃ t fr, W.heap[g]? = some (.cells (zs.map fun z => Value.int k z).toArray t fr) := by
  unfold Lib.TabIs World.var? at h
  rw [hg] at h
  simp only [Option.bind_some] at h
  split at h
  · rename_i cs t fr hq
    refine ⟨t, fr, ?_⟩
    rw [hq]
    simpa using h
  · cases h
theorem tabs_of_vars {W : World} {z1 z2 : List Int} (_ : Lib.TabIs Tryd.prog W "math/bits.deBruijn32tab" .u8 z1) (_ : Lib.TabIs Tryd.prog W "math/bits.deBruijn64tab" .u8 z2)
    (h3 : Lib.TabIs Tryd.prog W "internal/strconv.uint64pow10" .u64 Lib.pow10Tab) (h4 : Lib.TabIs Tryd.prog W "wageoffice/calendar.before" .i64 [0, 31, 59, 90, 120, 151, 181, 212, 243, 273, 304, 334, 365])
    (h5 : Lib.TabIs Tryd.prog W "wageoffice/digest.digits" .u8 [48, 49, 50, 51, 52, 53, 54, 55, 56, 57, 97, 98, 99, 100, 101, 102]) : Tabs W := by
  refine ⟨⟨?_, h3⟩, ?_, h3⟩
  · obtain ⟨t, fr, h⟩ := tab_heap gBef h4
    exact ⟨t, fr, by rw [h]; rfl⟩
  · obtain ⟨t, fr, h⟩ := tab_heap gDig h5
    exact ⟨t, fr, by rw [h]; rfl⟩
/-- Four numbers. -/
structure Quad where
  a : Int
  b : Int
  c : Int
  d : Int
def QuadOk (q : Quad) : Prop := I64 q.a ∧ I64 q.b ∧ I64 q.c ∧ I64 q.d
def quadV (q : Quad) : List Value := [.int .i64 q.a, .int .i64 q.b, .int .i64 q.c, .int .i64 q.d]
theorem cells_int35 : Tryd.prog.cellsOf 3 = 1 := by kernel_rfl
theorem okWide_arr {P : Program} {w : World} {r : Reach} {base : Nat} {t e : TypeId} {n : Nat} {v : Value} (ht : P.underlying t = some (.array n e)) (h : Value.okWide P w r base t v) : ∃ cs, v = .agg cs ∧ cs.size = P.cellsOf t := by
  simp only [Value.okWide, ht] at h
  obtain ⟨cs, h1, h2, _⟩ := h
  exact ⟨cs, h1, h2⟩
theorem open_int4 {H : Type} {enc : TypeId × Value → H} {W : World} {base : Nat} {v : Value} {d : DataW H} {p : List MemPlace} (hv : Value.okWide Tryd.prog W .any base 22 v) (h : DataW.Trod enc Tryd.prog W 0 (fun _ => true) true 22 v d p) :
    ∃ q : Quad, v = .agg #[.int .i64 q.a, .int .i64 q.b, .int .i64 q.c, .int .i64 q.d] ∧ QuadOk q := by
  obtain ⟨cs, rfl, hsz⟩ := okWide_arr Tryd.underlying22 hv
  rw [(by kernel_rfl : Tryd.prog.cellsOf 22 = 4)] at hsz
  obtain ⟨cs⟩ := cs
  match cs, hsz with
  | [c0, c1, c2, c3], _ =>
    obtain ⟨fuel, hf⟩ := h
    obtain ⟨y0, y1, y2, y3, m, _, hy0, hy1, hy2, hy3⟩ := trod_array4 Tryd.underlying22 cells_int35 hf
    obtain ⟨a, ha, _, wa⟩ := DataW.trod_int Tryd.underlying3 hy0
    obtain ⟨b, hb, _, wb⟩ := DataW.trod_int Tryd.underlying3 hy1
    obtain ⟨c, hc, _, wc⟩ := DataW.trod_int Tryd.underlying3 hy2
    obtain ⟨e, he, _, we⟩ := DataW.trod_int Tryd.underlying3 hy3
    refine ⟨⟨a, b, c, e⟩, ?_, bounds_i64 wa, bounds_i64 wb, bounds_i64 wc, bounds_i64 we⟩
    simp at ha hb hc he
    rw [ha, hb, hc, he]
instance : Inhabited Quad := ⟨⟨0, 0, 0, 0⟩⟩
theorem quads_len (l : List Quad) : (l.flatMap quadV).length = l.length * 4 := by
  induction l with
  | nil => rfl
  | cons x l ih => rw [List.flatMap_cons, List.length_append, ih, List.length_cons, show (quadV x).length = 4 from rfl]; omega
end Go.Proofs.YtpmakhfpdidleaaDoor
namespace Go.Proofs.YtpmakhfpdidleaaDoor
open Go.RowKit Go.Shelf
set_option linter.unusedVariables false
set_option linter.unusedSimpArgs false
/-- What makes a list the latest totals of another one. -/
structure IsLate (R acc : List TotD) : Prop where
  sub : ∀ u ∈ acc, u ∈ R ∧ ∀ v ∈ R, v.e = u.e → v.m ≤ u.m
  cov : ∀ v ∈ R, ∃ u ∈ acc, u.e = v.e
  one : OneE acc
theorem IsLate.new : IsLate [] [] := ⟨fun u h => (by cases h), fun u h => (by cases h), List.Pairwise.nil⟩
theorem mem_updT {acc : List TotD} {t u : TotD} : u ∈ updT acc t ↔ u = t ∨ (u ∈ acc ∧ ¬ u.e = t.e) := by
  unfold updT
  rw [List.mem_cons, List.mem_filter, decide_eq_true_iff]
theorem IsLate.upd {R acc : List TotD} (h : IsLate R acc) (t : TotD) (ht : ∀ v ∈ R, v.e = t.e → v.m ≤ t.m) : IsLate (R ++ [t]) (updT acc t) := by
  refine ⟨fun u hu => ?_, fun v hv => ?_, updT_one h.one t⟩
  · rcases mem_updT.1 hu with e | ⟨hu, hne⟩
    · subst e
      refine ⟨by simp, fun v hv he => ?_⟩
      rcases List.mem_append.1 hv with hv | hv
      · exact ht v hv he
      · rw [List.mem_singleton.1 hv]; exact Int.le_refl _
    · obtain ⟨h1, h2⟩ := h.sub u hu
      refine ⟨List.mem_append_left _ h1, fun v hv he => ?_⟩
      rcases List.mem_append.1 hv with hv | hv
      · exact h2 v hv he
      · rw [List.mem_singleton.1 hv] at he; exact absurd he.symm hne
  · rcases List.mem_append.1 hv with hv | hv
    · obtain ⟨u, hu, he⟩ := h.cov v hv
      by_cases hx : u.e = t.e
      · exact ⟨t, mem_updT.2 (.inl rfl), by rw [← he, hx]⟩
      · exact ⟨u, mem_updT.2 (.inr ⟨hu, hx⟩), he⟩
    · rw [List.mem_singleton.1 hv]
      exact ⟨t, mem_updT.2 (.inl rfl), rfl⟩
theorem IsLate.step {R acc : List TotD} (h : IsLate R acc) (t : TotD) : IsLate (R ++ [t]) (stepT acc t) := by
  unfold stepT
  split
  · rename_i hl
    refine h.upd t fun v hv he => ?_
    obtain ⟨u, hu, hue⟩ := h.cov v hv
    exact absurd (hue.trans he) (lastT_none hl u hu)
  · rename_i u0 hl
    obtain ⟨hu0, he0⟩ := lastT_some hl
    split
    · rename_i hle
      refine h.upd t fun v hv he => ?_
      exact Int.le_trans ((h.sub u0 hu0).2 v hv (he.trans he0.symm)) hle
    · rename_i hle
      refine ⟨fun u hu => ?_, fun v hv => ?_, h.one⟩
      · obtain ⟨h1, h2⟩ := h.sub u hu
        refine ⟨List.mem_append_left _ h1, fun v hv he => ?_⟩
        rcases List.mem_append.1 hv with hv | hv
        · exact h2 v hv he
        · rw [List.mem_singleton.1 hv] at he ⊢
          have : u = u0 := h.one.eq hu hu0 (he.symm.trans he0.symm)
          rw [this]; omega
      · rcases List.mem_append.1 hv with hv | hv
        · exact h.cov v hv
        · rw [List.mem_singleton.1 hv]
          exact ⟨u0, hu0, he0⟩
theorem late_fold : ∀ (l P acc : List TotD), IsLate P acc → IsLate (P ++ l) (l.foldl stepT acc)
  | [], P, acc, h => by rw [List.append_nil]; exact h
  | x :: l, P, acc, h => by
    have := late_fold l (P ++ [x]) (stepT acc x) (h.step x)
    rw [List.append_assoc] at this
    exact this
theorem late_is (R : List TotD) : IsLate R (lateL R) := by
  have := late_fold R [] [] IsLate.new
  rwa [List.nil_append] at this
/-- Employer and month tell the totals apart. -/
def DistEM (R : List TotD) : Prop := ∀ u ∈ R, ∀ v ∈ R, u.e = v.e → u.m = v.m → u = v
theorem one_nodup {acc : List TotD} (h : OneE acc) : acc.Nodup := by
  unfold OneE at h
  exact h.imp fun k e => k (by rw [e])
theorem IsLate.le {R R' acc acc' : List TotD} (h : IsLate R acc) (h' : IsLate R' acc') (hm : ∀ u, u ∈ R ↔ u ∈ R') (hd : DistEM R) {u : TotD} (hu : u ∈ acc) : u ∈ acc' := by
  obtain ⟨h1, h2⟩ := h.sub u hu
  obtain ⟨v, hv, hve⟩ := h'.cov u ((hm u).1 h1)
  obtain ⟨h3, h4⟩ := h'.sub v hv
  have h5 := h2 v ((hm v).2 h3) hve
  have h6 := h4 u ((hm u).1 h1) hve.symm
  have : u = v := hd u h1 v ((hm v).2 h3) hve.symm (Int.le_antisymm h6 h5)
  rw [this]; exact hv
theorem IsLate.same {R R' acc acc' : List TotD} (h : IsLate R acc) (h' : IsLate R' acc') (hm : ∀ u, u ∈ R ↔ u ∈ R') (hd : DistEM R) : acc.Perm acc' := by
  have hd' : DistEM R' := fun u hu v hv => hd u ((hm u).2 hu) v ((hm v).2 hv)
  exact (List.perm_ext_iff_of_nodup (one_nodup h.one) (one_nodup h'.one)).2 fun u => ⟨h.le h' hm hd, h'.le h (fun u => (hm u).symm) hd'⟩
theorem sumA_perm (f : TotD → Int) {a b : List TotD} (h : a.Perm b) : sumA f a = sumA f b := by
  unfold sumA
  induction h with
  | nil => rfl
  | cons x _ ih => rw [List.map_cons, List.map_cons, List.sum_cons, List.sum_cons, ih]
  | swap x y l => simp only [List.map_cons, List.sum_cons]; omega
  | trans _ _ h1 h2 => rw [h1, h2]
theorem late_sum (f : TotD → Int) {R R' : List TotD} (hm : ∀ u, u ∈ R ↔ u ∈ R') (hd : DistEM R) : sumA f (lateL R) = sumA f (lateL R') :=
  sumA_perm f ((late_is R).same (late_is R') hm hd)
theorem IsLate.filter {R acc : List TotD} (h : IsLate R acc) (e : ByteArray) : IsLate (R.filter fun u => decide (¬ u.e = e)) (acc.filter fun u => decide (¬ u.e = e)) := by
  refine ⟨fun u hu => ?_, fun v hv => ?_, h.one.filter _⟩
  · obtain ⟨h1, h2⟩ := List.mem_filter.1 hu
    obtain ⟨h3, h4⟩ := h.sub u h1
    exact ⟨List.mem_filter.2 ⟨h3, h2⟩, fun v hv he => h4 v (List.mem_filter.1 hv).1 he⟩
  · obtain ⟨h1, h2⟩ := List.mem_filter.1 hv
    obtain ⟨u, hu, he⟩ := h.cov v h1
    exact ⟨u, List.mem_filter.2 ⟨hu, by rw [he]; exact h2⟩, he⟩
theorem late_last (f : TotD → Int) {R : List TotD} (t : TotD) (hle : ∀ u ∈ R, u.m ≤ t.m) (hd : DistEM R) : sumA f (lateL (R ++ [t])) = sumA f (lateL (R.filter fun u => decide (¬ u.e = t.e))) + f t := by
  have h1 : lateL (R ++ [t]) = updT (lateL R) t := by
    unfold lateL
    rw [List.foldl_append, List.foldl_cons, List.foldl_nil]
    show stepT (lateL R) t = updT (lateL R) t
    unfold stepT
    split
    · rfl
    · rename_i u hu
      rw [if_pos (hle u ((late_is R).sub u (lastT_some hu).1).1)]
  have hd2 : DistEM (R.filter fun u => decide (¬ u.e = t.e)) := fun u hu v hv => hd u (List.mem_filter.1 hu).1 v (List.mem_filter.1 hv).1
  have h2 := sumA_perm f (((late_is R).filter t.e).same (late_is _) (fun u => Iff.rfl) hd2)
  rw [h1, ← h2]
  unfold updT sumA
  rw [List.map_cons, List.sum_cons]
  omega
/-- Whether a total is like none of a list. -/
def newT (out : List TotD) (t : TotD) : Bool := out.all fun u => decide (u.e ≠ t.e) || decide (u.p ≠ t.p) || decide (u.m ≠ t.m)
def distStep (out : List TotD) (t : TotD) : List TotD := if newT out t = true then out ++ [t] else out
def distT (l : List TotD) : List TotD := l.foldl distStep []
/-- Two totals that differ in employer, person or month. -/
def ApartT (u v : TotD) : Prop := ¬ (u.e = v.e ∧ u.p = v.p ∧ u.m = v.m)
theorem newT_out {out : List TotD} {t : TotD} (h : newT out t = true) : ∀ u ∈ out, ApartT u t := by
  intro u hu hc
  have := List.all_eq_true.1 h u hu
  simp [hc.1, hc.2.1, hc.2.2] at this
theorem distStep_apart {out : List TotD} (h : out.Pairwise ApartT) (t : TotD) : (distStep out t).Pairwise ApartT := by
  unfold distStep
  split
  · rename_i hn
    refine List.pairwise_append.2 ⟨h, List.pairwise_singleton _ _, fun a ha b hb => ?_⟩
    rw [List.mem_singleton.1 hb]
    exact newT_out hn a ha
  · exact h
theorem distFold_apart : ∀ (l out : List TotD), out.Pairwise ApartT → (l.foldl distStep out).Pairwise ApartT
  | [], out, h => h
  | x :: l, out, h => distFold_apart l _ (distStep_apart h x)
theorem distT_apart (l : List TotD) : (distT l).Pairwise ApartT := distFold_apart l [] List.Pairwise.nil
theorem distFold_mem : ∀ (l out : List TotD) {u : TotD}, u ∈ l.foldl distStep out → u ∈ l ∨ u ∈ out
  | [], out, u, h => .inr h
  | x :: l, out, u, h => by
    rcases distFold_mem l _ h with h | h
    · exact .inl (.tail _ h)
    · unfold distStep at h
      split at h
      · rcases List.mem_append.1 h with h | h
        · exact .inr h
        · exact .inl (by rw [List.mem_singleton.1 h]; exact .head _)
      · exact .inr h
theorem distT_mem {l : List TotD} {u : TotD} (h : u ∈ distT l) : u ∈ l := by
  rcases distFold_mem l [] h with h | h
  · exact h
  · cases h
theorem distFold_len : ∀ (l out : List TotD), (l.foldl distStep out).length ≤ l.length + out.length
  | [], out => by simp
  | x :: l, out => by
    have h1 := distFold_len l (distStep out x)
    have h2 : (distStep out x).length ≤ out.length + 1 := by unfold distStep; split <;> simp
    rw [List.foldl_cons, List.length_cons]
    omega
theorem distT_len (l : List TotD) : (distT l).length ≤ l.length := distFold_len l []
theorem dist_take_succ {l : List TotD} {k : Nat} {t : TotD} (h : l[k]? = some t) : distT (l.take (k + 1)) = distStep (distT (l.take k)) t := by
  unfold distT
  rw [List.take_add_one, h, Option.toList_some, List.foldl_append]
  rfl
theorem apart_eq {l : List TotD} (h : l.Pairwise ApartT) : ∀ u ∈ l, ∀ v ∈ l, u.e = v.e → u.p = v.p → u.m = v.m → u = v := by
  induction l with
  | nil => intro u hu; cases hu
  | cons a r ih =>
    obtain ⟨h1, h2⟩ := List.pairwise_cons.1 h
    intro u hu v hv e1 e2 e3
    rcases List.mem_cons.1 hu with hu2 | hu2
    · rcases List.mem_cons.1 hv with hv2 | hv2
      · rw [hu2, hv2]
      · rw [hu2] at e1 e2 e3; exact absurd ⟨e1, e2, e3⟩ (h1 v hv2)
    · rcases List.mem_cons.1 hv with hv2 | hv2
      · rw [hv2] at e1 e2 e3; exact absurd ⟨e1.symm, e2.symm, e3.symm⟩ (h1 u hu2)
      · exact ih h2 u hu2 v hv2 e1 e2 e3
theorem cnt_dist {l : List TotD} (h : l.Pairwise ApartT) (p : ByteArray) (m : Int) : DistEM (l.filter (cntB p m)) := by
  intro u hu v hv e1 e2
  obtain ⟨hu, cu⟩ := List.mem_filter.1 hu
  obtain ⟨hv, cv⟩ := List.mem_filter.1 hv
  have hp : ∀ {t : TotD}, cntB p m t = true → t.p = p := by
    intro t ht
    unfold cntB at ht
    simp only [Bool.and_eq_true, decide_eq_true_eq] at ht
    exact ht.1.1.2
  exact apart_eq h u hu v hv e1 ((hp cu).trans (hp cv).symm) e2
/-- What Before returns does not depend on the order. -/
theorem bef_sum (f : TotD → Int) {a b : List TotD} (p : ByteArray) (m : Int) (hm : ∀ u, u ∈ a ↔ u ∈ b) (h : a.Pairwise ApartT) : sumA f (befT p m a) = sumA f (befT p m b) := by
  refine late_sum f (fun u => ?_) (cnt_dist h p m)
  rw [List.mem_filter, List.mem_filter, hm]
theorem bef_few (f : TotD → Int) (a : List TotD) (p : ByteArray) (m : Int) : befT p m (a.filter (cntB p m)) = befT p m a := by
  unfold befT
  rw [List.filter_filter]
  congr 1
  exact List.filter_congr fun x _ => by rw [Bool.and_self]
theorem bef_none {a : List TotD} {p : ByteArray} {m : Int} (h : ∀ u ∈ a, cntB p m u = false) : befT p m a = [] := by
  unfold befT
  rw [List.filter_eq_nil_iff.2 fun u hu => by rw [h u hu]; decide]
  rfl
theorem cnt_none {p : ByteArray} {m : Int} (hm : m % 12 = 0) (hm0 : 0 ≤ m) (u : TotD) : cntB p m u = false := by
  cases h : cntB p m u with
  | false => rfl
  | true =>
    unfold cntB at h
    simp only [Bool.and_eq_true, decide_eq_true_eq] at h
    omega
theorem cnt_start {p : ByteArray} {m : Int} (hm0 : 0 ≤ m) (u : TotD) : cntB p (m - m % 12) u = false := cnt_none (by omega) (by omega) u
theorem cnt_out {p : ByteArray} {m : Int} {t : TotD} (h : cntB p m t = true) : validTB t = true ∧ t.p = p ∧ t.m < m ∧ t.m / 12 = m / 12 := by
  unfold cntB at h
  simp only [Bool.and_eq_true, decide_eq_true_eq] at h
  exact ⟨h.1.1.1, h.1.1.2, h.1.2, h.2⟩
theorem bef_last (f : TotD → Int) {a : List TotD} (p : ByteArray) (m : Int) (t : TotD) (ht : cntB p m t = true) (htm : t.m = m - 1) (h : a.Pairwise ApartT) :
    sumA f (befT p m (a ++ [t])) = sumA f (befT p m ((a.filter (cntB p m)).filter fun u => decide (¬ u.e = t.e))) + f t := by
  have h1 : (a ++ [t]).filter (cntB p m) = a.filter (cntB p m) ++ [t] := by rw [List.filter_append, List.filter_cons, if_pos ht]; rfl
  have h2 : ((a.filter (cntB p m)).filter fun u => decide (¬ u.e = t.e)).filter (cntB p m) = (a.filter (cntB p m)).filter fun u => decide (¬ u.e = t.e) := by
    rw [List.filter_eq_self]
    intro u hu
    exact (List.mem_filter.1 (List.mem_filter.1 hu).1).2
  unfold befT
  rw [h1, h2]
  refine late_last f t (fun u hu => ?_) (cnt_dist h p m)
  have := (cnt_out (List.mem_filter.1 hu).2).2.2.1
  omega
theorem rot_mem (a : List TotD) (k : Nat) (u : TotD) : u ∈ a ↔ u ∈ a.drop k ++ a.take k := by
  conv => lhs; rw [← List.take_append_drop k a]
  rw [List.mem_append, List.mem_append, or_comm]
theorem sumA_bound (f : TotD → Int) {l : List TotD} {B : Int} (hB : ∀ t ∈ l, -B ≤ f t ∧ f t ≤ B) (n : Nat) (hn : l.length ≤ n) (h0 : 0 ≤ B) : -(B * (n : Int)) ≤ sumA f l ∧ sumA f l ≤ B * (n : Int) := by
  have hs : ∀ l : List TotD, (∀ t ∈ l, -B ≤ f t ∧ f t ≤ B) → -(B * (l.length : Int)) ≤ sumA f l ∧ sumA f l ≤ B * (l.length : Int) := by
    intro l
    induction l with
    | nil => intro _; unfold sumA; simp
    | cons a r ih =>
      intro h
      have h1 := ih fun t ht => h t (.tail _ ht)
      have h2 := h a (.head _)
      unfold sumA at h1 ⊢
      rw [List.map_cons, List.sum_cons, List.length_cons]
      have : B * ((r.length + 1 : Nat) : Int) = B * (r.length : Int) + B := by rw [Int.natCast_add, Int.mul_add]; simp
      rw [this]
      omega
  have h1 := hs l hB
  have h2 : B * (l.length : Int) ≤ B * (n : Int) := Int.mul_le_mul_of_nonneg_left (by omega) h0
  omega
end Go.Proofs.YtpmakhfpdidleaaDoor
namespace Go.Proofs.YtpmakhfpdidleaaDoor
open Go.RowKit Go.Shelf
set_option linter.unusedVariables false
set_option linter.unusedSimpArgs false
set_option maxRecDepth 100000
def qT (q : Quad) : TotD := madeT q.a q.b q.c q.d
def madeL (qs : List Quad) : List TotD := (qs.take 20).map qT
theorem madeL_len (qs : List Quad) : (madeL qs).length ≤ 20 := by unfold madeL; rw [List.length_map, List.length_take]; omega
theorem madeL_valid (qs : List Quad) : ∀ t ∈ madeL qs, validTB t = true := by
  intro t ht
  obtain ⟨q, _, rfl⟩ := List.mem_map.1 ht
  exact made_valid _ _ _ _
theorem newT_succ {os : List TotD} {q : Nat} {u t : TotD} (h : os[q]? = some u) : newT (os.take (q + 1)) t = (newT (os.take q) t && (decide (u.e ≠ t.e) || decide (u.p ≠ t.p) || decide (u.m ≠ t.m))) := by
  unfold newT
  rw [List.take_add_one, h, Option.toList_some, List.all_append]
  simp
theorem str_ne {a b : ByteArray} (h : ¬ a = b) : (a.toList != b.toList) = true := by
  rw [bne_iff_ne]
  intro e
  rw [ByteArray.toList_eq, ByteArray.toList_eq] at e
  exact h (bytes_eq e)
theorem str_eqs {a b : ByteArray} (h : a = b) : (a.toList == b.toList) = true := by rw [h]; simp
theorem str_nes {a b : ByteArray} (h : ¬ a = b) : (a.toList == b.toList) = false := by
  have := str_ne h
  rw [bne] at this
  simpa using this
theorem str_same {a b : ByteArray} (h : a = b) : (a.toList != b.toList) = false := by rw [h]; simp
end Go.Proofs.YtpmakhfpdidleaaDoor
namespace Go.Proofs.YtpmakhfpdidleaaDoor
open Go.RowKit
set_option linter.unusedVariables false
set_option linter.unusedSimpArgs false
theorem hn_takeK {α : Type} (f : α → List Value) (c : Nat) (hf : ∀ x, (f x).length = c) : ∀ (l : List α) (k : Nat), (l.flatMap f).take (k * c) = (l.take k).flatMap f
  | [], k => by simp
  | x :: l, 0 => by simp
  | x :: l, k + 1 => by
    rw [List.flatMap_cons, List.take_succ_cons, List.flatMap_cons, ← hn_takeK f c hf l k, List.take_append, hf, Nat.add_mul, Nat.one_mul, Nat.add_sub_cancel, List.take_of_length_le (by rw [hf]; omega)]
theorem hn_dropK {α : Type} (f : α → List Value) (c : Nat) (hf : ∀ x, (f x).length = c) : ∀ (l : List α) (k : Nat), (l.flatMap f).drop (k * c) = (l.drop k).flatMap f
  | [], k => by simp
  | x :: l, 0 => by simp
  | x :: l, k + 1 => by
    rw [List.flatMap_cons, List.drop_succ_cons, ← hn_dropK f c hf l k, List.drop_append, hf, Nat.add_mul, Nat.one_mul, Nat.add_sub_cancel, List.drop_of_length_le (by rw [hf]; omega), List.nil_append]
theorem hn_src {W : World} {B size n c b off : Nat} {xs : List Value} (h : Sl W B size (some ⟨b, off, none⟩) n xs) : Src W size (.slice (some ⟨b, off, none⟩) n c) n xs := by
  refine .inr ⟨_, c, rfl, h.1, fun j u hu => ?_⟩
  rcases Nat.eq_zero_or_pos n with h0 | h0
  · have hl := h.1
    rw [h0, Nat.zero_mul] at hl
    have := (List.getElem?_eq_some_iff.1 hu).1
    omega
  · obtain ⟨b', off', e, _, hc⟩ := h.2 h0
    injection e with e; injection e with e1 e2
    subst e1; subst e2
    rw [Addr.add_lit]
    exact hc j u hu
theorem Sl.hndrop {W : World} {B size n b off : Nat} {xs : List Value} (h : Sl W B size (some ⟨b, off, none⟩) n xs) (k : Nat) (hk : k ≤ n) : Sl W B size (some ⟨b, off + k * size, none⟩) (n - k) (xs.drop (k * size)) := by
  refine ⟨by rw [List.length_drop, h.1, Nat.sub_mul], fun h0 => ?_⟩
  obtain ⟨b', off', e, hb, hc⟩ := h.2 (by omega)
  injection e with e; injection e with e1 e2
  subst e1; subst e2
  refine ⟨b, off + k * size, rfl, hb, fun j u hu => ?_⟩
  rw [List.getElem?_drop] at hu
  rw [Nat.add_assoc]
  exact hc _ _ hu
theorem hn_mk (W : World) (cur : Array Value) (k : Nat) (e : TypeId) (size : Nat) (h : cur.size = k * size) (hk : k ≤ maxLen) (base : Nat) (hb : base ≤ W.heap.size) : (W.alloc (.cells cur e)).ownsRow base e size (.slice (some ⟨W.heap.size, 0, none⟩) 0 k) 0 [] :=
  ⟨by simp, .inr ⟨W.heap.size, k, cur, rfl, hb, World.alloc_heap_new W _, Nat.zero_le _, hk, h, by simp⟩⟩
theorem own_shape {W : World} {base : Nat} {e : TypeId} {size n : Nat} {v : Value} {xs : List Value} (h : W.ownsRow base e size v n xs) :
    (v = .slice none 0 0 ∧ n = 0) ∨ ∃ b off cap, v = .slice (some ⟨b, off, none⟩) n cap ∧ Sl W W.heap.size size (some ⟨b, off, none⟩) n xs ∧ n ≤ cap ∧ cap ≤ maxLen := by
  obtain ⟨A, cap, hv, hs, h1, h2⟩ := own_slice2 h
  rcases h.2 with h3 | ⟨g, cap', cur, h3, _⟩
  · exact .inl h3
  · rw [h3] at hv
    injection hv with e1 e2 e3
    subst e1 e3
    exact .inr ⟨g, 0, cap', h3, hs, h1, h2⟩
theorem src_zero9 (W : World) (size : Nat) (a : Addr) (c : Nat) : Src W size (.slice (some a) 0 c) 0 [] := .inr ⟨a, c, rfl, by simp, fun j u hu => by simp at hu⟩
/-- Where the row lies that an append has made. -/
theorem run_where {P : Program} {W : World} (base : Nat) (t ty e : TypeId) (i : TypeInfo) (z : Value) (size bytes : Nat) (ht : P.underlying t = some (.slice e)) (hi : P.info? e = some i) (hz : i.zero = some z)
    (hsize : i.size = size) (hby : i.bytes = bytes) (v : Value) (n : Nat) (xs : List Value) (hown : W.ownsRow base e size v n xs)
    (sv : Value) (m : Nat) (cs : List Value) (hsrc : Src W size sv m cs) (h1 : ∀ u ∈ cs, u.oneCell' = true) (h0 : 0 < m) (h63 : n + m ≤ maxLen) (hbytes : (n + m) * bytes ≤ 140737488355328) {v' : Value} {w' : World}
    (hr : (Builtin.append_ #[t, t] ty #[v, sv]).run P W = .ok v' w') : v'.ownBlock = v.ownBlock ∨ v'.ownBlock = some W.heap.size := by
  subst hsize hby
  unfold maxLen at h63
  rcases hsrc with ⟨_, h, _⟩ | ⟨ad, c, rfl, hl, hc⟩
  · omega
  · rcases hown.2 with ⟨rfl, rfl⟩ | ⟨g, cap, cur, rfl, hbg, hg, hnc, hcm, hcs, htake⟩
    · have hx : xs = [] := List.eq_nil_of_length_eq_zero (by simpa using hown.1)
      subst hx
      have h := run_append_nil (P := P) W t ty e i z ht hi hz ad m c cs hl hc h0 (by omega) (by simp at hbytes; omega)
      rw [h] at hr
      injection hr with e1 e2
      rw [← e1]
      exact .inr rfl
    · by_cases hroom : n + m ≤ cap
      · have hfit : n * i.size + cs.length ≤ cur.size := by rw [hl, hcs, ← Nat.add_mul]; exact Nat.mul_le_mul_right _ hroom
        have h := run_append_room (P := P) W t ty e i ht hi g n cap cur hg ad m c cs hl hc h1 hroom hfit
        rw [h] at hr
        injection hr with e1 e2
        rw [← e1]
        exact .inl rfl
      · have holds : ∀ j u, xs[j]? = some u → W.cell? ((⟨g, 0, none⟩ : Addr).add j) = some u := hown.cells (g := g) rfl
        have h := run_append_grow (P := P) W t ty e i z ht hi hz ⟨g, 0, none⟩ n cap xs hown.1 holds ad m c cs hl hc (by omega) (by omega) (growslice_fits (by omega) hbytes)
        rw [h] at hr
        injection hr with e1 e2
        rw [← e1]
        exact .inr rfl
theorem app_src3 {P : Program} {W w0 : World} {ops : Array Oper} {rest : List Oper} {o : Oper} {a : Act} {Q : Exit → Act → World → Prop} (base : Nat) (hb0 : w0.heap.size ≤ base) (hbW : base ≤ W.heap.size) (hgd : o.guard = none) (s x : Operand) (t : TypeId)
    (ho : o.op = .call { callee := .builtin .append, args := #[s, x], argTypes := #[t, t] }) (e : TypeId) (i : TypeInfo) (z : Value) (size bytes : Nat) (ht : P.underlying t = some (.slice e)) (hi : P.info? e = some i) (hz : i.zero = some z)
    (hsize : i.size = size) (hby : i.bytes = bytes) (hzs : z.cells.size = size) (hsz : 0 < size) (v : Value) (n : Nat) (xs : List Value) (hs : a.eval s = v) (hown : W.ownsRow base e size v n xs) (hB : Below w0.heap.size w0 W)
    (sv : Value) (m : Nat) (cs : List Value) (hx : a.eval x = sv) (hsrc : Src W size sv m cs) (h1 : ∀ u ∈ cs, u.oneCell' = true) (h0 : 0 < m) (h63 : n + m ≤ maxLen) (hbytes : (n + m) * bytes ≤ 140737488355328)
    (h : ∀ v' w', w'.ownsRow base e size v' (n + m) (xs ++ cs) → Below w0.heap.size w0 w' → Kept W v w' → (v'.ownBlock = v.ownBlock ∨ v'.ownBlock = some W.heap.size) → wpList P ops Q rest (a.put o.dst v') w') : wpList P ops Q (o :: rest) a W := by
  obtain ⟨v', w', hr, h2, h3, h4⟩ := run_app2 base hb0 hbW (ty := o.type) t e i z size bytes ht hi hz hsize hby hzs hsz v n xs hown hB sv m cs hsrc h1 h63 hbytes
  have hw := run_where base t o.type e i z size bytes ht hi hz hsize hby v n xs hown sv m cs hsrc h1 h0 h63 hbytes hr
  refine wpList_plain hgd fun K hK => ?_
  unfold Oper.wp
  simp [execOp, ho, resolve, invoke, builtin, hs, hx, hr, Result.andThen]
  exact hK _ _ (h v' w' h2 h3 h4 hw)
/-- Two rows of the call's own that do not share a block. -/
def OwnApart (u v : Value) : Prop := ∀ g, u.ownBlock = some g → v.ownBlock ≠ some g
theorem OwnApart.symm {u v : Value} (h : OwnApart u v) : OwnApart v u := fun g hv hu => h g hu hv
theorem OwnApart.nil (v : Value) : OwnApart (.slice none 0 0) v := fun g h => by cases h
theorem OwnApart.app {u v v' : Value} {W : World} {base : Nat} {e : TypeId} {size n : Nat} {xs : List Value} (h : OwnApart u v) (hw : v'.ownBlock = v.ownBlock ∨ v'.ownBlock = some W.heap.size) (hu : W.ownsRow base e size u n xs) : OwnApart u v' := by
  intro g hg hv
  rcases hw with k | k
  · exact h g hg (k.symm.trans hv)
  · rw [k] at hv
    injection hv with hv
    have := (own_far' hu hg).2
    omega
theorem OwnApart.keep {W W' : World} {u v : Value} {base : Nat} {e : TypeId} {size n : Nat} {xs : List Value} (h : OwnApart u v) (hu : W.ownsRow base e size u n xs) (k : Kept W v W') : W'.ownsRow base e size u n xs :=
  own_keep hu fun g hg => k.2 g (own_far' hu hg).2 (h g hg)
end Go.Proofs.YtpmakhfpdidleaaDoor
