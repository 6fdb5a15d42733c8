/- The walk of the law package's head (layer 29). Arguments of the laws of layer 29: the tables, quadruples, lists of quadruples. The latest totals do not depend on the order of a list (layer 29, plain). -/
import Derived.Test.YtmebllhkfepkdaaDoorQ23
import Derived.Test.YtmebllhkfepkdaaDoorQ06
import Derived.Deep.SlicePairs
import Derived.Laws.IdiomArrays
import Derived.Lib.SmallJoins
namespace Go.Proofs.YtmebllhkfepkdaaDoor
open Go.RowKit Go.Shelf
set_option linter.unusedVariables false
set_option linter.unusedSimpArgs false
set_option maxRecDepth 100000
def hT29 : TotD := ⟨⟨#[97, 99, 109, 101]⟩, ⟨#[97, 110, 110]⟩, 290, 250000, -5⟩
def hL29 : List TotD := [⟨⟨#[97, 99, 109, 101]⟩, ⟨#[97, 110, 110]⟩, 288, 100, 10⟩, ⟨⟨#[97, 99, 109, 101]⟩, ⟨#[97, 110, 110]⟩, 289, 250, 20⟩, ⟨⟨#[98, 111, 108, 116]⟩, ⟨#[97, 110, 110]⟩, 288, 7, 1⟩]
theorem own_slice2 {W : World} {base : Nat} {e : TypeId} {size n : Nat} {v : Value} {xs : List Value} (h : W.ownsRow base e size v n xs) : ∃ A cap, v = .slice A n cap ∧ Sl W W.heap.size size A n xs ∧ n ≤ cap ∧ cap ≤ maxLen := by
  obtain ⟨A, cap, hv, hs⟩ := own_slice h
  subst hv
  refine ⟨A, cap, rfl, hs, ?_⟩
  rcases h.2 with ⟨h1, h0⟩ | ⟨g, cap', cur, h1, _, _, h4, h5, _⟩
  · injection h1 with _ _ h1
    subst h1 h0
    exact ⟨Nat.le_refl _, Nat.zero_le _⟩
  · injection h1 with _ _ h1
    subst h1
    exact ⟨h4, h5⟩
theorem bef_at (A : Option Addr) (n c : Nat) (ts : List TotD) (hn : ts.length = n) (hnl : n ≤ 100) (person : ByteArray) (m : Int) (G X : Int) (hG : Hid (sumA TotD.g (befT person m ts) = G)) (hX : Hid (sumA TotD.x (befT person m ts) = X)) (hm : 0 ≤ m ∧ m ≤ 1199) (hwf : ∀ t ∈ ts, t.e.size ≤ maxLen ∧ t.p.size ≤ maxLen) (w : World) (hS : Sl w w.heap.size 5 A n (ts.flatMap totL5)) :
    Calls Tryd.prog 20 #[.slice A n c, .string person, .int .i64 m] w fun e w' => e = .returned (.tuple #[.int .i64 G, .int .i64 X]) ∧ Below w.heap.size w w' := by
  obtain ⟨mo, rfl⟩ := Int.eq_ofNat_of_zero_le hm.1
  rw [← hG.out, ← hX.out]
  exact before_ok A n c ts hn hnl person mo (by omega) _ (Lib.hid rfl) hwf w hS
/-- Accept, of a list of issued totals that differ in employer, person or month. -/
theorem acc_one (t : TotD) (x : ElM) (hx : x.t = t) (hv : validTB t = true) : accE (fun _ => true) [] [x] [] = (0, [t]) := by
  subst hx
  have h0 : okE (fun _ => true) [] x = 0 := by
    unfold okE wrongE
    rw [if_pos hv, if_pos rfl]
    rfl
  unfold accE
  rw [if_pos h0]
  simp [accE]
theorem head_text : textT hT29 = ⟨#[116, 111, 116, 97, 108, 32, 97, 99, 109, 101, 32, 97, 110, 110, 32, 50, 48, 50, 52, 45, 48, 51, 32, 50, 53, 48, 48, 48, 48, 32, 45, 53]⟩ := by decide +kernel
theorem head_valid : validTB hT29 = true := by decide +kernel
theorem head_bad : validTB ⟨⟨#[]⟩, ⟨#[]⟩, 0, 0, 0⟩ = false := by decide +kernel
theorem hbef1 : sumA TotD.g (befT ⟨#[97, 110, 110]⟩ 290 hL29) = 257 ∧ sumA TotD.x (befT ⟨#[97, 110, 110]⟩ 290 hL29) = 21 := by decide +kernel
theorem hbef2 : sumA TotD.g (befT ⟨#[97, 110, 110]⟩ 289 hL29) = 107 ∧ sumA TotD.x (befT ⟨#[97, 110, 110]⟩ 289 hL29) = 11 := by decide +kernel
theorem hbef3 : sumA TotD.g (befT ⟨#[97, 110, 110]⟩ 288 hL29) = 0 ∧ sumA TotD.x (befT ⟨#[97, 110, 110]⟩ 288 hL29) = 0 := by decide +kernel
theorem hbef4 : sumA TotD.g (befT ⟨#[97, 110, 110]⟩ 300 hL29) = 0 ∧ sumA TotD.x (befT ⟨#[97, 110, 110]⟩ 300 hL29) = 0 := by decide +kernel
theorem hsz29 : ∀ t ∈ hL29, t.e.size ≤ maxLen ∧ t.p.size ≤ maxLen := by decide +kernel
structure HdH (T E : Nat) (W : World) : Prop where
  t : W.heap[T]? = some (.cells #[.string ⟨#[97, 99, 109, 101]⟩, .string ⟨#[97, 110, 110]⟩, .int .i64 290, .int .i64 250000, .int .i64 (-5)] 25)
  l : Sl W W.heap.size 5 (some ⟨E, 0, none⟩) 3 (hL29.flatMap totL5)
theorem HdH.go {T E : Nat} {W W' : World} (h : HdH T E W) (k : Below W.heap.size W W') : HdH T E W' := ⟨(k.block _ (Array.getElem?_eq_some_iff.1 h.t).1).trans h.t, h.l.go k⟩
theorem hbef (E : Nat) (T : Nat) (m G X : Int) (hG : sumA TotD.g (befT ⟨#[97, 110, 110]⟩ m hL29) = G ∧ sumA TotD.x (befT ⟨#[97, 110, 110]⟩ m hL29) = X) (hm : 0 ≤ m ∧ m ≤ 1199) (W : World) (h : HdH T E W) :
    Calls Tryd.prog 20 #[.slice (some ⟨E, 0, none⟩) 3 3, .string ⟨#[97, 110, 110]⟩, .int .i64 m] W fun e w' => e = .returned (.tuple #[.int .i64 G, .int .i64 X]) ∧ HdH T E w' ∧ Below W.heap.size W w' :=
  (bef_at _ 3 3 hL29 rfl (by decide) ⟨#[97, 110, 110]⟩ m G X (Lib.hid hG.1) (Lib.hid hG.2) hm hsz29 W h.l).mono fun e w' ⟨h1, h2⟩ => ⟨h1, h.go h2, h2⟩
theorem htext29 (w : World) (hT : CaT.Tabs w) : Calls Tryd.prog 11 #[.agg #[.string ⟨#[97, 99, 109, 101]⟩, .string ⟨#[97, 110, 110]⟩, .int .i64 290, .int .i64 250000, .int .i64 (-5)]] w fun e w' => e = .returned (.string ⟨#[116, 111, 116, 97, 108, 32, 97, 99, 109, 101, 32, 97, 110, 110, 32, 50, 48, 50, 52, 45, 48, 51, 32, 50, 53, 48, 48, 48, 48, 32, 45, 53]⟩) ∧ Below w.heap.size w w' :=
  text29_any ⟨#[97, 99, 109, 101]⟩ ⟨#[97, 110, 110]⟩ 290 250000 (-5) ⟨#[116, 111, 116, 97, 108, 32, 97, 99, 109, 101, 32, 97, 110, 110, 32, 50, 48, 50, 52, 45, 48, 51, 32, 50, 53, 48, 48, 48, 48, 32, 45, 53]⟩ (Lib.hid head_text) w (by decide) (by decide) hT
set_option maxHeartbeats 8000000 in
theorem head29_any (w : World) (hT : CaT.Tabs w) (hO : OTabs w) : Calls Tryd.prog 8 #[] w fun e w' => e = .returned (.bool true) ∧ Below w.heap.size w w' := by
  have HT := Lib.hid hT
  have HO := Lib.hid hO
  obtain ⟨rt, hrt⟩ : ∃ r, root29 = r := ⟨_, rfl⟩
  have Hrt := Lib.hid hrt
  clear hT hO hrt
  go_enter Tryd.func8, Tryd.ntmps8
  go_upto_region 3 with fail
  obtain ⟨V, hV⟩ : ∃ W, W = (w.alloc (.cells #[.string ⟨#[97, 99, 109, 101]⟩, .string ⟨#[97, 110, 110]⟩, .int .i64 290, .int .i64 250000, .int .i64 (-5)] 25)).alloc (.cells #[.string ⟨#[97, 99, 109, 101]⟩, .string ⟨#[97, 110, 110]⟩, .int .i64 288, .int .i64 100, .int .i64 10, .string ⟨#[97, 99, 109, 101]⟩, .string ⟨#[97, 110, 110]⟩, .int .i64 289, .int .i64 250, .int .i64 20, .string ⟨#[98, 111, 108, 116]⟩, .string ⟨#[97, 110, 110]⟩, .int .i64 288, .int .i64 7, .int .i64 1] 25) := ⟨_, rfl⟩
  obtain ⟨T, hT⟩ : ∃ x, x = w.heap.size := ⟨_, rfl⟩
  obtain ⟨E, hE⟩ : ∃ x, x = w.heap.size + 1 := ⟨_, rfl⟩
  rw [← hV]
  try rw [← hE]
  try rw [← hT]
  have hB : Below w.heap.size w V := by rw [hV]; exact bal (bal (Below.refl _ _) _) _
  have hH : HdH T E V := by
    constructor
    · rw [hV, hT]; exact heap_alloc2_old w _ _
    · rw [hV, hE]; exact sl_cells (heap_alloc2_new w _ _) rfl rfl
  have H0 := Lib.hid (And.intro hH hB)
  clear hV hT hE hB hH
  go_wp2_with fail
  refine (hbef E T 290 257 21 hbef1 (by decide) V H0.out.1).mono ?_
  rintro e w1 ⟨rfl, hH, hB⟩
  have H1 := Lib.hid (And.intro hH (bgo H0.out.2 hB))
  clear hH hB
  go_wp2_with fail
  refine (hbef E T 289 107 11 hbef2 (by decide) w1 H1.out.1).mono ?_
  rintro e w2 ⟨rfl, hH, hB⟩
  have H2 := Lib.hid (And.intro hH (bgo H1.out.2 hB))
  clear hH hB
  go_wp2_with fail
  refine (hbef E T 288 0 0 hbef3 (by decide) w2 H2.out.1).mono ?_
  rintro e w3 ⟨rfl, hH, hB⟩
  have H3 := Lib.hid (And.intro hH (bgo H2.out.2 hB))
  clear hH hB
  go_wp2_with fail
  refine (hbef E T 300 0 0 hbef4 (by decide) w3 H3.out.1).mono ?_
  rintro e w4 ⟨rfl, hH, hB⟩
  have H4 := Lib.hid (And.intro hH (bgo H3.out.2 hB))
  clear hH hB
  have gT := H4.out.1.t
  have x0 : w4.cell? ⟨T, 0, none⟩ = some (.string ⟨#[97, 99, 109, 101]⟩) := by rw [Lib.cell_of_heap gT]; rfl
  have x1 : w4.cell? ⟨T, 1, none⟩ = some (.string ⟨#[97, 110, 110]⟩) := by rw [Lib.cell_of_heap gT]; rfl
  have x2 : w4.cell? ⟨T, 2, none⟩ = some (.int .i64 290) := by rw [Lib.cell_of_heap gT]; rfl
  have x3 : w4.cell? ⟨T, 3, none⟩ = some (.int .i64 250000) := by rw [Lib.cell_of_heap gT]; rfl
  have x4 : w4.cell? ⟨T, 4, none⟩ = some (.int .i64 (-5)) := by rw [Lib.cell_of_heap gT]; rfl
  clear gT
  go_wp2_with fail
  clear x0 x1 x2 x3 x4
  obtain ⟨V5, hV5⟩ : ∃ W, W = w4.alloc (.cells #[.string ⟨#[97, 99, 109, 101]⟩, .string ⟨#[97, 110, 110]⟩, .int .i64 290, .int .i64 250000, .int .i64 (-5)] 25) := ⟨_, rfl⟩
  obtain ⟨E5, hE5⟩ : ∃ x, x = w4.heap.size := ⟨_, rfl⟩
  rw [← hV5]
  try rw [← hE5]
  have hB45 : Below w4.heap.size w4 V5 := by rw [hV5]; exact bal (Below.refl _ _) _
  have hS5 : Sl V5 V5.heap.size 5 (some ⟨E5, 0, none⟩) 1 ([hT29].flatMap totL5) := by rw [hV5, hE5]; exact sl_cells (World.alloc_heap_new _ _) rfl rfl
  have hB5 := bgo H4.out.2 hB45
  clear hV5 hE5
  refine (issued_any _ 1 1 [hT29] rfl (by decide) (fun t ht => by rw [List.mem_singleton.1 ht]; exact head_valid) V5 (HT.out.go hB5) (HO.out.go hB5) hS5).mono ?_
  rintro e w5 ⟨v, es, rfl, hown, hiss, hB⟩
  rw [Hrt.out]
  obtain ⟨x, rfl⟩ : ∃ x, es = [x] := by
    have := hiss.1
    match es, this with
    | [x], _ => exact ⟨x, rfl⟩
  have hx := hiss.2 0 hT29 x rfl rfl
  obtain ⟨A, cap, rfl, hSl, hc1, hc2⟩ := own_slice2 hown
  have H5 := Lib.hid (And.intro (H4.out.1.go (bgo hB45 hB)) (And.intro (bgo hB5 hB) (And.intro hx (And.intro hSl (And.intro hc1 hc2)))))
  clear hown hiss hB hx hSl hc1 hc2 hB5 hB45 hS5
  go_wp2_with fail
  have hxo : ElOk w5 rt 3 (fun _ => true) x := by rw [← Hrt.out]; exact H5.out.2.2.1.ok
  refine (accept_any rt 3 A cap 1 [x] rfl (fun _ => true) 0 [hT29] (Lib.hid (acc_one hT29 x H5.out.2.2.1.t_ head_valid)) w5 (HT.out.go H5.out.2.1) (HO.out.go H5.out.2.1) H5.out.2.2.2.1 (fun y hy => by rw [List.mem_singleton.1 hy]; exact hxo) H5.out.2.2.2.2 (by decide)).mono ?_
  rintro e w6 ⟨v6, rfl, hown6, hB6⟩
  obtain ⟨A6, cap6, rfl, hSl6, hc6, hc6'⟩ := own_slice2 hown6
  have H6 := Lib.hid (And.intro (H5.out.1.go hB6) (And.intro (bgo H5.out.2.1 hB6) hSl6))
  clear hxo hown6 hB6 hSl6 hc6 hc6'
  go_wp2_with fail
  refine (issue_no seedB 3 0 ⟨#[]⟩ ⟨#[]⟩ 0 0 0 (Lib.hid head_bad) w6 (by decide) (by decide)).mono ?_
  rintro e w7 ⟨rfl, hB7⟩
  have H7 := Lib.hid (And.intro (H6.out.1.go hB7) (And.intro (bgo H6.out.2.1 hB7) (H6.out.2.2.go hB7)))
  clear hB7
  go_upto_region 10 with fail
  obtain ⟨V8, hV8⟩ : ∃ W, W = w7.alloc (.cells #[.string ⟨#[]⟩, .string ⟨#[]⟩, .int .i64 0, .int .i64 0, .int .i64 0, .int .i64 0, .slice none 0 0, .slice none 0 0] 34) := ⟨_, rfl⟩
  rw [← hV8]
  have hB8 : Below w7.heap.size w7 V8 := by rw [hV8]; exact bal (Below.refl _ _) _
  have H8 := Lib.hid (And.intro (H7.out.1.go hB8) (And.intro (bgo H7.out.2.1 hB8) (H7.out.2.2.go hB8)))
  clear hV8 hB8
  have gT := H8.out.1.t
  have x0 : V8.cell? ⟨T, 0, none⟩ = some (.string ⟨#[97, 99, 109, 101]⟩) := by rw [Lib.cell_of_heap gT]; rfl
  have x1 : V8.cell? ⟨T, 1, none⟩ = some (.string ⟨#[97, 110, 110]⟩) := by rw [Lib.cell_of_heap gT]; rfl
  have x2 : V8.cell? ⟨T, 2, none⟩ = some (.int .i64 290) := by rw [Lib.cell_of_heap gT]; rfl
  have x3 : V8.cell? ⟨T, 3, none⟩ = some (.int .i64 250000) := by rw [Lib.cell_of_heap gT]; rfl
  have x4 : V8.cell? ⟨T, 4, none⟩ = some (.int .i64 (-5)) := by rw [Lib.cell_of_heap gT]; rfl
  clear gT
  go_wp2_with fail
  refine (issue_bad seedB 3 8 ⟨#[97, 99, 109, 101]⟩ ⟨#[97, 110, 110]⟩ 290 250000 (-5) (Lib.hid head_valid) (Lib.hid (by decide +kernel)) (by decide) V8 (by decide) (by decide) (HT.out.go H8.out.2.1)).mono ?_
  rintro e w9 ⟨rfl, hB9⟩
  clear x0 x1 x2 x3 x4
  have H9 := Lib.hid (And.intro (H8.out.1.go hB9) (And.intro (bgo H8.out.2.1 hB9) (H8.out.2.2.go hB9)))
  clear hB9
  go_upto_region 11 with fail
  obtain ⟨VA, hVA⟩ : ∃ W, W = w9.alloc (.cells #[.string ⟨#[]⟩, .string ⟨#[]⟩, .int .i64 0, .int .i64 0, .int .i64 0, .int .i64 0, .slice none 0 0, .slice none 0 0] 34) := ⟨_, rfl⟩
  rw [← hVA]
  have hBA : Below w9.heap.size w9 VA := by rw [hVA]; exact bal (Below.refl _ _) _
  have HA := Lib.hid (And.intro (H9.out.1.go hBA) (And.intro (bgo H9.out.2.1 hBA) (H9.out.2.2.go hBA)))
  clear hVA hBA
  have gT := HA.out.1.t
  have x0 : VA.cell? ⟨T, 0, none⟩ = some (.string ⟨#[97, 99, 109, 101]⟩) := by rw [Lib.cell_of_heap gT]; rfl
  have x1 : VA.cell? ⟨T, 1, none⟩ = some (.string ⟨#[97, 110, 110]⟩) := by rw [Lib.cell_of_heap gT]; rfl
  have x2 : VA.cell? ⟨T, 2, none⟩ = some (.int .i64 290) := by rw [Lib.cell_of_heap gT]; rfl
  have x3 : VA.cell? ⟨T, 3, none⟩ = some (.int .i64 250000) := by rw [Lib.cell_of_heap gT]; rfl
  have x4 : VA.cell? ⟨T, 4, none⟩ = some (.int .i64 (-5)) := by rw [Lib.cell_of_heap gT]; rfl
  clear gT
  go_wp2_with fail
  refine (htext29 VA (HT.out.go HA.out.2.1)).mono ?_
  rintro e wB ⟨rfl, hBB⟩
  clear x0 x1 x2 x3 x4
  have HB := Lib.hid (And.intro (HA.out.1.go hBB) (And.intro (bgo HA.out.2.1 hBB) (HA.out.2.2.go hBB)))
  clear hBB
  have gT := HB.out.1.t
  have x0 : wB.cell? ⟨T, 0, none⟩ = some (.string ⟨#[97, 99, 109, 101]⟩) := by rw [Lib.cell_of_heap gT]; rfl
  have x1 : wB.cell? ⟨T, 1, none⟩ = some (.string ⟨#[97, 110, 110]⟩) := by rw [Lib.cell_of_heap gT]; rfl
  have x2 : wB.cell? ⟨T, 2, none⟩ = some (.int .i64 290) := by rw [Lib.cell_of_heap gT]; rfl
  have x3 : wB.cell? ⟨T, 3, none⟩ = some (.int .i64 250000) := by rw [Lib.cell_of_heap gT]; rfl
  have x4 : wB.cell? ⟨T, 4, none⟩ = some (.int .i64 (-5)) := by rw [Lib.cell_of_heap gT]; rfl
  clear gT
  go_wp2_with fail
  clear x0 x1 x2 x3 x4
  obtain ⟨VC, hVC⟩ : ∃ W, W = wB.alloc (.cells #[.string ⟨#[97, 99, 109, 101]⟩, .string ⟨#[97, 110, 110]⟩, .int .i64 290, .int .i64 250000, .int .i64 (-5)] 25) := ⟨_, rfl⟩
  obtain ⟨EC, hEC⟩ : ∃ x, x = wB.heap.size := ⟨_, rfl⟩
  rw [← hVC]
  try rw [← hEC]
  have hBC : Below wB.heap.size wB VC := by rw [hVC]; exact bal (Below.refl _ _) _
  have hSC : Sl VC VC.heap.size 5 (some ⟨EC, 0, none⟩) 1 ([hT29].flatMap totL5) := by rw [hVC, hEC]; exact sl_cells (World.alloc_heap_new _ _) rfl rfl
  clear hVC hEC
  refine (same29_any A6 _ cap6 1 1 1 [hT29] [hT29] rfl rfl (by decide) true (Lib.hid (decide_eq_true rfl)) VC (HB.out.2.2.go hBC) hSC).mono ?_
  rintro e wD ⟨rfl, hBD⟩
  go_wp2
  go_ret
  exact ⟨rfl, bgo (bgo HB.out.2.1 hBC) hBD⟩
end Go.Proofs.YtmebllhkfepkdaaDoor
namespace Go.Proofs.YtmebllhkfepkdaaDoor
open Go.RowKit Go.ChangeShapes Go.WideShapes Go.Deep Go.Shelf
set_option linter.unusedVariables false
set_option linter.unusedSimpArgs false
set_option maxRecDepth 100000
def Tabs (w : World) : Prop := CaT.Tabs w ∧ OTabs w
theorem Tabs.go {w w' : World} (h : Tabs w) (hb : Below w.heap.size w w') : Tabs w' := ⟨h.1.go hb, h.2.go hb⟩
theorem gBef : Tryd.prog.globalNamed "wageoffice/calendar.before" = some 0 := by kernel_rfl
theorem gDig : Tryd.prog.globalNamed "wageoffice/digest.digits" = some 1 := by kernel_rfl
theorem tab_heap {W : World} {name : String} {g : Nat} {k : IntKind} {zs : List Int} (hg : Tryd.prog.globalNamed name = some g) (h : Lib.TabIs Tryd.prog W name k zs) : ∃ t fr, W.heap[g]? = some (.cells (zs.map fun z => Value.int k z).toArray t fr) := by
  unfold Lib.TabIs World.var? at h
  rw [hg] at h
  simp only [Option.bind_some] at h
  split at h
  · rename_i cs t fr hq
    refine ⟨t, fr, ?_⟩
    rw [hq]
    simpa using h
  · cases h
theorem tabs_of_vars {W : World} {z1 z2 : List Int} (_ : Lib.TabIs Tryd.prog W "math/bits.deBruijn32tab" .u8 z1) (_ : Lib.TabIs Tryd.prog W "math/bits.deBruijn64tab" .u8 z2)
    (h3 : Lib.TabIs Tryd.prog W "internal/strconv.uint64pow10" .u64 Lib.pow10Tab) (h4 : Lib.TabIs Tryd.prog W "wageoffice/calendar.before" .i64 [0, 31, 59, 90, 120, 151, 181, 212, 243, 273, 304, 334, 365])
    (h5 : Lib.TabIs Tryd.prog W "wageoffice/digest.digits" .u8 [48, 49, 50, 51, 52, 53, 54, 55, 56, 57, 97, 98, 99, 100, 101, 102]) : Tabs W := by
  refine ⟨⟨?_, h3⟩, ?_, h3⟩
  · obtain ⟨t, fr, h⟩ := tab_heap gBef h4
    exact ⟨t, fr, by rw [h]; rfl⟩
  · obtain ⟨t, fr, h⟩ := tab_heap gDig h5
    exact ⟨t, fr, by rw [h]; rfl⟩
/-- Four numbers. -/
structure Quad where
  a : Int
  b : Int
  c : Int
  d : Int
def QuadOk (q : Quad) : Prop := I64 q.a ∧ I64 q.b ∧ I64 q.c ∧ I64 q.d
def quadV (q : Quad) : List Value := [.int .i64 q.a, .int .i64 q.b, .int .i64 q.c, .int .i64 q.d]
theorem cells_int35 : Tryd.prog.cellsOf 3 = 1 := by kernel_rfl
theorem okWide_arr {P : Program} {w : World} {r : Reach} {base : Nat} {t e : TypeId} {n : Nat} {v : Value} (ht : P.underlying t = some (.array n e)) (h : Value.okWide P w r base t v) : ∃ cs, v = .agg cs ∧ cs.size = P.cellsOf t := by
  simp only [Value.okWide, ht] at h
  obtain ⟨cs, h1, h2, _⟩ := h
  exact ⟨cs, h1, h2⟩
theorem open_int4 {H : Type} {enc : TypeId × Value → H} {W : World} {base : Nat} {v : Value} {d : DataW H} {p : List MemPlace} (hv : Value.okWide Tryd.prog W .any base 22 v) (h : DataW.Trod enc Tryd.prog W 0 (fun _ => true) true 22 v d p) :
    ∃ q : Quad, v = .agg #[.int .i64 q.a, .int .i64 q.b, .int .i64 q.c, .int .i64 q.d] ∧ QuadOk q := by
  obtain ⟨cs, rfl, hsz⟩ := okWide_arr Tryd.underlying22 hv
  rw [(by kernel_rfl : Tryd.prog.cellsOf 22 = 4)] at hsz
  obtain ⟨cs⟩ := cs
  match cs, hsz with
  | [c0, c1, c2, c3], _ =>
    obtain ⟨fuel, hf⟩ := h
    obtain ⟨y0, y1, y2, y3, m, _, hy0, hy1, hy2, hy3⟩ := trod_array4 Tryd.underlying22 cells_int35 hf
    obtain ⟨a, ha, _, wa⟩ := DataW.trod_int Tryd.underlying3 hy0
    obtain ⟨b, hb, _, wb⟩ := DataW.trod_int Tryd.underlying3 hy1
    obtain ⟨c, hc, _, wc⟩ := DataW.trod_int Tryd.underlying3 hy2
    obtain ⟨e, he, _, we⟩ := DataW.trod_int Tryd.underlying3 hy3
    refine ⟨⟨a, b, c, e⟩, ?_, bounds_i64 wa, bounds_i64 wb, bounds_i64 wc, bounds_i64 we⟩
    simp at ha hb hc he
    rw [ha, hb, hc, he]
instance : Inhabited Quad := ⟨⟨0, 0, 0, 0⟩⟩
theorem quads_len (l : List Quad) : (l.flatMap quadV).length = l.length * 4 := by
  induction l with
  | nil => rfl
  | cons x l ih => rw [List.flatMap_cons, List.length_append, ih, List.length_cons, show (quadV x).length = 4 from rfl]; omega
theorem tr_quads {H : Type} {enc : TypeId × Value → H} {W : World} {n : Nat} {v : Value} {y : DataW H × List MemPlace} (h : DataW.trod enc Tryd.prog W 0 (fun _ => true) true n 39 [v] = some y) :
    ∃ (A : Option Addr) (c : Nat) (l : List Quad), v = .slice A l.length c ∧ Sl W W.heap.size 4 A l.length (l.flatMap quadV) ∧ (l.length ≤ c ∧ c ≤ maxLen) ∧ ∀ x ∈ l, QuadOk x := by
  rcases open_slice Tryd.underlying39 h with ⟨hcs, _⟩ | ⟨a, len, cap, m, n', D, Pl, hcs, hb, hl, hm, hmm, hx, hi⟩
  · obtain rfl : v = .slice none 0 0 := by simpa using hcs
    exact ⟨none, 0, [], rfl, Sl.nil _ 4, ⟨Nat.le_refl _, Nat.zero_le _⟩, fun x hx => by cases hx⟩
  · obtain rfl : v = .slice (some a) len cap := by simpa using hcs
    simp only [if_true] at hmm
    subst hmm
    have hC : Tryd.prog.cellsOf 22 = 4 := by kernel_rfl
    have each : ∀ i, i < m → ∃ x : Quad, W.cell? (a.add (i * 4 + 0)) = some (.int .i64 x.a) ∧ W.cell? (a.add (i * 4 + 1)) = some (.int .i64 x.b) ∧ W.cell? (a.add (i * 4 + 2)) = some (.int .i64 x.c) ∧ W.cell? (a.add (i * 4 + 3)) = some (.int .i64 x.d) ∧ QuadOk x := by
      intro i hi'
      obtain ⟨cs', hc, ht'⟩ := hi i hi'
      rw [hC] at hc
      obtain ⟨_, hcl, hat⟩ := World.cells?_some hc
      match cs', hcl with
      | [c0, c1, c2, c3], _ =>
        obtain ⟨y0, y1, y2, y3, n2, _, hy0, hy1, hy2, hy3⟩ := trod_array4 Tryd.underlying22 cells_int35 ht'
        obtain ⟨z0, e0, _, w0⟩ := DataW.trod_int Tryd.underlying3 hy0
        obtain ⟨z1, e1, _, w1⟩ := DataW.trod_int Tryd.underlying3 hy1
        obtain ⟨z2, e2, _, w2⟩ := DataW.trod_int Tryd.underlying3 hy2
        obtain ⟨z3, e3, _, w3⟩ := DataW.trod_int Tryd.underlying3 hy3
        obtain rfl : c0 = .int .i64 z0 := by simpa using e0
        obtain rfl : c1 = .int .i64 z1 := by simpa using e1
        obtain rfl : c2 = .int .i64 z2 := by simpa using e2
        obtain rfl : c3 = .int .i64 z3 := by simpa using e3
        refine ⟨⟨z0, z1, z2, z3⟩, ?_, ?_, ?_, ?_, bounds_i64 w0, bounds_i64 w1, bounds_i64 w2, bounds_i64 w3⟩
        · rw [← Go.Deep.add_add, hat 0 (by decide)]; rfl
        · rw [← Go.Deep.add_add, hat 1 (by decide)]; rfl
        · rw [← Go.Deep.add_add, hat 2 (by decide)]; rfl
        · rw [← Go.Deep.add_add, hat 3 (by decide)]; rfl
    obtain ⟨X, hX⟩ := choose_lt each
    have ht : ((List.range len).map X).length = len := by simp
    refine ⟨some a, m, (List.range len).map X, by rw [ht], ?_, ⟨by omega, by omega⟩, ?_⟩
    · refine sl_of_row (by rw [quads_len]) (fun _ => by omega) ?_
      intro j u hu
      obtain ⟨hj, e⟩ := List.getElem?_eq_some_iff.1 hu
      rw [quads_len, ht] at hj
      have hq : j / 4 < len := by omega
      obtain ⟨c0, c1, c2, c3, _⟩ := hX (j / 4) (by omega)
      have hql : j / 4 < ((List.range len).map X).length := by rw [ht]; exact hq
      have hget := flat_get quadV 4 (fun _ => rfl) ((List.range len).map X) (j / 4) hql
      have g0 : (((List.range len).map X).flatMap quadV)[j / 4 * 4 + 0]? = _ := hget 0 (by decide)
      have g1 : (((List.range len).map X).flatMap quadV)[j / 4 * 4 + 1]? = _ := hget 1 (by decide)
      have g2 : (((List.range len).map X).flatMap quadV)[j / 4 * 4 + 2]? = _ := hget 2 (by decide)
      have g3 : (((List.range len).map X).flatMap quadV)[j / 4 * 4 + 3]? = _ := hget 3 (by decide)
      have hj3 : j = j / 4 * 4 + 0 ∨ j = j / 4 * 4 + 1 ∨ j = j / 4 * 4 + 2 ∨ j = j / 4 * 4 + 3 := by omega
      rcases hj3 with hjj | hjj | hjj | hjj
      · rw [Nat.add_zero] at hjj
        rw [Nat.add_zero, ← hjj, hu] at g0
        rw [Nat.add_zero, ← hjj] at c0
        rw [c0, Option.some.inj g0]
        simp
      · rw [← hjj, hu] at g1
        rw [← hjj] at c1
        rw [c1, Option.some.inj g1]
        simp
      · rw [← hjj, hu] at g2
        rw [← hjj] at c2
        rw [c2, Option.some.inj g2]
        simp
      · rw [← hjj, hu] at g3
        rw [← hjj] at c3
        rw [c3, Option.some.inj g3]
        simp
    · intro x hx
      obtain ⟨i, hi, rfl⟩ := List.mem_map.1 hx
      exact (hX i (by have := List.mem_range.1 hi; omega)).2.2.2.2
theorem sl_quads {H : Type} {enc : TypeId × Value → H} {W : World} {base : Nat} {v : Value} {d : DataW H} {p : List MemPlace} (hv : Value.okWide Tryd.prog W .any base 39 v) (h : DataW.Trod enc Tryd.prog W 0 (fun _ => true) true 39 v d p) :
    ∃ (A : Option Addr) (c : Nat) (l : List Quad), v = .slice A l.length c ∧ Sl W W.heap.size 4 A l.length (l.flatMap quadV) ∧ (l.length ≤ c ∧ c ≤ maxLen) ∧ ∀ x ∈ l, QuadOk x := by
  obtain ⟨a0, len, cap, rfl⟩ := okWide_slice Tryd.underlying39 hv
  obtain ⟨fuel, hf⟩ := h
  exact tr_quads hf
end Go.Proofs.YtmebllhkfepkdaaDoor
namespace Go.Proofs.YtmebllhkfepkdaaDoor
open Go.RowKit Go.Shelf
set_option linter.unusedVariables false
set_option linter.unusedSimpArgs false
/-- What makes a list the latest totals of another one. -/
structure IsLate (R acc : List TotD) : Prop where
  sub : ∀ u ∈ acc, u ∈ R ∧ ∀ v ∈ R, v.e = u.e → v.m ≤ u.m
  cov : ∀ v ∈ R, ∃ u ∈ acc, u.e = v.e
  one : OneE acc
theorem IsLate.new : IsLate [] [] := ⟨fun u h => (by cases h), fun u h => (by cases h), List.Pairwise.nil⟩
theorem mem_updT {acc : List TotD} {t u : TotD} : u ∈ updT acc t ↔ u = t ∨ (u ∈ acc ∧ ¬ u.e = t.e) := by
  unfold updT
  rw [List.mem_cons, List.mem_filter, decide_eq_true_iff]
theorem IsLate.upd {R acc : List TotD} (h : IsLate R acc) (t : TotD) (ht : ∀ v ∈ R, v.e = t.e → v.m ≤ t.m) : IsLate (R ++ [t]) (updT acc t) := by
  refine ⟨fun u hu => ?_, fun v hv => ?_, updT_one h.one t⟩
  · rcases mem_updT.1 hu with e | ⟨hu, hne⟩
    · subst e
      refine ⟨by simp, fun v hv he => ?_⟩
      rcases List.mem_append.1 hv with hv | hv
      · exact ht v hv he
      · rw [List.mem_singleton.1 hv]; exact Int.le_refl _
    · obtain ⟨h1, h2⟩ := h.sub u hu
      refine ⟨List.mem_append_left _ h1, fun v hv he => ?_⟩
      rcases List.mem_append.1 hv with hv | hv
      · exact h2 v hv he
      · rw [List.mem_singleton.1 hv] at he; exact absurd he.symm hne
  · rcases List.mem_append.1 hv with hv | hv
    · obtain ⟨u, hu, he⟩ := h.cov v hv
      by_cases hx : u.e = t.e
      · exact ⟨t, mem_updT.2 (.inl rfl), by rw [← he, hx]⟩
      · exact ⟨u, mem_updT.2 (.inr ⟨hu, hx⟩), he⟩
    · rw [List.mem_singleton.1 hv]
      exact ⟨t, mem_updT.2 (.inl rfl), rfl⟩
theorem IsLate.step {R acc : List TotD} (h : IsLate R acc) (t : TotD) : IsLate (R ++ [t]) (stepT acc t) := by
  unfold stepT
  split
  · rename_i hl
    refine h.upd t fun v hv he => ?_
    obtain ⟨u, hu, hue⟩ := h.cov v hv
    exact absurd (hue.trans he) (lastT_none hl u hu)
  · rename_i u0 hl
    obtain ⟨hu0, he0⟩ := lastT_some hl
    split
    · rename_i hle
      refine h.upd t fun v hv he => ?_
      exact Int.le_trans ((h.sub u0 hu0).2 v hv (he.trans he0.symm)) hle
    · rename_i hle
      refine ⟨fun u hu => ?_, fun v hv => ?_, h.one⟩
      · obtain ⟨h1, h2⟩ := h.sub u hu
        refine ⟨List.mem_append_left _ h1, fun v hv he => ?_⟩
        rcases List.mem_append.1 hv with hv | hv
        · exact h2 v hv he
        · rw [List.mem_singleton.1 hv] at he ⊢
          have : u = u0 := h.one.eq hu hu0 (he.symm.trans he0.symm)
          rw [this]; omega
      · rcases List.mem_append.1 hv with hv | hv
        · exact h.cov v hv
        · rw [List.mem_singleton.1 hv]
          exact ⟨u0, hu0, he0⟩
theorem late_fold : ∀ (l P acc : List TotD), IsLate P acc → IsLate (P ++ l) (l.foldl stepT acc)
  | [], P, acc, h => by rw [List.append_nil]; exact h
  | x :: l, P, acc, h => by
    have := late_fold l (P ++ [x]) (stepT acc x) (h.step x)
    rw [List.append_assoc] at this
    exact this
theorem late_is (R : List TotD) : IsLate R (lateL R) := by
  have := late_fold R [] [] IsLate.new
  rwa [List.nil_append] at this
/-- Employer and month tell the totals apart. -/
def DistEM (R : List TotD) : Prop := ∀ u ∈ R, ∀ v ∈ R, u.e = v.e → u.m = v.m → u = v
theorem one_nodup {acc : List TotD} (h : OneE acc) : acc.Nodup := by
  unfold OneE at h
  exact h.imp fun k e => k (by rw [e])
theorem IsLate.le {R R' acc acc' : List TotD} (h : IsLate R acc) (h' : IsLate R' acc') (hm : ∀ u, u ∈ R ↔ u ∈ R') (hd : DistEM R) {u : TotD} (hu : u ∈ acc) : u ∈ acc' := by
  obtain ⟨h1, h2⟩ := h.sub u hu
  obtain ⟨v, hv, hve⟩ := h'.cov u ((hm u).1 h1)
  obtain ⟨h3, h4⟩ := h'.sub v hv
  have h5 := h2 v ((hm v).2 h3) hve
  have h6 := h4 u ((hm u).1 h1) hve.symm
  have : u = v := hd u h1 v ((hm v).2 h3) hve.symm (Int.le_antisymm h6 h5)
  rw [this]; exact hv
theorem IsLate.same {R R' acc acc' : List TotD} (h : IsLate R acc) (h' : IsLate R' acc') (hm : ∀ u, u ∈ R ↔ u ∈ R') (hd : DistEM R) : acc.Perm acc' := by
  have hd' : DistEM R' := fun u hu v hv => hd u ((hm u).2 hu) v ((hm v).2 hv)
  exact (List.perm_ext_iff_of_nodup (one_nodup h.one) (one_nodup h'.one)).2 fun u => ⟨h.le h' hm hd, h'.le h (fun u => (hm u).symm) hd'⟩
theorem sumA_perm (f : TotD → Int) {a b : List TotD} (h : a.Perm b) : sumA f a = sumA f b := by
  unfold sumA
  induction h with
  | nil => rfl
  | cons x _ ih => rw [List.map_cons, List.map_cons, List.sum_cons, List.sum_cons, ih]
  | swap x y l => simp only [List.map_cons, List.sum_cons]; omega
  | trans _ _ h1 h2 => rw [h1, h2]
theorem late_sum (f : TotD → Int) {R R' : List TotD} (hm : ∀ u, u ∈ R ↔ u ∈ R') (hd : DistEM R) : sumA f (lateL R) = sumA f (lateL R') :=
  sumA_perm f ((late_is R).same (late_is R') hm hd)
theorem IsLate.filter {R acc : List TotD} (h : IsLate R acc) (e : ByteArray) : IsLate (R.filter fun u => decide (¬ u.e = e)) (acc.filter fun u => decide (¬ u.e = e)) := by
  refine ⟨fun u hu => ?_, fun v hv => ?_, h.one.filter _⟩
  · obtain ⟨h1, h2⟩ := List.mem_filter.1 hu
    obtain ⟨h3, h4⟩ := h.sub u h1
    exact ⟨List.mem_filter.2 ⟨h3, h2⟩, fun v hv he => h4 v (List.mem_filter.1 hv).1 he⟩
  · obtain ⟨h1, h2⟩ := List.mem_filter.1 hv
    obtain ⟨u, hu, he⟩ := h.cov v h1
    exact ⟨u, List.mem_filter.2 ⟨hu, by rw [he]; exact h2⟩, he⟩
theorem late_last (f : TotD → Int) {R : List TotD} (t : TotD) (hle : ∀ u ∈ R, u.m ≤ t.m) (hd : DistEM R) : sumA f (lateL (R ++ [t])) = sumA f (lateL (R.filter fun u => decide (¬ u.e = t.e))) + f t := by
  have h1 : lateL (R ++ [t]) = updT (lateL R) t := by
    unfold lateL
    rw [List.foldl_append, List.foldl_cons, List.foldl_nil]
    show stepT (lateL R) t = updT (lateL R) t
    unfold stepT
    split
    · rfl
    · rename_i u hu
      rw [if_pos (hle u ((late_is R).sub u (lastT_some hu).1).1)]
  have hd2 : DistEM (R.filter fun u => decide (¬ u.e = t.e)) := fun u hu v hv => hd u (List.mem_filter.1 hu).1 v (List.mem_filter.1 hv).1
  have h2 := sumA_perm f (((late_is R).filter t.e).same (late_is _) (fun u => Iff.rfl) hd2)
  rw [h1, ← h2]
  unfold updT sumA
  rw [List.map_cons, List.sum_cons]
  omega
/-- Whether a total is like none of a list. -/
def newT (out : List TotD) (t : TotD) : Bool := out.all fun u => decide (u.e ≠ t.e) || decide (u.p ≠ t.p) || decide (u.m ≠ t.m)
def distStep (out : List TotD) (t : TotD) : List TotD := if newT out t = true then out ++ [t] else out
def distT (l : List TotD) : List TotD := l.foldl distStep []
/-- Two totals that differ in employer, person or month. -/
def ApartT (u v : TotD) : Prop := ¬ (u.e = v.e ∧ u.p = v.p ∧ u.m = v.m)
theorem newT_out {out : List TotD} {t : TotD} (h : newT out t = true) : ∀ u ∈ out, ApartT u t := by
  intro u hu hc
  have := List.all_eq_true.1 h u hu
  simp [hc.1, hc.2.1, hc.2.2] at this
theorem distStep_apart {out : List TotD} (h : out.Pairwise ApartT) (t : TotD) : (distStep out t).Pairwise ApartT := by
  unfold distStep
  split
  · rename_i hn
    refine List.pairwise_append.2 ⟨h, List.pairwise_singleton _ _, fun a ha b hb => ?_⟩
    rw [List.mem_singleton.1 hb]
    exact newT_out hn a ha
  · exact h
theorem distFold_apart : ∀ (l out : List TotD), out.Pairwise ApartT → (l.foldl distStep out).Pairwise ApartT
  | [], out, h => h
  | x :: l, out, h => distFold_apart l _ (distStep_apart h x)
theorem distT_apart (l : List TotD) : (distT l).Pairwise ApartT := distFold_apart l [] List.Pairwise.nil
theorem distFold_mem : ∀ (l out : List TotD) {u : TotD}, u ∈ l.foldl distStep out → u ∈ l ∨ u ∈ out
  | [], out, u, h => .inr h
  | x :: l, out, u, h => by
    rcases distFold_mem l _ h with h | h
    · exact .inl (.tail _ h)
    · unfold distStep at h
      split at h
      · rcases List.mem_append.1 h with h | h
        · exact .inr h
        · exact .inl (by rw [List.mem_singleton.1 h]; exact .head _)
      · exact .inr h
theorem distT_mem {l : List TotD} {u : TotD} (h : u ∈ distT l) : u ∈ l := by
  rcases distFold_mem l [] h with h | h
  · exact h
  · cases h
theorem distFold_len : ∀ (l out : List TotD), (l.foldl distStep out).length ≤ l.length + out.length
  | [], out => by simp
  | x :: l, out => by
    have h1 := distFold_len l (distStep out x)
    have h2 : (distStep out x).length ≤ out.length + 1 := by unfold distStep; split <;> simp
    rw [List.foldl_cons, List.length_cons]
    omega
theorem distT_len (l : List TotD) : (distT l).length ≤ l.length := distFold_len l []
theorem dist_take_succ {l : List TotD} {k : Nat} {t : TotD} (h : l[k]? = some t) : distT (l.take (k + 1)) = distStep (distT (l.take k)) t := by
  unfold distT
  rw [List.take_add_one, h, Option.toList_some, List.foldl_append]
  rfl
theorem apart_eq {l : List TotD} (h : l.Pairwise ApartT) : ∀ u ∈ l, ∀ v ∈ l, u.e = v.e → u.p = v.p → u.m = v.m → u = v := by
  induction l with
  | nil => intro u hu; cases hu
  | cons a r ih =>
    obtain ⟨h1, h2⟩ := List.pairwise_cons.1 h
    intro u hu v hv e1 e2 e3
    rcases List.mem_cons.1 hu with hu2 | hu2
    · rcases List.mem_cons.1 hv with hv2 | hv2
      · rw [hu2, hv2]
      · rw [hu2] at e1 e2 e3; exact absurd ⟨e1, e2, e3⟩ (h1 v hv2)
    · rcases List.mem_cons.1 hv with hv2 | hv2
      · rw [hv2] at e1 e2 e3; exact absurd ⟨e1.symm, e2.symm, e3.symm⟩ (h1 u hu2)
      · exact ih h2 u hu2 v hv2 e1 e2 e3
theorem cnt_dist {l : List TotD} (h : l.Pairwise ApartT) (p : ByteArray) (m : Int) : DistEM (l.filter (cntB p m)) := by
  intro u hu v hv e1 e2
  obtain ⟨hu, cu⟩ := List.mem_filter.1 hu
  obtain ⟨hv, cv⟩ := List.mem_filter.1 hv
  have hp : ∀ {t : TotD}, cntB p m t = true → t.p = p := by
    intro t ht
    unfold cntB at ht
    simp only [Bool.and_eq_true, decide_eq_true_eq] at ht
    exact ht.1.1.2
  exact apart_eq h u hu v hv e1 ((hp cu).trans (hp cv).symm) e2
/-- What Before returns does not depend on the order. -/
theorem bef_sum (f : TotD → Int) {a b : List TotD} (p : ByteArray) (m : Int) (hm : ∀ u, u ∈ a ↔ u ∈ b) (h : a.Pairwise ApartT) : sumA f (befT p m a) = sumA f (befT p m b) := by
  refine late_sum f (fun u => ?_) (cnt_dist h p m)
  rw [List.mem_filter, List.mem_filter, hm]
theorem bef_few (f : TotD → Int) (a : List TotD) (p : ByteArray) (m : Int) : befT p m (a.filter (cntB p m)) = befT p m a := by
  unfold befT
  rw [List.filter_filter]
  congr 1
  exact List.filter_congr fun x _ => by rw [Bool.and_self]
theorem bef_none {a : List TotD} {p : ByteArray} {m : Int} (h : ∀ u ∈ a, cntB p m u = false) : befT p m a = [] := by
  unfold befT
  rw [List.filter_eq_nil_iff.2 fun u hu => by rw [h u hu]; decide]
  rfl
theorem cnt_none {p : ByteArray} {m : Int} (hm : m % 12 = 0) (hm0 : 0 ≤ m) (u : TotD) : cntB p m u = false := by
  cases h : cntB p m u with
  | false => rfl
  | true =>
    unfold cntB at h
    simp only [Bool.and_eq_true, decide_eq_true_eq] at h
    omega
theorem cnt_start {p : ByteArray} {m : Int} (hm0 : 0 ≤ m) (u : TotD) : cntB p (m - m % 12) u = false := cnt_none (by omega) (by omega) u
theorem cnt_out {p : ByteArray} {m : Int} {t : TotD} (h : cntB p m t = true) : validTB t = true ∧ t.p = p ∧ t.m < m ∧ t.m / 12 = m / 12 := by
  unfold cntB at h
  simp only [Bool.and_eq_true, decide_eq_true_eq] at h
  exact ⟨h.1.1.1, h.1.1.2, h.1.2, h.2⟩
theorem bef_last (f : TotD → Int) {a : List TotD} (p : ByteArray) (m : Int) (t : TotD) (ht : cntB p m t = true) (htm : t.m = m - 1) (h : a.Pairwise ApartT) :
    sumA f (befT p m (a ++ [t])) = sumA f (befT p m ((a.filter (cntB p m)).filter fun u => decide (¬ u.e = t.e))) + f t := by
  have h1 : (a ++ [t]).filter (cntB p m) = a.filter (cntB p m) ++ [t] := by rw [List.filter_append, List.filter_cons, if_pos ht]; rfl
  have h2 : ((a.filter (cntB p m)).filter fun u => decide (¬ u.e = t.e)).filter (cntB p m) = (a.filter (cntB p m)).filter fun u => decide (¬ u.e = t.e) := by
    rw [List.filter_eq_self]
    intro u hu
    exact (List.mem_filter.1 (List.mem_filter.1 hu).1).2
  unfold befT
  rw [h1, h2]
  refine late_last f t (fun u hu => ?_) (cnt_dist h p m)
  have := (cnt_out (List.mem_filter.1 hu).2).2.2.1
  omega
theorem rot_mem (a : List TotD) (k : Nat) (u : TotD) : u ∈ a ↔ u ∈ a.drop k ++ a.take k := by
  conv => lhs; rw [← List.take_append_drop k a]
  rw [List.mem_append, List.mem_append, or_comm]
theorem sumA_bound (f : TotD → Int) {l : List TotD} {B : Int} (hB : ∀ t ∈ l, -B ≤ f t ∧ f t ≤ B) (n : Nat) (hn : l.length ≤ n) (h0 : 0 ≤ B) : -(B * (n : Int)) ≤ sumA f l ∧ sumA f l ≤ B * (n : Int) := by
  have hs : ∀ l : List TotD, (∀ t ∈ l, -B ≤ f t ∧ f t ≤ B) → -(B * (l.length : Int)) ≤ sumA f l ∧ sumA f l ≤ B * (l.length : Int) := by
    intro l
    induction l with
    | nil => intro _; unfold sumA; simp
    | cons a r ih =>
      intro h
      have h1 := ih fun t ht => h t (.tail _ ht)
      have h2 := h a (.head _)
      unfold sumA at h1 ⊢
      rw [List.map_cons, List.sum_cons, List.length_cons]
      have : B * ((r.length + 1 : Nat) : Int) = B * (r.length : Int) + B := by rw [Int.natCast_add, Int.mul_add]; simp
      rw [this]
      omega
  have h1 := hs l hB
  have h2 : B * (l.length : Int) ≤ B * (n : Int) := Int.mul_le_mul_of_nonneg_left (by omega) h0
  omega
end Go.Proofs.YtmebllhkfepkdaaDoor
