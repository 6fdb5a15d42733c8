/- The walk of the law package's head (layer 36). -/
import Derived.Test.YtfjkmhbipkoefaaGreatDoorQ21
namespace Go.Proofs.YtfjkmhbipkoefaaGreatDoor
open Go.RowKit Go.Shelf
set_option linter.unusedVariables false
set_option linter.unusedSimpArgs false
set_option maxRecDepth 100000
def keyX : ByteArray := ⟨#[107, 101, 121]⟩
def headT : ByteArray := ⟨#[112, 97, 121, 115, 108, 105, 112, 32, 97, 110, 110, 32, 50, 57, 48, 32, 48, 48, 48, 48, 48, 48, 48, 48, 48, 48, 48, 48, 48, 48, 102, 102, 32, 52, 32, 57]⟩
theorem he1 (r : UInt64) (hr : rootV (leafK benchR benchB 3) = r) : showE benchP 290 r benchR benchB [0, 2] keyX 1 1 = 0 := by
  subst hr
  unfold showE
  rw [if_pos ⟨bench_valid, by decide, by decide⟩, if_pos (by decide)]
theorem he2 (r : UInt64) : showE benchP 290 r benchR benchB [2, 0] keyX 1 1 = 1 := by
  unfold showE
  rw [if_neg (fun h => absurd h.2.1 (by decide))]
theorem he3 (r : UInt64) : showE benchP 290 r benchR benchB [3] keyX 1 1 = 1 := by
  unfold showE
  rw [if_neg (fun h => absurd h.2.1 (by decide))]
theorem he4 (r : UInt64) : showE benchP 290 r benchR benchB [] keyX 1 2 = 1 := by
  unfold showE
  rw [if_neg (fun h => absurd h.2.2 (by decide))]
theorem headT_eq : dText benchP 290 255 [4, 9] = headT := by decide +kernel
theorem htext (A : Option Addr) (w : World) (hT : DTabs w) (hA : Sl w w.heap.size 1 A 2 (intV [4, 9])) : Calls Tryz.prog 9 #[.string ⟨#[97, 110, 110]⟩, .int .i64 290, .int .u64 255, .slice A 2 2] w fun e w' => e = .returned (.string ⟨#[112, 97, 121, 115, 108, 105, 112, 32, 97, 110, 110, 32, 50, 57, 48, 32, 48, 48, 48, 48, 48, 48, 48, 48, 48, 48, 48, 48, 48, 48, 102, 102, 32, 52, 32, 57]⟩) ∧ Below w.heap.size w w' := by
  have h := dtext_any benchP 290 255 A 2 2 [4, 9] headT rfl (Lib.hid headT_eq) ⟨by decide, by decide⟩ (by unfold I64; decide) (by decide) (by decide) w hT hA
  have e : ((255 : UInt64).toNat : Int) = 255 := rfl
  rw [e] at h
  exact h
theorem bshow (A B E : Option Addr) (ce ns : Nat) (sel : List Int) (i er : Int) (r : UInt64) (her : Hid (showE benchP 290 r benchR benchB sel keyX 1 i = er)) (w : World) (hT : DTabs w) (hA : Sl w w.heap.size 3 A 3 (rowsV benchR)) (hB : Sl w w.heap.size 1 B 3 (intV benchB)) (hE : Sl w w.heap.size 1 E ns (intV sel)) (hns : sel.length = ns) (hnl : ns ≤ 100) :
    Calls Tryz.prog 6 #[.agg #[.string benchP, .int .i64 290, .slice A 3 3, .slice B 3 3, .int .u64 r.toNat], .slice E ns ce, .string ⟨#[107, 101, 121]⟩, .int .i64 1, .int .i64 i] w (ShowP w benchP 290 r benchR benchB sel keyX 1 i er) :=
  show_any benchP 290 r A B E 3 3 ce 3 3 ns benchR benchB sel keyX 1 i er her w hT hA hB hE rfl rfl hns (by decide) (by decide) (by omega) (by decide) (by unfold I64; decide +kernel) (by unfold I64; decide +kernel) (by decide)
theorem bshowE (A B E : Option Addr) (ce ns : Nat) (sel : List Int) (i er : Int) (r : UInt64) (her : Hid (showE benchP 290 r benchR benchB sel keyX 1 i = er)) (hne : er ≠ 0) (w : World) (hT : DTabs w) (hA : Sl w w.heap.size 3 A 3 (rowsV benchR)) (hB : Sl w w.heap.size 1 B 3 (intV benchB)) (hE : Sl w w.heap.size 1 E ns (intV sel)) (hns : sel.length = ns) (hnl : ns ≤ 100) :
    Calls Tryz.prog 6 #[.agg #[.string benchP, .int .i64 290, .slice A 3 3, .slice B 3 3, .int .u64 r.toNat], .slice E ns ce, .string ⟨#[107, 101, 121]⟩, .int .i64 1, .int .i64 i] w fun e w' => e = .returned (.tuple #[.agg #[.string ⟨#[]⟩, .int .i64 0, .int .u64 0, .slice none 0 0, .slice none 0 0, .int .i64 0, .int .i64 0, .int .i64 0, .slice none 0 0, .slice none 0 0], .int .i64 er]) ∧ Below w.heap.size w w' :=
  (bshow A B E ce ns sel i er r her w hT hA hB hE hns hnl).mono fun e w' ⟨f, com, ms, ch, p, h1, h2, _, h4⟩ => ⟨by rw [h2 hne] at h1; exact h1, h4⟩
structure HdG (T bA oA : Nat) (B : Option Addr) (r : UInt64) (V : World) : Prop where
  s : V.heap[T]? = some (.cells #[.string benchP, .int .i64 290, .slice (some ⟨bA, oA, none⟩) 3 3, .slice B 3 3, .int .u64 r.toNat] 27 (0, 0))
  a : Sl V V.heap.size 3 (some ⟨bA, oA, none⟩) 3 (rowsV benchR)
  b : Sl V V.heap.size 1 B 3 (intV benchB)
theorem HdG.go {T bA oA : Nat} {B : Option Addr} {r : UInt64} {V V' : World} (h : HdG T bA oA B r V) (k : Below V.heap.size V V') : HdG T bA oA B r V' := ⟨(k.block _ (Array.getElem?_eq_some_iff.1 h.s).1).trans h.s, h.a.go k, h.b.go k⟩
structure HdD (T2 base : Nat) (f : DF) (com : List Int) (ms : List ShM) (ch : List UInt64) (p : Forks) (V : World) : Prop where
  d : V.heap[T2]? = some (.cells f.cells 36 (0, 0))
  r : DRows V base f com ms ch p
theorem HdD.go {T2 base : Nat} {f : DF} {com : List Int} {ms : List ShM} {ch : List UInt64} {p : Forks} {V V' : World} (h : HdD T2 base f com ms ch p V) (k : Below V.heap.size V V') : HdD T2 base f com ms ch p V' := ⟨(k.block _ (Array.getElem?_eq_some_iff.1 h.d).1).trans h.d, h.r.go k⟩
set_option maxHeartbeats 8000000 in
theorem head36_any (w : World) (hT : DTabs w) : Calls Tryz.prog 4 #[] w fun e w' => e = .returned (.bool true) ∧ Below w.heap.size w w' := by
  obtain ⟨r, hr⟩ : ∃ r, rootV (leafK benchR benchB 3) = r := ⟨_, rfl⟩
  have Hr := Lib.hid hr
  have HT := Lib.hid hT
  clear hr hT
  go_enter Tryz.func4, Tryz.ntmps4
  go_wp2_with fail
  refine (bench_any r Hr w HT.out.1).mono ?_
  rintro e w1 ⟨A, B, rfl, hA, hB, hB1⟩
  obtain ⟨bA, oA, rfl, hbA, hcA⟩ := hA.2 (by decide)
  go_upto_region 2 with fail
  obtain ⟨V, hV⟩ : ∃ Q : World, Q = w1.alloc (.cells #[.string benchP, .int .i64 290, .slice (some ⟨bA, oA, none⟩) 3 3, .slice B 3 3, .int .u64 r.toNat] 27) := ⟨_, rfl⟩
  rw [← hV]
  have hBV : Below w.heap.size w V := by rw [hV]; exact bal hB1 _
  have gV : V.heap[w1.heap.size]? = some (.cells #[.string benchP, .int .i64 290, .slice (some ⟨bA, oA, none⟩) 3 3, .slice B 3 3, .int .u64 r.toNat] 27 (0, 0)) := by rw [hV]; exact World.alloc_heap_new _ _
  have hAV : Sl V V.heap.size 3 (some ⟨bA, oA, none⟩) 3 (rowsV benchR) := by rw [hV]; exact hA.al _
  have hBV' : Sl V V.heap.size 1 B 3 (intV benchB) := by rw [hV]; exact hB.al _
  obtain ⟨T, hTe⟩ : ∃ T, T = w1.heap.size := ⟨_, rfl⟩
  rw [← hTe] at gV ⊢
  have G : Hid (HdG T bA oA B r V) := Lib.hid ⟨gV, hAV, hBV'⟩
  have HBV := Lib.hid hBV
  clear hV hB1 hA hB gV hAV hBV' hcA hbA hTe hBV
  clear w1
  have c0 : V.cell? ⟨T, 0, none⟩ = some (.string benchP) := by rw [Lib.cell_of_heap G.out.s]; rfl
  have c1 : V.cell? ⟨T, 1, none⟩ = some (.int .i64 290) := by rw [Lib.cell_of_heap G.out.s]; rfl
  have c2 : V.cell? ⟨T, 2, none⟩ = some (.slice (some ⟨bA, oA, none⟩) 3 3) := by rw [Lib.cell_of_heap G.out.s]; rfl
  have c3 : V.cell? ⟨T, 3, none⟩ = some (.slice B 3 3) := by rw [Lib.cell_of_heap G.out.s]; rfl
  have c4 : V.cell? ⟨T, 4, none⟩ = some (.int .u64 r.toNat) := by rw [Lib.cell_of_heap G.out.s]; rfl
  go_wp2_with fail
  clear c0 c1 c2 c3 c4
  obtain ⟨V0, hV0⟩ : ∃ Q : World, Q = V.alloc (.cells #[.int .i64 0, .int .i64 2] 3) := ⟨_, rfl⟩
  have hS0 : Sl V0 V0.heap.size 1 (some ⟨V.heap.size, 0, none⟩) 2 (intV [0, 2]) := by rw [hV0]; exact sl_cells (World.alloc_heap_new _ _) rfl rfl
  have hP0 : Below V.heap.size V V0 := by rw [hV0]; exact bal (Below.refl _ _) _
  rw [← hV0]
  obtain ⟨bE0, hbE0⟩ : ∃ b, b = V.heap.size := ⟨_, rfl⟩
  rw [← hbE0] at hS0 ⊢
  clear hV0
  refine (bshow _ B (some ⟨bE0, 0, none⟩) 2 2 [0, 2] 1 0 r (Lib.hid (he1 r Hr.out)) V0 (HT.out.go (bgo HBV.out hP0)) (G.out.go hP0).a (G.out.go hP0).b hS0 rfl (by decide)).mono ?_
  rintro e x0 ⟨⟨fp, fm, fr, fC, fnc, fcc, fS, fns, fcs, fhid, fbld, fsi, fSA, fna, fca, fSB, fnb, fcb⟩, com, ms, ch, p, rfl, _, hok, hC0⟩
  obtain ⟨his, hdr⟩ := hok rfl
  obtain rfl : fns = 2 := his.ns_
  obtain rfl : fnc = 3 := his.nc_
  obtain rfl : fhid = 2500 := his.hid_.trans (by decide)
  obtain rfl : fbld = 6 := his.bld_.trans (by decide)
  have hms := his.ms_
  have hQ0 := bgo hP0 hC0
  dsimp only [DF.cells]
  go_upto_region 3 with fail
  obtain ⟨X0, hX0⟩ : ∃ Q : World, Q = x0.alloc (.cells (⟨fp, fm, fr, fC, 3, fcc, fS, 2, fcs, 2500, 6, fsi, fSA, fna, fca, fSB, fnb, fcb⟩ : DF).cells 36) := ⟨_, rfl⟩
  have hX0' : X0 = x0.alloc (.cells #[.string fp, .int .i64 fm, .int .u64 fr.toNat, .slice fC 3 fcc, .slice fS 2 fcs, .int .i64 2500, .int .i64 6, .int .i64 fsi, .slice fSA fna fca, .slice fSB fnb fcb] 36) := hX0
  rw [← hX0']
  have hR0 : Below V.heap.size V X0 := by rw [hX0]; exact bal hQ0 _
  have gD : X0.heap[x0.heap.size]? = some (.cells (⟨fp, fm, fr, fC, 3, fcc, fS, 2, fcs, 2500, 6, fsi, fSA, fna, fca, fSB, fnb, fcb⟩ : DF).cells 36 (0, 0)) := by rw [hX0]; exact World.alloc_heap_new _ _
  have hdr0 : DRows X0 V0.heap.size (⟨fp, fm, fr, fC, 3, fcc, fS, 2, fcs, 2500, 6, fsi, fSA, fna, fca, fSB, fnb, fcb⟩ : DF) com ms ch p := by rw [hX0]; exact hdr.go (bal (Below.refl _ _) _)
  obtain ⟨T2, hT2⟩ : ∃ T, T = x0.heap.size := ⟨_, rfl⟩
  obtain ⟨bs0, hbs0⟩ : ∃ T, T = V0.heap.size := ⟨_, rfl⟩
  rw [← hbs0] at hdr0
  rw [← hT2] at gD ⊢
  have GD0 : Hid (HdD T2 bs0 (⟨fp, fm, fr, fC, 3, fcc, fS, 2, fcs, 2500, 6, fsi, fSA, fna, fca, fSB, fnb, fcb⟩ : DF) com ms ch p X0) := Lib.hid ⟨gD, hdr0⟩
  have HIS := Lib.hid hms
  have HB0 := Lib.hid (bgo HBV.out hR0)
  have G0 := Lib.hid (G.out.go hR0)
  clear hX0 hX0' gD hdr hdr0 his hok hms hT2 hbs0 hP0 hQ0 hC0 hR0 hS0 hbE0 G HBV
  clear x0
  clear V0
  clear V
  have G := G0
  clear G0
  have c0 : X0.cell? ⟨T, 0, none⟩ = some (.string benchP) := by rw [Lib.cell_of_heap G.out.s]; rfl
  have c1 : X0.cell? ⟨T, 1, none⟩ = some (.int .i64 290) := by rw [Lib.cell_of_heap G.out.s]; rfl
  have c2 : X0.cell? ⟨T, 2, none⟩ = some (.slice (some ⟨bA, oA, none⟩) 3 3) := by rw [Lib.cell_of_heap G.out.s]; rfl
  have c3 : X0.cell? ⟨T, 3, none⟩ = some (.slice B 3 3) := by rw [Lib.cell_of_heap G.out.s]; rfl
  have c4 : X0.cell? ⟨T, 4, none⟩ = some (.int .u64 r.toNat) := by rw [Lib.cell_of_heap G.out.s]; rfl
  go_wp2_with fail
  clear c0 c1 c2 c3 c4
  obtain ⟨V1, hV1⟩ : ∃ Q : World, Q = X0.alloc (.cells #[.int .i64 2, .int .i64 0] 3) := ⟨_, rfl⟩
  have hS1 : Sl V1 V1.heap.size 1 (some ⟨X0.heap.size, 0, none⟩) 2 (intV [2, 0]) := by rw [hV1]; exact sl_cells (World.alloc_heap_new _ _) rfl rfl
  have hP1 : Below X0.heap.size X0 V1 := by rw [hV1]; exact bal (Below.refl _ _) _
  rw [← hV1]
  obtain ⟨bE1, hbE1⟩ : ∃ b, b = X0.heap.size := ⟨_, rfl⟩
  rw [← hbE1] at hS1 ⊢
  clear hV1
  refine (bshowE _ B (some ⟨bE1, 0, none⟩) 2 2 [2, 0] 1 1 r (Lib.hid (he2 r)) (by decide) V1 (HT.out.go (bgo HB0.out hP1)) (G.out.go hP1).a (G.out.go hP1).b hS1 rfl (by decide)).mono ?_
  rintro e x1 ⟨rfl, hC1⟩
  have hQ1 := bgo hP1 hC1
  go_upto_region 4 with fail
  obtain ⟨X1, hX1⟩ : ∃ Q : World, Q = x1.alloc (.cells DF.none.cells 36) := ⟨_, rfl⟩
  have hX1' : X1 = x1.alloc (.cells #[.string ⟨#[]⟩, .int .i64 0, .int .u64 0, .slice none 0 0, .slice none 0 0, .int .i64 0, .int .i64 0, .int .i64 0, .slice none 0 0, .slice none 0 0] 36) := hX1
  rw [← hX1']
  have hR1 : Below X0.heap.size X0 X1 := by rw [hX1]; exact bal hQ1 _
  have GD1 := Lib.hid (GD0.out.go hR1)
  have HB1 := Lib.hid (bgo HB0.out hR1)
  have G1 := Lib.hid (G.out.go hR1)
  clear hX1 hX1' hP1 hQ1 hC1 hR1 hS1 hbE1 GD0 HB0 G
  have G := G1
  clear G1
  have c0 : X1.cell? ⟨T, 0, none⟩ = some (.string benchP) := by rw [Lib.cell_of_heap G.out.s]; rfl
  have c1 : X1.cell? ⟨T, 1, none⟩ = some (.int .i64 290) := by rw [Lib.cell_of_heap G.out.s]; rfl
  have c2 : X1.cell? ⟨T, 2, none⟩ = some (.slice (some ⟨bA, oA, none⟩) 3 3) := by rw [Lib.cell_of_heap G.out.s]; rfl
  have c3 : X1.cell? ⟨T, 3, none⟩ = some (.slice B 3 3) := by rw [Lib.cell_of_heap G.out.s]; rfl
  have c4 : X1.cell? ⟨T, 4, none⟩ = some (.int .u64 r.toNat) := by rw [Lib.cell_of_heap G.out.s]; rfl
  go_wp2_with fail
  clear c0 c1 c2 c3 c4
  obtain ⟨V2, hV2⟩ : ∃ Q : World, Q = X1.alloc (.cells #[.int .i64 3] 3) := ⟨_, rfl⟩
  have hS2 : Sl V2 V2.heap.size 1 (some ⟨X1.heap.size, 0, none⟩) 1 (intV [3]) := by rw [hV2]; exact sl_cells (World.alloc_heap_new _ _) rfl rfl
  have hP2 : Below X1.heap.size X1 V2 := by rw [hV2]; exact bal (Below.refl _ _) _
  rw [← hV2]
  obtain ⟨bE2, hbE2⟩ : ∃ b, b = X1.heap.size := ⟨_, rfl⟩
  rw [← hbE2] at hS2 ⊢
  clear hV2
  refine (bshowE _ B (some ⟨bE2, 0, none⟩) 1 1 [3] 1 1 r (Lib.hid (he3 r)) (by decide) V2 (HT.out.go (bgo HB1.out hP2)) (G.out.go hP2).a (G.out.go hP2).b hS2 rfl (by decide)).mono ?_
  rintro e x2 ⟨rfl, hC2⟩
  have hQ2 := bgo hP2 hC2
  go_upto_region 5 with fail
  obtain ⟨X2, hX2⟩ : ∃ Q : World, Q = x2.alloc (.cells DF.none.cells 36) := ⟨_, rfl⟩
  have hX2' : X2 = x2.alloc (.cells #[.string ⟨#[]⟩, .int .i64 0, .int .u64 0, .slice none 0 0, .slice none 0 0, .int .i64 0, .int .i64 0, .int .i64 0, .slice none 0 0, .slice none 0 0] 36) := hX2
  rw [← hX2']
  have hR2 : Below X1.heap.size X1 X2 := by rw [hX2]; exact bal hQ2 _
  have GD2 := Lib.hid (GD1.out.go hR2)
  have HB2 := Lib.hid (bgo HB1.out hR2)
  have G2 := Lib.hid (G.out.go hR2)
  clear hX2 hX2' hP2 hQ2 hC2 hR2 hS2 hbE2 GD1 HB1 G
  have G := G2
  clear G2
  have c0 : X2.cell? ⟨T, 0, none⟩ = some (.string benchP) := by rw [Lib.cell_of_heap G.out.s]; rfl
  have c1 : X2.cell? ⟨T, 1, none⟩ = some (.int .i64 290) := by rw [Lib.cell_of_heap G.out.s]; rfl
  have c2 : X2.cell? ⟨T, 2, none⟩ = some (.slice (some ⟨bA, oA, none⟩) 3 3) := by rw [Lib.cell_of_heap G.out.s]; rfl
  have c3 : X2.cell? ⟨T, 3, none⟩ = some (.slice B 3 3) := by rw [Lib.cell_of_heap G.out.s]; rfl
  have c4 : X2.cell? ⟨T, 4, none⟩ = some (.int .u64 r.toNat) := by rw [Lib.cell_of_heap G.out.s]; rfl
  go_wp2_with fail
  clear c0 c1 c2 c3 c4
  have hP3 := Below.refl X2.heap.size X2
  refine (bshowE _ B none 0 0 [] 2 1 r (Lib.hid (he4 r)) (by decide) X2 (HT.out.go (bgo HB2.out hP3)) (G.out.go hP3).a (G.out.go hP3).b (Sl.nil _ _) rfl (by decide)).mono ?_
  rintro e x3 ⟨rfl, hC3⟩
  have hQ3 := bgo hP3 hC3
  go_upto_region 6 with fail
  obtain ⟨X3, hX3⟩ : ∃ Q : World, Q = x3.alloc (.cells DF.none.cells 36) := ⟨_, rfl⟩
  have hX3' : X3 = x3.alloc (.cells #[.string ⟨#[]⟩, .int .i64 0, .int .u64 0, .slice none 0 0, .slice none 0 0, .int .i64 0, .int .i64 0, .int .i64 0, .slice none 0 0, .slice none 0 0] 36) := hX3
  rw [← hX3']
  have hR3 : Below X2.heap.size X2 X3 := by rw [hX3]; exact bal hQ3 _
  have GD3 := Lib.hid (GD2.out.go hR3)
  have HB3 := Lib.hid (bgo HB2.out hR3)
  have G3 := Lib.hid (G.out.go hR3)
  clear hX3 hX3' hP3 hQ3 hC3 hR3  GD2 HB2 G
  have G := G3
  clear G3
  obtain ⟨m0, m1, hm01, hk1⟩ : ∃ m0 m1, ms = [m0, m1] ∧ m1.row = ⟨⟨#[110, 101, 116]⟩, 7500, ⟨#[114, 101, 115, 116]⟩⟩ := by
    have hms := HIS.out
    match ms, hms with
    | [m0, m1], h =>
      refine ⟨m0, m1, rfl, ?_⟩
      simp only [List.map_cons, List.map_nil, List.cons.injEq] at h
      exact congrArg ShK.row h.2.1
  subst hm01
  have hown := GD3.out.r.s
  obtain ⟨S', sc', hS', hSl⟩ := own_slice hown
  have eS : fS = S' := by injection hS'
  obtain ⟨g, off, heS, hg, hcS⟩ := hSl.2 (show 0 < 2 by decide)
  rw [heS] at eS
  subst eS
  have hrow : (shmsV [m0, m1])[7]? = some (.string ⟨#[110, 101, 116]⟩) ∧ (shmsV [m0, m1])[8]? = some (.int .i64 7500) ∧ (shmsV [m0, m1])[9]? = some (.string ⟨#[114, 101, 115, 116]⟩) := by
    simp [shmsV, shmV, hk1]
  have y0 := hcS 7 _ hrow.1
  have y1 := hcS 8 _ hrow.2.1
  have y2 := hcS 9 _ hrow.2.2
  obtain ⟨q1, q2, q3, q4, q5⟩ : X3.cell? ⟨bA, oA + 6, none⟩ = some (.string ⟨#[110, 101, 116]⟩) ∧ X3.cell? ⟨bA, oA + 7, none⟩ = some (.int .i64 7500) ∧ X3.cell? ⟨bA, oA + 8, none⟩ = some (.string ⟨#[114, 101, 115, 116]⟩) ∧ bA < X3.heap.size ∧ True := by
    obtain ⟨b', o', e', hb', hc'⟩ := G.out.a.2 (by decide)
    injection e' with e'
    injection e' with e1 e2
    subst e1 e2
    exact ⟨hc' 6 _ rfl, hc' 7 _ rfl, hc' 8 _ rfl, hb', trivial⟩
  have HC := Lib.hid (And.intro y0 (And.intro y1 (And.intro y2 (And.intro q1 (And.intro q2 q3)))))
  have hgd : g < X3.drew.heap.size := hg
  have hbd : bA < X3.drew.heap.size := q4
  have hGd := G.out.go (Below.refl X3.heap.size X3).drew
  have hDd := GD3.out.go (Below.refl X3.heap.size X3).drew
  have HGd := Lib.hid hGd
  have HDd := Lib.hid hDd
  have hTd : PTabs X3.drew := (HT.out.go HB3.out.drew).1
  have hval : Hid (validB benchP 290 benchR benchB r = true) := Lib.hid (by rw [← Hr.out]; exact bench_valid)
  have hH0 : HdG T bA oA B r X3.drew ∧ HdD T2 bs0 (⟨fp, fm, fr, fC, 3, fcc, some ⟨g, off, none⟩, 2, fcs, 2500, 6, fsi, fSA, fna, fca, fSB, fnb, fcb⟩ : DF) com [m0, m1] ch p X3.drew ∧ X3.drew.cell? ⟨g, off + 7, none⟩ = some (.string ⟨#[110, 101, 116]⟩) ∧ X3.drew.cell? ⟨g, off + 8, none⟩ = some (.int .i64 7500) ∧ X3.drew.cell? ⟨g, off + 9, none⟩ = some (.string ⟨#[114, 101, 115, 116]⟩) ∧ X3.drew.cell? ⟨bA, oA + 6, none⟩ = some (.string ⟨#[110, 101, 116]⟩) ∧ X3.drew.cell? ⟨bA, oA + 7, none⟩ = some (.int .i64 7500) ∧ X3.drew.cell? ⟨bA, oA + 8, none⟩ = some (.string ⟨#[114, 101, 115, 116]⟩) := ⟨hGd, hDd, y0, y1, y2, q1, q2, q3⟩
  have HH0 := Lib.hid hH0
  clear hown hS' hSl hcS heS hrow y0 y1 y2 q1 q2 q3 q4 q5 hg hk1 hGd hDd hH0 HC HIS
  refine wp_region_noPanic ?_
  refine wp_region_held_drew (S := fun W => HdG T bA oA B r W ∧ HdD T2 bs0 (⟨fp, fm, fr, fC, 3, fcc, some ⟨g, off, none⟩, 2, fcs, 2500, 6, fsi, fSA, fna, fca, fSB, fnb, fcb⟩ : DF) com [m0, m1] ch p W ∧ W.cell? ⟨g, off + 7, none⟩ = some (.string ⟨#[110, 101, 116]⟩) ∧ W.cell? ⟨g, off + 8, none⟩ = some (.int .i64 7500) ∧ W.cell? ⟨g, off + 9, none⟩ = some (.string ⟨#[114, 101, 115, 116]⟩) ∧ W.cell? ⟨bA, oA + 6, none⟩ = some (.string ⟨#[110, 101, 116]⟩) ∧ W.cell? ⟨bA, oA + 7, none⟩ = some (.int .i64 7500) ∧ W.cell? ⟨bA, oA + 8, none⟩ = some (.string ⟨#[114, 101, 115, 116]⟩)) (by kernel_rfl) HH0.out (fun hHeld => ?_)
  try simp only [List.append_eq, List.cons_append, List.nil_append]
  refine wpAnyH_take (i := 0) (v := ?_) rfl (by kernel_rfl) (by kernel_rfl) (by kernel_rfl) (fun _ _ _ h => h) (Or.inl ⟨by kernel_rfl, ?_⟩) (by assumption) ?_
  rotate_left
  · intro w hSw
    (try dsimp only at hSw)
    have z0 : w.cell? ⟨T, 0, none⟩ = some (.string benchP) := by rw [Lib.cell_of_heap hSw.1.s]; rfl
    have z1 : w.cell? ⟨T, 1, none⟩ = some (.int .i64 290) := by rw [Lib.cell_of_heap hSw.1.s]; rfl
    have z2 : w.cell? ⟨T, 2, none⟩ = some (.slice (some ⟨bA, oA, none⟩) 3 3) := by rw [Lib.cell_of_heap hSw.1.s]; rfl
    have z3 : w.cell? ⟨T, 3, none⟩ = some (.slice B 3 3) := by rw [Lib.cell_of_heap hSw.1.s]; rfl
    have z4 : w.cell? ⟨T, 4, none⟩ = some (.int .u64 r.toNat) := by rw [Lib.cell_of_heap hSw.1.s]; rfl
    go_simp
    first | done | with_reducible rfl
  simp only [List.getElem_toArray, List.getElem_cons_zero, List.getElem_cons_succ, Act.put, List.setIfInBounds_toArray, List.set_cons_zero, List.set_cons_succ]
  refine wpAnyH_ready (rs := [1]) (by kernel_rfl) (by simp) ?_
  refine AllReadyH.cons rfl (fun K hK => ?_) AllReadyH.nil
  simp only [List.getElem_toArray, List.getElem_cons_zero, List.getElem_cons_succ]
  go_simp
  (with_reducible refine (valid35_any benchP 290 (some ⟨bA, oA, none⟩) B 3 3 3 3 benchR benchB r true hval X3.drew hTd HGd.out.a HGd.out.b rfl rfl (by decide) (by decide) (by decide) (by unfold I64; decide +kernel) (by unfold I64; decide +kernel)).mono ?_)
  rintro e w9 ⟨rfl, hB9⟩
  dsimp only
  refine hK.out _ _ ⟨HGd.out.go hB9, HDd.out.go hB9, (hB9.cell (p := ⟨g, off + 7, none⟩) hgd).trans HH0.out.2.2.1, (hB9.cell (p := ⟨g, off + 8, none⟩) hgd).trans HH0.out.2.2.2.1, (hB9.cell (p := ⟨g, off + 9, none⟩) hgd).trans HH0.out.2.2.2.2.1, (hB9.cell (p := ⟨bA, oA + 6, none⟩) hbd).trans HH0.out.2.2.2.2.2.1, (hB9.cell (p := ⟨bA, oA + 7, none⟩) hbd).trans HH0.out.2.2.2.2.2.2.1, (hB9.cell (p := ⟨bA, oA + 8, none⟩) hbd).trans HH0.out.2.2.2.2.2.2.2⟩ (fun hHeld => ?_)
  clear hK K
  try simp only [List.getElem_toArray, List.getElem_cons_zero, List.getElem_cons_succ, Act.put, List.setIfInBounds_toArray, List.set_cons_zero, List.set_cons_succ]
  refine wpAnyH_take (i := 2) (v := ?_) rfl (by kernel_rfl) (by kernel_rfl) (by kernel_rfl) (fun _ _ _ h => h) (Or.inl ⟨by kernel_rfl, ?_⟩) (by assumption) ?_
  rotate_left
  · intro w hSw
    (try dsimp only at hSw)
    go_simp
    first | done | with_reducible rfl
  simp only [List.getElem_toArray, List.getElem_cons_zero, List.getElem_cons_succ, Act.put, List.setIfInBounds_toArray, List.set_cons_zero, List.set_cons_succ]
  refine wpAnyH_take (i := 3) (v := ?_) rfl (by kernel_rfl) (by kernel_rfl) (by kernel_rfl) (fun _ _ _ h => h) (Or.inl ⟨by kernel_rfl, ?_⟩) (by assumption) ?_
  rotate_left
  · intro w hSw
    (try dsimp only at hSw)
    go_simp
    first | done | with_reducible rfl
  simp only [List.getElem_toArray, List.getElem_cons_zero, List.getElem_cons_succ, Act.put, List.setIfInBounds_toArray, List.set_cons_zero, List.set_cons_succ]
  refine wpAnyH_take (i := 4) (v := ?_) rfl (by kernel_rfl) (by kernel_rfl) (by kernel_rfl) (fun _ _ _ h => h) (Or.inl ⟨by kernel_rfl, ?_⟩) (by assumption) ?_
  rotate_left
  · intro w hSw
    (try dsimp only at hSw)
    go_simp
    first | done | with_reducible rfl
  simp only [List.getElem_toArray, List.getElem_cons_zero, List.getElem_cons_succ, Act.put, List.setIfInBounds_toArray, List.set_cons_zero, List.set_cons_succ]
  refine wpAnyH_take (i := 5) (v := ?_) rfl (by kernel_rfl) (by kernel_rfl) (by kernel_rfl) (fun _ _ _ h => h) (Or.inl ⟨by kernel_rfl, ?_⟩) (by assumption) ?_
  rotate_left
  · intro w hSw
    (try dsimp only at hSw)
    go_simp
    first | done | with_reducible rfl
  simp only [List.getElem_toArray, List.getElem_cons_zero, List.getElem_cons_succ, Act.put, List.setIfInBounds_toArray, List.set_cons_zero, List.set_cons_succ]
  refine wpAnyH_take (i := 6) (v := ?_) rfl (by kernel_rfl) (by kernel_rfl) (by kernel_rfl) (fun _ _ _ h => h) (Or.inl ⟨by kernel_rfl, ?_⟩) (by assumption) ?_
  rotate_left
  · intro w hSw
    (try dsimp only at hSw)
    go_simp
    first | done | with_reducible rfl
  simp only [List.getElem_toArray, List.getElem_cons_zero, List.getElem_cons_succ, Act.put, List.setIfInBounds_toArray, List.set_cons_zero, List.set_cons_succ]
  refine wpAnyH_take (i := 7) (v := ?_) rfl (by kernel_rfl) (by kernel_rfl) (by kernel_rfl) (fun _ _ _ h => h) (Or.inl ⟨by kernel_rfl, ?_⟩) (by assumption) ?_
  rotate_left
  · intro w hSw
    (try dsimp only at hSw)
    go_simp
    first | done | with_reducible rfl
  simp only [List.getElem_toArray, List.getElem_cons_zero, List.getElem_cons_succ, Act.put, List.setIfInBounds_toArray, List.set_cons_zero, List.set_cons_succ]
  refine wpAnyH_take (i := 8) (v := ?_) rfl (by kernel_rfl) (by kernel_rfl) (by kernel_rfl) (fun _ _ _ h => h) (Or.inl ⟨by kernel_rfl, ?_⟩) (by assumption) ?_
  rotate_left
  · intro w hSw
    (try dsimp only at hSw)
    have z4 : w.cell? ⟨T2, 4, none⟩ = some (.slice (some ⟨g, off, none⟩) 2 fcs) := by rw [Lib.cell_of_heap hSw.2.1.d]; rfl
    go_simp
    first | done | with_reducible rfl
  simp only [List.getElem_toArray, List.getElem_cons_zero, List.getElem_cons_succ, Act.put, List.setIfInBounds_toArray, List.set_cons_zero, List.set_cons_succ]
  refine wpAnyH_take (i := 9) (v := ?_) rfl (by kernel_rfl) (by kernel_rfl) (by kernel_rfl) (fun _ _ _ h => h) (Or.inl ⟨by kernel_rfl, ?_⟩) (by assumption) ?_
  rotate_left
  · intro w hSw
    (try dsimp only at hSw)
    go_simp
    first | done | with_reducible rfl
  simp only [List.getElem_toArray, List.getElem_cons_zero, List.getElem_cons_succ, Act.put, List.setIfInBounds_toArray, List.set_cons_zero, List.set_cons_succ]
  refine wpAnyH_take (i := 10) (v := ?_) rfl (by kernel_rfl) (by kernel_rfl) (by kernel_rfl) (fun _ _ _ h => h) (Or.inl ⟨by kernel_rfl, ?_⟩) (by assumption) ?_
  rotate_left
  · intro w hSw
    (try dsimp only at hSw)
    go_simp
    first | done | with_reducible rfl
  simp only [List.getElem_toArray, List.getElem_cons_zero, List.getElem_cons_succ, Act.put, List.setIfInBounds_toArray, List.set_cons_zero, List.set_cons_succ]
  refine wpAnyH_take (i := 11) (v := ?_) rfl (by kernel_rfl) (by kernel_rfl) (by kernel_rfl) (fun _ _ _ h => h) (Or.inl ⟨by kernel_rfl, ?_⟩) (by assumption) ?_
  rotate_left
  · intro w hSw
    (try dsimp only at hSw)
    go_simp
    first | done | with_reducible rfl
  simp only [List.getElem_toArray, List.getElem_cons_zero, List.getElem_cons_succ, Act.put, List.setIfInBounds_toArray, List.set_cons_zero, List.set_cons_succ]
  refine wpAnyH_take (i := 12) (v := ?_) rfl (by kernel_rfl) (by kernel_rfl) (by kernel_rfl) (fun _ _ _ h => h) (Or.inl ⟨by kernel_rfl, ?_⟩) (by assumption) ?_
  rotate_left
  · intro w hSw
    (try dsimp only at hSw)
    go_simp
    first | done | with_reducible rfl
  simp only [List.getElem_toArray, List.getElem_cons_zero, List.getElem_cons_succ, Act.put, List.setIfInBounds_toArray, List.set_cons_zero, List.set_cons_succ]
  refine wpAnyH_take (i := 13) (v := ?_) rfl (by kernel_rfl) (by kernel_rfl) (by kernel_rfl) (fun _ _ _ h => h) (Or.inl ⟨by kernel_rfl, ?_⟩) (by assumption) ?_
  rotate_left
  · intro w hSw
    (try dsimp only at hSw)
    go_simp
    first | done | with_reducible rfl
  simp only [List.getElem_toArray, List.getElem_cons_zero, List.getElem_cons_succ, Act.put, List.setIfInBounds_toArray, List.set_cons_zero, List.set_cons_succ]
  refine wpAnyH_take (i := 14) (v := ?_) rfl (by kernel_rfl) (by kernel_rfl) (by kernel_rfl) (fun _ _ _ h => h) (Or.inl ⟨by kernel_rfl, ?_⟩) (by assumption) ?_
  rotate_left
  · intro w hSw
    (try dsimp only at hSw)
    have z4 : w.cell? ⟨T2, 4, none⟩ = some (.slice (some ⟨g, off, none⟩) 2 fcs) := by rw [Lib.cell_of_heap hSw.2.1.d]; rfl
    go_simp
    first | done | with_reducible rfl
  simp only [List.getElem_toArray, List.getElem_cons_zero, List.getElem_cons_succ, Act.put, List.setIfInBounds_toArray, List.set_cons_zero, List.set_cons_succ]
  refine wpAnyH_take (i := 15) (v := ?_) rfl (by kernel_rfl) (by kernel_rfl) (by kernel_rfl) (fun _ _ _ h => h) (Or.inl ⟨by kernel_rfl, ?_⟩) (by assumption) ?_
  rotate_left
  · intro w hSw
    (try dsimp only at hSw)
    go_simp
    first | done | with_reducible rfl
  simp only [List.getElem_toArray, List.getElem_cons_zero, List.getElem_cons_succ, Act.put, List.setIfInBounds_toArray, List.set_cons_zero, List.set_cons_succ]
  refine wpAnyH_take (i := 16) (v := ?_) rfl (by kernel_rfl) (by kernel_rfl) (by kernel_rfl) (fun _ _ _ h => h) (Or.inl ⟨by kernel_rfl, ?_⟩) (by assumption) ?_
  rotate_left
  · intro w hSw
    (try dsimp only at hSw)
    go_simp
    first | done | with_reducible rfl
  simp only [List.getElem_toArray, List.getElem_cons_zero, List.getElem_cons_succ, Act.put, List.setIfInBounds_toArray, List.set_cons_zero, List.set_cons_succ]
  refine wpAnyH_take (i := 17) (v := ?_) rfl (by kernel_rfl) (by kernel_rfl) (by kernel_rfl) (fun _ _ _ h => h) (Or.inl ⟨by kernel_rfl, ?_⟩) (by assumption) ?_
  rotate_left
  · intro w hSw
    (try dsimp only at hSw)
    obtain ⟨_, _, z0, z1, z2, _⟩ := hSw
    go_simp
    first | done | with_reducible rfl
  simp only [List.getElem_toArray, List.getElem_cons_zero, List.getElem_cons_succ, Act.put, List.setIfInBounds_toArray, List.set_cons_zero, List.set_cons_succ]
  refine wpAnyH_take (i := 18) (v := ?_) rfl (by kernel_rfl) (by kernel_rfl) (by kernel_rfl) (fun _ _ _ h => h) (Or.inl ⟨by kernel_rfl, ?_⟩) (by assumption) ?_
  rotate_left
  · intro w hSw
    (try dsimp only at hSw)
    go_simp
    first | done | with_reducible rfl
  simp only [List.getElem_toArray, List.getElem_cons_zero, List.getElem_cons_succ, Act.put, List.setIfInBounds_toArray, List.set_cons_zero, List.set_cons_succ]
  refine wpAnyH_take (i := 19) (v := ?_) rfl (by kernel_rfl) (by kernel_rfl) (by kernel_rfl) (fun _ _ _ h => h) (Or.inl ⟨by kernel_rfl, ?_⟩) (by assumption) ?_
  rotate_left
  · intro w hSw
    (try dsimp only at hSw)
    have z2 : w.cell? ⟨T, 2, none⟩ = some (.slice (some ⟨bA, oA, none⟩) 3 3) := by rw [Lib.cell_of_heap hSw.1.s]; rfl
    go_simp
    first | done | with_reducible rfl
  simp only [List.getElem_toArray, List.getElem_cons_zero, List.getElem_cons_succ, Act.put, List.setIfInBounds_toArray, List.set_cons_zero, List.set_cons_succ]
  refine wpAnyH_take (i := 20) (v := ?_) rfl (by kernel_rfl) (by kernel_rfl) (by kernel_rfl) (fun _ _ _ h => h) (Or.inl ⟨by kernel_rfl, ?_⟩) (by assumption) ?_
  rotate_left
  · intro w hSw
    (try dsimp only at hSw)
    go_simp
    first | done | with_reducible rfl
  simp only [List.getElem_toArray, List.getElem_cons_zero, List.getElem_cons_succ, Act.put, List.setIfInBounds_toArray, List.set_cons_zero, List.set_cons_succ]
  refine wpAnyH_take (i := 21) (v := ?_) rfl (by kernel_rfl) (by kernel_rfl) (by kernel_rfl) (fun _ _ _ h => h) (Or.inl ⟨by kernel_rfl, ?_⟩) (by assumption) ?_
  rotate_left
  · intro w hSw
    (try dsimp only at hSw)
    obtain ⟨_, _, _, _, _, z0, z1, z2⟩ := hSw
    go_simp
    first | done | with_reducible rfl
  simp only [List.getElem_toArray, List.getElem_cons_zero, List.getElem_cons_succ, Act.put, List.setIfInBounds_toArray, List.set_cons_zero, List.set_cons_succ]
  refine wpAnyH_take (i := 22) (v := ?_) rfl (by kernel_rfl) (by kernel_rfl) (by kernel_rfl) (fun _ _ _ h => h) (Or.inl ⟨by kernel_rfl, ?_⟩) (by assumption) ?_
  rotate_left
  · intro w hSw
    (try dsimp only at hSw)
    go_simp
    first | done | with_reducible rfl
  simp only [List.getElem_toArray, List.getElem_cons_zero, List.getElem_cons_succ, Act.put, List.setIfInBounds_toArray, List.set_cons_zero, List.set_cons_succ]
  refine wpAnyH_take (i := 23) (v := ?_) rfl (by kernel_rfl) (by kernel_rfl) (by kernel_rfl) (fun _ _ _ h => h) (Or.inl ⟨by kernel_rfl, ?_⟩) (by assumption) ?_
  rotate_left
  · intro w hSw
    (try dsimp only at hSw)
    go_simp
    first | done | with_reducible rfl
  simp only [List.getElem_toArray, List.getElem_cons_zero, List.getElem_cons_succ, Act.put, List.setIfInBounds_toArray, List.set_cons_zero, List.set_cons_succ]
  refine wpAnyH_take (i := 24) (v := ?_) rfl (by kernel_rfl) (by kernel_rfl) (by kernel_rfl) (fun _ _ _ h => h) (Or.inl ⟨by kernel_rfl, ?_⟩) (by assumption) ?_
  rotate_left
  · intro w hSw
    (try dsimp only at hSw)
    go_simp
    first | done | with_reducible rfl
  simp only [List.getElem_toArray, List.getElem_cons_zero, List.getElem_cons_succ, Act.put, List.setIfInBounds_toArray, List.set_cons_zero, List.set_cons_succ]
  refine wpAnyH_take (i := 25) (v := ?_) rfl (by kernel_rfl) (by kernel_rfl) (by kernel_rfl) (fun _ _ _ h => h) (Or.inl ⟨by kernel_rfl, ?_⟩) (by assumption) ?_
  rotate_left
  · intro w hSw
    (try dsimp only at hSw)
    go_simp
    first | done | with_reducible rfl
  simp only [List.getElem_toArray, List.getElem_cons_zero, List.getElem_cons_succ, Act.put, List.setIfInBounds_toArray, List.set_cons_zero, List.set_cons_succ]
  refine wpAnyH_take (i := 26) (v := ?_) rfl (by kernel_rfl) (by kernel_rfl) (by kernel_rfl) (fun _ _ _ h => h) (Or.inl ⟨by kernel_rfl, ?_⟩) (by assumption) ?_
  rotate_left
  · intro w hSw
    (try dsimp only at hSw)
    have z5 : w.cell? ⟨T2, 5, none⟩ = some (.int .i64 2500) := by rw [Lib.cell_of_heap hSw.2.1.d]; rfl
    go_simp
    first | done | with_reducible rfl
  simp only [List.getElem_toArray, List.getElem_cons_zero, List.getElem_cons_succ, Act.put, List.setIfInBounds_toArray, List.set_cons_zero, List.set_cons_succ]
  refine wpAnyH_take (i := 27) (v := ?_) rfl (by kernel_rfl) (by kernel_rfl) (by kernel_rfl) (fun _ _ _ h => h) (Or.inl ⟨by kernel_rfl, ?_⟩) (by assumption) ?_
  rotate_left
  · intro w hSw
    (try dsimp only at hSw)
    go_simp
    first | done | with_reducible rfl
  simp only [List.getElem_toArray, List.getElem_cons_zero, List.getElem_cons_succ, Act.put, List.setIfInBounds_toArray, List.set_cons_zero, List.set_cons_succ]
  refine wpAnyH_take (i := 28) (v := ?_) rfl (by kernel_rfl) (by kernel_rfl) (by kernel_rfl) (fun _ _ _ h => h) (Or.inl ⟨by kernel_rfl, ?_⟩) (by assumption) ?_
  rotate_left
  · intro w hSw
    (try dsimp only at hSw)
    go_simp
    first | done | with_reducible rfl
  simp only [List.getElem_toArray, List.getElem_cons_zero, List.getElem_cons_succ, Act.put, List.setIfInBounds_toArray, List.set_cons_zero, List.set_cons_succ]
  refine wpAnyH_take (i := 29) (v := ?_) rfl (by kernel_rfl) (by kernel_rfl) (by kernel_rfl) (fun _ _ _ h => h) (Or.inl ⟨by kernel_rfl, ?_⟩) (by assumption) ?_
  rotate_left
  · intro w hSw
    (try dsimp only at hSw)
    go_simp
    first | done | with_reducible rfl
  simp only [List.getElem_toArray, List.getElem_cons_zero, List.getElem_cons_succ, Act.put, List.setIfInBounds_toArray, List.set_cons_zero, List.set_cons_succ]
  refine wpAnyH_take (i := 30) (v := ?_) rfl (by kernel_rfl) (by kernel_rfl) (by kernel_rfl) (fun _ _ _ h => h) (Or.inl ⟨by kernel_rfl, ?_⟩) (by assumption) ?_
  rotate_left
  · intro w hSw
    (try dsimp only at hSw)
    go_simp
    first | done | with_reducible rfl
  simp only [List.getElem_toArray, List.getElem_cons_zero, List.getElem_cons_succ, Act.put, List.setIfInBounds_toArray, List.set_cons_zero, List.set_cons_succ]
  refine wpAnyH_take (i := 31) (v := ?_) rfl (by kernel_rfl) (by kernel_rfl) (by kernel_rfl) (fun _ _ _ h => h) (Or.inl ⟨by kernel_rfl, ?_⟩) (by assumption) ?_
  rotate_left
  · intro w hSw
    (try dsimp only at hSw)
    have z6 : w.cell? ⟨T2, 6, none⟩ = some (.int .i64 6) := by rw [Lib.cell_of_heap hSw.2.1.d]; rfl
    go_simp
    first | done | with_reducible rfl
  simp only [List.getElem_toArray, List.getElem_cons_zero, List.getElem_cons_succ, Act.put, List.setIfInBounds_toArray, List.set_cons_zero, List.set_cons_succ]
  refine wpAnyH_take (i := 32) (v := ?_) rfl (by kernel_rfl) (by kernel_rfl) (by kernel_rfl) (fun _ _ _ h => h) (Or.inl ⟨by kernel_rfl, ?_⟩) (by assumption) ?_
  rotate_left
  · intro w hSw
    (try dsimp only at hSw)
    go_simp
    first | done | with_reducible rfl
  simp only [List.getElem_toArray, List.getElem_cons_zero, List.getElem_cons_succ, Act.put, List.setIfInBounds_toArray, List.set_cons_zero, List.set_cons_succ]
  refine wpAnyH_take (i := 33) (v := ?_) rfl (by kernel_rfl) (by kernel_rfl) (by kernel_rfl) (fun _ _ _ h => h) (Or.inl ⟨by kernel_rfl, ?_⟩) (by assumption) ?_
  rotate_left
  · intro w hSw
    (try dsimp only at hSw)
    go_simp
    first | done | with_reducible rfl
  simp only [List.getElem_toArray, List.getElem_cons_zero, List.getElem_cons_succ, Act.put, List.setIfInBounds_toArray, List.set_cons_zero, List.set_cons_succ]
  refine wpAnyH_take (i := 34) (v := ?_) rfl (by kernel_rfl) (by kernel_rfl) (by kernel_rfl) (fun _ _ _ h => h) (Or.inl ⟨by kernel_rfl, ?_⟩) (by assumption) ?_
  rotate_left
  · intro w hSw
    (try dsimp only at hSw)
    go_simp
    first | done | with_reducible rfl
  simp only [List.getElem_toArray, List.getElem_cons_zero, List.getElem_cons_succ, Act.put, List.setIfInBounds_toArray, List.set_cons_zero, List.set_cons_succ]
  refine wpAnyH_take (i := 35) (v := ?_) rfl (by kernel_rfl) (by kernel_rfl) (by kernel_rfl) (fun _ _ _ h => h) (Or.inl ⟨by kernel_rfl, ?_⟩) (by assumption) ?_
  rotate_left
  · intro w hSw
    (try dsimp only at hSw)
    go_simp
    first | done | with_reducible rfl
  simp only [List.getElem_toArray, List.getElem_cons_zero, List.getElem_cons_succ, Act.put, List.setIfInBounds_toArray, List.set_cons_zero, List.set_cons_succ]
  refine wpAnyH_take (i := 36) (v := ?_) rfl (by kernel_rfl) (by kernel_rfl) (by kernel_rfl) (fun _ _ _ h => h) (Or.inl ⟨by kernel_rfl, ?_⟩) (by assumption) ?_
  rotate_left
  · intro w hSw
    (try dsimp only at hSw)
    have z3 : w.cell? ⟨T2, 3, none⟩ = some (.slice fC 3 fcc) := by rw [Lib.cell_of_heap hSw.2.1.d]; rfl
    go_simp
    first | done | with_reducible rfl
  simp only [List.getElem_toArray, List.getElem_cons_zero, List.getElem_cons_succ, Act.put, List.setIfInBounds_toArray, List.set_cons_zero, List.set_cons_succ]
  refine wpAnyH_take (i := 37) (v := ?_) rfl (by kernel_rfl) (by kernel_rfl) (by kernel_rfl) (fun _ _ _ h => h) (Or.inl ⟨by kernel_rfl, ?_⟩) (by assumption) ?_
  rotate_left
  · intro w hSw
    (try dsimp only at hSw)
    go_simp
    first | done | with_reducible rfl
  simp only [List.getElem_toArray, List.getElem_cons_zero, List.getElem_cons_succ, Act.put, List.setIfInBounds_toArray, List.set_cons_zero, List.set_cons_succ]
  refine wpAnyH_take (i := 38) (v := ?_) rfl (by kernel_rfl) (by kernel_rfl) (by kernel_rfl) (fun _ _ _ h => h) (Or.inl ⟨by kernel_rfl, ?_⟩) (by assumption) ?_
  rotate_left
  · intro w hSw
    (try dsimp only at hSw)
    go_simp
    first | done | with_reducible rfl
  simp only [List.getElem_toArray, List.getElem_cons_zero, List.getElem_cons_succ, Act.put, List.setIfInBounds_toArray, List.set_cons_zero, List.set_cons_succ]
  refine wpAnyH_take (i := 39) (v := ?_) rfl (by kernel_rfl) (by kernel_rfl) (by kernel_rfl) (fun _ _ _ h => h) (Or.inl ⟨by kernel_rfl, ?_⟩) (by assumption) ?_
  rotate_left
  · intro w hSw
    (try dsimp only at hSw)
    go_simp
    first | done | with_reducible rfl
  simp only [List.getElem_toArray, List.getElem_cons_zero, List.getElem_cons_succ, Act.put, List.setIfInBounds_toArray, List.set_cons_zero, List.set_cons_succ]
  refine wpAnyH_take (i := 40) (v := ?_) rfl (by kernel_rfl) (by kernel_rfl) (by kernel_rfl) (fun _ _ _ h => h) (Or.inl ⟨by kernel_rfl, ?_⟩) (by assumption) ?_
  rotate_left
  · intro w hSw
    (try dsimp only at hSw)
    go_simp
    first | done | with_reducible rfl
  simp only [List.getElem_toArray, List.getElem_cons_zero, List.getElem_cons_succ, Act.put, List.setIfInBounds_toArray, List.set_cons_zero, List.set_cons_succ]
  refine wpAnyH_take (i := 41) (v := ?_) rfl (by kernel_rfl) (by kernel_rfl) (by kernel_rfl) (fun _ _ _ h => h) (Or.inl ⟨by kernel_rfl, ?_⟩) (by assumption) ?_
  rotate_left
  · intro w hSw
    (try dsimp only at hSw)
    go_simp
    first | done | with_reducible rfl
  simp only [List.getElem_toArray, List.getElem_cons_zero, List.getElem_cons_succ, Act.put, List.setIfInBounds_toArray, List.set_cons_zero, List.set_cons_succ]
  refine wpAnyH_take (i := 42) (v := ?_) rfl (by kernel_rfl) (by kernel_rfl) (by kernel_rfl) (fun _ _ _ h => h) (Or.inl ⟨by kernel_rfl, ?_⟩) (by assumption) ?_
  rotate_left
  · intro w hSw
    (try dsimp only at hSw)
    go_simp
    first | done | with_reducible rfl
  simp only [List.getElem_toArray, List.getElem_cons_zero, List.getElem_cons_succ, Act.put, List.setIfInBounds_toArray, List.set_cons_zero, List.set_cons_succ]
  refine wpAnyH_take (i := 43) (v := ?_) rfl (by kernel_rfl) (by kernel_rfl) (by kernel_rfl) (fun _ _ _ h => h) (Or.inl ⟨by kernel_rfl, ?_⟩) (by assumption) ?_
  rotate_left
  · intro w hSw
    (try dsimp only at hSw)
    go_simp
    first | done | with_reducible rfl
  simp only [List.getElem_toArray, List.getElem_cons_zero, List.getElem_cons_succ, Act.put, List.setIfInBounds_toArray, List.set_cons_zero, List.set_cons_succ]
  refine wpAnyH_take (i := 44) (v := ?_) rfl (by kernel_rfl) (by kernel_rfl) (by kernel_rfl) (fun _ _ _ h => h) (Or.inl ⟨by kernel_rfl, ?_⟩) (by assumption) ?_
  rotate_left
  · intro w hSw
    (try dsimp only at hSw)
    go_simp
    first | done | with_reducible rfl
  simp only [List.getElem_toArray, List.getElem_cons_zero, List.getElem_cons_succ, Act.put, List.setIfInBounds_toArray, List.set_cons_zero, List.set_cons_succ]
  refine wpAnyH_take (i := 45) (v := ?_) rfl (by kernel_rfl) (by kernel_rfl) (by kernel_rfl) (fun _ _ _ h => h) (Or.inl ⟨by kernel_rfl, ?_⟩) (by assumption) ?_
  rotate_left
  · intro w hSw
    (try dsimp only at hSw)
    go_simp
    first | done | with_reducible rfl
  simp only [List.getElem_toArray, List.getElem_cons_zero, List.getElem_cons_succ, Act.put, List.setIfInBounds_toArray, List.set_cons_zero, List.set_cons_succ]
  refine wpAnyH_take (i := 46) (v := ?_) rfl (by kernel_rfl) (by kernel_rfl) (by kernel_rfl) (fun _ _ _ h => h) (Or.inl ⟨by kernel_rfl, ?_⟩) (by assumption) ?_
  rotate_left
  · intro w hSw
    (try dsimp only at hSw)
    go_simp
    first | done | with_reducible rfl
  simp only [List.getElem_toArray, List.getElem_cons_zero, List.getElem_cons_succ, Act.put, List.setIfInBounds_toArray, List.set_cons_zero, List.set_cons_succ]
  refine wpAnyH_take (i := 47) (v := ?_) rfl (by kernel_rfl) (by kernel_rfl) (by kernel_rfl) (fun _ _ _ h => h) (Or.inl ⟨by kernel_rfl, ?_⟩) (by assumption) ?_
  rotate_left
  · intro w hSw
    (try dsimp only at hSw)
    go_simp
    first | done | with_reducible rfl
  simp only [List.getElem_toArray, List.getElem_cons_zero, List.getElem_cons_succ, Act.put, List.setIfInBounds_toArray, List.set_cons_zero, List.set_cons_succ]
  refine wpAnyH_take (i := 48) (v := ?_) rfl (by kernel_rfl) (by kernel_rfl) (by kernel_rfl) (fun _ _ _ h => h) (Or.inl ⟨by kernel_rfl, ?_⟩) (by assumption) ?_
  rotate_left
  · intro w hSw
    (try dsimp only at hSw)
    go_simp
    first | done | with_reducible rfl
  simp only [List.getElem_toArray, List.getElem_cons_zero, List.getElem_cons_succ, Act.put, List.setIfInBounds_toArray, List.set_cons_zero, List.set_cons_succ]
  refine wpAnyH_take (i := 49) (v := ?_) rfl (by kernel_rfl) (by kernel_rfl) (by kernel_rfl) (fun _ _ _ h => h) (Or.inl ⟨by kernel_rfl, ?_⟩) (by assumption) ?_
  rotate_left
  · intro w hSw
    (try dsimp only at hSw)
    go_simp
    first | done | with_reducible rfl
  simp only [List.getElem_toArray, List.getElem_cons_zero, List.getElem_cons_succ, Act.put, List.setIfInBounds_toArray, List.set_cons_zero, List.set_cons_succ]
  refine wpAnyH_take (i := 50) (v := ?_) rfl (by kernel_rfl) (by kernel_rfl) (by kernel_rfl) (fun _ _ _ h => h) (Or.inl ⟨by kernel_rfl, ?_⟩) (by assumption) ?_
  rotate_left
  · intro w hSw
    (try dsimp only at hSw)
    go_simp
    first | done | with_reducible rfl
  simp only [List.getElem_toArray, List.getElem_cons_zero, List.getElem_cons_succ, Act.put, List.setIfInBounds_toArray, List.set_cons_zero, List.set_cons_succ]
  refine wpAnyH_take (i := 51) (v := ?_) rfl (by kernel_rfl) (by kernel_rfl) (by kernel_rfl) (fun _ _ _ h => h) (Or.inl ⟨by kernel_rfl, ?_⟩) (by assumption) ?_
  rotate_left
  · intro w hSw
    (try dsimp only at hSw)
    go_simp
    first | done | with_reducible rfl
  simp only [List.getElem_toArray, List.getElem_cons_zero, List.getElem_cons_succ, Act.put, List.setIfInBounds_toArray, List.set_cons_zero, List.set_cons_succ]
  refine wpAnyH_take (i := 52) (v := ?_) rfl (by kernel_rfl) (by kernel_rfl) (by kernel_rfl) (fun _ _ _ h => h) (Or.inl ⟨by kernel_rfl, ?_⟩) (by assumption) ?_
  rotate_left
  · intro w hSw
    (try dsimp only at hSw)
    go_simp
    first | done | with_reducible rfl
  simp only [List.getElem_toArray, List.getElem_cons_zero, List.getElem_cons_succ, Act.put, List.setIfInBounds_toArray, List.set_cons_zero, List.set_cons_succ]
  refine wpAnyH_done (by kernel_rfl) ?_ _
  dsimp only [NoPanic]
  clear hHeld
  have hBw9 : Below w.heap.size w w9 := bgo HB3.out (below_undrew hB9)
  clear hTd HGd HDd HH0 hgd hbd
  go_wp2_with fail
  refine (htext _ _ (HT.out.go (bal hBw9 _)) (sl_cells (World.alloc_heap_new _ _) rfl rfl)).mono ?_
  rintro e wa ⟨rfl, hBa⟩
  go_wp2_with fail
  go_ret
  exact ⟨rfl, bgo (bal hBw9 _) hBa⟩
end Go.Proofs.YtfjkmhbipkoefaaGreatDoor
