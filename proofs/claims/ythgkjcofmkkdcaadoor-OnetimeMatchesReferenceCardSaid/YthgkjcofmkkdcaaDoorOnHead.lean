/- The walk of the law package's head (layer 25): the fixed examples hold. -/
import Derived.Test.YthgkjcofmkkdcaaDoorOnW8
namespace Go.Proofs.YthgkjcofmkkdcaaDoor
open Go.RowKit Go.Shelf
set_option linter.unusedVariables false
def seedB : ByteArray := ⟨#[115, 101, 101, 100]⟩
def tB : ByteArray := ⟨#[116, 101, 120, 116]⟩
theorem reu_dec (is : List Int) (ts : List ByteArray) (n i j : Nat) (h1 : j < n) (h2 : i < j) (h3 : is.getD i 0 = is.getD j 0) (h4 : ts.getD i ⟨#[]⟩ ≠ ts.getD j ⟨#[]⟩) (h5 : ∀ j', j' < j → ∀ i', i' < j' → is.getD i' 0 = is.getD j' 0 → ts.getD i' ⟨#[]⟩ = ts.getD j' ⟨#[]⟩) (h6 : ∀ i', i' < i → is.getD i' 0 = is.getD j 0 → ts.getD i' ⟨#[]⟩ = ts.getD j ⟨#[]⟩) : On.Reu is ts n (some (i, j)) :=
  ⟨h1, ⟨h2, h3, h4⟩, fun i' j' hj hp => hp.2.2 (h5 j' hj i' hp.1 hp.2.1), fun i' hi hp => hp.2.2 (h6 i' hi hp.2.1)⟩
theorem reu_dec0 (is : List Int) (ts : List ByteArray) (n : Nat) (h5 : ∀ j', j' < n → ∀ i', i' < j' → is.getD i' 0 = is.getD j' 0 → ts.getD i' ⟨#[]⟩ = ts.getD j' ⟨#[]⟩) : On.Reu is ts n none :=
  fun i' j' hj hp => hp.2.2 (h5 j' hj i' hp.1 hp.2.1)
def hS1 : List ByteArray := [⟨#[97]⟩, ⟨#[98]⟩, ⟨#[97]⟩, ⟨#[99]⟩]
def hS2 : List ByteArray := [⟨#[97]⟩, ⟨#[97]⟩]
def hG (i : Int) : Sg := ⟨i, none, 0, 0, none, 0, 0⟩
theorem hReu1 : On.Reu (idxs [hG 1, hG 2, hG 1, hG 1]) hS1 4 (some (0, 3)) := reu_dec _ _ _ _ _ (by decide) (by decide) (by decide) (by decide +kernel) (by decide +kernel) (by decide +kernel)
theorem hReu2 : On.Reu (idxs [hG 1, hG 1]) hS2 2 none := reu_dec0 _ _ _ (by decide +kernel)
theorem reused_at (A B : Option Addr) (ca cb n : Nat) (ss : List ByteArray) (sg : Sigs) (hl : ss.length = n) (hl' : sg.length = n) (w : World) (hA : Sl w w.heap.size 1 A n (strV ss)) (hB : Sl w w.heap.size 3 B n (sigsV sg))
    (hn : n ≤ 1048576) (hwf : ∀ x ∈ sg, (Lit.int .i64 x.i).wf = true) (o : Option (Nat × Nat)) (ho : On.Reu (idxs sg) ss n o) (v : Value) (hv : reuT o = v) :
    Calls Tryd.prog 16 #[.slice A n ca, .slice B n cb] w fun e w' => e = .returned v ∧ Below w.heap.size w w' :=
  (reused_ok A B ca cb n ss sg hl hl' w hA hB hn hwf).mono fun e w' ⟨o', he, ho', hb⟩ => ⟨by rw [he, ho'.uniq ho, hv], hb⟩
theorem two_slices (w : World) (n : Nat) (ss : List ByteArray) (sg : Sigs) (cs1 cs2 : Array Value) (t1 t2 : TypeId) (hn : ss.length = n) (hn' : sg.length = n) (h1 : cs1.toList = strV ss) (h2 : cs2.toList = sigsV sg) :
    Sl ((w.alloc (.cells cs1 t1)).alloc (.cells cs2 t2)) ((w.alloc (.cells cs1 t1)).alloc (.cells cs2 t2)).heap.size 1 (some ⟨w.heap.size, 0, none⟩) n (strV ss) ∧
    Sl ((w.alloc (.cells cs1 t1)).alloc (.cells cs2 t2)) ((w.alloc (.cells cs1 t1)).alloc (.cells cs2 t2)).heap.size 3 (some ⟨w.heap.size + 1, 0, none⟩) n (sigsV sg) :=
  ⟨sl_cells (heap_alloc2_old w _ _) h1 (by rw [strV, List.length_map, hn]; omega), sl_cells (heap_alloc2_new w _ _) h2 (by rw [sigsV_len, hn'])⟩
theorem bgo1 {w W' : World} {a : Obj} (k : Below (w.alloc a).heap.size (w.alloc a) W') : Below w.heap.size w W' := bgo (bal (Below.refl _ _) _) k
theorem bgo2 {w W' : World} {a b : Obj} (k : Below ((w.alloc a).alloc b).heap.size ((w.alloc a).alloc b) W') : Below w.heap.size w W' := bgo1 (bgo1 k)
theorem head_path : ∃ x, keyP seedB 2 1 = [(x, true)] := by
  have h := keyP_map seedB 2 1 (by decide) (by decide)
  rw [show sidesL ((2 : Nat) : Int) ((1 : Nat) : Int) = [true] by decide +kernel] at h
  generalize keyP seedB 2 ((1 : Nat) : Int) = p at h
  match p, h with
  | [(x, y)], h => exact ⟨x, by simp at h; rw [h]⟩
set_option maxRecDepth 100000 in
set_option maxHeartbeats 400000 in
theorem head_any (w : World) (hT : OTabs w) : Calls Tryd.prog 9 #[] w fun e w' => e = .returned (.bool true) ∧ Below w.heap.size w w' := by
  obtain ⟨x, hp⟩ := head_path
  obtain ⟨r, hr⟩ : ∃ r, keyD seedB 1 = r := ⟨_, rfl⟩
  obtain ⟨d, hd⟩ : ∃ d, Dig.sum tB.data.toList = d := ⟨_, rfl⟩
  obtain ⟨c, hc⟩ : ∃ c, On.chains seedB.data.toList 1 d 18 = c := ⟨_, rfl⟩
  have hv1 : overB r 1 d 1 c [(x, true)] = true := by
    have := signed_over seedB 1 2 1 (by decide) (by decide) rfl (by decide) d
    rw [show ((1 : Nat) : Int) = (1 : Int) from rfl] at this
    rw [hp, hr, hc] at this
    exact this
  have hcl : c.length = 18 := by rw [← hc]; exact On.chains_len _ _ _ _
  have hv2 : overB r 1 d 1 (c.take 17) [(x, true)] = false := over_no _ _ _ _ _ _ (fun k => by have := k.2.2.1; rw [List.length_take, hcl] at this; simp at this)
  have hv3 : overB r 2 d 1 c [(x, true)] = false := over_no _ _ _ _ _ _ (fun k => by
    have := k.2.2.2.2
    rw [show sidesL ((2 ^ (2 : Int).toNat : Nat) : Int) 1 = [true, false] by decide +kernel] at this
    simp at this)
  have Hp := Lib.hid hp
  have Hr := Lib.hid hr
  have Hd := Lib.hid hd
  have Hc := Lib.hid hc
  have V1 := Lib.hid hv1
  have V2 := Lib.hid hv2
  have V3 := Lib.hid hv3
  have Hcl := Lib.hid hcl
  clear hp hr hd hc hv1 hv2 hv3 hcl
  go_enter Tryd.func9, Tryd.ntmps9
  go_wp2_with fail
  refine (key_any seedB 1 r 0 Hr (Lib.hid rfl) _ (by decide) hT).mono ?_
  rintro e w1 ⟨rfl, hB1⟩
  go_wp2_with fail
  refine (sign_ok seedB 1 1 2 (by decide) (Lib.hid rfl) (by decide) (by decide) tB d Hd (by decide) [(x, true)] (Lib.hid Hp.out) w1 (hT.go hB1)).mono ?_
  rintro e w2 ⟨A, ca, B, cb, rfl, hca, hcb, hSA, hSB, hB2⟩
  have hB2' := bgo hB1 hB2
  rw [show ((1 : Nat) : Int) = (1 : Int) from rfl, Hc.out] at hSA
  have K := Lib.hid (And.intro hSA hSB)
  clear hSA hSB hB1 hB2
  go_wp2_with fail
  refine (sign_bad seedB 1 2 tB (Lib.hid (by decide +kernel)) (by decide) _).mono ?_
  rintro e w3 ⟨rfl, hB3⟩
  go_wp2_with fail
  refine (key_any seedB 9 0 1 (Lib.hid rfl) (Lib.hid rfl) _ (by decide) (hT.go (bal (bgo (bal hB2' _) hB3) _))).mono ?_
  rintro e w4 ⟨rfl, hB4⟩
  have hBa := bgo (bal hB3 _) hB4
  have hBw4 := bgo (bal hB2' _) hBa
  have c0 : w4.cell? ⟨w2.heap.size, 0, none⟩ = some (.int .i64 1) := (hBa.cell (p := ⟨w2.heap.size, 0, none⟩) (by simp)).trans (by simp [go_sem])
  have c1 : w4.cell? ⟨w2.heap.size, 1, none⟩ = some (.slice A 18 ca) := (hBa.cell (p := ⟨w2.heap.size, 1, none⟩) (by simp)).trans (by simp [go_sem])
  have c2 : w4.cell? ⟨w2.heap.size, 2, none⟩ = some (.slice B 1 cb) := (hBa.cell (p := ⟨w2.heap.size, 2, none⟩) (by simp)).trans (by simp [go_sem])
  have hBw24 := bgo (bal (Below.refl w2.heap.size w2) _) hBa
  obtain ⟨hSA, hSB⟩ := K.out
  have hSA4 := hSA.go hBw24
  have hSB4 := hSB.go hBw24
  obtain ⟨b, off, rfl, hb, hcell⟩ := hSB4.2 (Nat.one_pos)
  have cl : w4.cell? ⟨b, off + 1, none⟩ = some (.bool true) := hcell 1 _ rfl
  have hlt : w2.heap.size < w4.heap.size := by have := hBa.size; simp at this; omega
  have K4 := Lib.hid (And.intro hSA4 (And.intro hSB4 (And.intro c0 (And.intro c1 c2))))
  clear hSA hSB hSA4 hSB4 hcell hBa hB3 hB4 K hBw24 hB2'
  go_wp2_with fail
  have hh := two_slices w4 4 hS1 [hG 1, hG 2, hG 1, hG 1] #[.string ⟨#[97]⟩, .string ⟨#[98]⟩, .string ⟨#[97]⟩, .string ⟨#[99]⟩] #[.int .i64 1, .slice none 0 0, .slice none 0 0, .int .i64 2, .slice none 0 0, .slice none 0 0, .int .i64 1, .slice none 0 0, .slice none 0 0, .int .i64 1, .slice none 0 0, .slice none 0 0] 9 27 rfl rfl rfl rfl
  refine (reused_at _ _ 4 4 4 hS1 [hG 1, hG 2, hG 1, hG 1] rfl rfl _ hh.1 hh.2 (by decide) (by decide) (some (0, 3)) hReu1 (.tuple #[.int .i64 0, .int .i64 3, .bool true]) rfl).mono ?_
  rintro e w5 ⟨rfl, hB5⟩
  clear hh
  clear c0 c1 c2 cl
  go_wp2_with fail
  have hh2 := two_slices w5 2 hS2 [hG 1, hG 1] #[.string ⟨#[97]⟩, .string ⟨#[97]⟩] #[.int .i64 1, .slice none 0 0, .slice none 0 0, .int .i64 1, .slice none 0 0, .slice none 0 0] 9 27 rfl rfl rfl rfl
  refine (reused_at _ _ 2 2 2 hS2 [hG 1, hG 1] rfl rfl _ hh2.1 hh2.2 (by decide) (by decide) none hReu2 (.tuple #[.int .i64 0, .int .i64 0, .bool false]) rfl).mono ?_
  clear hh2
  rintro e w6 ⟨rfl, hB6⟩
  have hB46 := bgo (bgo2 hB5) (bgo2 hB6)
  have hBw6 := bgo hBw4 hB46
  have hs46 := hB46.size
  obtain ⟨hSA4, hSB4, d0, d1, d2⟩ := K4.out
  have c0 : w6.cell? ⟨w2.heap.size, 0, none⟩ = some (.int .i64 1) := (hB46.cell (p := ⟨w2.heap.size, 0, none⟩) hlt).trans d0
  have c1 : w6.cell? ⟨w2.heap.size, 1, none⟩ = some (.slice A 18 ca) := (hB46.cell (p := ⟨w2.heap.size, 1, none⟩) hlt).trans d1
  have c2 : w6.cell? ⟨w2.heap.size, 2, none⟩ = some (.slice (some ⟨b, off, none⟩) 1 cb) := (hB46.cell (p := ⟨w2.heap.size, 2, none⟩) hlt).trans d2
  have hSA6 := hSA4.go hB46
  have hSB6 := hSB4.go hB46
  obtain ⟨bA, oA, rfl, hbA, hcA⟩ := hSA6.2 (by decide)
  have K6 := Lib.hid (And.intro hSA6 hSB6)
  have h17 : 17 ≤ ca := by omega
  have h17' : (17 : Int) ≤ (ca : Int) := by omega
  clear hSA4 hSB4 hSA6 hSB6 hcA hB46 hB5 hB6 K4 hBw4 d0 d1 d2
  go_upto_region 10 with fail
  obtain ⟨o7, ho7⟩ : ∃ o7, o7 = Obj.cells #[.int .i64 1, .slice (some ⟨bA, oA, none⟩) 18 ca, .slice (some ⟨b, off, none⟩) 1 cb] 27 := ⟨_, rfl⟩
  rw [← ho7]
  obtain ⟨w7, hw7⟩ : ∃ w7, w7 = w6.alloc o7 := ⟨_, rfl⟩
  rw [← hw7]
  obtain ⟨q, hq⟩ : ∃ q, q = w6.heap.size := ⟨_, rfl⟩
  rw [← hq]
  have hne : w2.heap.size < q := by omega
  have hb7 : w7.heap[q]? = some (.cells #[.int .i64 1, .slice (some ⟨bA, oA, none⟩) 18 ca, .slice (some ⟨b, off, none⟩) 1 cb] 27 (0, 0)) := by rw [hw7, hq, ho7]; exact World.alloc_heap_new _ _
  have hB67 : Below w6.heap.size w6 w7 := by rw [hw7]; exact bal (Below.refl _ _) _
  have f1 : w7.frozen? ⟨q, 1, none⟩ = false := Lib.frozen_of_heap hb7 1
  have e1 : w7.cell? ⟨w2.heap.size, 1, none⟩ = some (.slice (some ⟨bA, oA, none⟩) 18 ca) := (hB67.cell (p := ⟨w2.heap.size, 1, none⟩) (by simp; omega)).trans c1
  have n1 : w7.cell? ⟨q, 1, none⟩ = some (.slice (some ⟨bA, oA, none⟩) 18 ca) := by rw [Lib.cell_of_heap hb7]; rfl
  have K7 := Lib.hid (And.intro hb7 (And.intro hB67 (And.intro hq (And.intro c0 (And.intro c1 c2)))))
  clear hw7 ho7 hb7 hB67 hq c0 c1 c2
  go_upto_region 11 with fail
  obtain ⟨w8, hw8⟩ : ∃ w8, w8 = w7.setCell ⟨q, 1, none⟩ (.slice (some ⟨bA, oA, none⟩) 17 ca) := ⟨_, rfl⟩
  rw [← hw8]
  obtain ⟨hb7, hB67, hq, c0, c1, c2⟩ := K7.out
  obtain ⟨hSA6, hSB6⟩ := K6.out
  have hB68 : Below w6.heap.size w6 w8 := by rw [hw8]; exact hB67.setCell (by rw [hq]; exact Nat.le_refl _) _
  have hb8 : w8.heap[q]? = some (.cells #[.int .i64 1, .slice (some ⟨bA, oA, none⟩) 17 ca, .slice (some ⟨b, off, none⟩) 1 cb] 27 (0, 0)) := by rw [hw8]; exact setCell_heap hb7
  have hS6 : w2.heap.size < w6.heap.size := by omega
  have hq8 : q < w8.heap.size := (Array.getElem?_eq_some_iff.1 hb8).1
  have d0 : w8.cell? ⟨w2.heap.size, 0, none⟩ = some (.int .i64 1) := (hB68.cell (p := ⟨w2.heap.size, 0, none⟩) hS6).trans c0
  have d1 : w8.cell? ⟨w2.heap.size, 1, none⟩ = some (.slice (some ⟨bA, oA, none⟩) 18 ca) := (hB68.cell (p := ⟨w2.heap.size, 1, none⟩) hS6).trans c1
  have d2 : w8.cell? ⟨w2.heap.size, 2, none⟩ = some (.slice (some ⟨b, off, none⟩) 1 cb) := (hB68.cell (p := ⟨w2.heap.size, 2, none⟩) hS6).trans c2
  have q0 : w8.cell? ⟨q, 0, none⟩ = some (.int .i64 1) := by rw [Lib.cell_of_heap hb8]; rfl
  have q1 : w8.cell? ⟨q, 1, none⟩ = some (.slice (some ⟨bA, oA, none⟩) 17 ca) := by rw [Lib.cell_of_heap hb8]; rfl
  have q2 : w8.cell? ⟨q, 2, none⟩ = some (.slice (some ⟨b, off, none⟩) 1 cb) := by rw [Lib.cell_of_heap hb8]; rfl
  have hSA8 := hSA6.go hB68
  have hSB8 := hSB6.go hB68
  have hBw8 := bgo hBw6 hB68
  have hST8 : Sl w8 w8.heap.size 1 (some ⟨bA, oA, none⟩) 17 (u64V (c.take 17)) := by
    have := hSA8.take 17 (by decide)
    rw [show u64V (c.take 17) = (u64V c).take (17 * 1) by simp [u64V, List.map_take]]
    exact this
  have K8 := Lib.hid (And.intro hSA8 (And.intro hSB8 (And.intro hST8 (And.intro d0 (And.intro d1 (And.intro d2 (And.intro q0 (And.intro q1 q2))))))))
  clear K7 K6 hb7 hB67 hq c0 c1 c2 hSA6 hSB6 hB68 hb8 hSA8 hSB8 hST8 hw8 f1 e1 n1 hb q0 q1 q2
  go_wp2_with fail
  refine (over_at r 1 tB d Hd (by decide) 1 _ _ ca cb 18 1 c [(x, true)] Hcl.out rfl (by decide) true V1 w8 (hT.go hBw8) K8.out.1 K8.out.2.1).mono ?_
  rintro e w9 ⟨rfl, hB9⟩
  obtain ⟨_, _, _, d0, d1, d2, q0, q1, q2⟩ := K8.out
  have e0 : w9.cell? ⟨q, 0, none⟩ = some (.int .i64 1) := (hB9.cell (p := ⟨q, 0, none⟩) hq8).trans q0
  have e1 : w9.cell? ⟨q, 1, none⟩ = some (.slice (some ⟨bA, oA, none⟩) 17 ca) := (hB9.cell (p := ⟨q, 1, none⟩) hq8).trans q1
  have e2 : w9.cell? ⟨q, 2, none⟩ = some (.slice (some ⟨b, off, none⟩) 1 cb) := (hB9.cell (p := ⟨q, 2, none⟩) hq8).trans q2
  clear d0 d1 d2 q0 q1 q2
  have hBw9 := bgo hBw8 hB9
  go_wp2_with fail
  refine (over_at r 1 tB d Hd (by decide) 1 _ _ ca cb 17 1 (c.take 17) [(x, true)] (by rw [List.length_take, Hcl.out]; rfl) rfl (by decide) false V2 w9 (hT.go hBw9) (K8.out.2.2.1.go hB9) (K8.out.2.1.go hB9)).mono ?_
  rintro e wA ⟨rfl, hBA⟩
  obtain ⟨_, _, _, d0, d1, d2, q0, q1, q2⟩ := K8.out
  have hB8A := bgo hB9 hBA
  have h28 : w2.heap.size < w8.heap.size := by omega
  have g0 : wA.cell? ⟨w2.heap.size, 0, none⟩ = some (.int .i64 1) := (hB8A.cell (p := ⟨w2.heap.size, 0, none⟩) h28).trans d0
  have g1 : wA.cell? ⟨w2.heap.size, 1, none⟩ = some (.slice (some ⟨bA, oA, none⟩) 18 ca) := (hB8A.cell (p := ⟨w2.heap.size, 1, none⟩) h28).trans d1
  have g2 : wA.cell? ⟨w2.heap.size, 2, none⟩ = some (.slice (some ⟨b, off, none⟩) 1 cb) := (hB8A.cell (p := ⟨w2.heap.size, 2, none⟩) h28).trans d2
  clear d0 d1 d2 q0 q1 q2 e0 e1 e2
  have hBwA := bgo hBw8 hB8A
  go_wp2_with fail
  refine (over_at r 2 tB d Hd (by decide) 1 _ _ ca cb 18 1 c [(x, true)] Hcl.out rfl (by decide) false V3 wA (hT.go hBwA) (K8.out.1.go hB8A) (K8.out.2.1.go hB8A)).mono ?_
  rintro e wB ⟨rfl, hBB⟩
  clear g0 g1 g2
  have hBwB := bgo hBwA hBB
  go_wp2_with fail
  go_ret
  exact ⟨rfl, hBwB⟩
end Go.Proofs.YthgkjcofmkkdcaaDoor
