/- The closures of OnetimeForms that change one field of a signature. -/
import Derived.Test.YthgkjcofmkkdcaaDoorOnLawE2
namespace Go.Proofs.YthgkjcofmkkdcaaDoor
open Go.RowKit Go.Shelf
set_option linter.unusedVariables false
set_option linter.unusedSimpArgs false
set_option maxRecDepth 100000
/-- What is known of the signature s. -/
structure SigOf (w0 : World) (m n j : Nat) (bA oA ca : Nat) (B : Option Addr) (cb : Nat) (c : List UInt64) (p : Forks) : Prop where
  hm : m ≤ 8
  hn : 2 ^ m = n
  hj : j < n
  cl : c.length = 18
  pl : p.length = m
  ps : p.map (·.2) = sidesL (n : Int) (j : Int)
  sa : Sl w0 w0.heap.size 1 (some ⟨bA, oA, none⟩) 18 (u64V c)
  sb : Sl w0 w0.heap.size 2 B m (forkV p)
  ca : 18 ≤ ca ∧ ca ≤ maxLen
  cb : m ≤ cb ∧ cb ≤ maxLen
theorem SigOf.n256 {w0 : World} {m n j bA oA ca : Nat} {B : Option Addr} {cb : Nat} {c : List UInt64} {p : Forks} (h : SigOf w0 m n j bA oA ca B cb c p) : n ≤ 256 := by
  rw [← h.hn]; have := pow_le (m : Int) (by have := h.hm; omega); rwa [Int.toNat_natCast] at this
theorem sides_xor : ∀ m : Fin 9, 0 < m.val → ∀ i : Fin 256, i.val < 2 ^ m.val → Mk.sidesF 10 (2 ^ m.val) (i.val ^^^ 1) ≠ Mk.sidesF 10 (2 ^ m.val) i.val := by decide +kernel
theorem i64_xor1 (i : Nat) (h : i < 256) : bits .xor .i64 (i : Int) 1 = ((i ^^^ 1 : Nat) : Int) := by
  have key : ∀ k : Fin 256, bits .xor .i64 (k.val : Int) 1 = ((k.val ^^^ 1 : Nat) : Int) := by decide +kernel
  exact key ⟨i, h⟩
theorem drop_one_u64 (c : List UInt64) : (u64V c).drop (1 * 1) = u64V (c.drop 1) := by simp [u64V, List.map_drop]
theorem drop_one_fork (p : Forks) : (forkV p).drop (1 * 2) = forkV (p.drop 1) := by
  cases p with
  | nil => rfl
  | cons x p => rfl
def FEnd (m : Nat) (w0 W : World) (e : Ending) (w' : World) : Prop := e = .returned (.tuple #[]) ∧ ∃ q : Sg, w'.heap[W.heap.size]? = some (.cells (sgC q) 27 (0, 0)) ∧ Below W.heap.size W w' ∧ BadAt m w0 w' q
section
variable {w0 W : World} {m n j bA oA ca : Nat} {B : Option Addr} {cb : Nat} {c : List UInt64} {p : Forks} {Sb : Nat} {fr : Nat × Nat}
theorem box_cell (hS : W.heap[Sb]? = some (.cells #[.int .i64 (j : Int), .slice (some ⟨bA, oA, none⟩) 18 ca, .slice B m cb] 27 fr)) (o : Obj) : (W.alloc o).cell? ⟨Sb, 0, none⟩ = some (.int .i64 (j : Int)) ∧ (W.alloc o).cell? ⟨Sb, 1, none⟩ = some (.slice (some ⟨bA, oA, none⟩) 18 ca) ∧ (W.alloc o).cell? ⟨Sb, 2, none⟩ = some (.slice B m cb) := by
  have hlt := (Array.getElem?_eq_some_iff.1 hS).1
  have hb := ((bal (Below.refl W.heap.size W) o).block Sb hlt).trans hS
  exact ⟨by rw [Lib.cell_of_heap hb]; rfl, by rw [Lib.cell_of_heap hb]; rfl, by rw [Lib.cell_of_heap hb]; rfl⟩
theorem form2 (H : Hid (SigOf w0 m n j bA oA ca B cb c p)) (hB : Below w0.heap.size w0 W) (hS : W.heap[Sb]? = some (.cells #[.int .i64 (j : Int), .slice (some ⟨bA, oA, none⟩) 18 ca, .slice B m cb] 27 fr)) :
    Calls Tryd.prog 22 #[.pointer (some ⟨W.heap.size, 0, none⟩), .pointer (some ⟨Sb, 0, none⟩)] (W.alloc (.cells #[.int .i64 (j : Int), .slice (some ⟨bA, oA, none⟩) 18 ca, .slice B m cb] 27)) fun e w' => FEnd m w0 W e w' := by
  obtain ⟨c0, c1, c2⟩ := box_cell hS (.cells #[.int .i64 (j : Int), .slice (some ⟨bA, oA, none⟩) 18 ca, .slice B m cb] 27)
  obtain ⟨W1, hW1⟩ : ∃ W1, W1 = W.alloc (.cells #[.int .i64 (j : Int), .slice (some ⟨bA, oA, none⟩) 18 ca, .slice B m cb] 27) := ⟨_, rfl⟩
  have hT : W1.heap[W.heap.size]? = some (.cells #[.int .i64 (j : Int), .slice (some ⟨bA, oA, none⟩) 18 ca, .slice B m cb] 27 (0, 0)) := by rw [hW1]; exact World.alloc_heap_new _ _
  have hB1 : Below W.heap.size W W1 := by rw [hW1]; exact bal (Below.refl _ _) _
  rw [← hW1] at c0 c1 c2 ⊢
  clear hW1 hS
  obtain ⟨T, hTe⟩ : ∃ T, T = W.heap.size := ⟨_, rfl⟩
  have HT := Lib.hid hT
  have HB1 := Lib.hid hB1
  rw [← hTe] at hT ⊢
  have t1 : W1.cell? ⟨T, 1, none⟩ = some (.slice (some ⟨bA, oA, none⟩) 18 ca) := by rw [Lib.cell_of_heap hT]; rfl
  have f1 : W1.frozen? ⟨T, 1, none⟩ = false := Lib.frozen_of_heap hT 1
  have h18 := H.out.ca
  have h1c : 18 ≤ ca := h18.1
  have HTe := Lib.hid hTe
  clear hT hB1 h18 hTe
  go_enter Tryd.func22, Tryd.ntmps22
  go_wp2
  go_end0
  refine ⟨rfl, ⟨(j : Int), some ⟨bA, oA + 1, none⟩, 17, ca - 1, B, m, cb⟩, ?_, ?_, ?_⟩
  · rw [HTe.out]; exact setCell_heap HT.out
  · rw [HTe.out]; exact HB1.out.setCell (Nat.le_refl _) _
  · have h := H.out
    have hBe : Below w0.heap.size w0 (W1.setCell ⟨T, 1, none⟩ (.slice (some ⟨bA, oA + 1, none⟩) 17 (ca - 1))) := (bgo hB HB1.out).setCell (by rw [HTe.out]; exact hB.size) _
    have hd := (h.sa.drop 1 (by decide)).safe hBe
    rw [drop_one_u64] at hd
    refine ⟨c.drop 1, p, by rw [List.length_drop, h.cl], h.pl, (show 17 ≤ maxLen by decide), hd, h.sb.safe hBe, fun r d => over_no _ _ _ _ _ _ (fun k => ?_)⟩
    have := k.2.2.1
    rw [List.length_drop, h.cl] at this
    omega
theorem form5 (H : Hid (SigOf w0 m n j bA oA ca B cb c p)) (hB : Below w0.heap.size w0 W) :
    Calls Tryd.prog 25 #[.pointer (some ⟨W.heap.size, 0, none⟩)] (W.alloc (.cells #[.int .i64 (j : Int), .slice (some ⟨bA, oA, none⟩) 18 ca, .slice B m cb] 27)) fun e w' => FEnd m w0 W e w' := by
  obtain ⟨W1, hW1⟩ : ∃ W1, W1 = W.alloc (.cells #[.int .i64 (j : Int), .slice (some ⟨bA, oA, none⟩) 18 ca, .slice B m cb] 27) := ⟨_, rfl⟩
  have hT : W1.heap[W.heap.size]? = some (.cells #[.int .i64 (j : Int), .slice (some ⟨bA, oA, none⟩) 18 ca, .slice B m cb] 27 (0, 0)) := by rw [hW1]; exact World.alloc_heap_new _ _
  have hB1 : Below W.heap.size W W1 := by rw [hW1]; exact bal (Below.refl _ _) _
  rw [← hW1]
  clear hW1
  obtain ⟨T, hTe⟩ : ∃ T, T = W.heap.size := ⟨_, rfl⟩
  have HT := Lib.hid hT
  have HB1 := Lib.hid hB1
  rw [← hTe] at hT ⊢
  have t1 : W1.cell? ⟨T, 0, none⟩ = some (.int .i64 (j : Int)) := by rw [Lib.cell_of_heap hT]; rfl
  have f1 : W1.frozen? ⟨T, 0, none⟩ = false := Lib.frozen_of_heap hT 0
  have HTe := Lib.hid hTe
  clear hT hB1 hTe
  go_enter Tryd.func25, Tryd.ntmps25
  go_wp2
  go_end0
  refine ⟨rfl, ⟨-1, some ⟨bA, oA, none⟩, 18, ca, B, m, cb⟩, ?_, ?_, ?_⟩
  · rw [HTe.out]; exact setCell_heap HT.out
  · rw [HTe.out]; exact HB1.out.setCell (Nat.le_refl _) _
  · have h := H.out
    have hBe : Below w0.heap.size w0 (W1.setCell ⟨T, 0, none⟩ (.int .i64 (-1))) := (bgo hB HB1.out).setCell (by rw [HTe.out]; exact hB.size) _
    refine ⟨c, p, h.cl, h.pl, (show 18 ≤ maxLen by decide), h.sa.safe hBe, h.sb.safe hBe, fun r d => over_no _ _ _ _ _ _ (fun k => ?_)⟩
    have this : (0 : Int) ≤ -1 := k.2.2.2.1.2.1
    omega
theorem form6 (H : Hid (SigOf w0 m n j bA oA ca B cb c p)) (hB : Below w0.heap.size w0 W) (Hb : Nat) (hHb : W.cell? ⟨Hb, 0, none⟩ = some (.int .i64 (m : Int))) (hHl : Hb < W.heap.size) :
    Calls Tryd.prog 26 #[.pointer (some ⟨W.heap.size, 0, none⟩), .pointer (some ⟨Hb, 0, none⟩)] (W.alloc (.cells #[.int .i64 (j : Int), .slice (some ⟨bA, oA, none⟩) 18 ca, .slice B m cb] 27)) fun e w' => FEnd m w0 W e w' := by
  obtain ⟨W1, hW1⟩ : ∃ W1, W1 = W.alloc (.cells #[.int .i64 (j : Int), .slice (some ⟨bA, oA, none⟩) 18 ca, .slice B m cb] 27) := ⟨_, rfl⟩
  have hT : W1.heap[W.heap.size]? = some (.cells #[.int .i64 (j : Int), .slice (some ⟨bA, oA, none⟩) 18 ca, .slice B m cb] 27 (0, 0)) := by rw [hW1]; exact World.alloc_heap_new _ _
  have hB1 : Below W.heap.size W W1 := by rw [hW1]; exact bal (Below.refl _ _) _
  have ch : W1.cell? ⟨Hb, 0, none⟩ = some (.int .i64 (m : Int)) := (hB1.cell (p := ⟨Hb, 0, none⟩) hHl).trans hHb
  rw [← hW1]
  clear hW1
  obtain ⟨T, hTe⟩ : ∃ T, T = W.heap.size := ⟨_, rfl⟩
  have HT := Lib.hid hT
  have HB1 := Lib.hid hB1
  rw [← hTe] at hT ⊢
  have t1 : W1.cell? ⟨T, 0, none⟩ = some (.int .i64 (j : Int)) := by rw [Lib.cell_of_heap hT]; rfl
  have f1 : W1.frozen? ⟨T, 0, none⟩ = false := Lib.frozen_of_heap hT 0
  have hm8 := H.out.hm
  have hn2 := H.out.n256
  have eN : (2 : Int) ^ m = (n : Int) := by rw [← H.out.hn, Int.natCast_pow]; rfl
  have hw1 : IntKind.i64.wrap (2 ^ m) = (n : Int) := by rw [eN, IntWalk.i64_in _ (by omega)]
  have hw2 : wrap64 (2 ^ m) = (n : Int) := by rw [eN, IntWalk.wrap64_in _ (by omega)]
  have HTe := Lib.hid hTe
  clear hT hB1 hTe eN hHb hn2
  go_enter Tryd.func26, Tryd.ntmps26
  go_wp2
  try rw [hw2]
  go_end0
  refine ⟨rfl, ⟨(n : Int), some ⟨bA, oA, none⟩, 18, ca, B, m, cb⟩, ?_, ?_, ?_⟩
  · rw [HTe.out]; exact setCell_heap HT.out
  · rw [HTe.out]; exact HB1.out.setCell (Nat.le_refl _) _
  · have h := H.out
    have hBe : Below w0.heap.size w0 (W1.setCell ⟨T, 0, none⟩ (.int .i64 (n : Int))) := (bgo hB HB1.out).setCell (by rw [HTe.out]; exact hB.size) _
    refine ⟨c, p, h.cl, h.pl, (show 18 ≤ maxLen by decide), h.sa.safe hBe, h.sb.safe hBe, fun r d => over_no _ _ _ _ _ _ (fun k => ?_)⟩
    have this : (n : Int) < ((2 ^ ((m : Nat) : Int).toNat : Nat) : Int) := k.2.2.2.1.2.2
    rw [Int.toNat_natCast, h.hn] at this
    omega
theorem form7 {bB oB : Nat} (H : Hid (SigOf w0 m n j bA oA ca (some ⟨bB, oB, none⟩) cb c p)) (hm : 0 < m) (hB : Below w0.heap.size w0 W) (hS : W.heap[Sb]? = some (.cells #[.int .i64 (j : Int), .slice (some ⟨bA, oA, none⟩) 18 ca, .slice (some ⟨bB, oB, none⟩) m cb] 27 fr)) :
    Calls Tryd.prog 27 #[.pointer (some ⟨W.heap.size, 0, none⟩), .pointer (some ⟨Sb, 0, none⟩)] (W.alloc (.cells #[.int .i64 (j : Int), .slice (some ⟨bA, oA, none⟩) 18 ca, .slice (some ⟨bB, oB, none⟩) m cb] 27)) fun e w' => FEnd m w0 W e w' := by
  obtain ⟨c0, c1, c2⟩ := box_cell hS (.cells #[.int .i64 (j : Int), .slice (some ⟨bA, oA, none⟩) 18 ca, .slice (some ⟨bB, oB, none⟩) m cb] 27)
  obtain ⟨W1, hW1⟩ : ∃ W1, W1 = W.alloc (.cells #[.int .i64 (j : Int), .slice (some ⟨bA, oA, none⟩) 18 ca, .slice (some ⟨bB, oB, none⟩) m cb] 27) := ⟨_, rfl⟩
  have hT : W1.heap[W.heap.size]? = some (.cells #[.int .i64 (j : Int), .slice (some ⟨bA, oA, none⟩) 18 ca, .slice (some ⟨bB, oB, none⟩) m cb] 27 (0, 0)) := by rw [hW1]; exact World.alloc_heap_new _ _
  have hB1 : Below W.heap.size W W1 := by rw [hW1]; exact bal (Below.refl _ _) _
  rw [← hW1] at c0 c1 c2 ⊢
  clear hW1 hS
  obtain ⟨T, hTe⟩ : ∃ T, T = W.heap.size := ⟨_, rfl⟩
  have HT := Lib.hid hT
  have HB1 := Lib.hid hB1
  rw [← hTe] at hT ⊢
  have t1 : W1.cell? ⟨T, 2, none⟩ = some (.slice (some ⟨bB, oB, none⟩) m cb) := by rw [Lib.cell_of_heap hT]; rfl
  have f1 : W1.frozen? ⟨T, 2, none⟩ = false := Lib.frozen_of_heap hT 2
  have h1c : m ≤ cb := H.out.cb.1
  have hm8 := H.out.hm
  have h1m : (1 : Int) ≤ (m : Int) := by omega
  have HTe := Lib.hid hTe
  clear hT hB1 hTe
  go_enter Tryd.func27, Tryd.ntmps27
  go_wp2
  go_end0
  · refine ⟨rfl, ⟨(j : Int), some ⟨bA, oA, none⟩, 18, ca, some ⟨bB, oB, none⟩, m - 1, 0⟩, ?_, ?_, ?_⟩
    · rw [HTe.out]; exact setCell_heap HT.out
    · rw [HTe.out]; exact HB1.out.setCell (Nat.le_refl _) _
    · have h := H.out
      have hBe : Below w0.heap.size w0 (W1.setCell ⟨T, 2, none⟩ (.slice (some ⟨bB, oB, none⟩) (m - 1) 0)) := (bgo hB HB1.out).setCell (by rw [HTe.out]; exact hB.size) _
      have hm1 : m = 1 := by omega
      refine ⟨c, p.drop 1, h.cl, by rw [List.length_drop, h.pl], (show 18 ≤ maxLen by decide), h.sa.safe hBe, ⟨?_, fun h0 => ?_⟩, fun r d => over_no _ _ _ _ _ _ (fun k => ?_)⟩
      · rw [forkV_len, List.length_drop, h.pl]
      · have h0 : 0 < m - 1 := h0
        omega
      · have := k.2.2.2.2
        rw [Int.toNat_natCast, h.hn, ← h.ps] at this
        have := congrArg List.length this
        rw [List.length_map, List.length_map, List.length_drop, h.pl] at this
        omega
  · go_end0
    refine ⟨rfl, ⟨(j : Int), some ⟨bA, oA, none⟩, 18, ca, some ⟨bB, oB + 2, none⟩, m - 1, cb - 1⟩, ?_, ?_, ?_⟩
    · rw [HTe.out]; exact setCell_heap HT.out
    · rw [HTe.out]; exact HB1.out.setCell (Nat.le_refl _) _
    · have h := H.out
      have hBe : Below w0.heap.size w0 (W1.setCell ⟨T, 2, none⟩ (.slice (some ⟨bB, oB + 2, none⟩) (m - 1) (cb - 1))) := (bgo hB HB1.out).setCell (by rw [HTe.out]; exact hB.size) _
      have hd : SlK w0 (W1.setCell ⟨T, 2, none⟩ (.slice (some ⟨bB, oB + 2, none⟩) (m - 1) (cb - 1))) 2 (some ⟨bB, oB + 2, none⟩) (m - 1) (forkV (p.drop 1)) := by
        by_cases hm1lt : 1 < m
        · have hd := (Sl.drop h.sb 1 hm1lt).safe hBe
          rw [drop_one_fork] at hd
          exact hd
        · refine ⟨by rw [forkV_len, List.length_drop, h.pl], fun h0 => ?_⟩
          omega
      refine ⟨c, p.drop 1, h.cl, by rw [List.length_drop, h.pl], (show 18 ≤ maxLen by decide), h.sa.safe hBe, hd, fun r d => over_no _ _ _ _ _ _ (fun k => ?_)⟩
      have := k.2.2.2.2
      rw [Int.toNat_natCast, h.hn, ← h.ps] at this
      have := congrArg List.length this
      rw [List.length_map, List.length_map, List.length_drop, h.pl] at this
      omega
theorem form8 (H : Hid (SigOf w0 m n j bA oA ca B cb c p)) (hm : 0 < m) (hB : Below w0.heap.size w0 W) (hS : W.heap[Sb]? = some (.cells #[.int .i64 (j : Int), .slice (some ⟨bA, oA, none⟩) 18 ca, .slice B m cb] 27 fr)) :
    Calls Tryd.prog 28 #[.pointer (some ⟨W.heap.size, 0, none⟩), .pointer (some ⟨Sb, 0, none⟩)] (W.alloc (.cells #[.int .i64 (j : Int), .slice (some ⟨bA, oA, none⟩) 18 ca, .slice B m cb] 27)) fun e w' => FEnd m w0 W e w' := by
  obtain ⟨c0, c1, c2⟩ := box_cell hS (.cells #[.int .i64 (j : Int), .slice (some ⟨bA, oA, none⟩) 18 ca, .slice B m cb] 27)
  obtain ⟨W1, hW1⟩ : ∃ W1, W1 = W.alloc (.cells #[.int .i64 (j : Int), .slice (some ⟨bA, oA, none⟩) 18 ca, .slice B m cb] 27) := ⟨_, rfl⟩
  have hT : W1.heap[W.heap.size]? = some (.cells #[.int .i64 (j : Int), .slice (some ⟨bA, oA, none⟩) 18 ca, .slice B m cb] 27 (0, 0)) := by rw [hW1]; exact World.alloc_heap_new _ _
  have hB1 : Below W.heap.size W W1 := by rw [hW1]; exact bal (Below.refl _ _) _
  rw [← hW1] at c0 c1 c2 ⊢
  clear hW1 hS
  obtain ⟨T, hTe⟩ : ∃ T, T = W.heap.size := ⟨_, rfl⟩
  have HT := Lib.hid hT
  have HB1 := Lib.hid hB1
  rw [← hTe] at hT ⊢
  have t1 : W1.cell? ⟨T, 0, none⟩ = some (.int .i64 (j : Int)) := by rw [Lib.cell_of_heap hT]; rfl
  have f1 : W1.frozen? ⟨T, 0, none⟩ = false := Lib.frozen_of_heap hT 0
  have hj2 : j < 256 := Nat.lt_of_lt_of_le H.out.hj H.out.n256
  have hx := i64_xor1 j hj2
  have HTe := Lib.hid hTe
  clear hT hB1 hTe
  go_enter Tryd.func28, Tryd.ntmps28
  go_wp2
  try rw [hx]
  go_end0
  refine ⟨rfl, ⟨((j ^^^ 1 : Nat) : Int), some ⟨bA, oA, none⟩, 18, ca, B, m, cb⟩, ?_, ?_, ?_⟩
  · rw [HTe.out]; exact setCell_heap HT.out
  · rw [HTe.out]; exact HB1.out.setCell (Nat.le_refl _) _
  · have h := H.out
    have hBe : Below w0.heap.size w0 (W1.setCell ⟨T, 0, none⟩ (.int .i64 ((j ^^^ 1 : Nat) : Int))) := (bgo hB HB1.out).setCell (by rw [HTe.out]; exact hB.size) _
    refine ⟨c, p, h.cl, h.pl, (show 18 ≤ maxLen by decide), h.sa.safe hBe, h.sb.safe hBe, fun r d => over_no _ _ _ _ _ _ (fun k => ?_)⟩
    have h1 : ((j ^^^ 1 : Nat) : Int) < ((2 ^ ((m : Nat) : Int).toNat : Nat) : Int) := k.2.2.2.1.2.2
    have h2 : sidesL ((2 ^ ((m : Nat) : Int).toNat : Nat) : Int) ((j ^^^ 1 : Nat) : Int) = p.map (·.2) := k.2.2.2.2
    have hn2 := h.n256
    rw [Int.toNat_natCast, h.hn] at h1 h2
    rw [h.ps, sidesL_ok n j (by omega) h.hj, sidesL_ok n (j ^^^ 1) (by omega) (by omega)] at h2
    have := sides_xor ⟨m, by have := h.hm; omega⟩ hm ⟨j, hj2⟩ (by show j < 2 ^ m; rw [h.hn]; exact h.hj)
    rw [← h.hn] at h2
    exact this h2
end
end Go.Proofs.YthgkjcofmkkdcaaDoor
