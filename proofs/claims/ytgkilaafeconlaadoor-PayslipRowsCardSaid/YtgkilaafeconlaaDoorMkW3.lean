/- The walks of package merkle, third part: Root. -/
import Derived.Test.YtgkilaafeconlaaDoorMkW2
import Derived.RangeFuncLeaves
import Derived.Shelf.Abstract
namespace Go.Proofs.YtgkilaafeconlaaDoor
open Go.RowKit Go.Shelf
set_option linter.unusedVariables false
attribute [local go_sem] Oper.semAt_some
def rootV (ss : List ByteArray) : UInt64 := if checkE ss.length = 0 then Mk.rootF 10 (leavesD ss) else 0
theorem rows_any (A : Option Addr) (n c : Nat) (w : World) : Calls Tryd.prog 64 #[.slice A n c] w fun e w' => e = .returned (.func (.func 77) #[] #[.pointer (some ⟨w.heap.size, 0, none⟩)]) ∧ w.alloc (.cells #[.slice A n c] 70) = w' := by
  go_enter Tryd.func64, Tryd.ntmps64
  go_wp2
  go_ret
  exact ⟨rfl, rfl⟩
def rootAt (R : List UInt64) : Nat → UInt64
  | 0 => 0
  | k + 1 => (Mk.rowN R k).getD 0 0
/-- The loop of Root between two rounds. -/
def RootJ (w : World) (l : Nat) (r : Loop) (R : List UInt64) (k : Nat) (W : World) : Prop :=
  W.heap[l]? = some (Rng.readyOf r) ∧ W.heap[w.heap.size + 2]? = some (.deferred (some [])) ∧ W.cell? ⟨w.heap.size, 0, none⟩ = some (.int .u64 (rootAt R k).toNat) ∧ W.frozen? ⟨w.heap.size, 0, none⟩ = false ∧ Below w.heap.size w W ∧ w.heap.size + 4 ≤ W.heap.size
set_option maxRecDepth 100000 in
set_option maxHeartbeats 4000000 in
theorem root_any (A : Option Addr) (c : Nat) (ss : List ByteArray) (w : World) (hA : Sl w w.heap.size 1 A ss.length (strV ss)) (hs : ∀ s ∈ ss, s.size ≤ 140737488355328) (hl : ss.length ≤ maxLen) :
    Calls Tryd.prog 39 #[.slice A ss.length c] w fun e w' => e = .returned (.tuple #[.int .u64 (rootV ss).toNat, .int .i64 (checkE ss.length)]) ∧ Below w.heap.size w w' := by
  by_cases hok : checkE ss.length = 0
  · have hroot : rootV ss = Mk.rootF 10 (leavesD ss) := by unfold rootV; rw [if_pos hok]
    have h1 : 1 ≤ ss.length ∧ ss.length ≤ 1024 := by
      unfold checkE at hok
      split at hok
      · cases hok
      · split at hok
        · cases hok
        · omega
    have Hok := Lib.hid hok
    have Hroot := Lib.hid hroot
    have Hs := Lib.hid hs
    have HA := Lib.hid hA
    clear hroot hs hA
    refine (callsIn_wide (n := 4)).1 ?_
    refine callsIn_of_wp_marks Tryd.func39 rfl trivial ?_ rfl
    simp only [Tryd.ntmps39, List.size_toArray, List.length_cons, List.length_nil, Nat.reduceAdd, Nat.reduceSub, Array.replicate_succ, Array.replicate_zero, List.push_toArray, List.append_toArray, List.nil_append, List.cons_append]
    refine wpIn_wide.2 ?_
    go_wp2_with fail
    refine (check_any _ _ _ _ hl).mono ?_
    rintro e w' ⟨rfl, rfl⟩
    go_wp2_with fail
    refine (rows_any _ _ _ _).mono ?_
    rintro e w' ⟨rfl, rfl⟩
    go_wp2_with fail
    obtain ⟨w1, hw1⟩ : ∃ w1, w1 = (w.alloc (.cells #[.int .u64 0] 41)).alloc (.cells #[.slice A ss.length c] 70) := ⟨_, rfl⟩
    rw [← hw1]
    have hsz : w1.heap.size = w.heap.size + 2 := by rw [hw1]; simp
    have hB1 : Below w.heap.size w w1 := by rw [hw1]; exact ((Below.refl _ _).alloc (Nat.le_refl _) _).alloc (by simp) _
    have hc0 : w1.cell? ⟨w.heap.size, 0, none⟩ = some (.int .u64 0) := by rw [hw1]; simp [go_sem]
    have hf0 : w1.frozen? ⟨w.heap.size, 0, none⟩ = false := by rw [hw1]; simp [go_sem]
    have hcl : w1.cell? ⟨w.heap.size + 1, 0, none⟩ = some (.slice A ss.length c) := by rw [hw1]; simp [go_sem]
    clear hw1
    have Hsz := Lib.hid hsz
    refine (wpIn_wide (n := 3)).1 ?_
    refine Rng.range_any rfl (by omega) (gf := 77) (lb := #[.pointer (some ⟨w.heap.size + 1, 0, none⟩)]) rfl trivial (enters_of Tryd.func77 (by kernel_rfl) rfl) ?_
    intro r hfn hra hrb hrt hrp
    refine callsIn_wide.2 ?_
    obtain ⟨W2, hW2⟩ : ∃ W2, W2 = (w1.alloc (.deferred (some []))).alloc (Rng.readyOf r) := ⟨_, rfl⟩
    rw [← hW2]
    have hS2 : W2.heap.size = w.heap.size + 4 := by rw [hW2]; simp [hsz]
    have hB2 : Below w1.heap.size w1 W2 := by rw [hW2]; exact ((Below.refl _ _).alloc (Nat.le_refl _) _).alloc (by simp) _
    have hl2 : W2.heap[w1.heap.size + 1]? = some (Rng.readyOf r) := by rw [hW2]; have := World.alloc_heap_new (w1.alloc (.deferred (some []))) (Rng.readyOf r); rwa [World.size_alloc] at this
    have hd2 : W2.heap[w.heap.size + 2]? = some (.deferred (some [])) := by rw [hW2, ← hsz]; exact (Below.heap_alloc _ _ _ (by simp)).trans (World.alloc_heap_new w1 _)
    clear hW2
    show Calls Tryd.prog 77 #[.func (.yield (w1.heap.size + 1)) #[] #[], .pointer (some ⟨w.heap.size + 1, 0, none⟩)] W2 _
    refine (rows1_any (w1.heap.size + 1) 1 (w.heap.size + 1) A c ss W2 (RootJ w (w1.heap.size + 1) r (leavesD ss)) ?hA ?hBn Hs.out h1.1 h1.2 ?hJ ?hY).mono ?_
    case hA => exact ((HA.out.below hB1).mono hB1.size).below hB2 |>.mono hB2.size
    case hBn => exact (hB2.cell (p := ⟨w.heap.size + 1, 0, none⟩) (by rw [hsz]; simp)).trans hcl
    case hJ => exact ⟨hl2, hd2, (hB2.cell (p := ⟨w.heap.size, 0, none⟩) (by rw [hsz]; simp)).trans hc0, (hB2.frozen (p := ⟨w.heap.size, 0, none⟩) (by rw [hsz]; simp)).trans hf0, hB1.trans (hB2.mono hB1.size), by omega⟩
    case hY =>
      intro k W0 W3 v hJ hB hown hj hr1
      obtain ⟨hl0, hd0, hr0, hf0, hBw, hsz0⟩ := hJ
      have hl3 : W3.heap[w1.heap.size + 1]? = some (Rng.readyOf r) := (hB.block _ (by omega)).trans hl0
      obtain ⟨g, cap, hv⟩ : ∃ g cap, v = .slice (some ⟨g, 0, none⟩) (Mk.rowN (leavesD ss) k).length cap := by
        obtain ⟨n', hn'⟩ : ∃ n', (Mk.rowN (leavesD ss) k).length = n' + 1 := ⟨(Mk.rowN (leavesD ss) k).length - 1, by omega⟩
        rw [hn'] at hown ⊢
        exact ownsRow_succ hown
      subst hv
      have hgb := hown.lt g rfl
      refine Rng.yield_at hl3 hra hrb (by rw [hrt, hrp]) (by rw [hrp]; rfl) hfn ?_
      have hx := hown.cellAt 0 (by omega)
      rw [u64V_get _ 0 hr1] at hx
      obtain ⟨x, hxe⟩ : ∃ x, x = (Mk.rowN (leavesD ss) k).getD 0 0 := ⟨_, rfl⟩
      rw [← hxe] at hx
      have hg2 : g ≠ w1.heap.size + 1 := by omega
      obtain ⟨W4, hW4⟩ : ∃ W4, W4 = W3.putObj (w1.heap.size + 1) (Rng.busyOf r) := ⟨_, rfl⟩
      have hx4 : W4.cell? ⟨g, 0, none⟩ = some (.int .u64 x.toNat) := by rw [hW4]; exact (World.cell?_of_block (World.putObj_heap_other hg2)).trans hx
      have hr4 : W4.cell? ⟨w.heap.size, 0, none⟩ = some (.int .u64 (rootAt (leavesD ss) k).toNat) := by rw [hW4]; exact (World.cell?_of_block (World.putObj_heap_other (by simp; omega))).trans ((hB.cell (p := ⟨w.heap.size, 0, none⟩) (by simp; omega)).trans hr0)
      have hf4 : W4.frozen? ⟨w.heap.size, 0, none⟩ = false := by rw [hW4]; exact (World.frozen?_of_block (World.putObj_heap_other (by simp; omega))).trans ((hB.frozen (p := ⟨w.heap.size, 0, none⟩) (by simp; omega)).trans hf0)
      have hl4 : W4.heap[w1.heap.size + 1]? = some (Rng.busyOf r) := by rw [hW4]; exact World.putObj_heap_same (by have := hB.size; omega)
      have hrn : 1 ≤ (Mk.rowN (leavesD ss) k).length := hr1
      have HW4 := Lib.hid hW4
      have Hxe := Lib.hid hxe
      have Hown := Lib.hid hown
      have Hl3 := Lib.hid hl3
      have Hl4 := Lib.hid hl4
      clear hxe hown hr0 hl3 hl4 hl0 hl2 hd2 hc0 hcl hx hra hrb hrt hrp hsz hS2
      gi_wp2
      refine ⟨Hl3.out, ?_⟩
      rw [← hW4]
      clear hW4
      gi_wp2
      have hsz := Hsz.out
      have hs3 := hB.size
      have h43 : ∀ j, j ≠ w1.heap.size + 1 → W4.heap[j]? = W3.heap[j]? := fun j hj => by rw [HW4.out]; exact World.putObj_heap_other hj
      have hs4 : W4.heap.size = W3.heap.size := by rw [HW4.out]; simp
      obtain ⟨W5, hW5⟩ : ∃ W5, W5 = W4.setCell ⟨w.heap.size, 0, none⟩ (.int .u64 x.toNat) := ⟨_, rfl⟩
      rw [← hW5]
      have h54 : ∀ j, j ≠ w.heap.size → W5.heap[j]? = W4.heap[j]? := fun j hj => by rw [hW5]; exact Below.heap_setCell _ _ _ _ hj
      have hs5 : W5.heap.size = W4.heap.size := by rw [hW5]; simp [World.setCell]
      have hc5 : W5.cell? ⟨w.heap.size, 0, none⟩ = some (.int .u64 x.toNat) := by rw [hW5]; exact World.cell?_setCell_same' _ _ _ (by rw [hr4]; rfl)
      have hf5 : W5.frozen? ⟨w.heap.size, 0, none⟩ = false := by rw [hW5, World.frozen?_setCell]; exact hf4
      have hB5 : Below w.heap.size w W5 := by
        rw [hW5, HW4.out]
        exact (below_putObj (hBw.trans (hB.mono hBw.size)) (by omega) (by omega) _).setCell (Nat.le_refl _) _
      refine ⟨(h54 _ (by omega)).trans Hl4.out, rfl, ⟨World.putObj_heap_same (by omega), ?_, ?_, ?_, below_putObj hB5 (by omega) (by omega) _, by simp; omega⟩, ?_, by simp; omega⟩
      · exact (World.putObj_heap_other (by omega)).trans ((h54 _ (by omega)).trans ((h43 _ (by omega)).trans ((hB.block _ (by omega)).trans hd0)))
      · rw [World.cell?_of_block (World.putObj_heap_other (by simp; omega)), hc5, Hxe.out]
        rfl
      · rw [World.frozen?_of_block (World.putObj_heap_other (by simp; omega)), hf5]
      · exact own_same Hown.out ((World.putObj_heap_other hg2).trans ((h54 _ (by omega)).trans (h43 _ hg2)))
    rintro e W3 ⟨v, k, W0, rfl, ⟨hl0, hd0, hr0, hf0, hBw, hsz0⟩, hB, hlen, hj⟩
    refine ⟨_, rfl, .inl ⟨(hB.block _ (by omega)).trans hl0, ?_⟩⟩
    dsimp only
    obtain ⟨W4, hW4⟩ : ∃ W4, W4 = W3.putObj (w1.heap.size + 1) (Rng.overOf r none) := ⟨_, rfl⟩
    rw [← hW4]
    have hroot : Mk.rootF 10 (leavesD ss) = (Mk.rowN (leavesD ss) k).getD 0 0 := by
      refine Mk.root_row k 10 _ ?_ hlen hj
      rcases Nat.lt_or_ge 10 k with h | h
      · have h10 := hj 10 h
        have := Mk.rowN_len (leavesD ss) 10 (by simp only [leavesD, List.length_map]; omega) 10 (Nat.le_refl _)
        simp at this; omega
      · exact h
    have hr4 : W4.cell? ⟨w.heap.size, 0, none⟩ = some (.int .u64 (rootV ss).toNat) := by
      rw [hW4, World.cell?_of_block (World.putObj_heap_other (by simp; omega)), hB.cell (p := ⟨w.heap.size, 0, none⟩) (by simp; omega), hr0, Hroot.out, hroot]
      rfl
    have hd4 : W4.heap[w1.heap.size]? = some (.deferred (some [])) := by
      rw [hW4, hsz]
      exact (World.putObj_heap_other (by omega)).trans ((hB.block _ (by omega)).trans hd0)
    have hB4 : Below w.heap.size w W4 := by rw [hW4]; exact below_putObj (hBw.trans (hB.mono hBw.size)) (by have := hB.size; omega) (by omega) _
    have Hd4 := Lib.hid hd4
    clear hW4 hd4 hroot hsz hS2 hl2 hd2 hc0 hcl hl0 hd0 hr0 hra hrb hrt hrp
    gi_wp2
    go_wp2
    refine ⟨by simp, .inl ⟨_, _, rfl, run_takeDeferred Hd4.out, ?_⟩⟩
    refine ⟨_, results_tmp2 rfl _ _ _, ?_⟩
    rw [Hok.out]
    exact ⟨rfl, below_putObj hB4 hB4.size (by have := Hsz.out; omega) _⟩
  · have h0 : rootV ss = 0 := by unfold rootV; rw [if_neg hok]
    rw [h0]
    have hne : (checkE ss.length != 0) = true := by simpa using hok
    have Hok := Lib.hid hok
    clear hok h0
    go_enter Tryd.func39, Tryd.ntmps39
    go_wp2_with fail
    refine (check_any _ _ _ _ hl).mono ?_
    rintro e w' ⟨rfl, rfl⟩
    go_wp2_with fail
    go_ret2
    exact ⟨rfl, Below.refl _ _⟩
end Go.Proofs.YtgkilaafeconlaaDoor
