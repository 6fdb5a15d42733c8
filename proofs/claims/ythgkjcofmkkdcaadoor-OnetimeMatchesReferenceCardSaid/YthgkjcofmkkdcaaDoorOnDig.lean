/- The walk of onetime.digitsOf. -/
import Derived.Test.YthgkjcofmkkdcaaDoorOnW2
import Derived.Deep.Cut
import Derived.Deep.DeepCutAuto
namespace Go.Proofs.YthgkjcofmkkdcaaDoor
open Go.RowKit Go.Shelf
set_option linter.unusedVariables false
theorem wrap_mod16 (x : Int) : wrap64 x % 16 = x % 16 := by unfold wrap64; omega
theorem digit_at (d : UInt64) (k : Nat) : wrap64 ((d.toNat : Int) / 2 ^ (60 - 4 * k)) % 16 = (On.digit d k : Int) := by
  rw [wrap_mod16, On.digit, Int.natCast_emod, Int.natCast_ediv, Int.natCast_pow]
  rfl
def digL (d : UInt64) (k : Nat) : List Value := ((List.range k).map fun j => Value.int .i64 (On.digit d j : Int)) ++ List.replicate (18 - k) (.int .i64 0)
theorem digL_len (d : UInt64) (k : Nat) (h : k ≤ 18) : (digL d k).length = 18 := by simp [digL]; omega
theorem digL_get (d : UInt64) (k j : Nat) (h : k ≤ 18) : (digL d k)[j]? = if j < k then some (.int .i64 (On.digit d j : Int)) else if j < 18 then some (.int .i64 0) else none := by
  unfold digL
  by_cases hj : j < k
  · rw [if_pos hj, List.getElem?_append_left (by simpa using hj)]
    simp [hj]
  · rw [if_neg hj, List.getElem?_append_right (by simpa using hj)]
    simp only [List.length_map, List.length_range, List.getElem?_replicate]
    by_cases h18 : j < 18
    · rw [if_pos h18, if_pos (by omega)]
    · rw [if_neg h18, if_neg (by omega)]
theorem digL_set (d : UInt64) (k : Nat) (h : k < 18) : (digL d k).set k (.int .i64 (On.digit d k : Int)) = digL d (k + 1) := by
  apply List.ext_getElem?
  intro j
  rw [List.getElem?_set, digL_len d k (by omega), digL_get d k j (by omega), digL_get d (k + 1) j (by omega)]
  by_cases hj : k = j
  · subst hj
    rw [if_pos rfl, if_pos h, if_pos (by omega)]
  · rw [if_neg hj]
    by_cases hlt : j < k
    · rw [if_pos hlt, if_pos (by omega)]
    · rw [if_neg hlt, if_neg (show ¬ j < k + 1 by omega)]
theorem setCell_heap {w : World} {b j : Nat} {cs : Array Value} {t : TypeId} {fr : Nat × Nat} {v : Value} (hb : w.heap[b]? = some (.cells cs t fr)) : (w.setCell ⟨b, j, none⟩ v).heap[b]? = some (.cells (cs.setIfInBounds j v) t fr) := by
  simp [World.setCell, Array.getElem?_modify, hb]
theorem cell_heap {w : World} {b : Nat} {l : List Value} {t : TypeId} {fr : Nat × Nat} (hb : w.heap[b]? = some (.cells l.toArray t fr)) (j : Nat) : w.cell? ⟨b, j, none⟩ = l[j]? := by
  simp [World.cell?, hb]
theorem below_setRow {w W : World} (h : Below w.heap.size w W) (cs : Array Value) : Below w.heap.size w (W.setRow w.heap.size cs) :=
  ⟨h.os, h.tape, h.output, by rw [size_setRow]; exact h.size, fun b hb => (by simp only [World.setRow, Array.getElem?_modify]; rw [if_neg (by omega)]; exact h.block b hb)⟩
attribute [local go_sem] i64_and_15
def digA (d : UInt64) : Array Value := #[.int .i64 ((On.digit d 0 : Nat) : Int), .int .i64 ((On.digit d 1 : Nat) : Int), .int .i64 ((On.digit d 2 : Nat) : Int), .int .i64 ((On.digit d 3 : Nat) : Int), .int .i64 ((On.digit d 4 : Nat) : Int), .int .i64 ((On.digit d 5 : Nat) : Int), .int .i64 ((On.digit d 6 : Nat) : Int), .int .i64 ((On.digit d 7 : Nat) : Int), .int .i64 ((On.digit d 8 : Nat) : Int), .int .i64 ((On.digit d 9 : Nat) : Int), .int .i64 ((On.digit d 10 : Nat) : Int), .int .i64 ((On.digit d 11 : Nat) : Int), .int .i64 ((On.digit d 12 : Nat) : Int), .int .i64 ((On.digit d 13 : Nat) : Int), .int .i64 ((On.digit d 14 : Nat) : Int), .int .i64 ((On.digit d 15 : Nat) : Int), .int .i64 ((On.csum d 16 / 16 : Nat) : Int), .int .i64 ((On.csum d 16 % 16 : Nat) : Int)]
def digV (d : UInt64) : Value := .agg (digA d)
set_option maxRecDepth 100000 in
set_option maxHeartbeats 8000000 in
theorem digits_any (t : ByteArray) (d : UInt64) (hd : Hid (Dig.sum t.data.toList = d)) (w : World) (ht : t.size ≤ maxLen) :
    Calls Tryd.prog 40 #[.string t] w fun e w' => e = .returned (digV d) ∧ Below w.heap.size w w' := by
  go_enter Tryd.func40, Tryd.ntmps40
  go_wp2_with fail
  refine (sum_at _ _ _ hd ht).mono ?_
  rintro e w3 ⟨rfl, rfl⟩
  go_wp2
  go_loopw [5, 10] (fun s i wr => ∃ k : Nat, k ≤ 16 ∧ i = .int .i64 k ∧ s = .int .i64 (On.csum d k : Int) ∧ wr.heap[w.heap.size + 1]? = some (.cells (digL d k).toArray 64 (0, 0)) ∧ wr.heap[w.heap.size]? = some (.cells (digL d 0).toArray 64 (0, 0)) ∧ Below w.heap.size w wr) (fun _ i _ => 16 - (intOf i).toNat)
  case atStart =>
    refine ⟨0, by omega, rfl, rfl, ?_, ?_, ((Below.refl _ _).alloc (Nat.le_refl _) _).alloc (by simp) _⟩
    · have h := World.alloc_heap_new (w.alloc (.cells (digL d 0).toArray 64)) (.cells (digL d 0).toArray 64)
      rw [World.size_alloc] at h
      exact h
    · exact (Below.heap_alloc _ _ _ (by simp)).trans (World.alloc_heap_new w _)
  case round =>
    obtain ⟨k, hk, rfl, rfl, hb1, hb0, hB⟩ := hrel
    have hcs := On.csum_le d k
    obtain ⟨c, hc⟩ : ∃ c : Int, (On.csum d k : Int) = c := ⟨_, rfl⟩
    rw [hc]
    have hc0 : 0 ≤ c ∧ c ≤ 240 := by omega
    have Hc := Lib.hid hc
    by_cases hlt : k < 16
    · have hcell : wr.cell? ⟨w.heap.size + 1, k, none⟩ = some (.int .i64 0) := by
        rw [cell_heap hb1, digL_get d k k (by omega), if_neg (Nat.lt_irrefl k), if_pos (by omega)]
      have hfz : wr.frozen? ⟨w.heap.size + 1, k, none⟩ = false := by simp [World.frozen?, hb1]
      have Hb1 := Lib.hid hb1
      have Hb0 := Lib.hid hb0
      have hdl := On.digit_lt d k
      obtain ⟨x, hx⟩ : ∃ x : Int, (On.digit d k : Int) = x := ⟨_, rfl⟩
      have hx0 : 0 ≤ x ∧ x ≤ 15 := by omega
      have hxe : wrap64 ((d.toNat : Int) / 2 ^ (60 - 4 * k)) % 16 = x := by rw [digit_at, hx]
      have Hx := Lib.hid hx
      clear hb1 hb0 hc hx
      have hlt' : (k : Int) < 16 := by omega
      go_wp2
      go_roundw
      case rel =>
        refine ⟨k + 1, by omega, by go_num, ?_, ?_, ?_, hB.setCell (by simp) _⟩
        · rw [← Hc.out, ← Hx.out]
          simp only [On.csum]
          congr 1
          have := hdl
          omega
        · rw [setCell_heap Hb1.out, ← Hx.out, List.setIfInBounds_toArray, digL_set d k (by omega)]
        · exact (Below.heap_setCell _ _ _ _ (by simp)).trans Hb0.out
      case measure => simp [intOf]; omega
    · obtain rfl : k = 16 := by omega
      have c16 : wr.cell? ⟨w.heap.size + 1, 16, none⟩ = some (.int .i64 0) := by rw [cell_heap hb1, digL_get d 16 16 (by omega), if_neg (by omega), if_pos (by omega)]
      have c17 : wr.cell? ⟨w.heap.size + 1, 17, none⟩ = some (.int .i64 0) := by rw [cell_heap hb1, digL_get d 16 17 (by omega), if_neg (by omega), if_pos (by omega)]
      have f1 : ∀ j, wr.frozen? ⟨w.heap.size + 1, j, none⟩ = false := fun j => by simp [World.frozen?, hb1]
      obtain ⟨q, hq0⟩ : ∃ q : Int, ((On.csum d 16 / 16 : Nat) : Int) = q := ⟨_, rfl⟩
      obtain ⟨m, hm0⟩ : ∃ m : Int, ((On.csum d 16 % 16 : Nat) : Int) = m := ⟨_, rfl⟩
      have hq : c / 16 = q := by rw [← hc, ← hq0]; omega
      have hr : c % 16 = m := by rw [← hc, ← hm0]; omega
      have Hb1 := Lib.hid hb1
      have Hb0 := Lib.hid hb0
      have Hqm := Lib.hid (And.intro hq0 hm0)
      clear hb1 hb0 hc hq0 hm0 hcs hk hlt
      go_upto_region 12 with fail
      obtain ⟨W2, hW2⟩ : ∃ W2, W2 = (wr.setCell ⟨w.heap.size + 1, 16, none⟩ (.int .i64 q)).setCell ⟨w.heap.size + 1, 17, none⟩ (.int .i64 m) := ⟨_, rfl⟩
      rw [← hW2]
      have g1 : W2.heap[w.heap.size + 1]? = some (.cells (digA d) 64 (0, 0)) := by
        rw [hW2, setCell_heap (setCell_heap Hb1.out), ← Hqm.out.1, ← Hqm.out.2]
        rfl
      have g0 : W2.heap[w.heap.size]? = some (.cells (digL d 0).toArray 64 (0, 0)) := by
        rw [hW2]
        exact (Below.heap_setCell _ _ _ _ (by simp)).trans ((Below.heap_setCell _ _ _ _ (by simp)).trans Hb0.out)
      have hB2 : Below w.heap.size w W2 := by rw [hW2]; exact (hB.setCell (by simp) _).setCell (by simp) _
      clear hW2 c16 c17 f1 hq hr
      have hst : (storeCells ⟨w.heap.size, 0, none⟩ (digA d).toList).run Tryd.prog W2 = .ok () (W2.setRow w.heap.size (digA d)) := by
        have h := run_storeCells_from (P := Tryd.prog) w.heap.size 64 (digA d).toList 0 _ W2 g0 rfl (fun v hv => by simp [digA] at hv; rcases hv with rfl | rfl | rfl | rfl | rfl | rfl | rfl | rfl | rfl | rfl | rfl | rfl | rfl | rfl | rfl | rfl | rfl | rfl <;> rfl)
        simpa using h
      go_wp2_with (refine wpList_load_row rfl 64 (.tmp 3) rfl (w.heap.size + 1) rfl 64 (digA d) (0, 0) _ g1 Tryd.underlying64 rfl (by kernel_rfl) ?_)
      have hsr : (W2.setRow w.heap.size (digA d)).heap[w.heap.size]? = some (.cells (digA d) 64 (0, 0)) := setRow_heap _ _ _ _ _ _ g0
      refine bodyPost_ret (v := digV d) (results_cell_row Tryd.results40 _ _ w.heap.size _ (digA d) (0, 0) _ rfl hsr Tryd.underlying64 rfl (by kernel_rfl)) rfl ⟨rfl, ?_⟩
      exact below_setRow hB2 _
end Go.Proofs.YthgkjcofmkkdcaaDoor
