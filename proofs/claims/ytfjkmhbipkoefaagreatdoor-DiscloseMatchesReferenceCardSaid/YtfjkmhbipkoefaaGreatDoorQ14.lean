/- The walks of package disclose, second part: selection, split. The walks of package disclose, third part: sum. -/
import Derived.Test.YtfjkmhbipkoefaaGreatDoorQ13
import Derived.WalkMore
import Derived.ScopeJumps
namespace Go.Proofs.YtfjkmhbipkoefaaGreatDoor
open Go.RowKit Go.Shelf
set_option linter.unusedVariables false
set_option linter.unusedSimpArgs false
set_option maxRecDepth 100000
/-- One row number of a selection fits behind those before it. -/
def selAt (xs : List Int) (m : Int) (i : Nat) : Prop := 0 ≤ xs.getD i 0 ∧ xs.getD i 0 < m ∧ (0 < i → xs.getD (i - 1) 0 < xs.getD i 0)
instance (xs : List Int) (m : Int) (i : Nat) : Decidable (selAt xs m i) := by unfold selAt; infer_instance
/-- Whether rows are a selection of so many rows. -/
def selB (xs : List Int) (m : Int) : Bool := decide (∀ i, i < xs.length → selAt xs m i)
theorem selB_no {xs : List Int} {m : Int} {i : Nat} (h : i < xs.length) (hn : ¬ selAt xs m i) : selB xs m = false := decide_eq_false fun hh => hn (hh i h)
set_option maxHeartbeats 2000000 in
theorem selection_any (A : Option Addr) (ca n : Nat) (xs : List Int) (m : Int) (r : Bool) (hxn : xs.length = n) (hr : Hid (selB xs m = r)) (hn : n ≤ maxLen) (w : World) (hA : Sl w w.heap.size 1 A n (intV xs)) :
    Calls Tryz.prog 14 #[.slice A n ca, .int .i64 m] w fun e w' => e = .returned (.bool r) ∧ w = w' := by
  have HA := Lib.hid hA
  have Hxn := Lib.hid hxn
  unfold maxLen at hn
  clear hA hxn
  go_enter Tryz.func14, Tryz.ntmps14
  go_wp2_with fail
  go_loop [9] (fun i => ∃ k : Nat, k ≤ n ∧ i = .int .i64 (k : Int) ∧ ∀ j, j < k → selAt xs m j) (fun i => n - (intOf i).toNat)
  case atStart => exact ⟨0, Nat.zero_le _, rfl, fun j hj => absurd hj (Nat.not_lt_zero j)⟩
  case round =>
    obtain ⟨k, hk, rfl, hok⟩ := hrel
    have Hok := Lib.hid hok
    clear hok
    by_cases hlt : k < n
    · obtain ⟨b, off, rfl, hb, hcell⟩ := (HA.out).2 (by omega)
      have hlx : k < xs.length := by rw [Hxn.out]; exact hlt
      have hc : w.cell? ⟨b, off + k, none⟩ = some (.int .i64 (xs.getD k 0)) := hcell k _ (intV_get xs k hlx)
      have hlt' : (k : Int) < (n : Int) := by omega
      by_cases hs : selAt xs m k
      · have Hy : Hid (∀ j, j < k + 1 → selAt xs m j) := Lib.hid (fun j hj => by
          rcases Nat.lt_succ_iff_lt_or_eq.1 hj with h | h
          · exact Hok.out j h
          · rw [h]; exact hs)
        obtain ⟨h1, h2, h3⟩ := hs
        by_cases hk0 : k = 0
        · subst hk0
          obtain ⟨x, hx⟩ : ∃ x, xs.getD 0 0 = x := ⟨_, rfl⟩
          rw [hx, Nat.add_zero] at hc
          rw [hx] at h1 h2
          clear hx h3 hcell
          go_wp2
          go_round
          case rel => exact ⟨1, by omega, by go_num, Hy.out⟩
          case measure => simp [intOf]; omega
        · have h4 := h3 (by omega)
          obtain ⟨q, hq⟩ : ∃ q, k - 1 = q := ⟨_, rfl⟩
          rw [hq] at h4
          have hc2 : w.cell? ⟨b, off + q, none⟩ = some (.int .i64 (xs.getD q 0)) := hcell q _ (intV_get xs q (by omega))
          obtain ⟨x, hx⟩ : ∃ x, xs.getD k 0 = x := ⟨_, rfl⟩
          obtain ⟨y, hy⟩ : ∃ x, xs.getD q 0 = x := ⟨_, rfl⟩
          rw [hx] at hc h1 h2 h4
          rw [hy] at hc2 h4
          have e1 : (k : Int) - 1 = (q : Int) := by omega
          have e2 : (0 : Int) < (k : Int) := by omega
          have e3 : (q : Int) < (n : Int) := by omega
          clear hx hy h3 hcell hq
          go_wp2
          go_round
          case rel => exact ⟨k + 1, by omega, by go_num, Hy.out⟩
          case measure => simp [intOf]; omega
      · have hF : Hid (r = false) := Lib.hid (by rw [← hr.out]; exact selB_no hlx hs)
        unfold selAt at hs
        obtain ⟨x, hx⟩ : ∃ x, xs.getD k 0 = x := ⟨_, rfl⟩
        rw [hx] at hc hs
        by_cases h1 : 0 ≤ x
        · by_cases h2 : x < m
          · have h3 : 0 < k ∧ x ≤ xs.getD (k - 1) 0 := by omega
            obtain ⟨q, hq⟩ : ∃ q, k - 1 = q := ⟨_, rfl⟩
            have h4 := h3.2
            rw [hq] at h4
            have e1 : (k : Int) - 1 = (q : Int) := by omega
            have e2 : (0 : Int) < (k : Int) := by omega
            have e3 : (q : Int) < (n : Int) := by omega
            have hc2 : w.cell? ⟨b, off + q, none⟩ = some (.int .i64 (xs.getD q 0)) := hcell q _ (intV_get xs q (by omega))
            obtain ⟨y, hy⟩ : ∃ x, xs.getD q 0 = x := ⟨_, rfl⟩
            rw [hy] at hc2 h4
            clear hx hy h3 hcell hs hq
            go_wp2
            go_ret
            exact ⟨by rw [hF.out] <;> rfl, rfl⟩
          · have h2' : m ≤ x := by omega
            clear hx hcell hs h2
            go_wp2
            go_ret
            exact ⟨by rw [hF.out] <;> rfl, rfl⟩
        · have h1' : x < 0 := by omega
          clear hx hcell hs h1
          go_wp2
          go_ret
          exact ⟨by rw [hF.out] <;> rfl, rfl⟩
    · obtain rfl : k = n := by omega
      have hF : Hid (r = true) := Lib.hid (by rw [← hr.out]; exact decide_eq_true (fun i hi => Hok.out i (by rw [← Hxn.out]; exact hi)))
      go_wp2
      go_ret
      exact ⟨by rw [hF.out] <;> rfl, rfl⟩
/-- How many of the rows are below a number. -/
def nxK (xs : List Int) (k : Nat) : Nat := xs.countP (fun x => decide (x < (k : Int)))
theorem sel_tail {x : Int} {xs : List Int} {m : Int} (h : ∀ i, i < (x :: xs).length → selAt (x :: xs) m i) : (∀ i, i < xs.length → selAt xs m i) ∧ (∀ y ∈ xs, x < y) := by
  have h1 : ∀ i, i < xs.length → selAt xs m i := by
    intro i hi
    have := h (i + 1) (by simpa using hi)
    unfold selAt at this ⊢
    refine ⟨by simpa using this.1, by simpa using this.2.1, fun h0 => ?_⟩
    have h3 := this.2.2 (by omega)
    obtain ⟨q, rfl⟩ : ∃ q, i = q + 1 := ⟨i - 1, by omega⟩
    simpa using h3
  refine ⟨h1, ?_⟩
  have h2 : ∀ i, i < xs.length → x < xs.getD i 0 := by
    intro i
    induction i with
    | zero =>
      intro hi
      have := (h 1 (by simp; omega)).2.2 (by omega)
      simpa using this
    | succ i ih =>
      intro hi
      have a := ih (by omega)
      have := (h1 (i + 1) hi).2.2 (by omega)
      have e : i + 1 - 1 = i := rfl
      rw [e] at this
      omega
  intro y hy
  obtain ⟨i, hi, rfl⟩ := List.getElem_of_mem hy
  have := h2 i hi
  simpa [List.getD, hi] using this
theorem nx_all {xs : List Int} {k : Nat} (h : ∀ y ∈ xs, (k : Int) ≤ y) : nxK xs k = 0 := by
  unfold nxK
  rw [List.countP_eq_zero]
  intro y hy
  have := h y hy
  simp; omega
/-- The next row of a selection is the number at hand exactly if that is selected. -/
theorem nx_step {xs : List Int} {m : Int} (h : ∀ i, i < xs.length → selAt xs m i) (k : Nat) :
    (((k : Int) ∈ xs) → nxK xs k < xs.length ∧ xs.getD (nxK xs k) 0 = (k : Int) ∧ nxK xs (k + 1) = nxK xs k + 1) ∧
    (((k : Int) ∉ xs) → (nxK xs k < xs.length → xs.getD (nxK xs k) 0 ≠ (k : Int)) ∧ nxK xs (k + 1) = nxK xs k) := by
  induction xs with
  | nil => exact ⟨fun h => (List.not_mem_nil h).elim, fun _ => ⟨fun h => absurd h (Nat.not_lt_zero _), rfl⟩⟩
  | cons x xs ih =>
    obtain ⟨ht, hx⟩ := sel_tail h
    obtain ⟨i1, i2⟩ := ih ht
    have c : ∀ q : Nat, nxK (x :: xs) q = nxK xs q + (if x < (q : Int) then 1 else 0) := fun q => by
      unfold nxK; rw [List.countP_cons]; simp
    by_cases h1 : x < (k : Int)
    · have h2 : x < ((k + 1 : Nat) : Int) := by omega
      rw [c, c, if_pos h1, if_pos h2]
      constructor
      · intro hm
        rcases List.mem_cons.1 hm with hm | hm
        · omega
        · obtain ⟨a, b, e⟩ := i1 hm
          exact ⟨by rw [List.length_cons]; omega, by rw [List.getD_cons_succ]; exact b, by omega⟩
      · intro hm
        obtain ⟨a, e⟩ := i2 (fun hh => hm (List.mem_cons_of_mem _ hh))
        exact ⟨fun hl => by rw [List.getD_cons_succ]; exact a (by simpa using hl), by omega⟩
    · have h0 : nxK xs k = 0 := nx_all fun y hy => by have := hx y hy; omega
      rw [c, c, if_neg h1, h0]
      constructor
      · intro hm
        have e : x = (k : Int) := by
          rcases List.mem_cons.1 hm with hm | hm
          · exact hm.symm
          · have := hx _ hm; omega
        have h2 : x < ((k + 1 : Nat) : Int) := by omega
        have h3 : nxK xs (k + 1) = 0 := nx_all fun y hy => by have := hx y hy; omega
        rw [if_pos h2, h3]
        exact ⟨by simp, by simpa using e, rfl⟩
      · intro hm
        have hne : x ≠ (k : Int) := fun e => hm (by rw [← e]; exact List.mem_cons_self)
        have h3 : nxK xs (k + 1) = 0 := nx_all fun y hy => by have := hx y hy; omega
        have h2 : ¬ x < ((k + 1 : Nat) : Int) := by omega
        rw [if_neg h2, h3]
        exact ⟨fun _ => by simpa using hne, rfl⟩
theorem nx_zero {xs : List Int} {m : Int} (h : ∀ i, i < xs.length → selAt xs m i) : nxK xs 0 = 0 := nx_all fun y hy => by
  obtain ⟨i, hi, rfl⟩ := List.getElem_of_mem hy
  have := (h i hi).1
  simpa [List.getD, hi] using this
/-- Whether a row is hidden. -/
def hidAt (xs : List Int) (i : Nat) : Bool := !decide ((i : Int) ∈ xs)
def hidL (xs : List Int) (n : Nat) : List Bool := (List.range n).map (hidAt xs)

/-- The cells after k rows. -/
def spK (xs : List Int) (n k : Nat) : List Value := (List.range n).map fun i => Value.bool (decide (i < k) && hidAt xs i)
theorem spK_zero (xs : List Int) (n : Nat) : spK xs n 0 = List.replicate n (.bool false) := by
  unfold spK
  rw [List.eq_replicate_iff]
  refine ⟨by simp, ?_⟩
  intro b hb
  obtain ⟨i, _, rfl⟩ := List.mem_map.1 hb
  simp
theorem spK_end (xs : List Int) (n : Nat) : spK xs n n = boolV (hidL xs n) := by
  unfold spK boolV hidL
  rw [List.map_map]
  refine List.map_congr_left fun i hi => ?_
  simp [List.mem_range.1 hi]
theorem spK_next (xs : List Int) (n k : Nat) (hk : k < n) (h : hidAt xs k = false) : spK xs n (k + 1) = spK xs n k := by
  unfold spK
  refine List.map_congr_left fun i hi => ?_
  by_cases e : i = k
  · subst e; rw [h]; simp
  · have : decide (i < k + 1) = decide (i < k) := by rw [decide_eq_decide]; omega
    rw [this]
theorem spK_set (xs : List Int) (n k : Nat) (hk : k < n) (h : hidAt xs k = true) : spK xs n (k + 1) = (spK xs n k).set k (.bool true) := by
  unfold spK
  apply List.ext_getElem
  · simp
  · intro i h1 h2
    rw [List.getElem_set]
    simp only [List.getElem_map, List.getElem_range]
    by_cases e : k = i
    · subst e; rw [h]; simp
    · rw [if_neg e]
      have : decide (i < k + 1) = decide (i < k) := by rw [decide_eq_decide]; omega
      rw [this]
theorem spK_len (xs : List Int) (n k : Nat) : (spK xs n k).length = n := by simp [spK]
set_option maxHeartbeats 4000000 in
theorem split_any (A : Option Addr) (ca n : Nat) (xs : List Int) (m : Nat) (hxn : xs.length = n) (hr : Hid (∀ i, i < xs.length → selAt xs (m : Int) i)) (hn : n ≤ maxLen) (hm : m ≤ 1000000) (w : World) (hA : Sl w w.heap.size 1 A n (intV xs)) :
    Calls Tryz.prog 18 #[.slice A n ca, .int .i64 (m : Int)] w fun e w' => e = .returned (.slice (some ⟨w.heap.size, 0, none⟩) m m) ∧ w'.heap[w.heap.size]? = some (.cells (boolV (hidL xs m)).toArray 4 (0, 0)) ∧ Below w.heap.size w w' := by
  have HA := Lib.hid hA
  have Hxn := Lib.hid hxn
  unfold maxLen at hn
  obtain ⟨i0, hi0, hz0, hz1, hz2⟩ := info_parts info_bool
  have hcs : (madeCells #[Value.bool false] m).toList = spK xs m 0 := by
    rw [spK_zero]
    apply List.ext_getElem
    · simp [madeCells]
    · intro i h1 h2
      simp [madeCells, Value.cells, Nat.mod_one]
  have Hcs := Lib.hid hcs
  clear hA hxn hcs
  go_enter Tryz.func18, Tryz.ntmps18
  go_wp2
  go_step3
  go_wp2_with (at_make; refine wpList_make_full _ rfl _ _ 57 rfl w.heap.size 4 i0 (.bool false) 1 Tryz.underlying57 hi0 hz0 hz1 .i64 .i64 _ _ m rfl rfl rfl rfl (by rw [hz2]; omega) (by unfold maxLen; omega) (Nat.le_refl _) ?_)
  intro w1 hown hgr
  rw [Hcs.out] at hown
  have hB1 : Below w.heap.size w w1 := (Below.refl _ _).grown hgr (Nat.le_refl _) (fun k hk => by cases hk)
  have hb1 : w1.heap[w.heap.size]? = some (.cells (spK xs m 0).toArray 4 (0, 0)) := by
    rcases hown.2 with ⟨h0, _⟩ | ⟨g, cap, cur, hv, h1, h2, h3, h4, h5, h6⟩
    · cases h0
    · injection hv with e1 e2 e3
      injection e1 with e1
      injection e1 with e1
      subst e1 e3
      rw [h2]
      have : cur.toList = spK xs m 0 := by rw [← h6, List.take_of_length_le]; rw [Array.length_toList, h5]; exact Nat.le_refl _
      rw [← this]
  have H1 := Lib.hid (And.intro hB1 hb1)
  clear hown hgr hB1 hb1
  go_wp2
  go_step3
  go_wp2
  go_loopw [6, 12] (fun q i wr => ∃ k : Nat, k ≤ m ∧ i = .int .i64 (k : Int) ∧ q = .int .i64 (nxK xs k : Int) ∧ wr.heap[w.heap.size]? = some (.cells (spK xs m k).toArray 4 (0, 0)) ∧ Below w.heap.size w wr) (fun _ i _ => m - (intOf i).toNat)
  case atStart => exact ⟨0, Nat.zero_le _, rfl, by rw [nx_zero hr.out]; rfl, H1.out.2, H1.out.1⟩
  case round =>
    obtain ⟨k, hk, rfl, rfl, hbk, hB⟩ := hrel
    have Hbk := Lib.hid hbk
    clear hbk
    by_cases hlt : k < m
    · have hlt' : (k : Int) < (m : Int) := by omega
      obtain ⟨s1, s2⟩ := nx_step hr.out k
      obtain ⟨q, hq⟩ : ∃ q, nxK xs k = q := ⟨_, rfl⟩
      rw [hq] at s1 s2
      by_cases hmem : (k : Int) ∈ xs
      · obtain ⟨a1, a2, a3⟩ := s1 hmem
        have Hst : Hid (spK xs m (k + 1) = spK xs m k ∧ nxK xs (k + 1) = q + 1) := Lib.hid ⟨spK_next xs m k hlt (by unfold hidAt; rw [decide_eq_true hmem]; rfl), a3⟩
        have a1' : (q : Int) < (n : Int) := by rw [← Hxn.out]; omega
        obtain ⟨b, off, rfl, hb, hcell⟩ := (HA.out).2 (by omega)
        have hc : wr.cell? ⟨b, off + q, none⟩ = some (.int .i64 (k : Int)) := by
          rw [← a2]
          exact (hB.cell (p := ⟨b, off + q, none⟩) hb).trans (hcell q _ (intV_get xs q a1))
        rw [hq]
        clear s1 s2 hmem a1 a2 a3 hcell hq
        go_wp2
        go_roundw
        case rel => exact ⟨k + 1, by omega, by go_num, by rw [Hst.out.2]; go_num, by rw [Hst.out.1]; exact Hbk.out, hB⟩
        case measure => simp [intOf]; omega
      · obtain ⟨a1, a2⟩ := s2 hmem
        have Hst : Hid (spK xs m (k + 1) = (spK xs m k).set k (.bool true) ∧ nxK xs (k + 1) = q) := Lib.hid ⟨spK_set xs m k hlt (by unfold hidAt; rw [decide_eq_false hmem]; rfl), a2⟩
        have hcw : wr.cell? ⟨w.heap.size, k, none⟩ = some ((spK xs m k)[k]'(by rw [spK_len]; exact hlt)) := by
          rw [Lib.cell_of_heap Hbk.out]
          simp [spK_len, hlt]
        have hfz : wr.frozen? ⟨w.heap.size, k, none⟩ = false := by simp [World.frozen?, Hbk.out]
        rw [hq]
        by_cases hql : q < xs.length
        · have hne := a1 hql
          obtain ⟨b, off, rfl, hb, hcell⟩ := (HA.out).2 (by rw [← Hxn.out]; omega)
          have a1' : (q : Int) < (n : Int) := by rw [← Hxn.out]; omega
          have hc : wr.cell? ⟨b, off + q, none⟩ = some (.int .i64 (xs.getD q 0)) := (hB.cell (p := ⟨b, off + q, none⟩) hb).trans (hcell q _ (intV_get xs q hql))
          obtain ⟨x, hx⟩ : ∃ x, xs.getD q 0 = x := ⟨_, rfl⟩
          rw [hx] at hc hne
          have hne' : (x == (k : Int)) = false := beq_eq_false_iff_ne.2 hne
          clear s1 s2 hmem a1 a2 hcell hq hx hne hql
          go_wp2
          go_roundw
          case rel =>
            refine ⟨k + 1, by omega, by go_num, by rw [Hst.out.2], ?_, hB.setCell (Nat.le_refl _) _⟩
            rw [setCell_heap Hbk.out, Hst.out.1]
            simp
          case measure => simp [intOf]; omega
        · have a1' : ¬ (q : Int) < (n : Int) := by rw [← Hxn.out]; omega
          clear s1 s2 hmem a1 a2 hq hql
          go_wp2
          go_roundw
          case rel =>
            refine ⟨k + 1, by omega, by go_num, by rw [Hst.out.2], ?_, hB.setCell (Nat.le_refl _) _⟩
            rw [setCell_heap Hbk.out, Hst.out.1]
            simp
          case measure => simp [intOf]; omega
    · obtain rfl : k = m := by omega
      go_wp2
      rw [Exit.noGoto_ret]
      go_ret
      exact ⟨rfl, by rw [← spK_end]; exact Hbk.out, hB⟩
end Go.Proofs.YtfjkmhbipkoefaaGreatDoor
namespace Go.Proofs.YtfjkmhbipkoefaaGreatDoor
open Go.RowKit Go.Shelf
set_option linter.unusedVariables false
set_option linter.unusedSimpArgs false
set_option maxRecDepth 100000
/-- The sum of the hidden ones of the first k numbers. -/
def sumH (cs : List Int) (hs : List Bool) (k : Nat) : Int := ((List.range k).map fun j => if hs.getD j false = true then cs.getD j 0 else 0).sum
theorem sumH_snoc (cs : List Int) (hs : List Bool) (k : Nat) : sumH cs hs (k + 1) = sumH cs hs k + (if hs.getD k false = true then cs.getD k 0 else 0) := by
  simp [sumH, List.range_succ, List.map_append, List.sum_append]
theorem sumH_bd (cs : List Int) (hs : List Bool) (B : Int) (hB : 0 ≤ B) (h : ∀ c ∈ cs, -B ≤ c ∧ c ≤ B) (k : Nat) : -(k * B) ≤ sumH cs hs k ∧ sumH cs hs k ≤ k * B := by
  induction k with
  | zero => simp [sumH]
  | succ k ih =>
    rw [sumH_snoc]
    have hc : -B ≤ cs.getD k 0 ∧ cs.getD k 0 ≤ B := by
      by_cases hl : k < cs.length
      · have : cs.getD k 0 ∈ cs := by simp [List.getD, hl]
        exact h _ this
      · have : cs.getD k 0 = 0 := by simp [List.getD, Nat.le_of_not_lt hl]
        rw [this]; omega
    have e : ((k + 1 : Nat) : Int) * B = k * B + B := by rw [Int.natCast_add, Int.add_mul]; simp
    rw [e]
    split <;> omega
theorem sumH_nn (cs : List Int) (hs : List Bool) (B : Int) (h : ∀ q, q < cs.length → 0 ≤ cs.getD q 0 ∧ cs.getD q 0 ≤ B) (k : Nat) : 0 ≤ sumH cs hs k ∧ (0 ≤ B → sumH cs hs k ≤ k * B) := by
  induction k with
  | zero => simp [sumH]
  | succ k ih =>
    rw [sumH_snoc]
    have hc : 0 ≤ cs.getD k 0 ∧ (0 ≤ B → cs.getD k 0 ≤ B) := by
      by_cases hl : k < cs.length
      · exact ⟨(h k hl).1, fun _ => (h k hl).2⟩
      · have : cs.getD k 0 = 0 := by simp [List.getD, Nat.le_of_not_lt hl]
        rw [this]; exact ⟨by omega, fun h => h⟩
    have e : ((k + 1 : Nat) : Int) * B = k * B + B := by rw [Int.natCast_add, Int.add_mul]; simp
    rw [e]
    split
    · exact ⟨by omega, fun hB => by have := ih.2 hB; have := hc.2 hB; omega⟩
    · exact ⟨by omega, fun hB => by have := ih.2 hB; omega⟩
theorem boolV_get (l : List Bool) (k : Nat) (h : k < l.length) : (boolV l)[k]? = some (.bool (l.getD k false)) := by
  simp [boolV, h, List.getD]
theorem show1_any (l : ByteArray) (c : Int) (r : ByteArray) (w : World) : Calls Tryz.prog 20 #[.agg #[.string l, .int .i64 c, .string r]] w fun e w' => e = .returned (.int .i64 c) ∧ Below w.heap.size w w' := by
  go_enter Tryz.func20, Tryz.ntmps20
  go_wp2
  go_ret
  exact ⟨rfl, bal (Below.refl _ _) _⟩
theorem show2_any (c : Int) (w : World) : Calls Tryz.prog 22 #[.int .i64 c] w fun e w' => e = .returned (.int .i64 c) ∧ Below w.heap.size w w' := by
  go_enter Tryz.func22, Tryz.ntmps22
  go_wp2
  go_ret
  exact ⟨rfl, Below.refl _ _⟩
set_option maxHeartbeats 4000000 in
theorem sumint_any (A B : Option Addr) (ca cb n : Nat) (cs : List Int) (hs : List Bool) (s : Int) (hcn : cs.length = n) (hhn : hs.length = n) (hsum : Hid (sumH cs hs n = s)) (hn : n ≤ 2000) (hb : ∀ c ∈ cs, -1073741789 ≤ c ∧ c ≤ 1073741789) (w : World) (hA : Sl w w.heap.size 1 A n (intV cs)) (hB : Sl w w.heap.size 1 B n (boolV hs)) :
    Calls Tryz.prog 21 #[.slice A n ca, .slice B n cb, .func (.func 22) #[] #[]] w fun e w' => e = .returned (.int .i64 s) ∧ Below w.heap.size w w' := by
  have HA := Lib.hid hA
  have HB := Lib.hid hB
  have Hcn := Lib.hid (And.intro hcn hhn)
  have Hb := Lib.hid hb
  clear hA hB hcn hhn hb
  go_enter Tryz.func21, Tryz.ntmps21
  go_wp2_with fail
  go_loopw [7, 12] (fun t i wr => ∃ k : Nat, k ≤ n ∧ i = .int .i64 (k : Int) ∧ t = .int .i64 (sumH cs hs k) ∧ Below w.heap.size w wr) (fun _ i _ => n - (intOf i).toNat)
  case atStart => exact ⟨0, Nat.zero_le _, rfl, rfl, Below.refl _ _⟩
  case round =>
    obtain ⟨k, hk, rfl, rfl, hBw⟩ := hrel
    by_cases hlt : k < n
    · have hlt' : (k : Int) < (n : Int) := by omega
      obtain ⟨b1, o1, rfl, hb1, hc1⟩ := HA.out.2 (by omega)
      obtain ⟨b2, o2, rfl, hb2, hc2⟩ := HB.out.2 (by omega)
      have hkc : k < cs.length := by rw [Hcn.out.1]; exact hlt
      have hkh : k < hs.length := by rw [Hcn.out.2]; exact hlt
      have y : wr.cell? ⟨b1, o1 + k, none⟩ = some (.int .i64 (cs.getD k 0)) := (hBw.cell (p := ⟨b1, o1 + k, none⟩) hb1).trans (hc1 _ _ (intV_get cs k hkc))
      have z : wr.cell? ⟨b2, o2 + k, none⟩ = some (.bool (hs.getD k false)) := (hBw.cell (p := ⟨b2, o2 + k, none⟩) hb2).trans (hc2 _ _ (boolV_get hs k hkh))
      have hbd := sumH_bd cs hs 1073741789 (by omega) Hb.out k
      have hcb := Hb.out (cs.getD k 0) (by simp [List.getD, hkc])
      have hsn := sumH_snoc cs hs k
      obtain ⟨c, hc⟩ : ∃ c, cs.getD k 0 = c := ⟨_, rfl⟩
      obtain ⟨t, ht⟩ : ∃ t, sumH cs hs k = t := ⟨_, rfl⟩
      rw [hc] at y hsn hcb
      rw [ht] at hbd hsn ⊢
      have hwr : IntKind.i64.wrap (t + c) = t + c := IntWalk.i64_in _ (by omega)
      clear hc1 hc2 hkc hkh hc ht
      cases hh : hs.getD k false with
      | true =>
        rw [hh] at z hsn
        simp only [if_true] at hsn
        have Hsn := Lib.hid hsn
        clear hsn hh hbd
        go_wp2_with fail
        refine (show2_any c _).mono ?_
        rintro e w1 ⟨rfl, hB1⟩
        have hB2 := bgo hBw hB1
        clear hBw hB1 y z
        go_wp2
        go_roundw
        case rel => exact ⟨k + 1, by omega, by go_num, by rw [Hsn.out], hB2⟩
        case measure => simp [intOf]; omega
      | false =>
        rw [hh] at z hsn
        simp only [Bool.false_eq_true, if_false, Int.add_zero] at hsn
        have Hsn := Lib.hid hsn
        clear hsn hh hbd hwr
        go_wp2
        go_roundw
        case rel => exact ⟨k + 1, by omega, by go_num, by rw [Hsn.out], hBw⟩
        case measure => simp [intOf]; omega
    · obtain rfl : k = n := by omega
      go_wp2
      go_ret
      exact ⟨by rw [hsum.out] <;> rfl, hBw⟩
set_option maxHeartbeats 4000000 in
theorem sumrow_any (A B : Option Addr) (ca cb n : Nat) (rows : List RowD) (hs : List Bool) (s : Int) (hcn : rows.length = n) (hhn : hs.length = n) (hsum : Hid (sumH (rows.map (·.c)) hs n = s)) (hn : n ≤ 2000) (hb : ∀ c ∈ rows.map (·.c), -1073741789 ≤ c ∧ c ≤ 1073741789) (w : World) (hA : Sl w w.heap.size 3 A n (rowsV rows)) (hB : Sl w w.heap.size 1 B n (boolV hs)) :
    Calls Tryz.prog 19 #[.slice A n ca, .slice B n cb, .func (.func 20) #[] #[]] w fun e w' => e = .returned (.int .i64 s) ∧ Below w.heap.size w w' := by
  have HA := Lib.hid hA
  have HB := Lib.hid hB
  have Hcn := Lib.hid (And.intro hcn hhn)
  have Hb := Lib.hid hb
  clear hA hB hcn hhn hb
  go_enter Tryz.func19, Tryz.ntmps19
  go_wp2_with fail
  go_loopw [7, 12] (fun t i wr => ∃ k : Nat, k ≤ n ∧ i = .int .i64 (k : Int) ∧ t = .int .i64 (sumH (rows.map (·.c)) hs k) ∧ Below w.heap.size w wr) (fun _ i _ => n - (intOf i).toNat)
  case atStart => exact ⟨0, Nat.zero_le _, rfl, rfl, Below.refl _ _⟩
  case round =>
    obtain ⟨k, hk, rfl, rfl, hBw⟩ := hrel
    by_cases hlt : k < n
    · have hlt' : (k : Int) < (n : Int) := by omega
      obtain ⟨b1, o1, rfl, hb1, hc1⟩ := HA.out.2 (by omega)
      obtain ⟨b2, o2, rfl, hb2, hc2⟩ := HB.out.2 (by omega)
      have hkl : k < rows.length := by rw [Hcn.out.1]; exact hlt
      have hkh : k < hs.length := by rw [Hcn.out.2]; exact hlt
      obtain ⟨x, hx⟩ : ∃ x, rows[k] = x := ⟨_, rfl⟩
      have hget := flat_get rowV 3 (fun _ => rfl) rows k hkl
      rw [hx] at hget
      have hgc : (rows.map (·.c)).getD k 0 = x.c := by simp [List.getD, hkl, hx]
      have y0 : wr.cell? ⟨b1, o1 + k * 3, none⟩ = some (.string x.l) := (hBw.cell (p := ⟨b1, o1 + k * 3, none⟩) hb1).trans (hc1 _ _ (hget 0 (by decide)))
      have y1 : wr.cell? ⟨b1, o1 + k * 3 + 1, none⟩ = some (.int .i64 x.c) := (hBw.cell (p := ⟨b1, o1 + k * 3 + 1, none⟩) hb1).trans (hc1 _ _ (hget 1 (by decide)))
      have y2 : wr.cell? ⟨b1, o1 + k * 3 + 2, none⟩ = some (.string x.r) := (hBw.cell (p := ⟨b1, o1 + k * 3 + 2, none⟩) hb1).trans (hc1 _ _ (hget 2 (by decide)))
      have z : wr.cell? ⟨b2, o2 + k, none⟩ = some (.bool (hs.getD k false)) := (hBw.cell (p := ⟨b2, o2 + k, none⟩) hb2).trans (hc2 _ _ (boolV_get hs k hkh))
      have hb2r : b2 < wr.heap.size := Nat.lt_of_lt_of_le hb2 hBw.size
      have hbd := sumH_bd (rows.map (·.c)) hs 1073741789 (by omega) Hb.out k
      have hcb := Hb.out x.c (List.mem_map.2 ⟨x, by rw [← hx]; exact List.getElem_mem hkl, rfl⟩)
      have hsn := sumH_snoc (rows.map (·.c)) hs k
      rw [hgc] at hsn
      obtain ⟨xl, c, xr⟩ := x
      dsimp only at y0 y1 y2 hsn hcb
      obtain ⟨t, ht⟩ : ∃ t, sumH (rows.map (·.c)) hs k = t := ⟨_, rfl⟩
      rw [ht] at hbd hsn ⊢
      have hwr : IntKind.i64.wrap (t + c) = t + c := IntWalk.i64_in _ (by omega)
      clear hc1 hc2 hkl hkh hgc ht hx hget
      cases hh : hs.getD k false with
      | true =>
        rw [hh] at z hsn
        simp only [if_true] at hsn
        have Hsn := Lib.hid hsn
        clear hsn hh hbd
        go_wp2_with fail
        refine (show1_any xl c xr _).mono ?_
        rintro e w1 ⟨rfl, hB1⟩
        have hB2 := bgo (bal hBw _) hB1
        clear hBw hB1 y0 y1 y2 z
        go_wp2
        go_roundw
        case rel => exact ⟨k + 1, by omega, by go_num, by rw [Hsn.out], hB2⟩
        case measure => simp [intOf]; omega
      | false =>
        rw [hh] at z hsn
        simp only [Bool.false_eq_true, if_false, Int.add_zero] at hsn
        have Hsn := Lib.hid hsn
        clear hsn hh hbd hwr
        go_wp2
        go_roundw
        case rel => exact ⟨k + 1, by omega, by go_num, by rw [Hsn.out], bal hBw _⟩
        case measure => simp [intOf]; omega
    · obtain rfl : k = n := by omega
      go_wp2
      go_ret
      exact ⟨by rw [hsum.out] <;> rfl, hBw⟩
end Go.Proofs.YtfjkmhbipkoefaaGreatDoor
