/- The plain laws of layer 24: what the functions compute answers as the statements say. -/
import Derived.Test.YthgkjcofmkkdcaaDoorMkW9
namespace Go.Mk
open Go.Dig
theorem rootF_one (f : Nat) (l : List UInt64) (h : l.length ≤ 1) : rootF f l = l.getD 0 0 := by
  cases f with
  | zero => rfl
  | succ f => simp only [rootF]; rw [if_pos h]
theorem nextRow_one (l : List UInt64) (h : l.length ≤ 1) : nextRow l = l := by
  match l, h with
  | [], _ => rfl
  | [a], _ => rfl
theorem nextRow_append : ∀ (l m : List UInt64), l.length % 2 = 0 → nextRow (l ++ m) = nextRow l ++ nextRow m
  | [], m, _ => rfl
  | [a], m, h => by simp at h
  | a :: b :: r, m, h => by
    simp only [List.cons_append, nextRow]
    rw [nextRow_append r m (by simp at h; omega)]
theorem rootF_next (f : Nat) (l : List UInt64) (h : 1 < l.length) : rootF (f + 1) l = rootF f (nextRow l) := by
  simp only [rootF]; rw [if_neg (by omega)]
theorem halves : ∀ (j f g h : Nat) (l m : List UInt64), l.length = 2 ^ j → 1 ≤ m.length → m.length ≤ 2 ^ j → j + 1 ≤ f → j ≤ g → j ≤ h → rootF f (l ++ m) = pair (rootF g l) (rootF h m)
  | 0, f, g, h, l, m, hl, h1, h2, hf, hg, hh => by
    match l, m, hl, h1, h2 with
    | [a], [b], _, _, _ =>
      obtain ⟨f', rfl⟩ : ∃ f', f = f' + 1 := ⟨f - 1, by omega⟩
      rw [rootF_one g [a] (by simp), rootF_one h [b] (by simp)]
      simp only [List.cons_append, List.nil_append]
      rw [rootF_next _ _ (by simp), rootF_one _ _ (by simp [nextRow])]
      simp [nextRow]
  | j + 1, f, g, h, l, m, hl, h1, h2, hf, hg, hh => by
    obtain ⟨f', rfl⟩ : ∃ f', f = f' + 1 := ⟨f - 1, by omega⟩
    obtain ⟨g', rfl⟩ : ∃ g', g = g' + 1 := ⟨g - 1, by omega⟩
    obtain ⟨h', rfl⟩ : ∃ h', h = h' + 1 := ⟨h - 1, by omega⟩
    have hp : 2 ^ (j + 1) = 2 * 2 ^ j := by rw [Nat.pow_succ]; omega
    have hp1 : 1 ≤ 2 ^ j := Nat.one_le_two_pow
    rw [rootF_next _ _ (by simp; omega), nextRow_append _ _ (by omega), rootF_next g' l (by omega)]
    have hm : rootF (h' + 1) m = rootF h' (nextRow m) := by
      by_cases h3 : m.length ≤ 1
      · rw [nextRow_one m h3, rootF_one _ _ h3, rootF_one _ _ h3]
      · exact rootF_next h' m (by omega)
    rw [hm]
    exact halves j f' g' h' _ _ (by rw [nextRow_length]; omega) (by rw [nextRow_length]; omega) (by rw [nextRow_length]; omega) (by omega) (by omega) (by omega)
theorem path_change : ∀ (f : Nat) (l m : List UInt64) (i : Nat), l.length = m.length → (∀ j, j ≠ i → l.getD j 0 = m.getD j 0) → pathF f l i = pathF f m i
  | 0, _, _, _, _, _ => rfl
  | f + 1, l, m, i, hl, h => by
    simp only [pathF]
    rw [hl]
    by_cases h1 : m.length ≤ 1
    · rw [if_pos h1, if_pos h1]
    · rw [if_neg h1, if_neg h1]
      have e : stepOf l i = stepOf m i := by
        unfold stepOf
        rw [hl, h (i + 1) (by omega)]
        by_cases h2 : i % 2 = 1
        · rw [if_pos h2, if_pos h2, h (i - 1) (by omega)]
        · rw [if_neg h2, if_neg h2]
      rw [e]
      congr 1
      refine path_change f _ _ (i / 2) (by rw [nextRow_length, nextRow_length, hl]) ?_
      intro j hj
      rw [nextRow_get, nextRow_get, hl, h (2 * j) (by omega), h (2 * j + 1) (by omega)]
theorem be8_inj (a b : UInt64) (h : be8 a = be8 b) : a = b := by
  unfold be8 at h
  injection h with h7 h; injection h with h6 h; injection h with h5 h; injection h with h4 h; injection h with h3 h; injection h with h2 h; injection h with h1 h; injection h with h0 h
  refine byte_ext b a fun i hi => ?_
  rcases lt8 i hi with rfl | rfl | rfl | rfl | rfl | rfl | rfl | rfl <;> assumption
theorem nodeT_inj (a b c d : UInt64) (h : nodeT a b = nodeT c d) : a = c ∧ b = d := by
  unfold nodeT at h
  injection h with _ h
  have := List.append_inj h (by rfl)
  exact ⟨be8_inj _ _ this.1, be8_inj _ _ this.2⟩
theorem upT_inj (d e : UInt64) (x y : UInt64 × Bool) (hs : x.2 = y.2) (h : upT d x = upT e y) : d = e ∧ x = y := by
  unfold upT at h
  rw [hs] at h
  cases hy : y.2 with
  | true =>
    rw [hy] at h hs
    have := nodeT_inj _ _ _ _ h
    exact ⟨this.2, Prod.ext this.1 (hs.trans hy.symm)⟩
  | false =>
    rw [hy] at h hs
    have := nodeT_inj _ _ _ _ h
    exact ⟨this.1, Prod.ext this.2 (hs.trans hy.symm)⟩
end Go.Mk
namespace Go.Proofs.YthgkjcofmkkdcaaDoor
open Go.RowKit
theorem leavesD_len (ss : List ByteArray) : (leavesD ss).length = ss.length := by simp [leavesD]
theorem checkE_ok (n : Nat) (h1 : 1 ≤ n) (h2 : n ≤ 1024) : checkE n = 0 := by unfold checkE; rw [if_neg (by omega), if_neg (by omega)]
theorem pathE_ok (n i : Nat) (h2 : n ≤ 1024) (hi : i < n) : pathE n (i : Int) = 0 := by
  unfold pathE; rw [if_pos (checkE_ok n (by omega) h2), if_pos (by omega)]
theorem pathL_ok (ss : List ByteArray) (i : Nat) (h2 : ss.length ≤ 1024) (hi : i < ss.length) : pathL ss (i : Int) = Mk.pathF 10 (leavesD ss) i := by
  unfold pathL; rw [if_pos (pathE_ok _ i h2 hi)]; rfl
theorem rootV_ok (ss : List ByteArray) (h1 : 1 ≤ ss.length) (h2 : ss.length ≤ 1024) : rootV ss = Mk.rootF 10 (leavesD ss) := by
  unfold rootV; rw [if_pos (checkE_ok _ h1 h2)]
theorem sidesOk_ok (n i : Nat) (h2 : n ≤ 1024) (hi : i < n) : sidesOk (n : Int) (i : Int) := ⟨by omega, by omega⟩
theorem path_map (ss : List ByteArray) (i : Nat) (h2 : ss.length ≤ 1024) (hi : i < ss.length) : (pathL ss (i : Int)).map (·.2) = sidesL (ss.length : Int) (i : Int) := by
  rw [pathL_ok ss i h2 hi, Mk.path_sides, leavesD_len]
  unfold sidesL
  rw [if_pos (sidesOk_ok _ i h2 hi)]
  rfl
theorem paths_proper (ss : List ByteArray) (i : Nat) (h2 : ss.length ≤ 1024) (hi : i < ss.length) : properB (ss.length : Int) (i : Int) (pathL ss (i : Int)) = true :=
  decide_eq_true ⟨sidesOk_ok _ i h2 hi, (path_map ss i h2 hi).symm⟩
theorem leavesD_get (ss : List ByteArray) (i : Nat) (hi : i < ss.length) : (leavesD ss).getD i 0 = Mk.leafD ss[i].data.toList := by
  rw [Mk.getD_get _ _ (by rw [leavesD_len]; exact hi)]; simp [leavesD]
theorem paths_verify (ss : List ByteArray) (i : Nat) (h2 : ss.length ≤ 1024) (hi : i < ss.length) : verifyB (rootV ss) (ss.length : Int) (i : Int) ss[i] (pathL ss (i : Int)) = true := by
  unfold verifyB
  rw [paths_proper ss i h2 hi, Bool.true_and, beq_iff_eq, ← leavesD_get ss i hi, pathL_ok ss i h2 hi, rootV_ok ss (by omega) h2]
  exact Mk.climb_path 10 _ i (by rw [leavesD_len]; exact hi) (by rw [leavesD_len]; omega)
theorem paths_one (ss : List ByteArray) (i : Nat) (h : ss.length ≤ 1) (hi : i < ss.length) : pathL ss (i : Int) = [] := by
  rw [pathL_ok ss i (by omega) hi]
  simp only [Mk.pathF]
  rw [if_pos (by rw [leavesD_len]; exact h)]
theorem pathL_len (ss : List ByteArray) (i : Nat) (h2 : ss.length ≤ 1024) (hi : i < ss.length) : (pathL ss (i : Int)).length ≤ 10 := proper_len (paths_proper ss i h2 hi)
/-- A path whose sides are not those of the index is not accepted. -/
theorem verify_no (root : UInt64) (n i : Int) (s : ByteArray) (p : Forks) (h : ¬ (sidesOk n i ∧ sidesL n i = p.map (·.2))) : verifyB root n i s p = false := by
  unfold verifyB properB
  rw [decide_eq_false h]; rfl
theorem collF_some : ∀ (xs ys : List ByteArray) (x y : ByteArray), collF xs ys = some (x, y) → x ≠ y ∧ Dig.sum x.data.toList = Dig.sum y.data.toList
  | [], ys, x, y, h => by cases ys <;> cases h
  | a :: xs, [], x, y, h => by cases h
  | a :: xs, b :: ys, x, y, h => by
    simp only [collF] at h
    by_cases h1 : a = b
    · rw [if_pos h1] at h; exact collF_some xs ys x y h
    · rw [if_neg h1] at h
      by_cases h2 : Dig.sum a.data.toList = Dig.sum b.data.toList
      · rw [if_pos h2] at h; cases h; exact ⟨h1, h2⟩
      · rw [if_neg h2] at h; exact collF_some xs ys x y h
theorem collF_same : ∀ xs : List ByteArray, collF xs xs = none
  | [] => rfl
  | a :: xs => by simp only [collF]; rw [if_pos trivial]; exact collF_same xs
theorem bytesOf_data (t : List UInt8) : (bytesOf t).data.toList = t := rfl
theorem bytesOf_inj (s t : List UInt8) (h : bytesOf s = bytesOf t) : s = t := by
  have := congrArg (fun b : ByteArray => b.data.toList) h
  simpa [bytesOf] using this
theorem bind_climb (p : Forks) : ∀ (q : Forks) (s t : List UInt8), p.map (·.2) = q.map (·.2) → Mk.climbD (Dig.sum s) p = Mk.climbD (Dig.sum t) q → (s ≠ t ∨ p ≠ q) →
    (collF (bytesOf s :: (Mk.climbT (Dig.sum s) p).map bytesOf) (bytesOf t :: (Mk.climbT (Dig.sum t) q).map bytesOf)).isSome = true := by
  induction p with
  | nil =>
    intro q s t hm hd hne
    cases q with
    | cons y q => simp at hm
    | nil =>
      have h1 : s ≠ t := by
        rcases hne with h | h
        · exact h
        · exact absurd rfl h
      rw [collF, if_neg (fun e => h1 (bytesOf_inj _ _ e)), if_pos (by rw [bytesOf_data, bytesOf_data]; exact hd)]
      rfl
  | cons x p ih0 =>
    intro q s t hm hd hne
    cases q with
    | nil => simp at hm
    | cons y q =>
      simp only [List.map_cons, List.cons.injEq] at hm
      obtain ⟨hs, hm⟩ := hm
      have hd' : Mk.climbD (Dig.sum (Mk.upT (Dig.sum s) x)) p = Mk.climbD (Dig.sum (Mk.upT (Dig.sum t) y)) q := by
        rw [Mk.sum_upT, Mk.sum_upT]; exact hd
      have ih := ih0 q (Mk.upT (Dig.sum s) x) (Mk.upT (Dig.sum t) y) hm hd'
      rw [Mk.sum_upT, Mk.sum_upT] at ih
      rw [Mk.climbT, Mk.climbT, List.map_cons, List.map_cons, collF]
      by_cases h1 : s = t
      · subst h1
        rw [if_pos rfl]
        refine ih ?_
        by_cases h2 : x = y
        · right
          rintro rfl
          rcases hne with h | h
          · exact h rfl
          · exact h (by rw [h2])
        · left
          exact fun e => h2 (Mk.upT_inj _ _ _ _ hs e).2
      · rw [if_neg (fun e => h1 (bytesOf_inj _ _ e))]
        by_cases h2 : Dig.sum s = Dig.sum t
        · rw [if_pos (by rw [bytesOf_data, bytesOf_data]; exact h2)]; rfl
        · rw [if_neg (by rw [bytesOf_data, bytesOf_data]; exact h2)]
          exact ih (.inl fun e => h2 (Mk.upT_inj _ _ _ _ hs e).1)
theorem proper_sides {n i : Int} {p : Forks} (h : properB n i p = true) : sidesL n i = p.map (·.2) := (of_decide_eq_true h).2
theorem binding (root : UInt64) (n i : Int) (a : ByteArray) (p : Forks) (b : ByteArray) (q : Forks) (h1 : verifyB root n i a p = true) (h2 : verifyB root n i b q = true) :
    (collO n i a p b q).isSome = (decide (a ≠ b) || !decide (p = q)) := by
  unfold verifyB at h1 h2
  rw [Bool.and_eq_true, beq_iff_eq] at h1 h2
  have hd := h1.2.trans h2.2.symm
  unfold collO
  rw [if_pos ⟨h1.1, h2.1, hd⟩]
  by_cases h : a = b ∧ p = q
  · obtain ⟨rfl, rfl⟩ := h
    rw [collF_same]; simp
  · have hr : (decide (a ≠ b) || !decide (p = q)) = true := by
      by_cases ha : a = b
      · have hp : ¬ p = q := fun e => h ⟨ha, e⟩
        simp [hp]
      · simp [ha]
    rw [hr]
    refine bind_climb p q (0 :: a.data.toList) (0 :: b.data.toList) ((proper_sides h1.1).symm.trans (proper_sides h2.1)) hd ?_
    by_cases ha : a = b
    · exact .inr fun e => h ⟨ha, e⟩
    · exact .inl fun e => ha (bytes_inj (List.cons.inj e).2)
theorem coll_some (n i : Int) (a : ByteArray) (p : Forks) (b : ByteArray) (q : Forks) (x y : ByteArray) (h : collO n i a p b q = some (x, y)) : x ≠ y ∧ Dig.sum x.data.toList = Dig.sum y.data.toList := by
  unfold collO at h
  split at h
  · exact collF_some _ _ _ _ h
  · cases h
theorem halves_root (ss : List ByteArray) (j : Nat) (hj : j ≤ 5) (h1 : 2 ^ j < ss.length) (h2 : ss.length ≤ 2 * 2 ^ j) : rootV ss = Dig.pair (rootV (ss.take (2 ^ j))) (rootV (ss.drop (2 ^ j))) := by
  have hp : 2 ^ j ≤ 2 ^ 5 := Nat.pow_le_pow_right (by omega) hj
  have hp1 : 1 ≤ 2 ^ j := Nat.one_le_two_pow
  have h32 : 2 ^ 5 = 32 := rfl
  rw [rootV_ok ss (by omega) (by omega), rootV_ok (ss.take _) (by rw [List.length_take]; omega) (by rw [List.length_take]; omega), rootV_ok (ss.drop _) (by rw [List.length_drop]; omega) (by rw [List.length_drop]; omega)]
  have e : leavesD ss = leavesD (ss.take (2 ^ j)) ++ leavesD (ss.drop (2 ^ j)) := by
    unfold leavesD; rw [← List.map_append, List.take_append_drop]
  rw [e]
  exact Mk.halves j 10 10 10 _ _ (by rw [leavesD_len, List.length_take]; omega) (by rw [leavesD_len, List.length_drop]; omega) (by rw [leavesD_len, List.length_drop]; omega) (by omega) (by omega) (by omega)
theorem change_path (ss : List ByteArray) (i : Nat) (x : ByteArray) (h2 : ss.length ≤ 1024) (hi : i < ss.length) : pathL (ss.set i x) (i : Int) = pathL ss (i : Int) := by
  rw [pathL_ok ss i h2 hi, pathL_ok (ss.set i x) i (by rw [List.length_set]; exact h2) (by rw [List.length_set]; exact hi)]
  refine Mk.path_change 10 _ _ i (by rw [leavesD_len, leavesD_len, List.length_set]) ?_
  intro j hj
  simp only [leavesD, List.map_set]
  rw [List.getD_eq_getElem?_getD, List.getD_eq_getElem?_getD, List.getElem?_set_ne (by omega)]
theorem change_verify (ss : List ByteArray) (i : Nat) (x : ByteArray) (h2 : ss.length ≤ 1024) (hi : i < ss.length) : verifyB (rootV (ss.set i x)) (ss.length : Int) (i : Int) x (pathL ss (i : Int)) = true := by
  have h := paths_verify (ss.set i x) i (by rw [List.length_set]; exact h2) (by rw [List.length_set]; exact hi)
  rw [change_path ss i x h2 hi, List.getElem_set_self] at h
  have e : (ss.set i x).length = ss.length := List.length_set
  rw [e] at h
  exact h
theorem lengths : ∀ n : Fin 65, ∀ i : Fin 64, i.val < n.val → ∀ k : Fin 7, n.val ≤ 2 ^ k.val → (k.val = 0 ∨ 2 ^ (k.val - 1) < n.val) → (Mk.sidesF 10 n.val i.val).length ≤ k.val ∧ (2 ^ k.val = n.val → (Mk.sidesF 10 n.val i.val).length = k.val) := by decide +kernel
end Go.Proofs.YthgkjcofmkkdcaaDoor
