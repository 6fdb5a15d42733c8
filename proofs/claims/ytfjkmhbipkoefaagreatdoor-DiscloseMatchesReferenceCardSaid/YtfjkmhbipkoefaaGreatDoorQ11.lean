/- The plain laws of layer 24: what the functions compute answers as the statements say. The walks of package onetime: valid, Key. The walk of onetime.digitsOf. The walk of onetime.Verify. -/
import Derived.Test.YtfjkmhbipkoefaaGreatDoorQ05
import Derived.Test.YtfjkmhbipkoefaaGreatDoorQ10
import Derived.Deep.Cut
import Derived.Deep.DeepCutAuto
namespace Go.Mk
open Go.Dig
theorem rootF_one (f : Nat) (l : List UInt64) (h : l.length ≤ 1) : rootF f l = l.getD 0 0 := by
  cases f with
  | zero => rfl
  | succ f => simp only [rootF]; rw [if_pos h]
theorem nextRow_one (l : List UInt64) (h : l.length ≤ 1) : nextRow l = l := by
  match l, h with
  | [], _ => rfl
  | [a], _ => rfl
theorem nextRow_append : ∀ (l m : List UInt64), l.length % 2 = 0 → nextRow (l ++ m) = nextRow l ++ nextRow m
  | [], m, _ => rfl
  | [a], m, h => by simp at h
  | a :: b :: r, m, h => by
    simp only [List.cons_append, nextRow]
    rw [nextRow_append r m (by simp at h; omega)]
theorem rootF_next (f : Nat) (l : List UInt64) (h : 1 < l.length) : rootF (f + 1) l = rootF f (nextRow l) := by
  simp only [rootF]; rw [if_neg (by omega)]
theorem halves : ∀ (j f g h : Nat) (l m : List UInt64), l.length = 2 ^ j → 1 ≤ m.length → m.length ≤ 2 ^ j → j + 1 ≤ f → j ≤ g → j ≤ h → rootF f (l ++ m) = pair (rootF g l) (rootF h m)
  | 0, f, g, h, l, m, hl, h1, h2, hf, hg, hh => by
    match l, m, hl, h1, h2 with
    | [a], [b], _, _, _ =>
      obtain ⟨f', rfl⟩ : ∃ f', f = f' + 1 := ⟨f - 1, by omega⟩
      rw [rootF_one g [a] (by simp), rootF_one h [b] (by simp)]
      simp only [List.cons_append, List.nil_append]
      rw [rootF_next _ _ (by simp), rootF_one _ _ (by simp [nextRow])]
      simp [nextRow]
  | j + 1, f, g, h, l, m, hl, h1, h2, hf, hg, hh => by
    obtain ⟨f', rfl⟩ : ∃ f', f = f' + 1 := ⟨f - 1, by omega⟩
    obtain ⟨g', rfl⟩ : ∃ g', g = g' + 1 := ⟨g - 1, by omega⟩
    obtain ⟨h', rfl⟩ : ∃ h', h = h' + 1 := ⟨h - 1, by omega⟩
    have hp : 2 ^ (j + 1) = 2 * 2 ^ j := by rw [Nat.pow_succ]; omega
    have hp1 : 1 ≤ 2 ^ j := Nat.one_le_two_pow
    rw [rootF_next _ _ (by simp; omega), nextRow_append _ _ (by omega), rootF_next g' l (by omega)]
    have hm : rootF (h' + 1) m = rootF h' (nextRow m) := by
      by_cases h3 : m.length ≤ 1
      · rw [nextRow_one m h3, rootF_one _ _ h3, rootF_one _ _ h3]
      · exact rootF_next h' m (by omega)
    rw [hm]
    exact halves j f' g' h' _ _ (by rw [nextRow_length]; omega) (by rw [nextRow_length]; omega) (by rw [nextRow_length]; omega) (by omega) (by omega) (by omega)
theorem path_change : ∀ (f : Nat) (l m : List UInt64) (i : Nat), l.length = m.length → (∀ j, j ≠ i → l.getD j 0 = m.getD j 0) → pathF f l i = pathF f m i
  | 0, _, _, _, _, _ => rfl
  | f + 1, l, m, i, hl, h => by
    simp only [pathF]
    rw [hl]
    by_cases h1 : m.length ≤ 1
    · rw [if_pos h1, if_pos h1]
    · rw [if_neg h1, if_neg h1]
      have e : stepOf l i = stepOf m i := by
        unfold stepOf
        rw [hl, h (i + 1) (by omega)]
        by_cases h2 : i % 2 = 1
        · rw [if_pos h2, if_pos h2, h (i - 1) (by omega)]
        · rw [if_neg h2, if_neg h2]
      rw [e]
      congr 1
      refine path_change f _ _ (i / 2) (by rw [nextRow_length, nextRow_length, hl]) ?_
      intro j hj
      rw [nextRow_get, nextRow_get, hl, h (2 * j) (by omega), h (2 * j + 1) (by omega)]
theorem be8_inj (a b : UInt64) (h : be8 a = be8 b) : a = b := by
  unfold be8 at h
  injection h with h7 h; injection h with h6 h; injection h with h5 h; injection h with h4 h; injection h with h3 h; injection h with h2 h; injection h with h1 h; injection h with h0 h
  refine byte_ext b a fun i hi => ?_
  rcases lt8 i hi with rfl | rfl | rfl | rfl | rfl | rfl | rfl | rfl <;> assumption
theorem nodeT_inj (a b c d : UInt64) (h : nodeT a b = nodeT c d) : a = c ∧ b = d := by
  unfold nodeT at h
  injection h with _ h
  have := List.append_inj h (by rfl)
  exact ⟨be8_inj _ _ this.1, be8_inj _ _ this.2⟩
theorem upT_inj (d e : UInt64) (x y : UInt64 × Bool) (hs : x.2 = y.2) (h : upT d x = upT e y) : d = e ∧ x = y := by
  unfold upT at h
  rw [hs] at h
  cases hy : y.2 with
  | true =>
    rw [hy] at h hs
    have := nodeT_inj _ _ _ _ h
    exact ⟨this.2, Prod.ext this.1 (hs.trans hy.symm)⟩
  | false =>
    rw [hy] at h hs
    have := nodeT_inj _ _ _ _ h
    exact ⟨this.1, Prod.ext this.2 (hs.trans hy.symm)⟩
end Go.Mk
namespace Go.Proofs.YtfjkmhbipkoefaaGreatDoor
open Go.RowKit
theorem leavesD_len (ss : List ByteArray) : (leavesD ss).length = ss.length := by simp [leavesD]
theorem checkE_ok (n : Nat) (h1 : 1 ≤ n) (h2 : n ≤ 1024) : checkE n = 0 := by unfold checkE; rw [if_neg (by omega), if_neg (by omega)]
theorem pathE_ok (n i : Nat) (h2 : n ≤ 1024) (hi : i < n) : pathE n (i : Int) = 0 := by
  unfold pathE; rw [if_pos (checkE_ok n (by omega) h2), if_pos (by omega)]
theorem pathL_ok (ss : List ByteArray) (i : Nat) (h2 : ss.length ≤ 1024) (hi : i < ss.length) : pathL ss (i : Int) = Mk.pathF 10 (leavesD ss) i := by
  unfold pathL; rw [if_pos (pathE_ok _ i h2 hi)]; rfl
theorem rootV_ok (ss : List ByteArray) (h1 : 1 ≤ ss.length) (h2 : ss.length ≤ 1024) : rootV ss = Mk.rootF 10 (leavesD ss) := by
  unfold rootV; rw [if_pos (checkE_ok _ h1 h2)]
theorem sidesOk_ok (n i : Nat) (h2 : n ≤ 1024) (hi : i < n) : sidesOk (n : Int) (i : Int) := ⟨by omega, by omega⟩
theorem path_map (ss : List ByteArray) (i : Nat) (h2 : ss.length ≤ 1024) (hi : i < ss.length) : (pathL ss (i : Int)).map (·.2) = sidesL (ss.length : Int) (i : Int) := by
  rw [pathL_ok ss i h2 hi, Mk.path_sides, leavesD_len]
  unfold sidesL
  rw [if_pos (sidesOk_ok _ i h2 hi)]
  rfl
theorem paths_proper (ss : List ByteArray) (i : Nat) (h2 : ss.length ≤ 1024) (hi : i < ss.length) : properB (ss.length : Int) (i : Int) (pathL ss (i : Int)) = true :=
  decide_eq_true ⟨sidesOk_ok _ i h2 hi, (path_map ss i h2 hi).symm⟩
theorem leavesD_get (ss : List ByteArray) (i : Nat) (hi : i < ss.length) : (leavesD ss).getD i 0 = Mk.leafD ss[i].data.toList := by
  rw [Mk.getD_get _ _ (by rw [leavesD_len]; exact hi)]; simp [leavesD]
theorem paths_verify (ss : List ByteArray) (i : Nat) (h2 : ss.length ≤ 1024) (hi : i < ss.length) : verifyB (rootV ss) (ss.length : Int) (i : Int) ss[i] (pathL ss (i : Int)) = true := by
  unfold verifyB
  rw [paths_proper ss i h2 hi, Bool.true_and, beq_iff_eq, ← leavesD_get ss i hi, pathL_ok ss i h2 hi, rootV_ok ss (by omega) h2]
  exact Mk.climb_path 10 _ i (by rw [leavesD_len]; exact hi) (by rw [leavesD_len]; omega)
theorem paths_one (ss : List ByteArray) (i : Nat) (h : ss.length ≤ 1) (hi : i < ss.length) : pathL ss (i : Int) = [] := by
  rw [pathL_ok ss i (by omega) hi]
  simp only [Mk.pathF]
  rw [if_pos (by rw [leavesD_len]; exact h)]
theorem pathL_len (ss : List ByteArray) (i : Nat) (h2 : ss.length ≤ 1024) (hi : i < ss.length) : (pathL ss (i : Int)).length ≤ 10 := proper_len (paths_proper ss i h2 hi)
/-- A path whose sides are not those of the index is not accepted. -/
theorem verify_no (root : UInt64) (n i : Int) (s : ByteArray) (p : Forks) (h : ¬ (sidesOk n i ∧ sidesL n i = p.map (·.2))) : verifyB root n i s p = false := by
  unfold verifyB properB
  rw [decide_eq_false h]; rfl
theorem collF_some : ∀ (xs ys : List ByteArray) (x y : ByteArray), collF xs ys = some (x, y) → x ≠ y ∧ Dig.sum x.data.toList = Dig.sum y.data.toList
  | [], ys, x, y, h => by cases ys <;> cases h
  | a :: xs, [], x, y, h => by cases h
  | a :: xs, b :: ys, x, y, h => by
    simp only [collF] at h
    by_cases h1 : a = b
    · rw [if_pos h1] at h; exact collF_some xs ys x y h
    · rw [if_neg h1] at h
      by_cases h2 : Dig.sum a.data.toList = Dig.sum b.data.toList
      · rw [if_pos h2] at h; cases h; exact ⟨h1, h2⟩
      · rw [if_neg h2] at h; exact collF_some xs ys x y h
theorem collF_same : ∀ xs : List ByteArray, collF xs xs = none
  | [] => rfl
  | a :: xs => by simp only [collF]; rw [if_pos trivial]; exact collF_same xs
theorem bytesOf_data (t : List UInt8) : (bytesOf t).data.toList = t := rfl
theorem bytesOf_inj (s t : List UInt8) (h : bytesOf s = bytesOf t) : s = t := by
  have := congrArg (fun b : ByteArray => b.data.toList) h
  simpa [bytesOf] using this
theorem bind_climb (p : Forks) : ∀ (q : Forks) (s t : List UInt8), p.map (·.2) = q.map (·.2) → Mk.climbD (Dig.sum s) p = Mk.climbD (Dig.sum t) q → (s ≠ t ∨ p ≠ q) →
    (collF (bytesOf s :: (Mk.climbT (Dig.sum s) p).map bytesOf) (bytesOf t :: (Mk.climbT (Dig.sum t) q).map bytesOf)).isSome = true := by
  induction p with
  | nil =>
    intro q s t hm hd hne
    cases q with
    | cons y q => simp at hm
    | nil =>
      have h1 : s ≠ t := by
        rcases hne with h | h
        · exact h
        · exact absurd rfl h
      rw [collF, if_neg (fun e => h1 (bytesOf_inj _ _ e)), if_pos (by rw [bytesOf_data, bytesOf_data]; exact hd)]
      rfl
  | cons x p ih0 =>
    intro q s t hm hd hne
    cases q with
    | nil => simp at hm
    | cons y q =>
      simp only [List.map_cons, List.cons.injEq] at hm
      obtain ⟨hs, hm⟩ := hm
      have hd' : Mk.climbD (Dig.sum (Mk.upT (Dig.sum s) x)) p = Mk.climbD (Dig.sum (Mk.upT (Dig.sum t) y)) q := by
        rw [Mk.sum_upT, Mk.sum_upT]; exact hd
      have ih := ih0 q (Mk.upT (Dig.sum s) x) (Mk.upT (Dig.sum t) y) hm hd'
      rw [Mk.sum_upT, Mk.sum_upT] at ih
      rw [Mk.climbT, Mk.climbT, List.map_cons, List.map_cons, collF]
      by_cases h1 : s = t
      · subst h1
        rw [if_pos rfl]
        refine ih ?_
        by_cases h2 : x = y
        · right
          rintro rfl
          rcases hne with h | h
          · exact h rfl
          · exact h (by rw [h2])
        · left
          exact fun e => h2 (Mk.upT_inj _ _ _ _ hs e).2
      · rw [if_neg (fun e => h1 (bytesOf_inj _ _ e))]
        by_cases h2 : Dig.sum s = Dig.sum t
        · rw [if_pos (by rw [bytesOf_data, bytesOf_data]; exact h2)]; rfl
        · rw [if_neg (by rw [bytesOf_data, bytesOf_data]; exact h2)]
          exact ih (.inl fun e => h2 (Mk.upT_inj _ _ _ _ hs e).1)
theorem proper_sides {n i : Int} {p : Forks} (h : properB n i p = true) : sidesL n i = p.map (·.2) := (of_decide_eq_true h).2
theorem binding (root : UInt64) (n i : Int) (a : ByteArray) (p : Forks) (b : ByteArray) (q : Forks) (h1 : verifyB root n i a p = true) (h2 : verifyB root n i b q = true) :
    (collO n i a p b q).isSome = (decide (a ≠ b) || !decide (p = q)) := by
  unfold verifyB at h1 h2
  rw [Bool.and_eq_true, beq_iff_eq] at h1 h2
  have hd := h1.2.trans h2.2.symm
  unfold collO
  rw [if_pos ⟨h1.1, h2.1, hd⟩]
  by_cases h : a = b ∧ p = q
  · obtain ⟨rfl, rfl⟩ := h
    rw [collF_same]; simp
  · have hr : (decide (a ≠ b) || !decide (p = q)) = true := by
      by_cases ha : a = b
      · have hp : ¬ p = q := fun e => h ⟨ha, e⟩
        simp [hp]
      · simp [ha]
    rw [hr]
    refine bind_climb p q (0 :: a.data.toList) (0 :: b.data.toList) ((proper_sides h1.1).symm.trans (proper_sides h2.1)) hd ?_
    by_cases ha : a = b
    · exact .inr fun e => h ⟨ha, e⟩
    · exact .inl fun e => ha (bytes_inj (List.cons.inj e).2)
theorem coll_some (n i : Int) (a : ByteArray) (p : Forks) (b : ByteArray) (q : Forks) (x y : ByteArray) (h : collO n i a p b q = some (x, y)) : x ≠ y ∧ Dig.sum x.data.toList = Dig.sum y.data.toList := by
  unfold collO at h
  split at h
  · exact collF_some _ _ _ _ h
  · cases h
theorem halves_root (ss : List ByteArray) (j : Nat) (hj : j ≤ 5) (h1 : 2 ^ j < ss.length) (h2 : ss.length ≤ 2 * 2 ^ j) : rootV ss = Dig.pair (rootV (ss.take (2 ^ j))) (rootV (ss.drop (2 ^ j))) := by
  have hp : 2 ^ j ≤ 2 ^ 5 := Nat.pow_le_pow_right (by omega) hj
  have hp1 : 1 ≤ 2 ^ j := Nat.one_le_two_pow
  have h32 : 2 ^ 5 = 32 := rfl
  rw [rootV_ok ss (by omega) (by omega), rootV_ok (ss.take _) (by rw [List.length_take]; omega) (by rw [List.length_take]; omega), rootV_ok (ss.drop _) (by rw [List.length_drop]; omega) (by rw [List.length_drop]; omega)]
  have e : leavesD ss = leavesD (ss.take (2 ^ j)) ++ leavesD (ss.drop (2 ^ j)) := by
    unfold leavesD; rw [← List.map_append, List.take_append_drop]
  rw [e]
  exact Mk.halves j 10 10 10 _ _ (by rw [leavesD_len, List.length_take]; omega) (by rw [leavesD_len, List.length_drop]; omega) (by rw [leavesD_len, List.length_drop]; omega) (by omega) (by omega) (by omega)
theorem change_path (ss : List ByteArray) (i : Nat) (x : ByteArray) (h2 : ss.length ≤ 1024) (hi : i < ss.length) : pathL (ss.set i x) (i : Int) = pathL ss (i : Int) := by
  rw [pathL_ok ss i h2 hi, pathL_ok (ss.set i x) i (by rw [List.length_set]; exact h2) (by rw [List.length_set]; exact hi)]
  refine Mk.path_change 10 _ _ i (by rw [leavesD_len, leavesD_len, List.length_set]) ?_
  intro j hj
  simp only [leavesD, List.map_set]
  rw [List.getD_eq_getElem?_getD, List.getD_eq_getElem?_getD, List.getElem?_set_ne (by omega)]
theorem change_verify (ss : List ByteArray) (i : Nat) (x : ByteArray) (h2 : ss.length ≤ 1024) (hi : i < ss.length) : verifyB (rootV (ss.set i x)) (ss.length : Int) (i : Int) x (pathL ss (i : Int)) = true := by
  have h := paths_verify (ss.set i x) i (by rw [List.length_set]; exact h2) (by rw [List.length_set]; exact hi)
  rw [change_path ss i x h2 hi, List.getElem_set_self] at h
  have e : (ss.set i x).length = ss.length := List.length_set
  rw [e] at h
  exact h
theorem lengths : ∀ n : Fin 65, ∀ i : Fin 64, i.val < n.val → ∀ k : Fin 7, n.val ≤ 2 ^ k.val → (k.val = 0 ∨ 2 ^ (k.val - 1) < n.val) → (Mk.sidesF 10 n.val i.val).length ≤ k.val ∧ (2 ^ k.val = n.val → (Mk.sidesF 10 n.val i.val).length = k.val) := by decide +kernel
end Go.Proofs.YtfjkmhbipkoefaaGreatDoor
namespace Go.Proofs.YtfjkmhbipkoefaaGreatDoor
open Go.RowKit Go.Shelf
set_option linter.unusedVariables false
def okB (seed : ByteArray) (h : Int) : Bool := decide (seed.size ≤ 64 ∧ 0 ≤ h ∧ h ≤ 8)
theorem valid_any (seed : ByteArray) (h : Int) (w : World) (hs : seed.size ≤ maxLen) : Calls Tryz.prog 47 #[.string seed, .int .i64 h] w fun e w' => e = .returned (.bool (okB seed h)) ∧ w = w' := by
  unfold maxLen at hs
  by_cases h1 : seed.size ≤ 64
  · have h1' : (seed.size : Int) ≤ 64 := by omega
    by_cases h2 : 0 ≤ h
    · by_cases h3 : h ≤ 8
      · have e : okB seed h = true := decide_eq_true ⟨h1, h2, h3⟩
        rw [e]
        clear e
        go_enter Tryz.func47, Tryz.ntmps47
        go_wp2
        go_ret
        exact ⟨rfl, rfl⟩
      · have e : okB seed h = false := decide_eq_false (fun k => h3 k.2.2)
        rw [e]
        clear e
        go_enter Tryz.func47, Tryz.ntmps47
        go_wp2
        go_ret
        exact ⟨rfl, rfl⟩
    · have e : okB seed h = false := decide_eq_false (fun k => h2 k.2.1)
      rw [e]
      clear e
      go_enter Tryz.func47, Tryz.ntmps47
      go_wp2
      go_ret
      exact ⟨rfl, rfl⟩
  · have e : okB seed h = false := decide_eq_false (fun k => h1 k.1)
    rw [e]
    clear e
    have h1' : ¬ ((seed.size : Int) ≤ 64) := by omega
    go_enter Tryz.func47, Tryz.ntmps47
    go_wp2
    go_ret
    exact ⟨rfl, rfl⟩
theorem okB_out {seed : ByteArray} {h : Int} (k : okB seed h = true) : seed.size ≤ 64 ∧ 0 ≤ h ∧ h ≤ 8 := of_decide_eq_true k
def keyD (seed : ByteArray) (h : Int) : UInt64 := if okB seed h then rootV (leavesB seed (2 ^ h.toNat)) else 0
def keyE (seed : ByteArray) (h : Int) : Int := if okB seed h then 0 else 1
theorem bytesOf_size (l : List UInt8) : (bytesOf l).size = l.length := by simp [bytesOf, ByteArray.size]
theorem leaf_mem (seed : List UInt8) (n : Nat) : ∀ l ∈ On.leaves seed n, l.length = 288 := by
  induction n with
  | zero => intro l hl; cases hl
  | succ n ih =>
    intro l hl
    rw [On.leaves, List.mem_append] at hl
    rcases hl with h | h
    · exact ih l h
    · rw [List.mem_singleton] at h
      rw [h, On.leaf_len]
theorem leavesB_size (seed : ByteArray) (n : Nat) : ∀ s ∈ leavesB seed n, s.size ≤ 140737488355328 := by
  intro s hs
  obtain ⟨l, hl, rfl⟩ := List.mem_map.1 hs
  rw [bytesOf_size, leaf_mem _ _ l hl]
  omega
theorem pow_le (h : Int) (h1 : h ≤ 8) : 2 ^ h.toNat ≤ 256 := Nat.pow_le_pow_right (n := 2) (by omega) (show h.toNat ≤ 8 by omega)
end Go.Proofs.YtfjkmhbipkoefaaGreatDoor
namespace Go.Proofs.YtfjkmhbipkoefaaGreatDoor
open Go.RowKit Go.Shelf
set_option linter.unusedVariables false
theorem wrap_mod16 (x : Int) : wrap64 x % 16 = x % 16 := by unfold wrap64; omega
theorem digit_at (d : UInt64) (k : Nat) : wrap64 ((d.toNat : Int) / 2 ^ (60 - 4 * k)) % 16 = (On.digit d k : Int) := by
  rw [wrap_mod16, On.digit, Int.natCast_emod, Int.natCast_ediv, Int.natCast_pow]
  rfl
def digL (d : UInt64) (k : Nat) : List Value := ((List.range k).map fun j => Value.int .i64 (On.digit d j : Int)) ++ List.replicate (18 - k) (.int .i64 0)
theorem digL_len (d : UInt64) (k : Nat) (h : k ≤ 18) : (digL d k).length = 18 := by simp [digL]; omega
theorem digL_get (d : UInt64) (k j : Nat) (h : k ≤ 18) : (digL d k)[j]? = if j < k then some (.int .i64 (On.digit d j : Int)) else if j < 18 then some (.int .i64 0) else none := by
  unfold digL
  by_cases hj : j < k
  · rw [if_pos hj, List.getElem?_append_left (by simpa using hj)]
    simp [hj]
  · rw [if_neg hj, List.getElem?_append_right (by simpa using hj)]
    simp only [List.length_map, List.length_range, List.getElem?_replicate]
    by_cases h18 : j < 18
    · rw [if_pos h18, if_pos (by omega)]
    · rw [if_neg h18, if_neg (by omega)]
theorem digL_set (d : UInt64) (k : Nat) (h : k < 18) : (digL d k).set k (.int .i64 (On.digit d k : Int)) = digL d (k + 1) := by
  apply List.ext_getElem?
  intro j
  rw [List.getElem?_set, digL_len d k (by omega), digL_get d k j (by omega), digL_get d (k + 1) j (by omega)]
  by_cases hj : k = j
  · subst hj
    rw [if_pos rfl, if_pos h, if_pos (by omega)]
  · rw [if_neg hj]
    by_cases hlt : j < k
    · rw [if_pos hlt, if_pos (by omega)]
    · rw [if_neg hlt, if_neg (show ¬ j < k + 1 by omega)]
theorem cell_heap {w : World} {b : Nat} {l : List Value} {t : TypeId} {fr : Nat × Nat} (hb : w.heap[b]? = some (.cells l.toArray t fr)) (j : Nat) : w.cell? ⟨b, j, none⟩ = l[j]? := by
  simp [World.cell?, hb]
theorem below_setRow {w W : World} (h : Below w.heap.size w W) (cs : Array Value) : Below w.heap.size w (W.setRow w.heap.size cs) :=
  ⟨h.os, h.tape, h.output, by rw [size_setRow]; exact h.size, fun b hb => (by simp only [World.setRow, Array.getElem?_modify]; rw [if_neg (by omega)]; exact h.block b hb)⟩
attribute [local go_sem] i64_and_15
def digA (d : UInt64) : Array Value := #[.int .i64 ((On.digit d 0 : Nat) : Int), .int .i64 ((On.digit d 1 : Nat) : Int), .int .i64 ((On.digit d 2 : Nat) : Int), .int .i64 ((On.digit d 3 : Nat) : Int), .int .i64 ((On.digit d 4 : Nat) : Int), .int .i64 ((On.digit d 5 : Nat) : Int), .int .i64 ((On.digit d 6 : Nat) : Int), .int .i64 ((On.digit d 7 : Nat) : Int), .int .i64 ((On.digit d 8 : Nat) : Int), .int .i64 ((On.digit d 9 : Nat) : Int), .int .i64 ((On.digit d 10 : Nat) : Int), .int .i64 ((On.digit d 11 : Nat) : Int), .int .i64 ((On.digit d 12 : Nat) : Int), .int .i64 ((On.digit d 13 : Nat) : Int), .int .i64 ((On.digit d 14 : Nat) : Int), .int .i64 ((On.digit d 15 : Nat) : Int), .int .i64 ((On.csum d 16 / 16 : Nat) : Int), .int .i64 ((On.csum d 16 % 16 : Nat) : Int)]
def digV (d : UInt64) : Value := .agg (digA d)
set_option maxRecDepth 100000 in
set_option maxHeartbeats 8000000 in
theorem digits_any (t : ByteArray) (d : UInt64) (hd : Hid (Dig.sum t.data.toList = d)) (w : World) (ht : t.size ≤ maxLen) :
    Calls Tryz.prog 48 #[.string t] w fun e w' => e = .returned (digV d) ∧ Below w.heap.size w w' := by
  go_enter Tryz.func48, Tryz.ntmps48
  go_wp2_with fail
  refine (sum_at _ _ _ hd ht).mono ?_
  rintro e w3 ⟨rfl, rfl⟩
  go_wp2
  go_loopw [5, 10] (fun s i wr => ∃ k : Nat, k ≤ 16 ∧ i = .int .i64 k ∧ s = .int .i64 (On.csum d k : Int) ∧ wr.heap[w.heap.size + 1]? = some (.cells (digL d k).toArray 83 (0, 0)) ∧ wr.heap[w.heap.size]? = some (.cells (digL d 0).toArray 83 (0, 0)) ∧ Below w.heap.size w wr) (fun _ i _ => 16 - (intOf i).toNat)
  case atStart =>
    refine ⟨0, by omega, rfl, rfl, ?_, ?_, ((Below.refl _ _).alloc (Nat.le_refl _) _).alloc (by simp) _⟩
    · have h := World.alloc_heap_new (w.alloc (.cells (digL d 0).toArray 83)) (.cells (digL d 0).toArray 83)
      rw [World.size_alloc] at h
      exact h
    · exact (Below.heap_alloc _ _ _ (by simp)).trans (World.alloc_heap_new w _)
  case round =>
    obtain ⟨k, hk, rfl, rfl, hb1, hb0, hB⟩ := hrel
    have hcs := On.csum_le d k
    obtain ⟨c, hc⟩ : ∃ c : Int, (On.csum d k : Int) = c := ⟨_, rfl⟩
    rw [hc]
    have hc0 : 0 ≤ c ∧ c ≤ 240 := by omega
    have Hc := Lib.hid hc
    by_cases hlt : k < 16
    · have hcell : wr.cell? ⟨w.heap.size + 1, k, none⟩ = some (.int .i64 0) := by
        rw [cell_heap hb1, digL_get d k k (by omega), if_neg (Nat.lt_irrefl k), if_pos (by omega)]
      have hfz : wr.frozen? ⟨w.heap.size + 1, k, none⟩ = false := by simp [World.frozen?, hb1]
      have Hb1 := Lib.hid hb1
      have Hb0 := Lib.hid hb0
      have hdl := On.digit_lt d k
      obtain ⟨x, hx⟩ : ∃ x : Int, (On.digit d k : Int) = x := ⟨_, rfl⟩
      have hx0 : 0 ≤ x ∧ x ≤ 15 := by omega
      have hxe : wrap64 ((d.toNat : Int) / 2 ^ (60 - 4 * k)) % 16 = x := by rw [digit_at, hx]
      have Hx := Lib.hid hx
      clear hb1 hb0 hc hx
      have hlt' : (k : Int) < 16 := by omega
      go_wp2
      go_roundw
      case rel =>
        refine ⟨k + 1, by omega, by go_num, ?_, ?_, ?_, hB.setCell (by simp) _⟩
        · rw [← Hc.out, ← Hx.out]
          simp only [On.csum]
          congr 1
          have := hdl
          omega
        · rw [setCell_heap Hb1.out, ← Hx.out, List.setIfInBounds_toArray, digL_set d k (by omega)]
        · exact (Below.heap_setCell _ _ _ _ (by simp)).trans Hb0.out
      case measure => simp [intOf]; omega
    · obtain rfl : k = 16 := by omega
      have c16 : wr.cell? ⟨w.heap.size + 1, 16, none⟩ = some (.int .i64 0) := by rw [cell_heap hb1, digL_get d 16 16 (by omega), if_neg (by omega), if_pos (by omega)]
      have c17 : wr.cell? ⟨w.heap.size + 1, 17, none⟩ = some (.int .i64 0) := by rw [cell_heap hb1, digL_get d 16 17 (by omega), if_neg (by omega), if_pos (by omega)]
      have f1 : ∀ j, wr.frozen? ⟨w.heap.size + 1, j, none⟩ = false := fun j => by simp [World.frozen?, hb1]
      obtain ⟨q, hq0⟩ : ∃ q : Int, ((On.csum d 16 / 16 : Nat) : Int) = q := ⟨_, rfl⟩
      obtain ⟨m, hm0⟩ : ∃ m : Int, ((On.csum d 16 % 16 : Nat) : Int) = m := ⟨_, rfl⟩
      have hq : c / 16 = q := by rw [← hc, ← hq0]; omega
      have hr : c % 16 = m := by rw [← hc, ← hm0]; omega
      have Hb1 := Lib.hid hb1
      have Hb0 := Lib.hid hb0
      have Hqm := Lib.hid (And.intro hq0 hm0)
      clear hb1 hb0 hc hq0 hm0 hcs hk hlt
      go_upto_region 12 with fail
      obtain ⟨W2, hW2⟩ : ∃ W2, W2 = (wr.setCell ⟨w.heap.size + 1, 16, none⟩ (.int .i64 q)).setCell ⟨w.heap.size + 1, 17, none⟩ (.int .i64 m) := ⟨_, rfl⟩
      rw [← hW2]
      have g1 : W2.heap[w.heap.size + 1]? = some (.cells (digA d) 83 (0, 0)) := by
        rw [hW2, setCell_heap (setCell_heap Hb1.out), ← Hqm.out.1, ← Hqm.out.2]
        rfl
      have g0 : W2.heap[w.heap.size]? = some (.cells (digL d 0).toArray 83 (0, 0)) := by
        rw [hW2]
        exact (Below.heap_setCell _ _ _ _ (by simp)).trans ((Below.heap_setCell _ _ _ _ (by simp)).trans Hb0.out)
      have hB2 : Below w.heap.size w W2 := by rw [hW2]; exact (hB.setCell (by simp) _).setCell (by simp) _
      clear hW2 c16 c17 f1 hq hr
      have hst : (storeCells ⟨w.heap.size, 0, none⟩ (digA d).toList).run Tryz.prog W2 = .ok () (W2.setRow w.heap.size (digA d)) := by
        have h := run_storeCells_from (P := Tryz.prog) w.heap.size 83 (digA d).toList 0 _ W2 g0 rfl (fun v hv => by simp [digA] at hv; rcases hv with rfl | rfl | rfl | rfl | rfl | rfl | rfl | rfl | rfl | rfl | rfl | rfl | rfl | rfl | rfl | rfl | rfl | rfl <;> rfl)
        simpa using h
      go_wp2_with (refine wpList_load_row rfl 83 (.tmp 3) rfl (w.heap.size + 1) rfl 83 (digA d) (0, 0) _ g1 Tryz.underlying83 rfl (by kernel_rfl) ?_)
      have hsr : (W2.setRow w.heap.size (digA d)).heap[w.heap.size]? = some (.cells (digA d) 83 (0, 0)) := setRow_heap _ _ _ _ _ _ g0
      refine bodyPost_ret (v := digV d) (results_cell_row Tryz.results48 _ _ w.heap.size _ (digA d) (0, 0) _ rfl hsr Tryz.underlying83 rfl (by kernel_rfl)) rfl ⟨rfl, ?_⟩
      exact below_setRow hB2 _
end Go.Proofs.YtfjkmhbipkoefaaGreatDoor
namespace Go.Proofs.YtfjkmhbipkoefaaGreatDoor
open Go.RowKit Go.Shelf
set_option linter.unusedVariables false
theorem dig_index (d : UInt64) (k : Nat) (hk : k < 18) (w : World) : (Instr.index 83 (.agg (digA d)) (.int .i64 (k : Int))).run Tryz.prog w = .ok (.int .i64 (On.dg d k : Int)) w := by
  rcases On.lt18 hk with rfl | rfl | rfl | rfl | rfl | rfl | rfl | rfl | rfl | rfl | rfl | rfl | rfl | rfl | rfl | rfl | rfl | rfl <;> kernel_rfl
def overB (root : UInt64) (h : Int) (d : UInt64) (i : Int) (c : List UInt64) (p : Forks) : Bool :=
  decide (0 ≤ h ∧ h ≤ 8 ∧ c.length = 18) && verifyB root ((2 ^ h.toNat : Nat) : Int) i (bytesOf (On.climbTo c d 18)) p
theorem Bld.cell {b : Nat} {W0 wx : World} (hB : Below b W0 wx) {a j : Nat} (ha : a < b) : wx.cell? ⟨a, j, none⟩ = W0.cell? ⟨a, j, none⟩ := hB.cell (p := ⟨a, j, none⟩) ha
def sigV (i : Int) (A : Option Addr) (n ca : Nat) (B : Option Addr) (m cb : Nat) : Value := .agg #[.int .i64 i, .slice A n ca, .slice B m cb]
end Go.Proofs.YtfjkmhbipkoefaaGreatDoor
