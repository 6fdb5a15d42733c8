/- The plain laws of layer 24: what the functions compute answers as the statements say. The walks of the reference package of digest. The walks of the reference of merkle, first part: LeafText, word, NodeText, Leaf, Node, wrong. The walks of the reference of merkle, second part: first, next, Root. -/
import Derived.Test.YtfjkmhbipkoefaaDoorQ04
import Derived.Test.YtfjkmhbipkoefaaDoorQ02
import Derived.Test.YtfjkmhbipkoefaaDoorQ01
namespace Go.Mk
open Go.Dig
theorem rootF_one (f : Nat) (l : List UInt64) (h : l.length ≤ 1) : rootF f l = l.getD 0 0 := by
  cases f with
  | zero => rfl
  | succ f => simp only [rootF]; rw [if_pos h]
theorem nextRow_one (l : List UInt64) (h : l.length ≤ 1) : nextRow l = l := by
  match l, h with
  | [], _ => rfl
  | [a], _ => rfl
theorem nextRow_append : ∀ (l m : List UInt64), l.length % 2 = 0 → nextRow (l ++ m) = nextRow l ++ nextRow m
  | [], m, _ => rfl
  | [a], m, h => by simp at h
  | a :: b :: r, m, h => by
    simp only [List.cons_append, nextRow]
    rw [nextRow_append r m (by simp at h; omega)]
theorem rootF_next (f : Nat) (l : List UInt64) (h : 1 < l.length) : rootF (f + 1) l = rootF f (nextRow l) := by
  simp only [rootF]; rw [if_neg (by omega)]
theorem halves : ∀ (j f g h : Nat) (l m : List UInt64), l.length = 2 ^ j → 1 ≤ m.length → m.length ≤ 2 ^ j → j + 1 ≤ f → j ≤ g → j ≤ h → rootF f (l ++ m) = pair (rootF g l) (rootF h m)
  | 0, f, g, h, l, m, hl, h1, h2, hf, hg, hh => by
    match l, m, hl, h1, h2 with
    | [a], [b], _, _, _ =>
      obtain ⟨f', rfl⟩ : ∃ f', f = f' + 1 := ⟨f - 1, by omega⟩
      rw [rootF_one g [a] (by simp), rootF_one h [b] (by simp)]
      simp only [List.cons_append, List.nil_append]
      rw [rootF_next _ _ (by simp), rootF_one _ _ (by simp [nextRow])]
      simp [nextRow]
  | j + 1, f, g, h, l, m, hl, h1, h2, hf, hg, hh => by
    obtain ⟨f', rfl⟩ : ∃ f', f = f' + 1 := ⟨f - 1, by omega⟩
    obtain ⟨g', rfl⟩ : ∃ g', g = g' + 1 := ⟨g - 1, by omega⟩
    obtain ⟨h', rfl⟩ : ∃ h', h = h' + 1 := ⟨h - 1, by omega⟩
    have hp : 2 ^ (j + 1) = 2 * 2 ^ j := by rw [Nat.pow_succ]; omega
    have hp1 : 1 ≤ 2 ^ j := Nat.one_le_two_pow
    rw [rootF_next _ _ (by simp; omega), nextRow_append _ _ (by omega), rootF_next g' l (by omega)]
    have hm : rootF (h' + 1) m = rootF h' (nextRow m) := by
      by_cases h3 : m.length ≤ 1
      · rw [nextRow_one m h3, rootF_one _ _ h3, rootF_one _ _ h3]
      · exact rootF_next h' m (by omega)
    rw [hm]
    exact halves j f' g' h' _ _ (by rw [nextRow_length]; omega) (by rw [nextRow_length]; omega) (by rw [nextRow_length]; omega) (by omega) (by omega) (by omega)
theorem path_change : ∀ (f : Nat) (l m : List UInt64) (i : Nat), l.length = m.length → (∀ j, j ≠ i → l.getD j 0 = m.getD j 0) → pathF f l i = pathF f m i
  | 0, _, _, _, _, _ => rfl
  | f + 1, l, m, i, hl, h => by
    simp only [pathF]
    rw [hl]
    by_cases h1 : m.length ≤ 1
    · rw [if_pos h1, if_pos h1]
    · rw [if_neg h1, if_neg h1]
      have e : stepOf l i = stepOf m i := by
        unfold stepOf
        rw [hl, h (i + 1) (by omega)]
        by_cases h2 : i % 2 = 1
        · rw [if_pos h2, if_pos h2, h (i - 1) (by omega)]
        · rw [if_neg h2, if_neg h2]
      rw [e]
      congr 1
      refine path_change f _ _ (i / 2) (by rw [nextRow_length, nextRow_length, hl]) ?_
      intro j hj
      rw [nextRow_get, nextRow_get, hl, h (2 * j) (by omega), h (2 * j + 1) (by omega)]
theorem be8_inj (a b : UInt64) (h : be8 a = be8 b) : a = b := by
  unfold be8 at h
  injection h with h7 h; injection h with h6 h; injection h with h5 h; injection h with h4 h; injection h with h3 h; injection h with h2 h; injection h with h1 h; injection h with h0 h
  refine byte_ext b a fun i hi => ?_
  rcases lt8 i hi with rfl | rfl | rfl | rfl | rfl | rfl | rfl | rfl <;> assumption
theorem nodeT_inj (a b c d : UInt64) (h : nodeT a b = nodeT c d) : a = c ∧ b = d := by
  unfold nodeT at h
  injection h with _ h
  have := List.append_inj h (by rfl)
  exact ⟨be8_inj _ _ this.1, be8_inj _ _ this.2⟩
theorem upT_inj (d e : UInt64) (x y : UInt64 × Bool) (hs : x.2 = y.2) (h : upT d x = upT e y) : d = e ∧ x = y := by
  unfold upT at h
  rw [hs] at h
  cases hy : y.2 with
  | true =>
    rw [hy] at h hs
    have := nodeT_inj _ _ _ _ h
    exact ⟨this.2, Prod.ext this.1 (hs.trans hy.symm)⟩
  | false =>
    rw [hy] at h hs
    have := nodeT_inj _ _ _ _ h
    exact ⟨this.1, Prod.ext this.2 (hs.trans hy.symm)⟩
end Go.Mk
namespace Go.Proofs.YtfjkmhbipkoefaaDoor
open Go.RowKit
theorem leavesD_len (ss : List ByteArray) : (leavesD ss).length = ss.length := by simp [leavesD]
theorem checkE_ok (n : Nat) (h1 : 1 ≤ n) (h2 : n ≤ 1024) : checkE n = 0 := by unfold checkE; rw [if_neg (by omega), if_neg (by omega)]
theorem pathE_ok (n i : Nat) (h2 : n ≤ 1024) (hi : i < n) : pathE n (i : Int) = 0 := by
  unfold pathE; rw [if_pos (checkE_ok n (by omega) h2), if_pos (by omega)]
theorem pathL_ok (ss : List ByteArray) (i : Nat) (h2 : ss.length ≤ 1024) (hi : i < ss.length) : pathL ss (i : Int) = Mk.pathF 10 (leavesD ss) i := by
  unfold pathL; rw [if_pos (pathE_ok _ i h2 hi)]; rfl
theorem rootV_ok (ss : List ByteArray) (h1 : 1 ≤ ss.length) (h2 : ss.length ≤ 1024) : rootV ss = Mk.rootF 10 (leavesD ss) := by
  unfold rootV; rw [if_pos (checkE_ok _ h1 h2)]
theorem sidesOk_ok (n i : Nat) (h2 : n ≤ 1024) (hi : i < n) : sidesOk (n : Int) (i : Int) := ⟨by omega, by omega⟩
theorem path_map (ss : List ByteArray) (i : Nat) (h2 : ss.length ≤ 1024) (hi : i < ss.length) : (pathL ss (i : Int)).map (·.2) = sidesL (ss.length : Int) (i : Int) := by
  rw [pathL_ok ss i h2 hi, Mk.path_sides, leavesD_len]
  unfold sidesL
  rw [if_pos (sidesOk_ok _ i h2 hi)]
  rfl
theorem paths_proper (ss : List ByteArray) (i : Nat) (h2 : ss.length ≤ 1024) (hi : i < ss.length) : properB (ss.length : Int) (i : Int) (pathL ss (i : Int)) = true :=
  decide_eq_true ⟨sidesOk_ok _ i h2 hi, (path_map ss i h2 hi).symm⟩
theorem leavesD_get (ss : List ByteArray) (i : Nat) (hi : i < ss.length) : (leavesD ss).getD i 0 = Mk.leafD ss[i].data.toList := by
  rw [Mk.getD_get _ _ (by rw [leavesD_len]; exact hi)]; simp [leavesD]
theorem paths_verify (ss : List ByteArray) (i : Nat) (h2 : ss.length ≤ 1024) (hi : i < ss.length) : verifyB (rootV ss) (ss.length : Int) (i : Int) ss[i] (pathL ss (i : Int)) = true := by
  unfold verifyB
  rw [paths_proper ss i h2 hi, Bool.true_and, beq_iff_eq, ← leavesD_get ss i hi, pathL_ok ss i h2 hi, rootV_ok ss (by omega) h2]
  exact Mk.climb_path 10 _ i (by rw [leavesD_len]; exact hi) (by rw [leavesD_len]; omega)
theorem paths_one (ss : List ByteArray) (i : Nat) (h : ss.length ≤ 1) (hi : i < ss.length) : pathL ss (i : Int) = [] := by
  rw [pathL_ok ss i (by omega) hi]
  simp only [Mk.pathF]
  rw [if_pos (by rw [leavesD_len]; exact h)]
theorem pathL_len (ss : List ByteArray) (i : Nat) (h2 : ss.length ≤ 1024) (hi : i < ss.length) : (pathL ss (i : Int)).length ≤ 10 := proper_len (paths_proper ss i h2 hi)
/-- A path whose sides are not those of the index is not accepted. -/
theorem verify_no (root : UInt64) (n i : Int) (s : ByteArray) (p : Forks) (h : ¬ (sidesOk n i ∧ sidesL n i = p.map (·.2))) : verifyB root n i s p = false := by
  unfold verifyB properB
  rw [decide_eq_false h]; rfl
theorem collF_some : ∀ (xs ys : List ByteArray) (x y : ByteArray), collF xs ys = some (x, y) → x ≠ y ∧ Dig.sum x.data.toList = Dig.sum y.data.toList
  | [], ys, x, y, h => by cases ys <;> cases h
  | a :: xs, [], x, y, h => by cases h
  | a :: xs, b :: ys, x, y, h => by
    simp only [collF] at h
    by_cases h1 : a = b
    · rw [if_pos h1] at h; exact collF_some xs ys x y h
    · rw [if_neg h1] at h
      by_cases h2 : Dig.sum a.data.toList = Dig.sum b.data.toList
      · rw [if_pos h2] at h; cases h; exact ⟨h1, h2⟩
      · rw [if_neg h2] at h; exact collF_some xs ys x y h
theorem collF_same : ∀ xs : List ByteArray, collF xs xs = none
  | [] => rfl
  | a :: xs => by simp only [collF]; rw [if_pos trivial]; exact collF_same xs
theorem bytesOf_data (t : List UInt8) : (bytesOf t).data.toList = t := rfl
theorem bytesOf_inj (s t : List UInt8) (h : bytesOf s = bytesOf t) : s = t := by
  have := congrArg (fun b : ByteArray => b.data.toList) h
  simpa [bytesOf] using this
theorem bind_climb (p : Forks) : ∀ (q : Forks) (s t : List UInt8), p.map (·.2) = q.map (·.2) → Mk.climbD (Dig.sum s) p = Mk.climbD (Dig.sum t) q → (s ≠ t ∨ p ≠ q) →
    (collF (bytesOf s :: (Mk.climbT (Dig.sum s) p).map bytesOf) (bytesOf t :: (Mk.climbT (Dig.sum t) q).map bytesOf)).isSome = true := by
  induction p with
  | nil =>
    intro q s t hm hd hne
    cases q with
    | cons y q => simp at hm
    | nil =>
      have h1 : s ≠ t := by
        rcases hne with h | h
        · exact h
        · exact absurd rfl h
      rw [collF, if_neg (fun e => h1 (bytesOf_inj _ _ e)), if_pos (by rw [bytesOf_data, bytesOf_data]; exact hd)]
      rfl
  | cons x p ih0 =>
    intro q s t hm hd hne
    cases q with
    | nil => simp at hm
    | cons y q =>
      simp only [List.map_cons, List.cons.injEq] at hm
      obtain ⟨hs, hm⟩ := hm
      have hd' : Mk.climbD (Dig.sum (Mk.upT (Dig.sum s) x)) p = Mk.climbD (Dig.sum (Mk.upT (Dig.sum t) y)) q := by
        rw [Mk.sum_upT, Mk.sum_upT]; exact hd
      have ih := ih0 q (Mk.upT (Dig.sum s) x) (Mk.upT (Dig.sum t) y) hm hd'
      rw [Mk.sum_upT, Mk.sum_upT] at ih
      rw [Mk.climbT, Mk.climbT, List.map_cons, List.map_cons, collF]
      by_cases h1 : s = t
      · subst h1
        rw [if_pos rfl]
        refine ih ?_
        by_cases h2 : x = y
        · right
          rintro rfl
          rcases hne with h | h
          · exact h rfl
          · exact h (by rw [h2])
        · left
          exact fun e => h2 (Mk.upT_inj _ _ _ _ hs e).2
      · rw [if_neg (fun e => h1 (bytesOf_inj _ _ e))]
        by_cases h2 : Dig.sum s = Dig.sum t
        · rw [if_pos (by rw [bytesOf_data, bytesOf_data]; exact h2)]; rfl
        · rw [if_neg (by rw [bytesOf_data, bytesOf_data]; exact h2)]
          exact ih (.inl fun e => h2 (Mk.upT_inj _ _ _ _ hs e).1)
theorem proper_sides {n i : Int} {p : Forks} (h : properB n i p = true) : sidesL n i = p.map (·.2) := (of_decide_eq_true h).2
theorem binding (root : UInt64) (n i : Int) (a : ByteArray) (p : Forks) (b : ByteArray) (q : Forks) (h1 : verifyB root n i a p = true) (h2 : verifyB root n i b q = true) :
    (collO n i a p b q).isSome = (decide (a ≠ b) || !decide (p = q)) := by
  unfold verifyB at h1 h2
  rw [Bool.and_eq_true, beq_iff_eq] at h1 h2
  have hd := h1.2.trans h2.2.symm
  unfold collO
  rw [if_pos ⟨h1.1, h2.1, hd⟩]
  by_cases h : a = b ∧ p = q
  · obtain ⟨rfl, rfl⟩ := h
    rw [collF_same]; simp
  · have hr : (decide (a ≠ b) || !decide (p = q)) = true := by
      by_cases ha : a = b
      · have hp : ¬ p = q := fun e => h ⟨ha, e⟩
        simp [hp]
      · simp [ha]
    rw [hr]
    refine bind_climb p q (0 :: a.data.toList) (0 :: b.data.toList) ((proper_sides h1.1).symm.trans (proper_sides h2.1)) hd ?_
    by_cases ha : a = b
    · exact .inr fun e => h ⟨ha, e⟩
    · exact .inl fun e => ha (bytes_inj (List.cons.inj e).2)
theorem coll_some (n i : Int) (a : ByteArray) (p : Forks) (b : ByteArray) (q : Forks) (x y : ByteArray) (h : collO n i a p b q = some (x, y)) : x ≠ y ∧ Dig.sum x.data.toList = Dig.sum y.data.toList := by
  unfold collO at h
  split at h
  · exact collF_some _ _ _ _ h
  · cases h
theorem halves_root (ss : List ByteArray) (j : Nat) (hj : j ≤ 5) (h1 : 2 ^ j < ss.length) (h2 : ss.length ≤ 2 * 2 ^ j) : rootV ss = Dig.pair (rootV (ss.take (2 ^ j))) (rootV (ss.drop (2 ^ j))) := by
  have hp : 2 ^ j ≤ 2 ^ 5 := Nat.pow_le_pow_right (by omega) hj
  have hp1 : 1 ≤ 2 ^ j := Nat.one_le_two_pow
  have h32 : 2 ^ 5 = 32 := rfl
  rw [rootV_ok ss (by omega) (by omega), rootV_ok (ss.take _) (by rw [List.length_take]; omega) (by rw [List.length_take]; omega), rootV_ok (ss.drop _) (by rw [List.length_drop]; omega) (by rw [List.length_drop]; omega)]
  have e : leavesD ss = leavesD (ss.take (2 ^ j)) ++ leavesD (ss.drop (2 ^ j)) := by
    unfold leavesD; rw [← List.map_append, List.take_append_drop]
  rw [e]
  exact Mk.halves j 10 10 10 _ _ (by rw [leavesD_len, List.length_take]; omega) (by rw [leavesD_len, List.length_drop]; omega) (by rw [leavesD_len, List.length_drop]; omega) (by omega) (by omega) (by omega)
theorem change_path (ss : List ByteArray) (i : Nat) (x : ByteArray) (h2 : ss.length ≤ 1024) (hi : i < ss.length) : pathL (ss.set i x) (i : Int) = pathL ss (i : Int) := by
  rw [pathL_ok ss i h2 hi, pathL_ok (ss.set i x) i (by rw [List.length_set]; exact h2) (by rw [List.length_set]; exact hi)]
  refine Mk.path_change 10 _ _ i (by rw [leavesD_len, leavesD_len, List.length_set]) ?_
  intro j hj
  simp only [leavesD, List.map_set]
  rw [List.getD_eq_getElem?_getD, List.getD_eq_getElem?_getD, List.getElem?_set_ne (by omega)]
theorem change_verify (ss : List ByteArray) (i : Nat) (x : ByteArray) (h2 : ss.length ≤ 1024) (hi : i < ss.length) : verifyB (rootV (ss.set i x)) (ss.length : Int) (i : Int) x (pathL ss (i : Int)) = true := by
  have h := paths_verify (ss.set i x) i (by rw [List.length_set]; exact h2) (by rw [List.length_set]; exact hi)
  rw [change_path ss i x h2 hi, List.getElem_set_self] at h
  have e : (ss.set i x).length = ss.length := List.length_set
  rw [e] at h
  exact h
theorem lengths : ∀ n : Fin 65, ∀ i : Fin 64, i.val < n.val → ∀ k : Fin 7, n.val ≤ 2 ^ k.val → (k.val = 0 ∨ 2 ^ (k.val - 1) < n.val) → (Mk.sidesF 10 n.val i.val).length ≤ k.val ∧ (2 ^ k.val = n.val → (Mk.sidesF 10 n.val i.val).length = k.val) := by decide +kernel
end Go.Proofs.YtfjkmhbipkoefaaDoor
namespace Go.Proofs.YtfjkmhbipkoefaaDoor
open Go.RowKit
theorem u64_quo_k (a : UInt64) (k : Nat) (hk : k < 64) : IntKind.u64.wrap ((a.toNat : Int).tdiv ((2 ^ k : Nat) : Int)) = ((a >>> UInt64.ofNat k).toNat : Int) := by
  rw [← u64_shr_k a k hk, Int.tdiv_eq_ediv_of_nonneg (by omega), IntKind.wrap_u64]
  have h1 := a.toNat_lt
  have h2 : (a.toNat : Int) / ((2 ^ k : Nat) : Int) ≤ a.toNat := Int.ediv_le_self _ (by omega)
  have h3 : 0 ≤ (a.toNat : Int) / ((2 ^ k : Nat) : Int) := Int.ediv_nonneg (by omega) (Int.natCast_nonneg _)
  exact Int.emod_eq_of_lt h3 (by omega)
theorem u64_quo_32 (a : UInt64) : IntKind.u64.wrap ((a.toNat : Int).tdiv (4294967296 : Int)) = ((a >>> 32).toNat : Int) := u64_quo_k a 32 (by decide)
theorem u64_quo_31 (a : UInt64) : IntKind.u64.wrap ((a.toNat : Int).tdiv (2147483648 : Int)) = ((a >>> 31).toNat : Int) := u64_quo_k a 31 (by decide)
theorem u64_quo_27 (a : UInt64) : IntKind.u64.wrap ((a.toNat : Int).tdiv (134217728 : Int)) = ((a >>> 27).toNat : Int) := u64_quo_k a 27 (by decide)
theorem u64_quo_33 (a : UInt64) : IntKind.u64.wrap ((a.toNat : Int).tdiv (8589934592 : Int)) = ((a >>> 33).toNat : Int) := u64_quo_k a 33 (by decide)
set_option maxHeartbeats 400000 in
theorem rstate_any (s : ByteArray) (w : World) (hs : s.size ≤ maxLen) : Calls Tryd.prog 70 #[.string s] w fun e w' => e = .returned (.int .u64 (Dig.state s.data.toList).toNat) ∧ w = w' := by
  unfold maxLen at hs
  go_enter Tryd.func70, Tryd.ntmps70
  go_wp2
  go_loop [3, 4] (fun v i => ∃ k : Nat, k ≤ s.size ∧ i = .int .i64 k ∧ v = .int .u64 ((s.data.toList.take k).foldl Dig.feed Dig.init).toNat) (fun _ i => s.size - (intOf i).toNat)
  case atStart => exact ⟨0, Nat.zero_le _, rfl, rfl⟩
  case round =>
    obtain ⟨k, hk, rfl, rfl⟩ := hrel
    by_cases hlt : k < s.size
    · have HS := Lib.hid (take_snoc s k hlt)
      go_wp2
      simp only [u64_of_u8, u64_xor_uu, u64_mul_feed, u64_quo_32]
      go_round
      case rel => exact ⟨k + 1, by omega, by go_num, by rw [HS.out, List.foldl_append]; rfl⟩
      case measure => simp [intOf]; omega
    · have hE : s.data.toList.take k = s.data.toList := List.take_of_length_le (by simp; omega)
      have HE := Lib.hid hE
      clear hE
      go_wp2
      go_ret
      simp only [HE.out]
      exact ⟨rfl, trivial⟩
theorem rfinish_any (s : UInt64) (n : Nat) (hn : n ≤ maxLen) (w : World) : Calls Tryd.prog 69 #[.int .u64 s.toNat, .int .i64 n] w fun e w' => e = .returned (.int .u64 (Dig.finish s (UInt64.ofNat n)).toNat) ∧ w = w' := by
  unfold maxLen at hn
  go_enter Tryd.func69, Tryd.ntmps69
  go_wp2
  go_ret
  simp only [u64_xor_un _ n (by omega), u64_xor_uu, u64_mul_first, u64_quo_31, u64_mul_second, u64_quo_27, u64_quo_33]
  exact ⟨rfl, trivial⟩
theorem rsum_any (s : ByteArray) (w : World) (hs : s.size ≤ maxLen) : Calls Tryd.prog 52 #[.string s] w fun e w' => e = .returned (.int .u64 (Dig.sum s.data.toList).toNat) ∧ w = w' := by
  go_enter Tryd.func52, Tryd.ntmps52
  go_wp2_with fail
  refine (rstate_any _ _ hs).mono ?_
  rintro e w' ⟨rfl, rfl⟩
  go_wp2_with fail
  refine (rfinish_any _ _ hs _).mono ?_
  rintro e w' ⟨rfl, rfl⟩
  go_wp2_with fail
  go_ret
  refine ⟨?_, rfl⟩
  unfold Dig.sum
  rw [show s.data.toList.length = s.size by simp]
  rfl
end Go.Proofs.YtfjkmhbipkoefaaDoor
namespace Go.Proofs.YtfjkmhbipkoefaaDoor
open Go.RowKit Go.Shelf
set_option linter.unusedVariables false
theorem info_u8 : (Tryd.prog.info? 5).map (fun i => (i.zero, i.size, i.bytes)) = some (some (.int .u8 0), 1, 1) := by kernel_rfl
def u8V (l : List UInt8) : List Value := l.map fun b => Value.int .u8 b.toNat
theorem own_back {W : World} {base g cap n : Nat} {l : List UInt8} (hn : l.length = n) (h : W.ownsRow base 5 1 (.slice (some ⟨g, 0, none⟩) n cap) n (u8V l)) :
    (convert 100 9 (.slice (some ⟨g, 0, none⟩) n cap)).run Tryd.prog W = .ok (.string ⟨l.toArray⟩) W := by
  subst hn
  refine run_convert_bytes_back (P := Tryd.prog) W 100 9 5 ⟨g, 0, none⟩ cap l Tryd.underlying100 Tryd.underlying5 Tryd.underlying9 ?_
  intro j hj
  rw [Addr.add_lit, Nat.zero_add]
  exact (h.cellAt j (by omega)).trans (by simp [u8V, hj])
theorem rleafText_any (s : ByteArray) (w : World) (hs : s.size ≤ 140737488355328) : Calls Tryd.prog 86 #[.string s] w fun e w' => e = .returned (.string ⟨(0 :: s.data.toList).toArray⟩) ∧ Below w.heap.size w w' := by
  have h1 : ¬ (9223372036854775807 < 1 + s.size) := by omega
  have k := byte_back (w.alloc (.cells #[.int .u8 0] 5)) w.heap.size 0 (by simp [go_sem])
  have e : (⟨[(0 : UInt8)].toArray⟩ : ByteArray) ++ s = ⟨(0 :: s.data.toList).toArray⟩ := by apply ByteArray.ext; simp [ByteArray.data_append]
  have He := Lib.hid e
  clear e
  have hsz : (⟨[(0 : UInt8)].toArray⟩ : ByteArray).size = 1 := rfl
  go_enter Tryd.func86, Tryd.ntmps86
  go_wp2
  go_ret
  refine ⟨?_, (Below.refl _ _).alloc (Nat.le_refl _) _⟩
  rw [← He.out]
  rfl
set_option maxHeartbeats 2000000 in
theorem word_any (d : UInt64) (w : World) : Calls Tryd.prog 97 #[.int .u64 d.toNat] w fun e w' => e = .returned (.slice (some ⟨w.heap.size, 0, none⟩) 8 8) ∧ w' = w.alloc (.cells #[.int .u8 (Dig.byte d 7).toNat, .int .u8 (Dig.byte d 6).toNat, .int .u8 (Dig.byte d 5).toNat, .int .u8 (Dig.byte d 4).toNat, .int .u8 (Dig.byte d 3).toNat, .int .u8 (Dig.byte d 2).toNat, .int .u8 (Dig.byte d 1).toNat, .int .u8 (Dig.byte d 0).toNat] 5) := by
  have hd0 : (0 : Int) ≤ (d.toNat : Int) := Int.natCast_nonneg _
  have hd1 : (d.toNat : Int) ≤ 18446744073709551615 := by have := d.toNat_lt; omega
  have hmk : ∀ w : World, (Instr.makeSlice 100 (.int .i64 8) (.int .i64 8)).run Tryd.prog w = .ok (.slice (some ⟨w.heap.size, 0, none⟩) 8 8) (w.alloc (.cells #[.int .u8 0, .int .u8 0, .int .u8 0, .int .u8 0, .int .u8 0, .int .u8 0, .int .u8 0, .int .u8 0] 5)) := fun _ => by kernel_rfl
  go_enter Tryd.func97, Tryd.ntmps97
  go_wp2
  go_rounds 9
  go_ret
  simp only [byteV0, byteV1, byteV2, byteV3, byteV4, byteV5, byteV6, byteV7]
  exact ⟨rfl, trivial⟩
theorem nodeT_split (a b : UInt64) : u8V (Mk.nodeT a b) = .int .u8 1 :: (u8V (Dig.be8 a) ++ u8V (Dig.be8 b)) := by simp [u8V, Mk.nodeT]
set_option maxRecDepth 100000 in
set_option maxHeartbeats 1000000 in
theorem rnodeText_any (a b : UInt64) (w : World) : Calls Tryd.prog 87 #[.int .u64 a.toNat, .int .u64 b.toNat] w fun e w' => e = .returned (.string ⟨(Mk.nodeT a b).toArray⟩) ∧ Below w.heap.size w w' := by
  obtain ⟨i0, hi0, hz0, hz1, hz2⟩ := info_parts info_u8
  have hown0 : (w.alloc (.cells #[.int .u8 1] 5)).ownsRow w.heap.size 5 1 (.slice (some ⟨w.heap.size, 0, none⟩) 1 1) 1 [.int .u8 1] := ⟨rfl, .inr ⟨w.heap.size, 1, #[.int .u8 1], rfl, Nat.le_refl _, World.alloc_heap_new w _, Nat.le_refl _, by unfold maxLen; omega, rfl, rfl⟩⟩
  have hB0 : Below w.heap.size w (w.alloc (.cells #[.int .u8 1] 5)) := (Below.refl _ _).alloc (Nat.le_refl _) _
  have G := Lib.hid (And.intro hown0 hB0)
  clear hown0 hB0
  go_enter Tryd.func87, Tryd.ntmps87
  go_wp2_with fail
  obtain ⟨w1, hw1⟩ : ∃ w1, w1 = w.alloc (.cells #[.int .u8 1] 5) := ⟨_, rfl⟩
  rw [← hw1] at G ⊢
  have hz : w1.heap.size = w.heap.size + 1 := by rw [hw1]; simp
  have Hz := Lib.hid hz
  clear hw1 hz
  refine (word_any _ _).mono ?_
  rintro e w2 ⟨rfl, rfl⟩
  go_wp2_with (at_builtin; refine app_all rfl _ _ 100 rfl 5 i0 (.int .u8 0) 1 1 Tryd.underlying100 hi0 hz0 hz1 hz2 rfl (by decide) _ 1 _ rfl (G.out.1.alloc _) (bal G.out.2 _) ⟨w1.heap.size, 0, none⟩ 8 8 (u8V (Dig.be8 a)) rfl rfl (World.news_of_block (World.alloc_heap_new _ _)) (by simp [u8V, Dig.be8, Value.oneCell']) (by unfold maxLen; omega) (by omega) ?_)
  intro v3 w3 hown3 hB3 hoth
  clear hoth
  obtain ⟨g3, cap3, hv3⟩ := ownsRow_succ hown3
  subst hv3
  have H3 := Lib.hid (And.intro hown3 hB3)
  clear hown3 hB3
  go_wp2_with fail
  refine (word_any _ _).mono ?_
  rintro e w4 ⟨rfl, rfl⟩
  go_wp2_with (at_builtin; refine app_all rfl _ _ 100 rfl 5 i0 (.int .u8 0) 1 1 Tryd.underlying100 hi0 hz0 hz1 hz2 rfl (by decide) _ 9 _ rfl (H3.out.1.alloc _) (bal H3.out.2 _) ⟨w3.heap.size, 0, none⟩ 8 8 (u8V (Dig.be8 b)) rfl rfl (World.news_of_block (World.alloc_heap_new _ _)) (by simp [u8V, Dig.be8, Value.oneCell']) (by unfold maxLen; omega) (by omega) ?_)
  intro v5 w5 hown5 hB5 hoth
  clear hoth
  obtain ⟨g5, cap5, hv5⟩ := ownsRow_succ hown5
  subst hv5
  rw [← nodeT_split] at hown5
  have hconv := own_back (show (Mk.nodeT a b).length = 17 from rfl) hown5
  clear hown5
  go_wp2
  go_ret
  exact ⟨rfl, hB5⟩
theorem rleaf_any (s : ByteArray) (w : World) (hs : s.size ≤ 140737488355328) : Calls Tryd.prog 71 #[.string s] w fun e w' => e = .returned (.int .u64 (Mk.leafD s.data.toList).toNat) ∧ Below w.heap.size w w' := by
  go_enter Tryd.func71, Tryd.ntmps71
  go_wp2_with fail
  refine (rleafText_any _ _ hs).mono ?_
  rintro e w1 ⟨rfl, hB1⟩
  go_wp2_with fail
  refine (rsum_any _ _ (leaf_size _ hs)).mono ?_
  rintro e w' ⟨rfl, rfl⟩
  go_wp2
  go_ret
  exact ⟨rfl, hB1⟩
theorem rnode_any (a b : UInt64) (w : World) : Calls Tryd.prog 72 #[.int .u64 a.toNat, .int .u64 b.toNat] w fun e w' => e = .returned (.int .u64 (Dig.pair a b).toNat) ∧ Below w.heap.size w w' := by
  go_enter Tryd.func72, Tryd.ntmps72
  go_wp2_with fail
  refine (rnodeText_any _ _ _).mono ?_
  rintro e w1 ⟨rfl, hB1⟩
  go_wp2_with fail
  refine (rsum_any _ _ (node_size _ _)).mono ?_
  rintro e w' ⟨rfl, rfl⟩
  go_wp2
  go_ret
  exact ⟨rfl, hB1⟩
theorem wrong_any (A : Option Addr) (n c : Nat) (w : World) (e : Int) (hn : n ≤ maxLen) (he : checkE n = e) : Calls Tryd.prog 53 #[.slice A n c] w fun r w' => r = .returned (.int .i64 e) ∧ w = w' := by
  subst he
  unfold maxLen at hn
  by_cases h0 : n = 0
  · have h1 : ((n : Int) == 0) = true := by simp [h0]
    have h2 : checkE n = 1 := by unfold checkE; rw [if_pos h0]
    rw [h2]
    go_enter Tryd.func53, Tryd.ntmps53
    go_wp2
    go_ret
    exact ⟨rfl, rfl⟩
  · have h1 : ((n : Int) == 0) = false := by simp; omega
    by_cases h3 : 1024 < n
    · have h2 : checkE n = 2 := by unfold checkE; rw [if_neg h0, if_pos h3]
      rw [h2]
      go_enter Tryd.func53, Tryd.ntmps53
      go_wp2
      go_ret
      exact ⟨rfl, rfl⟩
    · have h2 : checkE n = 0 := by unfold checkE; rw [if_neg h0, if_neg h3]
      rw [h2]
      go_enter Tryd.func53, Tryd.ntmps53
      go_wp2
      go_ret
      exact ⟨rfl, rfl⟩
end Go.Proofs.YtfjkmhbipkoefaaDoor
namespace Go.Proofs.YtfjkmhbipkoefaaDoor
open Go.RowKit Go.Shelf
set_option linter.unusedVariables false
set_option maxRecDepth 100000 in
theorem rfirst_any (A : Option Addr) (c : Nat) (ss : List ByteArray) (w : World) (hA : Sl w w.heap.size 1 A ss.length (strV ss)) (hs : ∀ s ∈ ss, s.size ≤ 140737488355328) (hn : ss.length ≤ 1024) :
    Calls Tryd.prog 54 #[.slice A ss.length c] w fun e w' => ∃ v, e = .returned v ∧ w'.ownsRow w.heap.size 41 1 v ss.length (u64V (leavesD ss)) ∧ Below w.heap.size w w' := by
  obtain ⟨i0, hi0, hz0, hz1, hz2⟩ := info_parts info_digest
  have Hs := Lib.hid hs
  have HA := Lib.hid hA
  clear hs hA
  go_enter Tryd.func54, Tryd.ntmps54
  go_wp2
  go_loopw [3, 4] (fun v i wr => ∃ k : Nat, k ≤ ss.length ∧ i = .int .i64 (k : Int) ∧ wr.ownsRow w.heap.size 41 1 v k (u64V (leavesD (ss.take k))) ∧ Below w.heap.size w wr) (fun _ i _ => ss.length - (intOf i).toNat)
  case atStart => exact ⟨0, Nat.zero_le _, rfl, ⟨rfl, .inl ⟨rfl, rfl⟩⟩, Below.refl _ _⟩
  case round =>
    obtain ⟨k, hk, rfl, hown, hB⟩ := hrel
    have Hown := Lib.hid hown
    clear hown
    by_cases hlt : k < ss.length
    · obtain ⟨b, off, rfl, hb, hcell⟩ := (HA.out).2 (by omega)
      have hc : wr.cell? ⟨b, off + k, none⟩ = some (.string ss[k]) := (hB.cell (p := ⟨b, off + k, none⟩) hb).trans (hcell k _ (by simp [strV, hlt]))
      have hsz := Hs.out ss[k] (List.getElem_mem hlt)
      have hsn := leavesD_snoc ss k hlt
      obtain ⟨x, hx⟩ : ∃ x, ss[k] = x := ⟨_, rfl⟩
      rw [hx] at hc hsz hsn
      have Hsn := Lib.hid hsn
      have hlt' : (k : Int) < (ss.length : Int) := by omega
      clear hcell hx hsn
      go_wp2_with fail
      refine (rleaf_any _ _ hsz).mono ?_
      rintro e w1 ⟨rfl, hB1⟩
      have hBn := bgo hB hB1
      have Hown1 := Lib.hid (own_below Hown.out hB1)
      clear hB hB1 Hown
      go_wp2_with (at_builtin; refine app_one rfl _ _ 115 rfl 41 i0 (.int .u64 0) 1 8 Tryd.underlying115 hi0 hz0 hz1 hz2 rfl (by decide) _ k _ rfl Hown1.out hBn [.int .u64 (Mk.leafD x.data.toList).toNat] _ _ rfl rfl (by simp [Value.oneCell']) (by unfold maxLen; omega) (by omega) ?_)
      intro v' w2 hown2 hB2 hoth
      clear hoth
      have HR := Lib.hid hown2
      clear hown2
      go_wp2
      go_roundw
      case rel => exact ⟨k + 1, by omega, by go_num, by rw [Hsn.out, u64V_snoc]; exact HR.out, hB2⟩
      case measure => simp [intOf]; omega
    · obtain rfl : k = ss.length := by omega
      rw [List.take_length] at Hown
      go_wp2
      go_ret
      exact ⟨_, rfl, Hown.out, hB⟩
set_option maxRecDepth 100000 in
set_option maxHeartbeats 1000000 in
theorem rnext_any (A : Option Addr) (c : Nat) (r : List UInt64) (w : World) (hA : Sl w w.heap.size 1 A r.length (u64V r)) (hn : r.length ≤ 1024) :
    Calls Tryd.prog 55 #[.slice A r.length c] w fun e w' => ∃ v, e = .returned v ∧ w'.ownsRow w.heap.size 41 1 v (Mk.nextRow r).length (u64V (Mk.nextRow r)) ∧ Below w.heap.size w w' := by
  obtain ⟨i0, hi0, hz0, hz1, hz2⟩ := info_parts info_digest
  have HA := Lib.hid hA
  clear hA
  go_enter Tryd.func55, Tryd.ntmps55
  go_wp2
  go_loopw [3, 4] (fun v i wr => ∃ q p : Nat, p = 2 * q ∧ p ≤ r.length + 1 ∧ i = .int .i64 (p : Int) ∧ wr.ownsRow w.heap.size 41 1 v q (u64V ((Mk.nextRow r).take q)) ∧ Below w.heap.size w wr) (fun _ i _ => r.length + 2 - (intOf i).toNat)
  case atStart => exact ⟨0, 0, rfl, by omega, rfl, ⟨rfl, .inl ⟨rfl, rfl⟩⟩, Below.refl _ _⟩
  case round =>
    obtain ⟨q, p, hp, hpr, rfl, hownq, hBq⟩ := hrel
    have Hownq := Lib.hid hownq
    clear hownq
    have Hp := Lib.hid hp
    clear hp
    by_cases hlt : p < r.length
    · obtain ⟨g, off, rfl, hgl, hcell0⟩ := (HA.out).2 (by omega)
      have hcell : ∀ j, j < r.length → wr.cell? ⟨g, off + j, none⟩ = some (.int .u64 (r.getD j 0).toNat) := fun j hj => (hBq.cell (p := ⟨g, off + j, none⟩) hgl).trans (hcell0 j _ (u64V_get r j hj))
      clear hcell0
      have hi1 : (p : Int) < (r.length : Int) := by omega
      by_cases hq2 : p + 1 < r.length
      · have hc0 := hcell p (by omega)
        have hc1 := hcell (p + 1) hq2
        clear hcell
        obtain ⟨x, hx⟩ : ∃ x, x = r.getD p 0 := ⟨_, rfl⟩
        obtain ⟨y, hy1⟩ : ∃ y, y = r.getD (p + 1) 0 := ⟨_, rfl⟩
        rw [← hx] at hc0
        rw [← hy1] at hc1
        have Hx := Lib.hid hx
        have Hy := Lib.hid hy1
        clear hx hy1
        have hi2 : (p : Int) + 1 < (r.length : Int) := by omega
        go_wp2
        have hi3 : (0 : Int) ≤ (p : Int) := Int.natCast_nonneg _
        have hi4 : (0 : Int) ≤ (p : Int) + 1 := by omega
        have hgw : g < wr.heap.size := Nat.lt_of_lt_of_le hgl hBq.size
        have hne : some g ≠ Value.ownBlock u3 := fun e => by have := (Hownq.out.lt g e.symm).1; omega
        have hml : q + 1 ≤ maxLen := by have := Hp.out; unfold maxLen; omega
        have hmb : (q + 1) * 8 ≤ 140737488355328 := by have := Hp.out; omega
        have hwr : IntKind.i64.wrap ((p : Int) + 1) = (p : Int) + 1 := IntWalk.i64_in _ (by omega)
        have htn : ((p : Int) + 1).toNat = p + 1 := by omega
        go_region_held3 (fun w' => w'.cell? ⟨g, off + p, none⟩ = some (.int .u64 x.toNat) ∧ w'.cell? ⟨g, off + (p + 1), none⟩ = some (.int .u64 y.toNat))
          (go_keep)
          (first
            | (go_at_call 72; refine (rnode_any _ _ _).mono ?_; rintro e wp ⟨rfl, hbp⟩; have hp0 := (hbp.cell (p := ⟨g, off + p, none⟩) hgw).trans hc0; have hp1 := (hbp.cell (p := ⟨g, off + (p + 1), none⟩) hgw).trans hc1; have hgp := Nat.lt_of_lt_of_le hgw hbp.size)
            | (refine step_append_lies _ (by rfl) _ _ _ (by rfl) w.heap.size 41 i0 (.int .u64 0) 1 8 Tryd.underlying115 hi0 hz0 hz1 hz2 (by rfl) Nat.one_pos u3 q (u64V ((Mk.nextRow r).take q)) (by rfl) ((own_below (w := wr.drew) Hownq.out hbp).alloc _)
                ⟨wp.heap.size, 0, none⟩ 1 1 [.int .u64 (Dig.pair x y).toNat] (by rfl) (by rfl) (World.news_of_block (cs := #[.int .u64 (Dig.pair x y).toNat]) (t := 41) (fr := (0, 0)) (heap_alloc_new wp _)) (by simp [Value.oneCell'])
                Nat.one_pos hml hmb (Nat.le_trans (Nat.le_trans hBq.size hbp.size) (by simp)) (wp.heap.size + 1) (by simp) ?_; intro gg cap2 w1 hown1 hgrow hat hlt
               have hq0 : w1.cell? ⟨g, off + p, none⟩ = some (.int .u64 x.toNat) := (World.cell?_of_block (hgrow.block g (by simp; omega) hne)).trans ((World.cell?_alloc_lt wp _ ⟨g, off + p, none⟩ hgp).trans hp0)
               have hq1 : w1.cell? ⟨g, off + (p + 1), none⟩ = some (.int .u64 y.toNat) := (World.cell?_of_block (hgrow.block g (by simp; omega) hne)).trans ((World.cell?_alloc_lt wp _ ⟨g, off + (p + 1), none⟩ hgp).trans hp1)))
        clear hwr htn hq0 hq1 hp0 hp1 hc0 hc1 hi1 hi2 hi3 hi4
        have hB1 : Below w.heap.size w w1 := ((hBq.trans (below_undrew (hbp.mono hBq.size))).alloc (Nat.le_trans hBq.size hbp.size) _).grown hgrow (Nat.le_trans (Nat.le_trans hBq.size hbp.size) (by simp)) (fun k hk => (Hownq.out.lt k hk).1)
        have HO := Lib.hid hown1
        clear hown1 hgrow hat
        go_wp2
        go_roundw
        case rel => exact ⟨q + 1, p + 2, by have := Hp.out; omega, by omega, by go_num, by rw [Mk.take_pair r q (by have := Hp.out; omega), u64V_snoc, ← Hp.out, ← Hx.out, ← Hy.out]; exact HO.out, hB1⟩
        case measure => simp [intOf]; omega
      · have hcl := hcell p hlt
        have hto := Mk.take_odd r (by have := Hp.out; omega)
        have hnl := Mk.nextRow_length r
        have hq' := Hp.out
        have hqe : r.length / 2 = q := by omega
        have hpe : r.length - 1 = p := by omega
        have hfull : (Mk.nextRow r).take (q + 1) = Mk.nextRow r := List.take_of_length_le (by omega)
        rw [hqe, hpe] at hto
        obtain ⟨x, hx⟩ : ∃ x, r.getD p 0 = x := ⟨_, rfl⟩
        rw [hx] at hcl hto
        have Hto := Lib.hid (And.intro hto hfull)
        have hd2 : decide ((p : Int) + 1 < (r.length : Int)) = false := decide_eq_false (by omega)
        clear hx hto hfull hqe hpe hq' hcell hnl
        go_wp2_with (at_builtin; refine app_one rfl _ _ 115 rfl 41 i0 (.int .u64 0) 1 8 Tryd.underlying115 hi0 hz0 hz1 hz2 rfl (by decide) _ q _ rfl Hownq.out hBq [.int .u64 x.toNat] _ _ rfl rfl (by simp [Value.oneCell']) (by have := Hp.out; unfold maxLen; omega) (by have := Hp.out; omega) ?_)
        intro v' w2 hown2 hB2 hoth
        clear hoth
        have HR := Lib.hid hown2
        clear hown2
        go_wp2
        go_roundw
        case rel => exact ⟨q + 1, p + 2, by have := Hp.out; omega, by omega, by go_num, by rw [Hto.out.2, Hto.out.1, u64V_snoc]; exact HR.out, hB2⟩
        case measure => simp [intOf]; omega
    · have hnl := Mk.nextRow_length r
      have hq' := Hp.out
      have hqe : (Mk.nextRow r).length = q := by omega
      have ht : (Mk.nextRow r).take q = Mk.nextRow r := List.take_of_length_le (by omega)
      rw [ht] at Hownq
      have Hqe := Lib.hid hqe
      clear hnl hq' hqe ht
      go_wp2
      go_ret
      rw [Hqe.out]
      exact ⟨_, rfl, Hownq.out, hBq⟩
theorem rnext_at (A : Option Addr) (c n : Nat) (r : List UInt64) (w : World) (hr : r.length = n) (hA : Sl w w.heap.size 1 A n (u64V r)) (hn : n ≤ 1024) :
    Calls Tryd.prog 55 #[.slice A n c] w fun e w' => ∃ v, e = .returned v ∧ w'.ownsRow w.heap.size 41 1 v (Mk.nextRow r).length (u64V (Mk.nextRow r)) ∧ Below w.heap.size w w' := by
  subst hr
  exact rnext_any A c r w hA hn
set_option maxRecDepth 100000 in
set_option maxHeartbeats 1000000 in
theorem rroot_any (A : Option Addr) (c : Nat) (ss : List ByteArray) (w : World) (hA : Sl w w.heap.size 1 A ss.length (strV ss)) (hs : ∀ s ∈ ss, s.size ≤ 140737488355328) (hl : ss.length ≤ maxLen) :
    Calls Tryd.prog 32 #[.slice A ss.length c] w fun e w' => e = .returned (.tuple #[.int .u64 (rootV ss).toNat, .int .i64 (checkE ss.length)]) ∧ Below w.heap.size w w' := by
  by_cases hok : checkE ss.length = 0
  · have h1 : 1 ≤ ss.length ∧ ss.length ≤ 1024 := by
      unfold checkE at hok
      split at hok
      · cases hok
      · split at hok
        · cases hok
        · omega
    obtain ⟨h1, h2⟩ := h1
    have hroot : rootV ss = Mk.rootF 10 (leavesD ss) := rootV_ok ss h1 h2
    obtain ⟨r, hr⟩ : ∃ r, rootV ss = r := ⟨_, rfl⟩
    rw [hr] at hroot ⊢
    have Hr := Lib.hid hroot
    have Hok := Lib.hid hok
    have HA := Lib.hid hA
    have Hs := Lib.hid hs
    rw [hok]
    clear hok hr hroot hA hs
    go_enter Tryd.func32, Tryd.ntmps32
    go_wp2_with fail
    refine (wrong_any _ _ _ _ 0 hl Hok.out).mono ?_
    rintro e w' ⟨rfl, rfl⟩
    go_wp2_with fail
    refine (rfirst_any _ _ _ _ HA.out Hs.out h2).mono ?_
    rintro e w1 ⟨v, rfl, hown1, hB1⟩
    have HO := Lib.hid hown1
    clear hown1
    go_wp2
    go_loopw [5] (fun v wx => ∃ (k n : Nat) (A : Option Addr) (c : Nat), v = .slice A n c ∧ (Mk.rowN (leavesD ss) k).length = n ∧ 1 ≤ n ∧ n ≤ 1024 ∧ (∀ j, j < k → 1 < (Mk.rowN (leavesD ss) j).length) ∧ Sl wx wx.heap.size 1 A n (u64V (Mk.rowN (leavesD ss) k)) ∧ Below w.heap.size w wx) (fun v _ => sliceLen v)
    case atStart =>
      obtain ⟨A1, c1, hv, hS⟩ := own_slice HO.out
      exact ⟨0, ss.length, A1, c1, hv, leavesD_len ss, h1, h2, fun j hj => absurd hj (Nat.not_lt_zero j), hS, hB1⟩
    case round =>
      clear HO hB1
      obtain ⟨k, n, A1, c1, rfl, hkn, hn1, hn2, hj, hS, hB⟩ := hrel
      obtain ⟨R, hR⟩ : ∃ R, Mk.rowN (leavesD ss) k = R := ⟨_, rfl⟩
      rw [hR] at hkn hS
      have HS := Lib.hid hS
      have HJ := Lib.hid hj
      have HR := Lib.hid hR
      have Hkn := Lib.hid hkn
      clear hS hj hR hkn
      by_cases hgt : 1 < n
      · have hgt' : (1 : Int) < (n : Int) := by omega
        go_wp2_with fail
        refine (rnext_at _ _ n R _ Hkn.out HS.out hn2).mono ?_
        rintro e w2 ⟨v, rfl, hown2, hB2⟩
        have hB2' := bgo hB hB2
        have HO := Lib.hid hown2
        clear hown2 hB hB2
        go_wp2
        go_roundw
        case rel =>
          obtain ⟨A2, c2, hv, hS2⟩ := own_slice HO.out
          have hrow : Mk.rowN (leavesD ss) (k + 1) = Mk.nextRow R := by rw [Mk.rowN, HR.out]
          have hnl := Mk.nextRow_length R
          have hk' := Hkn.out
          refine ⟨k + 1, (Mk.nextRow R).length, A2, c2, hv, by rw [hrow], by omega, by omega, ?_, by rw [hrow]; exact hS2, hB2'⟩
          intro j hj
          rcases Nat.lt_succ_iff_lt_or_eq.1 hj with h | h
          · exact HJ.out j h
          · rw [h, HR.out, Hkn.out]; exact hgt
        case measure =>
          rw [own_len HO.out, Mk.nextRow_length, Hkn.out]
          show (n + 1) / 2 < n
          omega
      · have hgt' : decide ((1 : Int) < (n : Int)) = false := decide_eq_false (by omega)
        obtain ⟨b, off, rfl, hb, hcell⟩ := (HS.out).2 (by omega)
        have hc := hcell 0 _ (u64V_get R 0 (by have := Hkn.out; omega))
        rw [Nat.add_zero] at hc
        have hk10 : k ≤ 10 := rows_bound _ (by rw [leavesD_len]; exact h2) k HJ.out
        have hroot := Mk.root_row k 10 (leavesD ss) hk10 (by rw [HR.out, Hkn.out]; omega) HJ.out
        rw [HR.out, ← Hr.out] at hroot
        rw [← hroot] at hc
        have hn0 : (0 : Int) < (n : Int) := by omega
        clear hcell hroot
        go_wp2
        go_ret2
        exact ⟨rfl, hB⟩
  · have h0 : rootV ss = 0 := by unfold rootV; rw [if_neg hok]
    rw [h0]
    obtain ⟨e, he⟩ : ∃ e, checkE ss.length = e := ⟨_, rfl⟩
    rw [he] at hok ⊢
    have hne : (e != 0) = true := by simpa using hok
    have He := Lib.hid he
    clear hok h0 he
    go_enter Tryd.func32, Tryd.ntmps32
    go_wp2_with fail
    refine (wrong_any _ _ _ _ e hl He.out).mono ?_
    rintro e w' ⟨rfl, rfl⟩
    go_wp2_with fail
    go_ret2
    exact ⟨rfl, Below.refl _ _⟩
end Go.Proofs.YtfjkmhbipkoefaaDoor
