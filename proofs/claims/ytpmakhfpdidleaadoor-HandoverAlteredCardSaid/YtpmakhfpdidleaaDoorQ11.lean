/- The walks of package onetime: leaves, valid, Key. The plain laws of layer 24: what the functions compute answers as the statements say. The walks of package onetime: valid, Key. The walk of onetime.digitsOf. The walk of onetime.Verify. -/
import Derived.Test.YtpmakhfpdidleaaDoorQ10
import Derived.Test.YtpmakhfpdidleaaDoorQ05
import Derived.Deep.Cut
import Derived.Deep.DeepCutAuto
namespace Go.Proofs.YtpmakhfpdidleaaDoor
open Go.RowKit Go.Shelf
set_option linter.unusedVariables false
def OTabs (w : World) : Prop := Tab w ∧ PTab w
theorem OTabs.go {w w' : World} (h : OTabs w) (hb : Below w.heap.size w w') : OTabs w' := ⟨h.1.below hb, h.2.go hb⟩
def leavesB (seed : ByteArray) (n : Nat) : List ByteArray := (On.leaves seed.data.toList n).map bytesOf
theorem leavesB_len (seed : ByteArray) (n : Nat) : (leavesB seed n).length = n := by rw [leavesB, List.length_map, On.leaves_len]
theorem leavesB_snoc (seed : ByteArray) (n : Nat) : strV (leavesB seed (n + 1)) = strV (leavesB seed n) ++ [.string (bytesOf (On.leaf seed.data.toList (n : Nat)))] := by
  simp [leavesB, On.leaves, strV]
set_option maxRecDepth 100000 in
set_option maxHeartbeats 4000000 in
theorem leaves_any (seed : ByteArray) (h n : Nat) (hh : h ≤ 8) (hn : 2 ^ h = n) (hs : seed.size ≤ 100) (w : World) (hT : OTabs w) :
    Calls Tryd.prog 47 #[.string seed, .int .i64 (h : Int)] w fun e w' => ∃ v, e = .returned v ∧ w'.ownsRow w.heap.size 9 1 v n (strV (leavesB seed n)) ∧ Below w.heap.size w w' := by
  obtain ⟨i0, hi0, hz0, hz1, hz2⟩ := info_parts info_string
  have hn256 : n ≤ 256 := by
    rw [← hn]
    exact Nat.pow_le_pow_right (by omega) hh
  have hw : wrap64 (2 ^ h) = (n : Int) := by
    have e : (2 : Int) ^ h = (n : Int) := by rw [← hn, Int.natCast_pow]; rfl
    rw [e, IntWalk.wrap64_in _ (by omega)]
  have Hn := Lib.hid hn
  clear hn
  go_enter Tryd.func47, Tryd.ntmps47
  go_wp2
  rw [hw]
  clear hw
  go_loopw [5, 11] (fun v i wr => ∃ k : Nat, k ≤ n ∧ i = .int .i64 k ∧ wr.ownsRow w.heap.size 9 1 v k (strV (leavesB seed k)) ∧ Below w.heap.size w wr) (fun _ i _ => n - (intOf i).toNat)
  case atStart => exact ⟨0, Nat.zero_le _, rfl, ⟨rfl, .inl ⟨rfl, rfl⟩⟩, Below.refl _ _⟩
  case round =>
    obtain ⟨W0, hW0⟩ : ∃ W0, W0 = wr := ⟨_, rfl⟩
    subst hW0
    obtain ⟨k, hk, rfl, hown, hB⟩ := hrel
    have Hown := Lib.hid hown
    have hT1 := hT.go hB
    clear hown
    by_cases hlt : k < n
    · have hlt' : (k : Int) < (n : Int) := by omega
      go_wp2
      go_loopw [14] (fun i wx => ∃ j : Nat, j ≤ 18 ∧ i = .int .i64 j ∧ Bld W0.heap.size (On.leafTo seed.data.toList (k : Nat) j) wx ∧ Below W0.heap.size W0 wx) (fun i _ => 18 - (intOf i).toNat)
      case atStart => exact ⟨0, by omega, rfl, Bld.new W0, (Below.refl _ _).alloc (Nat.le_refl _) _⟩
      case round =>
        obtain ⟨j, hj, rfl, hb, hBx⟩ := hrel
        have hT2 := hT1.go hBx
        by_cases hj18 : j < 18
        · have hj' : (j : Int) < 18 := by omega
          have Hb := Lib.hid hb
          clear hb
          go_wp2_with fail
          refine (secret_any seed (k : Int) (j : Int) _ hT2.2 hs (by omega) (by omega)).mono ?_
          rintro e w1 ⟨rfl, hB1⟩
          obtain ⟨x, hx⟩ : ∃ x, On.secret seed.data.toList (k : Int) (j : Int) = x := ⟨_, rfl⟩
          rw [hx]
          have hT3 := hT2.go hB1
          have Hx := Lib.hid hx
          clear hx
          go_wp2_with fail
          refine (walk_any x 15 (by omega) _ hT3.1).mono ?_
          rintro e w2 ⟨rfl, hB2⟩
          obtain ⟨y, hy⟩ : ∃ y, On.steps 15 x = y := ⟨_, rfl⟩
          rw [hy]
          have hT4 := hT3.go hB2
          have Hy := Lib.hid hy
          clear hy
          go_wp2_with fail
          refine (text_b y _ hT4.1).mono ?_
          rintro e w3 ⟨rfl, hB3⟩
          have hB13 := bgo (bgo hB1 hB2) hB3
          go_wp2_with fail
          refine (bwrite W0.heap.size _ (Dig.text y) _ (Lib.hid rfl) _ (Hb.out.go hB13) (by rw [On.leafTo_len, On.text_len]; omega)).mono ?_
          rintro e w4 ⟨⟨v4, rfl⟩, hb4, hB4⟩
          have hB5 : Below W0.heap.size W0 w4 := (hBx.trans (hB13.mono hBx.size)).trans hB4
          have Hb4 := Lib.hid hb4
          clear hb4 hB1 hB2 hB3 hB4 hB13 hT3 hT4
          go_wp2
          go_roundw
          case rel =>
            refine ⟨j + 1, by omega, by go_num, ?_, hB5⟩
            have := Hb4.out
            rw [← Hy.out, ← Hx.out] at this
            exact this
          case measure => simp [intOf]; omega
        · have hE : j = 18 := by omega
          subst hE
          have Hb := Lib.hid hb
          clear hb
          go_wp2_with fail
          refine (bstring W0.heap.size _ (bytesOf (On.leaf seed.data.toList (k : Nat))) (Lib.hid rfl) _ Hb.out).mono ?_
          rintro e w1 ⟨rfl, hB1⟩
          have hB2 : Below W0.heap.size W0 w1 := hBx.trans hB1
          have Hown2 := Lib.hid (own_below Hown.out hB2)
          obtain ⟨t, htt⟩ : ∃ t, bytesOf (On.leaf seed.data.toList (k : Nat)) = t := ⟨_, rfl⟩
          rw [htt]
          have Htt := Lib.hid htt
          clear htt Hown
          have hB3 : Below w.heap.size w w1 := hB.trans (hB2.mono hB.size)
          go_wp2_with (at_builtin; refine wpList_append_own _ rfl _ _ 53 rfl w.heap.size 9 i0 (.string ⟨#[]⟩) 1 16 Tryd.underlying53 hi0 hz0 hz1 hz2 rfl (by decide) _ _ _ rfl (Hown2.out.alloc _) ⟨w1.heap.size, 0, none⟩ 1 1 [.string t] rfl rfl ?c1 ?c2 ?c3 ?c4 ?c5 ?_)
          case c1 => exact cell_one_new _ _ _
          case c2 => simp [Value.oneCell']
          case c3 => simp [maxLen]; omega
          case c4 => omega
          case c5 => have := hB3.size; simp; omega
          intro v' w2 hown1 hg1 _
          have hB4 : Below w.heap.size w w2 := (hB3.alloc hB3.size _).grown hg1 (by have := hB3.size; simp; omega) (fun k hk => (Hown2.out.lt k hk).1)
          have HR := Lib.hid hown1
          clear hown1 hg1
          go_wp2
          go_roundw
          case rel =>
            refine ⟨k + 1, by omega, by go_num, ?_, hB4⟩
            rw [leavesB_snoc, Htt.out]
            exact HR.out
          case measure => simp [intOf]; omega
    · have hE : k = n := by omega
      subst hE
      go_wp2
      go_ret
      exact ⟨_, rfl, Hown.out, hB⟩
end Go.Proofs.YtpmakhfpdidleaaDoor
namespace Go.Mk
open Go.Dig
theorem rootF_one (f : Nat) (l : List UInt64) (h : l.length ≤ 1) : rootF f l = l.getD 0 0 := by
  cases f with
  | zero => rfl
  | succ f => simp only [rootF]; rw [if_pos h]
theorem nextRow_one (l : List UInt64) (h : l.length ≤ 1) : nextRow l = l := by
  match l, h with
  | [], _ => rfl
  | [a], _ => rfl
theorem nextRow_append : ∀ (l m : List UInt64), l.length % 2 = 0 → nextRow (l ++ m) = nextRow l ++ nextRow m
  | [], m, _ => rfl
  | [a], m, h => by simp at h
  | a :: b :: r, m, h => by
    simp only [List.cons_append, nextRow]
    rw [nextRow_append r m (by simp at h; omega)]
theorem rootF_next (f : Nat) (l : List UInt64) (h : 1 < l.length) : rootF (f + 1) l = rootF f (nextRow l) := by
  simp only [rootF]; rw [if_neg (by omega)]
theorem halves : ∀ (j f g h : Nat) (l m : List UInt64), l.length = 2 ^ j → 1 ≤ m.length → m.length ≤ 2 ^ j → j + 1 ≤ f → j ≤ g → j ≤ h → rootF f (l ++ m) = pair (rootF g l) (rootF h m)
  | 0, f, g, h, l, m, hl, h1, h2, hf, hg, hh => by
    match l, m, hl, h1, h2 with
    | [a], [b], _, _, _ =>
      obtain ⟨f', rfl⟩ : ∃ f', f = f' + 1 := ⟨f - 1, by omega⟩
      rw [rootF_one g [a] (by simp), rootF_one h [b] (by simp)]
      simp only [List.cons_append, List.nil_append]
      rw [rootF_next _ _ (by simp), rootF_one _ _ (by simp [nextRow])]
      simp [nextRow]
  | j + 1, f, g, h, l, m, hl, h1, h2, hf, hg, hh => by
    obtain ⟨f', rfl⟩ : ∃ f', f = f' + 1 := ⟨f - 1, by omega⟩
    obtain ⟨g', rfl⟩ : ∃ g', g = g' + 1 := ⟨g - 1, by omega⟩
    obtain ⟨h', rfl⟩ : ∃ h', h = h' + 1 := ⟨h - 1, by omega⟩
    have hp : 2 ^ (j + 1) = 2 * 2 ^ j := by rw [Nat.pow_succ]; omega
    have hp1 : 1 ≤ 2 ^ j := Nat.one_le_two_pow
    rw [rootF_next _ _ (by simp; omega), nextRow_append _ _ (by omega), rootF_next g' l (by omega)]
    have hm : rootF (h' + 1) m = rootF h' (nextRow m) := by
      by_cases h3 : m.length ≤ 1
      · rw [nextRow_one m h3, rootF_one _ _ h3, rootF_one _ _ h3]
      · exact rootF_next h' m (by omega)
    rw [hm]
    exact halves j f' g' h' _ _ (by rw [nextRow_length]; omega) (by rw [nextRow_length]; omega) (by rw [nextRow_length]; omega) (by omega) (by omega) (by omega)
theorem path_change : ∀ (f : Nat) (l m : List UInt64) (i : Nat), l.length = m.length → (∀ j, j ≠ i → l.getD j 0 = m.getD j 0) → pathF f l i = pathF f m i
  | 0, _, _, _, _, _ => rfl
  | f + 1, l, m, i, hl, h => by
    simp only [pathF]
    rw [hl]
    by_cases h1 : m.length ≤ 1
    · rw [if_pos h1, if_pos h1]
    · rw [if_neg h1, if_neg h1]
      have e : stepOf l i = stepOf m i := by
        unfold stepOf
        rw [hl, h (i + 1) (by omega)]
        by_cases h2 : i % 2 = 1
        · rw [if_pos h2, if_pos h2, h (i - 1) (by omega)]
        · rw [if_neg h2, if_neg h2]
      rw [e]
      congr 1
      refine path_change f _ _ (i / 2) (by rw [nextRow_length, nextRow_length, hl]) ?_
      intro j hj
      rw [nextRow_get, nextRow_get, hl, h (2 * j) (by omega), h (2 * j + 1) (by omega)]
theorem be8_inj (a b : UInt64) (h : be8 a = be8 b) : a = b := by
  unfold be8 at h
  injection h with h7 h; injection h with h6 h; injection h with h5 h; injection h with h4 h; injection h with h3 h; injection h with h2 h; injection h with h1 h; injection h with h0 h
  refine byte_ext b a fun i hi => ?_
  rcases lt8 i hi with rfl | rfl | rfl | rfl | rfl | rfl | rfl | rfl <;> assumption
theorem nodeT_inj (a b c d : UInt64) (h : nodeT a b = nodeT c d) : a = c ∧ b = d := by
  unfold nodeT at h
  injection h with _ h
  have := List.append_inj h (by rfl)
  exact ⟨be8_inj _ _ this.1, be8_inj _ _ this.2⟩
theorem upT_inj (d e : UInt64) (x y : UInt64 × Bool) (hs : x.2 = y.2) (h : upT d x = upT e y) : d = e ∧ x = y := by
  unfold upT at h
  rw [hs] at h
  cases hy : y.2 with
  | true =>
    rw [hy] at h hs
    have := nodeT_inj _ _ _ _ h
    exact ⟨this.2, Prod.ext this.1 (hs.trans hy.symm)⟩
  | false =>
    rw [hy] at h hs
    have := nodeT_inj _ _ _ _ h
    exact ⟨this.1, Prod.ext this.2 (hs.trans hy.symm)⟩
end Go.Mk
namespace Go.Proofs.YtpmakhfpdidleaaDoor
open Go.RowKit
theorem leavesD_len (ss : List ByteArray) : (leavesD ss).length = ss.length := by simp [leavesD]
theorem checkE_ok (n : Nat) (h1 : 1 ≤ n) (h2 : n ≤ 1024) : checkE n = 0 := by unfold checkE; rw [if_neg (by omega), if_neg (by omega)]
theorem pathE_ok (n i : Nat) (h2 : n ≤ 1024) (hi : i < n) : pathE n (i : Int) = 0 := by
  unfold pathE; rw [if_pos (checkE_ok n (by omega) h2), if_pos (by omega)]
theorem pathL_ok (ss : List ByteArray) (i : Nat) (h2 : ss.length ≤ 1024) (hi : i < ss.length) : pathL ss (i : Int) = Mk.pathF 10 (leavesD ss) i := by
  unfold pathL; rw [if_pos (pathE_ok _ i h2 hi)]; rfl
theorem rootV_ok (ss : List ByteArray) (h1 : 1 ≤ ss.length) (h2 : ss.length ≤ 1024) : rootV ss = Mk.rootF 10 (leavesD ss) := by
  unfold rootV; rw [if_pos (checkE_ok _ h1 h2)]
theorem sidesOk_ok (n i : Nat) (h2 : n ≤ 1024) (hi : i < n) : sidesOk (n : Int) (i : Int) := ⟨by omega, by omega⟩
theorem path_map (ss : List ByteArray) (i : Nat) (h2 : ss.length ≤ 1024) (hi : i < ss.length) : (pathL ss (i : Int)).map (·.2) = sidesL (ss.length : Int) (i : Int) := by
  rw [pathL_ok ss i h2 hi, Mk.path_sides, leavesD_len]
  unfold sidesL
  rw [if_pos (sidesOk_ok _ i h2 hi)]
  rfl
theorem paths_proper (ss : List ByteArray) (i : Nat) (h2 : ss.length ≤ 1024) (hi : i < ss.length) : properB (ss.length : Int) (i : Int) (pathL ss (i : Int)) = true :=
  decide_eq_true ⟨sidesOk_ok _ i h2 hi, (path_map ss i h2 hi).symm⟩
theorem leavesD_get (ss : List ByteArray) (i : Nat) (hi : i < ss.length) : (leavesD ss).getD i 0 = Mk.leafD ss[i].data.toList := by
  rw [Mk.getD_get _ _ (by rw [leavesD_len]; exact hi)]; simp [leavesD]
theorem paths_verify (ss : List ByteArray) (i : Nat) (h2 : ss.length ≤ 1024) (hi : i < ss.length) : verifyB (rootV ss) (ss.length : Int) (i : Int) ss[i] (pathL ss (i : Int)) = true := by
  unfold verifyB
  rw [paths_proper ss i h2 hi, Bool.true_and, beq_iff_eq, ← leavesD_get ss i hi, pathL_ok ss i h2 hi, rootV_ok ss (by omega) h2]
  exact Mk.climb_path 10 _ i (by rw [leavesD_len]; exact hi) (by rw [leavesD_len]; omega)
theorem paths_one (ss : List ByteArray) (i : Nat) (h : ss.length ≤ 1) (hi : i < ss.length) : pathL ss (i : Int) = [] := by
  rw [pathL_ok ss i (by omega) hi]
  simp only [Mk.pathF]
  rw [if_pos (by rw [leavesD_len]; exact h)]
theorem pathL_len (ss : List ByteArray) (i : Nat) (h2 : ss.length ≤ 1024) (hi : i < ss.length) : (pathL ss (i : Int)).length ≤ 10 := proper_len (paths_proper ss i h2 hi)
/-- A path whose sides are not those of the index is not accepted. -/
theorem verify_no (root : UInt64) (n i : Int) (s : ByteArray) (p : Forks) (h : ¬ (sidesOk n i ∧ sidesL n i = p.map (·.2))) : verifyB root n i s p = false := by
  unfold verifyB properB
  rw [decide_eq_false h]; rfl
theorem collF_some : ∀ (xs ys : List ByteArray) (x y : ByteArray), collF xs ys = some (x, y) → x ≠ y ∧ Dig.sum x.data.toList = Dig.sum y.data.toList
  | [], ys, x, y, h => by cases ys <;> cases h
  | a :: xs, [], x, y, h => by cases h
  | a :: xs, b :: ys, x, y, h => by
    simp only [collF] at h
    by_cases h1 : a = b
    · rw [if_pos h1] at h; exact collF_some xs ys x y h
    · rw [if_neg h1] at h
      by_cases h2 : Dig.sum a.data.toList = Dig.sum b.data.toList
      · rw [if_pos h2] at h; cases h; exact ⟨h1, h2⟩
      · rw [if_neg h2] at h; exact collF_some xs ys x y h
theorem collF_same : ∀ xs : List ByteArray, collF xs xs = none
  | [] => rfl
  | a :: xs => by simp only [collF]; rw [if_pos trivial]; exact collF_same xs
theorem bytesOf_data (t : List UInt8) : (bytesOf t).data.toList = t := rfl
theorem bytesOf_inj (s t : List UInt8) (h : bytesOf s = bytesOf t) : s = t := by
  have := congrArg (fun b : ByteArray => b.data.toList) h
  simpa [bytesOf] using this
theorem bind_climb (p : Forks) : ∀ (q : Forks) (s t : List UInt8), p.map (·.2) = q.map (·.2) → Mk.climbD (Dig.sum s) p = Mk.climbD (Dig.sum t) q → (s ≠ t ∨ p ≠ q) →
    (collF (bytesOf s :: (Mk.climbT (Dig.sum s) p).map bytesOf) (bytesOf t :: (Mk.climbT (Dig.sum t) q).map bytesOf)).isSome = true := by
  induction p with
  | nil =>
    intro q s t hm hd hne
    cases q with
    | cons y q => simp at hm
    | nil =>
      have h1 : s ≠ t := by
        rcases hne with h | h
        · exact h
        · exact absurd rfl h
      rw [collF, if_neg (fun e => h1 (bytesOf_inj _ _ e)), if_pos (by rw [bytesOf_data, bytesOf_data]; exact hd)]
      rfl
  | cons x p ih0 =>
    intro q s t hm hd hne
    cases q with
    | nil => simp at hm
    | cons y q =>
      simp only [List.map_cons, List.cons.injEq] at hm
      obtain ⟨hs, hm⟩ := hm
      have hd' : Mk.climbD (Dig.sum (Mk.upT (Dig.sum s) x)) p = Mk.climbD (Dig.sum (Mk.upT (Dig.sum t) y)) q := by
        rw [Mk.sum_upT, Mk.sum_upT]; exact hd
      have ih := ih0 q (Mk.upT (Dig.sum s) x) (Mk.upT (Dig.sum t) y) hm hd'
      rw [Mk.sum_upT, Mk.sum_upT] at ih
      rw [Mk.climbT, Mk.climbT, List.map_cons, List.map_cons, collF]
      by_cases h1 : s = t
      · subst h1
        rw [if_pos rfl]
        refine ih ?_
        by_cases h2 : x = y
        · right
          rintro rfl
          rcases hne with h | h
          · exact h rfl
          · exact h (by rw [h2])
        · left
          exact fun e => h2 (Mk.upT_inj _ _ _ _ hs e).2
      · rw [if_neg (fun e => h1 (bytesOf_inj _ _ e))]
        by_cases h2 : Dig.sum s = Dig.sum t
        · rw [if_pos (by rw [bytesOf_data, bytesOf_data]; exact h2)]; rfl
        · rw [if_neg (by rw [bytesOf_data, bytesOf_data]; exact h2)]
          exact ih (.inl fun e => h2 (Mk.upT_inj _ _ _ _ hs e).1)
theorem proper_sides {n i : Int} {p : Forks} (h : properB n i p = true) : sidesL n i = p.map (·.2) := (of_decide_eq_true h).2
theorem binding (root : UInt64) (n i : Int) (a : ByteArray) (p : Forks) (b : ByteArray) (q : Forks) (h1 : verifyB root n i a p = true) (h2 : verifyB root n i b q = true) :
    (collO n i a p b q).isSome = (decide (a ≠ b) || !decide (p = q)) := by
  unfold verifyB at h1 h2
  rw [Bool.and_eq_true, beq_iff_eq] at h1 h2
  have hd := h1.2.trans h2.2.symm
  unfold collO
  rw [if_pos ⟨h1.1, h2.1, hd⟩]
  by_cases h : a = b ∧ p = q
  · obtain ⟨rfl, rfl⟩ := h
    rw [collF_same]; simp
  · have hr : (decide (a ≠ b) || !decide (p = q)) = true := by
      by_cases ha : a = b
      · have hp : ¬ p = q := fun e => h ⟨ha, e⟩
        simp [hp]
      · simp [ha]
    rw [hr]
    refine bind_climb p q (0 :: a.data.toList) (0 :: b.data.toList) ((proper_sides h1.1).symm.trans (proper_sides h2.1)) hd ?_
    by_cases ha : a = b
    · exact .inr fun e => h ⟨ha, e⟩
    · exact .inl fun e => ha (bytes_inj (List.cons.inj e).2)
theorem coll_some (n i : Int) (a : ByteArray) (p : Forks) (b : ByteArray) (q : Forks) (x y : ByteArray) (h : collO n i a p b q = some (x, y)) : x ≠ y ∧ Dig.sum x.data.toList = Dig.sum y.data.toList := by
  unfold collO at h
  split at h
  · exact collF_some _ _ _ _ h
  · cases h
theorem halves_root (ss : List ByteArray) (j : Nat) (hj : j ≤ 5) (h1 : 2 ^ j < ss.length) (h2 : ss.length ≤ 2 * 2 ^ j) : rootV ss = Dig.pair (rootV (ss.take (2 ^ j))) (rootV (ss.drop (2 ^ j))) := by
  have hp : 2 ^ j ≤ 2 ^ 5 := Nat.pow_le_pow_right (by omega) hj
  have hp1 : 1 ≤ 2 ^ j := Nat.one_le_two_pow
  have h32 : 2 ^ 5 = 32 := rfl
  rw [rootV_ok ss (by omega) (by omega), rootV_ok (ss.take _) (by rw [List.length_take]; omega) (by rw [List.length_take]; omega), rootV_ok (ss.drop _) (by rw [List.length_drop]; omega) (by rw [List.length_drop]; omega)]
  have e : leavesD ss = leavesD (ss.take (2 ^ j)) ++ leavesD (ss.drop (2 ^ j)) := by
    unfold leavesD; rw [← List.map_append, List.take_append_drop]
  rw [e]
  exact Mk.halves j 10 10 10 _ _ (by rw [leavesD_len, List.length_take]; omega) (by rw [leavesD_len, List.length_drop]; omega) (by rw [leavesD_len, List.length_drop]; omega) (by omega) (by omega) (by omega)
theorem change_path (ss : List ByteArray) (i : Nat) (x : ByteArray) (h2 : ss.length ≤ 1024) (hi : i < ss.length) : pathL (ss.set i x) (i : Int) = pathL ss (i : Int) := by
  rw [pathL_ok ss i h2 hi, pathL_ok (ss.set i x) i (by rw [List.length_set]; exact h2) (by rw [List.length_set]; exact hi)]
  refine Mk.path_change 10 _ _ i (by rw [leavesD_len, leavesD_len, List.length_set]) ?_
  intro j hj
  simp only [leavesD, List.map_set]
  rw [List.getD_eq_getElem?_getD, List.getD_eq_getElem?_getD, List.getElem?_set_ne (by omega)]
theorem change_verify (ss : List ByteArray) (i : Nat) (x : ByteArray) (h2 : ss.length ≤ 1024) (hi : i < ss.length) : verifyB (rootV (ss.set i x)) (ss.length : Int) (i : Int) x (pathL ss (i : Int)) = true := by
  have h := paths_verify (ss.set i x) i (by rw [List.length_set]; exact h2) (by rw [List.length_set]; exact hi)
  rw [change_path ss i x h2 hi, List.getElem_set_self] at h
  have e : (ss.set i x).length = ss.length := List.length_set
  rw [e] at h
  exact h
theorem lengths : ∀ n : Fin 65, ∀ i : Fin 64, i.val < n.val → ∀ k : Fin 7, n.val ≤ 2 ^ k.val → (k.val = 0 ∨ 2 ^ (k.val - 1) < n.val) → (Mk.sidesF 10 n.val i.val).length ≤ k.val ∧ (2 ^ k.val = n.val → (Mk.sidesF 10 n.val i.val).length = k.val) := by decide +kernel
end Go.Proofs.YtpmakhfpdidleaaDoor
namespace Go.Proofs.YtpmakhfpdidleaaDoor
open Go.RowKit Go.Shelf
set_option linter.unusedVariables false
def okB (seed : ByteArray) (h : Int) : Bool := decide (seed.size ≤ 64 ∧ 0 ≤ h ∧ h ≤ 8)
theorem valid_any (seed : ByteArray) (h : Int) (w : World) (hs : seed.size ≤ maxLen) : Calls Tryd.prog 42 #[.string seed, .int .i64 h] w fun e w' => e = .returned (.bool (okB seed h)) ∧ w = w' := by
  unfold maxLen at hs
  by_cases h1 : seed.size ≤ 64
  · have h1' : (seed.size : Int) ≤ 64 := by omega
    by_cases h2 : 0 ≤ h
    · by_cases h3 : h ≤ 8
      · have e : okB seed h = true := decide_eq_true ⟨h1, h2, h3⟩
        rw [e]
        clear e
        go_enter Tryd.func42, Tryd.ntmps42
        go_wp2
        go_ret
        exact ⟨rfl, rfl⟩
      · have e : okB seed h = false := decide_eq_false (fun k => h3 k.2.2)
        rw [e]
        clear e
        go_enter Tryd.func42, Tryd.ntmps42
        go_wp2
        go_ret
        exact ⟨rfl, rfl⟩
    · have e : okB seed h = false := decide_eq_false (fun k => h2 k.2.1)
      rw [e]
      clear e
      go_enter Tryd.func42, Tryd.ntmps42
      go_wp2
      go_ret
      exact ⟨rfl, rfl⟩
  · have e : okB seed h = false := decide_eq_false (fun k => h1 k.1)
    rw [e]
    clear e
    have h1' : ¬ ((seed.size : Int) ≤ 64) := by omega
    go_enter Tryd.func42, Tryd.ntmps42
    go_wp2
    go_ret
    exact ⟨rfl, rfl⟩
theorem okB_out {seed : ByteArray} {h : Int} (k : okB seed h = true) : seed.size ≤ 64 ∧ 0 ≤ h ∧ h ≤ 8 := of_decide_eq_true k
def keyD (seed : ByteArray) (h : Int) : UInt64 := if okB seed h then rootV (leavesB seed (2 ^ h.toNat)) else 0
def keyE (seed : ByteArray) (h : Int) : Int := if okB seed h then 0 else 1
theorem bytesOf_size (l : List UInt8) : (bytesOf l).size = l.length := by simp [bytesOf, ByteArray.size]
theorem leaf_mem (seed : List UInt8) (n : Nat) : ∀ l ∈ On.leaves seed n, l.length = 288 := by
  induction n with
  | zero => intro l hl; cases hl
  | succ n ih =>
    intro l hl
    rw [On.leaves, List.mem_append] at hl
    rcases hl with h | h
    · exact ih l h
    · rw [List.mem_singleton] at h
      rw [h, On.leaf_len]
theorem leavesB_size (seed : ByteArray) (n : Nat) : ∀ s ∈ leavesB seed n, s.size ≤ 140737488355328 := by
  intro s hs
  obtain ⟨l, hl, rfl⟩ := List.mem_map.1 hs
  rw [bytesOf_size, leaf_mem _ _ l hl]
  omega
theorem pow_le (h : Int) (h1 : h ≤ 8) : 2 ^ h.toNat ≤ 256 := Nat.pow_le_pow_right (n := 2) (by omega) (show h.toNat ≤ 8 by omega)
end Go.Proofs.YtpmakhfpdidleaaDoor
namespace Go.Proofs.YtpmakhfpdidleaaDoor
open Go.RowKit Go.Shelf
set_option linter.unusedVariables false
theorem wrap_mod16 (x : Int) : wrap64 x % 16 = x % 16 := by unfold wrap64; omega
theorem digit_at (d : UInt64) (k : Nat) : wrap64 ((d.toNat : Int) / 2 ^ (60 - 4 * k)) % 16 = (On.digit d k : Int) := by
  rw [wrap_mod16, On.digit, Int.natCast_emod, Int.natCast_ediv, Int.natCast_pow]
  rfl
def digL (d : UInt64) (k : Nat) : List Value := ((List.range k).map fun j => Value.int .i64 (On.digit d j : Int)) ++ List.replicate (18 - k) (.int .i64 0)
theorem digL_len (d : UInt64) (k : Nat) (h : k ≤ 18) : (digL d k).length = 18 := by simp [digL]; omega
theorem digL_get (d : UInt64) (k j : Nat) (h : k ≤ 18) : (digL d k)[j]? = if j < k then some (.int .i64 (On.digit d j : Int)) else if j < 18 then some (.int .i64 0) else none := by
  unfold digL
  by_cases hj : j < k
  · rw [if_pos hj, List.getElem?_append_left (by simpa using hj)]
    simp [hj]
  · rw [if_neg hj, List.getElem?_append_right (by simpa using hj)]
    simp only [List.length_map, List.length_range, List.getElem?_replicate]
    by_cases h18 : j < 18
    · rw [if_pos h18, if_pos (by omega)]
    · rw [if_neg h18, if_neg (by omega)]
theorem digL_set (d : UInt64) (k : Nat) (h : k < 18) : (digL d k).set k (.int .i64 (On.digit d k : Int)) = digL d (k + 1) := by
  apply List.ext_getElem?
  intro j
  rw [List.getElem?_set, digL_len d k (by omega), digL_get d k j (by omega), digL_get d (k + 1) j (by omega)]
  by_cases hj : k = j
  · subst hj
    rw [if_pos rfl, if_pos h, if_pos (by omega)]
  · rw [if_neg hj]
    by_cases hlt : j < k
    · rw [if_pos hlt, if_pos (by omega)]
    · rw [if_neg hlt, if_neg (show ¬ j < k + 1 by omega)]
theorem cell_heap {w : World} {b : Nat} {l : List Value} {t : TypeId} {fr : Nat × Nat} (hb : w.heap[b]? = some (.cells l.toArray t fr)) (j : Nat) : w.cell? ⟨b, j, none⟩ = l[j]? := by
  simp [World.cell?, hb]
theorem below_setRow {w W : World} (h : Below w.heap.size w W) (cs : Array Value) : Below w.heap.size w (W.setRow w.heap.size cs) :=
  ⟨h.os, h.tape, h.output, by rw [size_setRow]; exact h.size, fun b hb => (by simp only [World.setRow, Array.getElem?_modify]; rw [if_neg (by omega)]; exact h.block b hb)⟩
attribute [local go_sem] i64_and_15
def digA (d : UInt64) : Array Value := #[.int .i64 ((On.digit d 0 : Nat) : Int), .int .i64 ((On.digit d 1 : Nat) : Int), .int .i64 ((On.digit d 2 : Nat) : Int), .int .i64 ((On.digit d 3 : Nat) : Int), .int .i64 ((On.digit d 4 : Nat) : Int), .int .i64 ((On.digit d 5 : Nat) : Int), .int .i64 ((On.digit d 6 : Nat) : Int), .int .i64 ((On.digit d 7 : Nat) : Int), .int .i64 ((On.digit d 8 : Nat) : Int), .int .i64 ((On.digit d 9 : Nat) : Int), .int .i64 ((On.digit d 10 : Nat) : Int), .int .i64 ((On.digit d 11 : Nat) : Int), .int .i64 ((On.digit d 12 : Nat) : Int), .int .i64 ((On.digit d 13 : Nat) : Int), .int .i64 ((On.digit d 14 : Nat) : Int), .int .i64 ((On.digit d 15 : Nat) : Int), .int .i64 ((On.csum d 16 / 16 : Nat) : Int), .int .i64 ((On.csum d 16 % 16 : Nat) : Int)]
def digV (d : UInt64) : Value := .agg (digA d)
set_option maxRecDepth 100000 in
set_option maxHeartbeats 8000000 in
theorem digits_any (t : ByteArray) (d : UInt64) (hd : Hid (Dig.sum t.data.toList = d)) (w : World) (ht : t.size ≤ maxLen) :
    Calls Tryd.prog 43 #[.string t] w fun e w' => e = .returned (digV d) ∧ Below w.heap.size w w' := by
  go_enter Tryd.func43, Tryd.ntmps43
  go_wp2_with fail
  refine (sum_at _ _ _ hd ht).mono ?_
  rintro e w3 ⟨rfl, rfl⟩
  go_wp2
  go_loopw [5, 10] (fun s i wr => ∃ k : Nat, k ≤ 16 ∧ i = .int .i64 k ∧ s = .int .i64 (On.csum d k : Int) ∧ wr.heap[w.heap.size + 1]? = some (.cells (digL d k).toArray 88 (0, 0)) ∧ wr.heap[w.heap.size]? = some (.cells (digL d 0).toArray 88 (0, 0)) ∧ Below w.heap.size w wr) (fun _ i _ => 16 - (intOf i).toNat)
  case atStart =>
    refine ⟨0, by omega, rfl, rfl, ?_, ?_, ((Below.refl _ _).alloc (Nat.le_refl _) _).alloc (by simp) _⟩
    · have h := World.alloc_heap_new (w.alloc (.cells (digL d 0).toArray 88)) (.cells (digL d 0).toArray 88)
      rw [World.size_alloc] at h
      exact h
    · exact (Below.heap_alloc _ _ _ (by simp)).trans (World.alloc_heap_new w _)
  case round =>
    obtain ⟨k, hk, rfl, rfl, hb1, hb0, hB⟩ := hrel
    have hcs := On.csum_le d k
    obtain ⟨c, hc⟩ : ∃ c : Int, (On.csum d k : Int) = c := ⟨_, rfl⟩
    rw [hc]
    have hc0 : 0 ≤ c ∧ c ≤ 240 := by omega
    have Hc := Lib.hid hc
    by_cases hlt : k < 16
    · have hcell : wr.cell? ⟨w.heap.size + 1, k, none⟩ = some (.int .i64 0) := by
        rw [cell_heap hb1, digL_get d k k (by omega), if_neg (Nat.lt_irrefl k), if_pos (by omega)]
      have hfz : wr.frozen? ⟨w.heap.size + 1, k, none⟩ = false := by simp [World.frozen?, hb1]
      have Hb1 := Lib.hid hb1
      have Hb0 := Lib.hid hb0
      have hdl := On.digit_lt d k
      obtain ⟨x, hx⟩ : ∃ x : Int, (On.digit d k : Int) = x := ⟨_, rfl⟩
      have hx0 : 0 ≤ x ∧ x ≤ 15 := by omega
      have hxe : wrap64 ((d.toNat : Int) / 2 ^ (60 - 4 * k)) % 16 = x := by rw [digit_at, hx]
      have Hx := Lib.hid hx
      clear hb1 hb0 hc hx
      have hlt' : (k : Int) < 16 := by omega
      go_wp2
      go_roundw
      case rel =>
        refine ⟨k + 1, by omega, by go_num, ?_, ?_, ?_, hB.setCell (by simp) _⟩
        · rw [← Hc.out, ← Hx.out]
          simp only [On.csum]
          congr 1
          have := hdl
          omega
        · rw [setCell_heap Hb1.out, ← Hx.out, List.setIfInBounds_toArray, digL_set d k (by omega)]
        · exact (Below.heap_setCell _ _ _ _ (by simp)).trans Hb0.out
      case measure => simp [intOf]; omega
    · obtain rfl : k = 16 := by omega
      have c16 : wr.cell? ⟨w.heap.size + 1, 16, none⟩ = some (.int .i64 0) := by rw [cell_heap hb1, digL_get d 16 16 (by omega), if_neg (by omega), if_pos (by omega)]
      have c17 : wr.cell? ⟨w.heap.size + 1, 17, none⟩ = some (.int .i64 0) := by rw [cell_heap hb1, digL_get d 16 17 (by omega), if_neg (by omega), if_pos (by omega)]
      have f1 : ∀ j, wr.frozen? ⟨w.heap.size + 1, j, none⟩ = false := fun j => by simp [World.frozen?, hb1]
      obtain ⟨q, hq0⟩ : ∃ q : Int, ((On.csum d 16 / 16 : Nat) : Int) = q := ⟨_, rfl⟩
      obtain ⟨m, hm0⟩ : ∃ m : Int, ((On.csum d 16 % 16 : Nat) : Int) = m := ⟨_, rfl⟩
      have hq : c / 16 = q := by rw [← hc, ← hq0]; omega
      have hr : c % 16 = m := by rw [← hc, ← hm0]; omega
      have Hb1 := Lib.hid hb1
      have Hb0 := Lib.hid hb0
      have Hqm := Lib.hid (And.intro hq0 hm0)
      clear hb1 hb0 hc hq0 hm0 hcs hk hlt
      go_upto_region 12 with fail
      obtain ⟨W2, hW2⟩ : ∃ W2, W2 = (wr.setCell ⟨w.heap.size + 1, 16, none⟩ (.int .i64 q)).setCell ⟨w.heap.size + 1, 17, none⟩ (.int .i64 m) := ⟨_, rfl⟩
      rw [← hW2]
      have g1 : W2.heap[w.heap.size + 1]? = some (.cells (digA d) 88 (0, 0)) := by
        rw [hW2, setCell_heap (setCell_heap Hb1.out), ← Hqm.out.1, ← Hqm.out.2]
        rfl
      have g0 : W2.heap[w.heap.size]? = some (.cells (digL d 0).toArray 88 (0, 0)) := by
        rw [hW2]
        exact (Below.heap_setCell _ _ _ _ (by simp)).trans ((Below.heap_setCell _ _ _ _ (by simp)).trans Hb0.out)
      have hB2 : Below w.heap.size w W2 := by rw [hW2]; exact (hB.setCell (by simp) _).setCell (by simp) _
      clear hW2 c16 c17 f1 hq hr
      have hst : (storeCells ⟨w.heap.size, 0, none⟩ (digA d).toList).run Tryd.prog W2 = .ok () (W2.setRow w.heap.size (digA d)) := by
        have h := run_storeCells_from (P := Tryd.prog) w.heap.size 88 (digA d).toList 0 _ W2 g0 rfl (fun v hv => by simp [digA] at hv; rcases hv with rfl | rfl | rfl | rfl | rfl | rfl | rfl | rfl | rfl | rfl | rfl | rfl | rfl | rfl | rfl | rfl | rfl | rfl <;> rfl)
        simpa using h
      go_wp2_with (refine wpList_load_row rfl 88 (.tmp 3) rfl (w.heap.size + 1) rfl 88 (digA d) (0, 0) _ g1 Tryd.underlying88 rfl (by kernel_rfl) ?_)
      have hsr : (W2.setRow w.heap.size (digA d)).heap[w.heap.size]? = some (.cells (digA d) 88 (0, 0)) := setRow_heap _ _ _ _ _ _ g0
      refine bodyPost_ret (v := digV d) (results_cell_row Tryd.results43 _ _ w.heap.size _ (digA d) (0, 0) _ rfl hsr Tryd.underlying88 rfl (by kernel_rfl)) rfl ⟨rfl, ?_⟩
      exact below_setRow hB2 _
end Go.Proofs.YtpmakhfpdidleaaDoor
namespace Go.Proofs.YtpmakhfpdidleaaDoor
open Go.RowKit Go.Shelf
set_option linter.unusedVariables false
theorem dig_index (d : UInt64) (k : Nat) (hk : k < 18) (w : World) : (Instr.index 88 (.agg (digA d)) (.int .i64 (k : Int))).run Tryd.prog w = .ok (.int .i64 (On.dg d k : Int)) w := by
  rcases On.lt18 hk with rfl | rfl | rfl | rfl | rfl | rfl | rfl | rfl | rfl | rfl | rfl | rfl | rfl | rfl | rfl | rfl | rfl | rfl <;> kernel_rfl
def overB (root : UInt64) (h : Int) (d : UInt64) (i : Int) (c : List UInt64) (p : Forks) : Bool :=
  decide (0 ≤ h ∧ h ≤ 8 ∧ c.length = 18) && verifyB root ((2 ^ h.toNat : Nat) : Int) i (bytesOf (On.climbTo c d 18)) p
theorem Bld.cell {b : Nat} {W0 wx : World} (hB : Below b W0 wx) {a j : Nat} (ha : a < b) : wx.cell? ⟨a, j, none⟩ = W0.cell? ⟨a, j, none⟩ := hB.cell (p := ⟨a, j, none⟩) ha
set_option maxRecDepth 100000 in
set_option maxHeartbeats 4000000 in
theorem over_ok (root : UInt64) (h n : Nat) (hh : h ≤ 8) (hn : Hid (2 ^ h = n)) (text : ByteArray) (d : UInt64) (hd : Hid (Dig.sum text.data.toList = d)) (ht : text.size ≤ maxLen) (i : Int) (A B : Option Addr) (ca cb : Nat) (c : List UInt64) (p : Forks) (hc : c.length = 18) (r : Bool)
    (hr : Hid (verifyB root (n : Int) i (bytesOf (On.climbTo c d 18)) p = r)) (w : World) (hT : OTabs w) (hA : Sl w w.heap.size 1 A 18 (u64V c)) (hBp : Sl w w.heap.size 2 B p.length (forkV p)) :
    Calls Tryd.prog 28 #[.int .u64 root.toNat, .int .i64 (h : Int), .string text, .agg #[.int .i64 i, .slice A 18 ca, .slice B p.length cb]] w fun e w' => e = .returned (.bool r) ∧ Below w.heap.size w w' := by
  have hh' : ¬ ((8 : Int) < (h : Int)) := by omega
  have hw : IntKind.i64.wrap (2 ^ h) = (n : Int) := by
    have e : (2 : Int) ^ h = (n : Int) := by rw [← hn.out, Int.natCast_pow]; rfl
    have hn256 : n ≤ 256 := by rw [← hn.out]; exact Nat.pow_le_pow_right (n := 2) (by omega) hh
    rw [e, IntWalk.i64_in _ (by omega)]
  obtain ⟨b0, off, rfl, hb0, hcell⟩ := hA.2 (by omega)
  have Hcell := Lib.hid hcell
  have HBp := Lib.hid hBp
  have Hw := Lib.hid hw
  clear hA hBp hcell hw
  go_enter Tryd.func28, Tryd.ntmps28
  go_wp2_with fail
  refine (digits_any text d hd _ ht).mono ?_
  rintro e W0 ⟨rfl, hB0⟩
  have hS0 := hB0.size
  simp only [World.size_alloc] at hS0
  have k1 : W0.cell? ⟨w.heap.size, 1, none⟩ = some (.slice (some ⟨b0, off, none⟩) 18 ca) := (hB0.cell (p := ⟨w.heap.size, 1, none⟩) (by simp; omega)).trans (by simp [go_sem])
  have k0 : W0.cell? ⟨w.heap.size, 0, none⟩ = some (.int .i64 i) := (hB0.cell (p := ⟨w.heap.size, 0, none⟩) (by simp; omega)).trans (by simp [go_sem])
  have k2 : W0.cell? ⟨w.heap.size, 2, none⟩ = some (.slice B p.length cb) := (hB0.cell (p := ⟨w.heap.size, 2, none⟩) (by simp; omega)).trans (by simp [go_sem])
  have hb : Bld (w.heap.size + 1) [] W0 := by
    have h1 := Bld.new (w.alloc (.cells #[.int .i64 i, .slice (some ⟨b0, off, none⟩) 18 ca, .slice B p.length cb] 36))
    rw [World.size_alloc] at h1
    exact h1.go hB0
  have hBw : Below w.heap.size w W0 := (bal (bal (Below.refl _ _) _) _).trans (hB0.mono (by simp; omega))
  have hT0 := hT.go hBw
  have K := Lib.hid (And.intro k0 (And.intro k1 k2))
  have Hb := Lib.hid hb
  clear hB0 hb k0 k1 k2
  unfold digV
  go_wp2
  go_loopw [26] (fun i wx => ∃ j : Nat, j ≤ 18 ∧ i = .int .i64 j ∧ Bld (w.heap.size + 1) (On.climbTo c d j) wx ∧ Below (w.heap.size + 1) W0 wx) (fun i _ => 18 - (intOf i).toNat)
  case atStart => exact ⟨0, by omega, rfl, Hb.out, Below.refl _ _⟩
  case round =>
    obtain ⟨j, hj, rfl, hb, hBx⟩ := hrel
    have hBwx : Below w.heap.size w wr := hBw.trans (hBx.mono (by omega))
    have hT2 := hT.go hBwx
    have k1 : wr.cell? ⟨w.heap.size, 1, none⟩ = some (.slice (some ⟨b0, off, none⟩) 18 ca) := (hBx.cell (p := ⟨w.heap.size, 1, none⟩) (by simp)).trans K.out.2.1
    have Hb := Lib.hid hb
    clear hb
    by_cases hj18 : j < 18
    · have hj' : (j : Int) < 18 := by omega
      have hidx : ∀ W, (Instr.index 88 (.agg (digA d)) (.int .i64 (j : Int))).run Tryd.prog W = .ok (.int .i64 (On.dg d j : Int)) W := fun W => dig_index d j hj18 W
      have hel : wr.cell? ⟨b0, off + j, none⟩ = some (.int .u64 (c.getD j 0).toNat) := (hBwx.cell (p := ⟨b0, off + j, none⟩) hb0).trans (Hcell.out j _ (u64V_get c j (by omega)))
      have hdl := On.dg_le d j
      obtain ⟨x, hx⟩ : ∃ x, c.getD j 0 = x := ⟨_, rfl⟩
      obtain ⟨m, hm⟩ : ∃ m, On.dg d j = m := ⟨_, rfl⟩
      rw [hx] at hel
      rw [hm] at hdl hidx
      have Hx := Lib.hid hx
      have Hm := Lib.hid hm
      clear hx hm
      go_wp2_with fail
      have e15 : (15 : Int) - (m : Int) = ((15 - m : Nat) : Int) := by omega
      rw [e15]
      refine (walk_any x (15 - m) (by omega) _ hT2.1).mono ?_
      rintro e w2 ⟨rfl, hB2⟩
      obtain ⟨y, hy⟩ : ∃ y, On.steps (15 - m) x = y := ⟨_, rfl⟩
      rw [hy]
      have hT4 := hT2.go hB2
      have Hy := Lib.hid hy
      clear hy
      go_wp2_with fail
      refine (text_b y _ hT4.1).mono ?_
      rintro e w3 ⟨rfl, hB3⟩
      have hB13 := bgo hB2 hB3
      go_wp2_with fail
      refine (bwrite (w.heap.size + 1) _ (Dig.text y) _ (Lib.hid rfl) _ (Hb.out.go hB13) (by rw [On.climbTo_len, On.text_len]; omega)).mono ?_
      rintro e w4 ⟨⟨v4, rfl⟩, hb4, hB4⟩
      have hB5 : Below (w.heap.size + 1) W0 w4 := (hBx.trans (hB13.mono (Nat.le_of_lt Hb.out.lt))).trans hB4
      have Hb4 := Lib.hid hb4
      clear hb4 hB2 hB3 hB4 hB13 hT4 hidx e15
      go_wp2
      go_roundw
      case rel =>
        refine ⟨j + 1, by omega, by go_num, ?_, hB5⟩
        have := Hb4.out
        rw [← Hy.out, ← Hx.out, ← Hm.out] at this
        exact this
      case measure => simp [intOf]; omega
    · have hE : j = 18 := by omega
      subst hE
      have k0 : wr.cell? ⟨w.heap.size, 0, none⟩ = some (.int .i64 i) := (hBx.cell (p := ⟨w.heap.size, 0, none⟩) (by simp)).trans K.out.1
      have k2 : wr.cell? ⟨w.heap.size, 2, none⟩ = some (.slice B p.length cb) := (hBx.cell (p := ⟨w.heap.size, 2, none⟩) (by simp)).trans K.out.2.2
      have HSp := Lib.hid ((HBp.out.below hBwx).mono hBwx.size)
      have Hbd : Bld (w.heap.size + 1) (On.climbTo c d 18) wr.drew := Hb.out
      have hbs : (bytesOf (On.climbTo c d 18)).size ≤ 140737488355328 := by rw [bytesOf_size, On.climbTo_len]; omega
      obtain ⟨t, ht⟩ : ∃ t, bytesOf (On.climbTo c d 18) = t := ⟨_, rfl⟩
      have Hbt : Hid (t = ⟨(On.climbTo c d 18).toArray⟩) := Lib.hid (ht ▸ rfl)
      rw [ht] at hbs hr
      have hr2 : Hid (verifyB root (IntKind.i64.wrap (2 ^ h)) i t p = r) := Lib.hid (by rw [Hw.out]; exact hr.out)
      clear ht
      clear k1
      go_wp2_with fail
      go_region_held3 (fun w' => w'.cell? ⟨w.heap.size, 0, none⟩ = some (.int .i64 i) ∧ w'.cell? ⟨w.heap.size, 2, none⟩ = some (.slice B p.length cb))
        (go_keep)
        (first
          | (go_at_call 55; (with_reducible refine (bstring (w.heap.size + 1) _ t Hbt wr.drew Hbd).mono ?_); rintro e w5 ⟨rfl, hB5⟩; have k05 := (hB5.cell (p := ⟨w.heap.size, 0, none⟩) (by simp)).trans k0; have k25 := (hB5.cell (p := ⟨w.heap.size, 2, none⟩) (by simp)).trans k2; have hBw5 := hBwx.trans ((below_undrew hB5).mono (Nat.le_succ _)))
          | (go_at_call 54; (with_reducible refine (verify_at B cb p.length root (IntKind.i64.wrap (2 ^ h)) i t p r w5 rfl hr2.out ((HBp.out.below hBw5).mono hBw5.size) hbs).mono ?_); rintro e w6 ⟨rfl, hB6⟩; have k06 := (hB6.cell (p := ⟨w.heap.size, 0, none⟩) (by have := hBw5.size; have := hB6.size; have := Hbd.lt; have := hB5.size; simp; simp at *; omega)).trans k05; have k26 := (hB6.cell (p := ⟨w.heap.size, 2, none⟩) (by have := hBw5.size; have := Hbd.lt; have := hB5.size; simp; simp at *; omega)).trans k25))
      all_goals
        go_wp2_with fail
        go_ret
        exact ⟨rfl, bgo hBw5 hB6⟩
def sigV (i : Int) (A : Option Addr) (n ca : Nat) (B : Option Addr) (m cb : Nat) : Value := .agg #[.int .i64 i, .slice A n ca, .slice B m cb]
set_option maxRecDepth 100000 in
theorem over_bad (root : UInt64) (h : Int) (text : ByteArray) (i : Int) (A B : Option Addr) (ca cb n m : Nat) (hbad : ¬ (0 ≤ h ∧ h ≤ 8 ∧ n = 18)) (hn : n ≤ maxLen) (w : World) :
    Calls Tryd.prog 28 #[.int .u64 root.toNat, .int .i64 h, .string text, .agg #[.int .i64 i, .slice A n ca, .slice B m cb]] w fun e w' => e = .returned (.bool false) ∧ Below w.heap.size w w' := by
  unfold maxLen at hn
  by_cases h0 : 0 ≤ h
  · by_cases h8 : h ≤ 8
    · have hne : ((n : Int) != 18) = true := by simp; omega
      have hh' : ¬ ((8 : Int) < h) := by omega
      clear hbad
      go_enter Tryd.func28, Tryd.ntmps28
      go_wp2_with fail
      go_ret
      exact ⟨rfl, (Below.refl _ _).alloc (Nat.le_refl _) _⟩
    · clear hbad
      go_enter Tryd.func28, Tryd.ntmps28
      go_wp2_with fail
      go_ret
      exact ⟨rfl, (Below.refl _ _).alloc (Nat.le_refl _) _⟩
  · clear hbad
    go_enter Tryd.func28, Tryd.ntmps28
    go_wp2_with fail
    go_ret
    exact ⟨rfl, (Below.refl _ _).alloc (Nat.le_refl _) _⟩
theorem over_at (root : UInt64) (h : Int) (text : ByteArray) (d : UInt64) (hd : Hid (Dig.sum text.data.toList = d)) (ht : text.size ≤ maxLen) (i : Int) (A B : Option Addr) (ca cb n m : Nat) (c : List UInt64) (p : Forks) (hn : c.length = n) (hm : p.length = m) (hnl : n ≤ maxLen) (r : Bool)
    (hr : Hid (overB root h d i c p = r)) (w : World) (hT : OTabs w) (hA : Sl w w.heap.size 1 A n (u64V c)) (hBp : Sl w w.heap.size 2 B m (forkV p)) :
    Calls Tryd.prog 28 #[.int .u64 root.toNat, .int .i64 h, .string text, .agg #[.int .i64 i, .slice A n ca, .slice B m cb]] w fun e w' => e = .returned (.bool r) ∧ Below w.heap.size w w' := by
  subst hn hm
  rw [← hr.out]
  by_cases hok : 0 ≤ h ∧ h ≤ 8 ∧ c.length = 18
  · obtain ⟨h0, h8, h18⟩ := hok
    obtain ⟨k, rfl⟩ := Int.eq_ofNat_of_zero_le h0
    have e : overB root (k : Int) d i c p = verifyB root ((2 ^ k : Nat) : Int) i (bytesOf (On.climbTo c d 18)) p := by
      unfold overB
      rw [decide_eq_true (⟨h0, h8, h18⟩ : 0 ≤ (k : Int) ∧ (k : Int) ≤ 8 ∧ c.length = 18), Int.toNat_natCast, Bool.true_and]
    rw [e, h18]
    rw [h18] at hA
    exact over_ok root k (2 ^ k) (by omega) (Lib.hid rfl) text d hd ht i A B ca cb c p h18 _ (Lib.hid rfl) w hT hA hBp
  · have e : overB root h d i c p = false := by
      unfold overB
      rw [decide_eq_false hok, Bool.false_and]
    rw [e]
    exact over_bad root h text i A B ca cb c.length p.length hok hnl w
end Go.Proofs.YtpmakhfpdidleaaDoor
