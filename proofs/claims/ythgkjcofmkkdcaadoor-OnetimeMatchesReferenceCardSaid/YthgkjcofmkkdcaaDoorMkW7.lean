/- The walks of package merkle, seventh part: climb, Verify. -/
import Derived.Test.YthgkjcofmkkdcaaDoorMkW6
namespace Go.Proofs.YthgkjcofmkkdcaaDoor
open Go.RowKit Go.Shelf
set_option linter.unusedVariables false
def bytesOf (t : List UInt8) : ByteArray := ⟨t.toArray⟩
def climbS (s : ByteArray) (p : List (UInt64 × Bool)) : List ByteArray := bytesOf (0 :: s.data.toList) :: (Mk.climbT (Mk.leafD s.data.toList) p).map bytesOf
theorem info_string : (Tryd.prog.info? 9).map (fun i => (i.zero, i.size, i.bytes)) = some (some (.string ⟨#[]⟩), 1, 16) := by kernel_rfl
theorem climbT_len (d : UInt64) (p : List (UInt64 × Bool)) : (Mk.climbT d p).length = p.length := by
  induction p generalizing d with
  | nil => rfl
  | cons a p ih => simp [Mk.climbT, ih]
theorem climbT_snoc (d : UInt64) (p : List (UInt64 × Bool)) (x : UInt64 × Bool) : Mk.climbT d (p ++ [x]) = Mk.climbT d p ++ [Mk.upT (Mk.climbD d p) x] := by
  induction p generalizing d with
  | nil => rfl
  | cons a p ih => simp [Mk.climbT, Mk.climbD, ih]
theorem climbS_len (s : ByteArray) (p : List (UInt64 × Bool)) : (climbS s p).length = p.length + 1 := by simp [climbS, climbT_len]
theorem climbS_snoc (s : ByteArray) (p : List (UInt64 × Bool)) (x : UInt64 × Bool) : climbS s (p ++ [x]) = climbS s p ++ [bytesOf (Mk.upT (Mk.climbD (Mk.leafD s.data.toList) p) x)] := by simp [climbS, climbT_snoc]
theorem node_size (a b : UInt64) : (⟨(Mk.nodeT a b).toArray⟩ : ByteArray).size ≤ maxLen := by
  have : (⟨(Mk.nodeT a b).toArray⟩ : ByteArray).size = 17 := by
    show (Mk.nodeT a b).toArray.size = 17
    simp [Mk.nodeT, Dig.be8]
  rw [this]; unfold maxLen; omega
set_option maxRecDepth 100000 in
theorem climb_any (A : Option Addr) (c : Nat) (s : ByteArray) (p : List (UInt64 × Bool)) (w : World) (hA : Sl w w.heap.size 2 A p.length (forkV p)) (hp : p.length ≤ 1024) (hs : s.size ≤ 140737488355328) :
    Calls Tryd.prog 59 #[.string s, .slice A p.length c] w fun e w' => ∃ v, e = .returned (.tuple #[v, .int .u64 (Mk.climbD (Mk.leafD s.data.toList) p).toNat]) ∧ w'.ownsRow w.heap.size 9 1 v (climbS s p).length (strV (climbS s p)) ∧ Below w.heap.size w w' := by
  obtain ⟨i0, hj0, hz0, hz1, hz2⟩ := info_parts info_string
  have HA := Lib.hid hA
  clear hA
  go_enter Tryd.func59, Tryd.ntmps59
  go_wp2_with fail
  refine (leafText_any _ _ (by omega)).mono ?_
  rintro e w' ⟨rfl, rfl⟩
  go_wp2_with fail
  refine (sum_any _ _ (leaf_size _ hs)).mono ?_
  rintro e w1 ⟨rfl, hw1⟩
  have hB1 : Below w.heap.size w w1 := by rw [← hw1]; exact (Below.refl _ _).alloc (Nat.le_refl _) _
  have hown1 : w1.ownsRow w.heap.size 9 1 (.slice (some ⟨w.heap.size, 0, none⟩) 1 1) (climbS s []).length (strV (climbS s [])) := by
    refine ⟨rfl, .inr ⟨w.heap.size, 1, #[.string ⟨(0 :: s.data.toList).toArray⟩], rfl, Nat.le_refl _, ?_, Nat.le_refl _, by unfold maxLen; omega, rfl, rfl⟩⟩
    rw [← hw1]
    exact World.alloc_heap_new w _
  have Hs := Lib.hid hs
  have Hown1 := Lib.hid hown1
  clear hw1 hs hown1
  go_wp2
  go_loopw [6, 7, 20] (fun v d i wr => ∃ k : Nat, k ≤ p.length ∧ i = .int .i64 (k : Int) ∧ d = .int .u64 (Mk.climbD (Mk.leafD s.data.toList) (p.take k)).toNat ∧ wr.ownsRow w.heap.size 9 1 v (climbS s (p.take k)).length (strV (climbS s (p.take k))) ∧ Below w.heap.size w wr) (fun _ _ i _ => p.length - (intOf i).toNat)
  case atStart => exact ⟨0, Nat.zero_le _, rfl, rfl, Hown1.out, hB1⟩
  case round =>
    obtain ⟨k, hk, rfl, rfl, hown, hB⟩ := hrel
    have Hown := Lib.hid hown
    clear hown
    obtain ⟨d, hd⟩ : ∃ d, d = Mk.climbD (Mk.leafD s.data.toList) (p.take k) := ⟨_, rfl⟩
    rw [← hd]
    have Hd := Lib.hid hd
    clear hd
    by_cases hlt : k < p.length
    · obtain ⟨b, off, rfl, hb, hcell⟩ := (HA.out).2 (by omega)
      obtain ⟨x, hx⟩ : ∃ x, x = (p[k]).1 := ⟨_, rfl⟩
      obtain ⟨y, hy⟩ : ∃ y, y = (p[k]).2 := ⟨_, rfl⟩
      have hc1 : wr.cell? ⟨b, off + k * 2, none⟩ = some (.int .u64 x.toNat) := (hB.cell (p := ⟨b, off + k * 2, none⟩) hb).trans (by rw [hx]; exact hcell _ _ (forkV_get1 p k hlt))
      have hc2 : wr.cell? ⟨b, off + k * 2 + 1, none⟩ = some (.bool y) := (hB.cell (p := ⟨b, off + k * 2 + 1, none⟩) hb).trans (by rw [Nat.add_assoc, hy]; exact hcell _ _ (forkV_get2 p k hlt))
      have Hx := Lib.hid hx
      have Hy := Lib.hid hy
      clear hcell hx hy
      have hlt' : (k : Int) < (p.length : Int) := by omega
      go_wp2_with fail
      refine (nodeText_any _ _ _).mono ?_
      rintro e w2 ⟨rfl, hB2⟩
      have hf1 : w2.cell? ⟨wr.heap.size, 0, none⟩ = some (.int .u64 x.toNat) := (hB2.cell (p := ⟨wr.heap.size, 0, none⟩) (by simp)).trans (by simp [go_sem])
      have hf2 : w2.cell? ⟨wr.heap.size, 1, none⟩ = some (.bool y) := (hB2.cell (p := ⟨wr.heap.size, 1, none⟩) (by simp)).trans (by simp [go_sem])
      have hBa : Below wr.heap.size wr w2 := ((Below.refl _ _).alloc (Nat.le_refl _) _).trans (hB2.mono (by simp))
      have hB' : Below w.heap.size w w2 := hB.trans (hBa.mono hB.size)
      have Hown' := Lib.hid (own_below Hown.out hBa)
      cases y
      · have hB3 := hB'
        have Hown3 := Hown'
        go_wp2_with (at_builtin; refine wpList_append_own _ rfl _ _ 28 rfl w.heap.size 9 i0 (.string ⟨#[]⟩) 1 16 Tryd.underlying28 hj0 hz0 hz1 hz2 rfl (by decide) _ _ _ rfl (Hown3.out.alloc _) ⟨_, 0, none⟩ 1 1 [.string ⟨(Mk.nodeT d x).toArray⟩] rfl rfl ?c1 ?c2 ?c3 ?c4 ?c5 ?_)
        case c1 => exact cell_one_new _ _ _
        case c2 => simp [Value.oneCell']
        case c3 => simp [climbS_len, maxLen]; omega
        case c4 => simp [climbS_len]; omega
        case c5 => have := hB3.size; simp; omega
        intro v' w4 hown4 hg4 _
        have hB4 : Below w.heap.size w w4 := (hB3.alloc hB3.size _).grown hg4 (by have := hB3.size; simp; omega) (fun k hk => (Hown3.out.lt k hk).1)
        have HR := Lib.hid hown4
        clear hown4 hg4
        go_wp2_with fail
        refine (sum_any _ _ (node_size _ _)).mono ?_
        rintro e w5 ⟨rfl, rfl⟩
        go_wp2
        go_roundw
        case rel =>
          have ht : p.take (k + 1) = p.take k ++ [(x, false)] := by
            rw [List.take_succ_eq_append_getElem hlt, Hx.out, Hy.out]
          have hup : Mk.climbD (Mk.leafD s.data.toList) (p.take k ++ [(x, false)]) = Dig.sum (Mk.nodeT d x) := by
            rw [Hd.out]; simp [Mk.climbD, Mk.up, ← Mk.pair_node]
          refine ⟨k + 1, by omega, by go_num, by rw [ht, hup], ?_, hB4⟩
          rw [ht, climbS_snoc, ← Hd.out, List.length_append]
          have := HR.out
          simpa [strV, bytesOf, Mk.upT] using this
        case measure => simp [intOf]; omega
      · go_wp2_with fail
        refine (nodeText_any _ _ _).mono ?_
        rintro e w3 ⟨rfl, hBc⟩
        have hB3 : Below w.heap.size w w3 := hB'.trans (hBc.mono hB'.size)
        have Hown3 := Lib.hid (own_below Hown'.out hBc)
        go_wp2_with (at_builtin; refine wpList_append_own _ rfl _ _ 28 rfl w.heap.size 9 i0 (.string ⟨#[]⟩) 1 16 Tryd.underlying28 hj0 hz0 hz1 hz2 rfl (by decide) _ _ _ rfl (Hown3.out.alloc _) ⟨_, 0, none⟩ 1 1 [.string ⟨(Mk.nodeT x d).toArray⟩] rfl rfl ?c1 ?c2 ?c3 ?c4 ?c5 ?_)
        case c1 => exact cell_one_new _ _ _
        case c2 => simp [Value.oneCell']
        case c3 => simp [climbS_len, maxLen]; omega
        case c4 => simp [climbS_len]; omega
        case c5 => have := hB3.size; simp; omega
        intro v' w4 hown4 hg4 _
        have hB4 : Below w.heap.size w w4 := (hB3.alloc hB3.size _).grown hg4 (by have := hB3.size; simp; omega) (fun k hk => (Hown3.out.lt k hk).1)
        have HR := Lib.hid hown4
        clear hown4 hg4
        go_wp2_with fail
        refine (sum_any _ _ (node_size _ _)).mono ?_
        rintro e w5 ⟨rfl, rfl⟩
        go_wp2
        go_roundw
        case rel =>
          have ht : p.take (k + 1) = p.take k ++ [(x, true)] := by
            rw [List.take_succ_eq_append_getElem hlt, Hx.out, Hy.out]
          have hup : Mk.climbD (Mk.leafD s.data.toList) (p.take k ++ [(x, true)]) = Dig.sum (Mk.nodeT x d) := by
            rw [Hd.out]; simp [Mk.climbD, Mk.up, ← Mk.pair_node]
          refine ⟨k + 1, by omega, by go_num, by rw [ht, hup], ?_, hB4⟩
          rw [ht, climbS_snoc, ← Hd.out, List.length_append]
          have := HR.out
          simpa [strV, bytesOf, Mk.upT] using this
        case measure => simp [intOf]; omega
    · have hE : p.take k = p := List.take_of_length_le (by omega)
      rw [hE] at Hown Hd
      clear hE
      go_wp2
      go_ret2
      rw [Hd.out]
      exact ⟨_, rfl, Hown.out, hB⟩
def verifyB (root : UInt64) (n i : Int) (s : ByteArray) (p : List (UInt64 × Bool)) : Bool := properB n i p && (Mk.climbD (Mk.leafD s.data.toList) p == root)
theorem proper_len {n i : Int} {p : List (UInt64 × Bool)} (h : properB n i p = true) : p.length ≤ 10 := by
  have := (of_decide_eq_true h).2
  have h2 := sidesL_len n i
  rw [this, List.length_map] at h2
  exact h2
theorem u64_beq (a b : UInt64) : (((a.toNat : Int)) == ((b.toNat : Int))) = (a == b) := by
  by_cases h : a = b
  · subst h; simp
  · have : ¬ a.toNat = b.toNat := fun e => h (UInt64.toNat_inj.1 e)
    rw [beq_eq_false_iff_ne.2 h, beq_eq_false_iff_ne.2 (by omega)]
theorem verify_any (A : Option Addr) (c : Nat) (root : UInt64) (n i : Int) (s : ByteArray) (p : List (UInt64 × Bool)) (w : World) (hA : Sl w w.heap.size 2 A p.length (forkV p)) (hs : s.size ≤ 140737488355328) :
    Calls Tryd.prog 49 #[.int .u64 root.toNat, .int .i64 n, .int .i64 i, .string s, .slice A p.length c] w fun e w' => e = .returned (.bool (verifyB root n i s p)) ∧ Below w.heap.size w w' := by
  have HA := Lib.hid hA
  clear hA
  go_enter Tryd.func49, Tryd.ntmps49
  go_wp2_with fail
  refine (proper_any _ _ _ _ _ _ HA.out).mono ?_
  rintro e w1 ⟨rfl, hB1⟩
  by_cases hp : properB n i p = true
  · rw [hp]
    go_wp2_with fail
    refine (climb_any _ _ _ _ _ ((HA.out.below hB1).mono hB1.size) (by have := proper_len hp; omega) hs).mono ?_
    rintro e w2 ⟨v, rfl, _, hB2⟩
    go_wp2
    go_ret
    refine ⟨?_, hB1.trans (hB2.mono hB1.size)⟩
    unfold verifyB
    rw [hp, Bool.true_and, ← u64_beq]
    rfl
  · rw [Bool.not_eq_true] at hp
    rw [hp]
    go_wp2
    go_ret
    refine ⟨?_, hB1⟩
    unfold verifyB
    rw [hp]
    rfl
end Go.Proofs.YthgkjcofmkkdcaaDoor
