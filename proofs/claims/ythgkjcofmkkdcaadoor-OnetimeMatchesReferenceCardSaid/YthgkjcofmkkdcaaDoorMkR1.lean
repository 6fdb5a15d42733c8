/- The walks of the reference of merkle, first part: LeafText, word, NodeText, Leaf, Node, wrong. -/
import Derived.Test.YthgkjcofmkkdcaaDoorMkPlain
import Derived.Test.YthgkjcofmkkdcaaDoorMkAt
import Derived.Test.YthgkjcofmkkdcaaDoorDigRef
import Derived.Test.YthgkjcofmkkdcaaDoorApp
namespace Go.Proofs.YthgkjcofmkkdcaaDoor
open Go.RowKit Go.Shelf
set_option linter.unusedVariables false
theorem info_u8 : (Tryd.prog.info? 5).map (fun i => (i.zero, i.size, i.bytes)) = some (some (.int .u8 0), 1, 1) := by kernel_rfl
def u8V (l : List UInt8) : List Value := l.map fun b => Value.int .u8 b.toNat
theorem own_back {W : World} {base g cap n : Nat} {l : List UInt8} (hn : l.length = n) (h : W.ownsRow base 5 1 (.slice (some ⟨g, 0, none⟩) n cap) n (u8V l)) :
    (convert 55 9 (.slice (some ⟨g, 0, none⟩) n cap)).run Tryd.prog W = .ok (.string ⟨l.toArray⟩) W := by
  subst hn
  refine run_convert_bytes_back (P := Tryd.prog) W 55 9 5 ⟨g, 0, none⟩ cap l Tryd.underlying55 Tryd.underlying5 Tryd.underlying9 ?_
  intro j hj
  rw [Addr.add_lit, Nat.zero_add]
  exact (h.cellAt j (by omega)).trans (by simp [u8V, hj])
theorem rleafText_any (s : ByteArray) (w : World) (hs : s.size ≤ 140737488355328) : Calls Tryd.prog 86 #[.string s] w fun e w' => e = .returned (.string ⟨(0 :: s.data.toList).toArray⟩) ∧ Below w.heap.size w w' := by
  have h1 : ¬ (9223372036854775807 < 1 + s.size) := by omega
  have k := byte_back (w.alloc (.cells #[.int .u8 0] 5)) w.heap.size 0 (by simp [go_sem])
  have e : (⟨[(0 : UInt8)].toArray⟩ : ByteArray) ++ s = ⟨(0 :: s.data.toList).toArray⟩ := by apply ByteArray.ext; simp [ByteArray.data_append]
  have He := Lib.hid e
  clear e
  have hsz : (⟨[(0 : UInt8)].toArray⟩ : ByteArray).size = 1 := rfl
  go_enter Tryd.func86, Tryd.ntmps86
  go_wp2
  go_ret
  refine ⟨?_, (Below.refl _ _).alloc (Nat.le_refl _) _⟩
  rw [← He.out]
  rfl
set_option maxHeartbeats 2000000 in
theorem word_any (d : UInt64) (w : World) : Calls Tryd.prog 90 #[.int .u64 d.toNat] w fun e w' => e = .returned (.slice (some ⟨w.heap.size, 0, none⟩) 8 8) ∧ w' = w.alloc (.cells #[.int .u8 (Dig.byte d 7).toNat, .int .u8 (Dig.byte d 6).toNat, .int .u8 (Dig.byte d 5).toNat, .int .u8 (Dig.byte d 4).toNat, .int .u8 (Dig.byte d 3).toNat, .int .u8 (Dig.byte d 2).toNat, .int .u8 (Dig.byte d 1).toNat, .int .u8 (Dig.byte d 0).toNat] 5) := by
  have hd0 : (0 : Int) ≤ (d.toNat : Int) := Int.natCast_nonneg _
  have hd1 : (d.toNat : Int) ≤ 18446744073709551615 := by have := d.toNat_lt; omega
  have hmk : ∀ w : World, (Instr.makeSlice 55 (.int .i64 8) (.int .i64 8)).run Tryd.prog w = .ok (.slice (some ⟨w.heap.size, 0, none⟩) 8 8) (w.alloc (.cells #[.int .u8 0, .int .u8 0, .int .u8 0, .int .u8 0, .int .u8 0, .int .u8 0, .int .u8 0, .int .u8 0] 5)) := fun _ => by kernel_rfl
  go_enter Tryd.func90, Tryd.ntmps90
  go_wp2
  go_rounds 9
  go_ret
  simp only [byteV0, byteV1, byteV2, byteV3, byteV4, byteV5, byteV6, byteV7]
  exact ⟨rfl, trivial⟩
theorem nodeT_split (a b : UInt64) : u8V (Mk.nodeT a b) = .int .u8 1 :: (u8V (Dig.be8 a) ++ u8V (Dig.be8 b)) := by simp [u8V, Mk.nodeT]
set_option maxRecDepth 100000 in
set_option maxHeartbeats 1000000 in
theorem rnodeText_any (a b : UInt64) (w : World) : Calls Tryd.prog 87 #[.int .u64 a.toNat, .int .u64 b.toNat] w fun e w' => e = .returned (.string ⟨(Mk.nodeT a b).toArray⟩) ∧ Below w.heap.size w w' := by
  obtain ⟨i0, hi0, hz0, hz1, hz2⟩ := info_parts info_u8
  have hown0 : (w.alloc (.cells #[.int .u8 1] 5)).ownsRow w.heap.size 5 1 (.slice (some ⟨w.heap.size, 0, none⟩) 1 1) 1 [.int .u8 1] := ⟨rfl, .inr ⟨w.heap.size, 1, #[.int .u8 1], rfl, Nat.le_refl _, World.alloc_heap_new w _, Nat.le_refl _, by unfold maxLen; omega, rfl, rfl⟩⟩
  have hB0 : Below w.heap.size w (w.alloc (.cells #[.int .u8 1] 5)) := (Below.refl _ _).alloc (Nat.le_refl _) _
  have G := Lib.hid (And.intro hown0 hB0)
  clear hown0 hB0
  go_enter Tryd.func87, Tryd.ntmps87
  go_wp2_with fail
  obtain ⟨w1, hw1⟩ : ∃ w1, w1 = w.alloc (.cells #[.int .u8 1] 5) := ⟨_, rfl⟩
  rw [← hw1] at G ⊢
  have hz : w1.heap.size = w.heap.size + 1 := by rw [hw1]; simp
  have Hz := Lib.hid hz
  clear hw1 hz
  refine (word_any _ _).mono ?_
  rintro e w2 ⟨rfl, rfl⟩
  go_wp2_with (at_builtin; refine app_all rfl _ _ 55 rfl 5 i0 (.int .u8 0) 1 1 Tryd.underlying55 hi0 hz0 hz1 hz2 rfl (by decide) _ 1 _ rfl (G.out.1.alloc _) (bal G.out.2 _) ⟨w1.heap.size, 0, none⟩ 8 8 (u8V (Dig.be8 a)) rfl rfl (World.news_of_block (World.alloc_heap_new _ _)) (by simp [u8V, Dig.be8, Value.oneCell']) (by unfold maxLen; omega) (by omega) ?_)
  intro v3 w3 hown3 hB3 hoth
  clear hoth
  obtain ⟨g3, cap3, hv3⟩ := ownsRow_succ hown3
  subst hv3
  have H3 := Lib.hid (And.intro hown3 hB3)
  clear hown3 hB3
  go_wp2_with fail
  refine (word_any _ _).mono ?_
  rintro e w4 ⟨rfl, rfl⟩
  go_wp2_with (at_builtin; refine app_all rfl _ _ 55 rfl 5 i0 (.int .u8 0) 1 1 Tryd.underlying55 hi0 hz0 hz1 hz2 rfl (by decide) _ 9 _ rfl (H3.out.1.alloc _) (bal H3.out.2 _) ⟨w3.heap.size, 0, none⟩ 8 8 (u8V (Dig.be8 b)) rfl rfl (World.news_of_block (World.alloc_heap_new _ _)) (by simp [u8V, Dig.be8, Value.oneCell']) (by unfold maxLen; omega) (by omega) ?_)
  intro v5 w5 hown5 hB5 hoth
  clear hoth
  obtain ⟨g5, cap5, hv5⟩ := ownsRow_succ hown5
  subst hv5
  rw [← nodeT_split] at hown5
  have hconv := own_back (show (Mk.nodeT a b).length = 17 from rfl) hown5
  clear hown5
  go_wp2
  go_ret
  exact ⟨rfl, hB5⟩
theorem rleaf_any (s : ByteArray) (w : World) (hs : s.size ≤ 140737488355328) : Calls Tryd.prog 80 #[.string s] w fun e w' => e = .returned (.int .u64 (Mk.leafD s.data.toList).toNat) ∧ Below w.heap.size w w' := by
  go_enter Tryd.func80, Tryd.ntmps80
  go_wp2_with fail
  refine (rleafText_any _ _ hs).mono ?_
  rintro e w1 ⟨rfl, hB1⟩
  go_wp2_with fail
  refine (rsum_any _ _ (leaf_size _ hs)).mono ?_
  rintro e w' ⟨rfl, rfl⟩
  go_wp2
  go_ret
  exact ⟨rfl, hB1⟩
theorem rnode_any (a b : UInt64) (w : World) : Calls Tryd.prog 81 #[.int .u64 a.toNat, .int .u64 b.toNat] w fun e w' => e = .returned (.int .u64 (Dig.pair a b).toNat) ∧ Below w.heap.size w w' := by
  go_enter Tryd.func81, Tryd.ntmps81
  go_wp2_with fail
  refine (rnodeText_any _ _ _).mono ?_
  rintro e w1 ⟨rfl, hB1⟩
  go_wp2_with fail
  refine (rsum_any _ _ (node_size _ _)).mono ?_
  rintro e w' ⟨rfl, rfl⟩
  go_wp2
  go_ret
  exact ⟨rfl, hB1⟩
theorem wrong_any (A : Option Addr) (n c : Nat) (w : World) (e : Int) (hn : n ≤ maxLen) (he : checkE n = e) : Calls Tryd.prog 64 #[.slice A n c] w fun r w' => r = .returned (.int .i64 e) ∧ w = w' := by
  subst he
  unfold maxLen at hn
  by_cases h0 : n = 0
  · have h1 : ((n : Int) == 0) = true := by simp [h0]
    have h2 : checkE n = 1 := by unfold checkE; rw [if_pos h0]
    rw [h2]
    go_enter Tryd.func64, Tryd.ntmps64
    go_wp2
    go_ret
    exact ⟨rfl, rfl⟩
  · have h1 : ((n : Int) == 0) = false := by simp; omega
    by_cases h3 : 1024 < n
    · have h2 : checkE n = 2 := by unfold checkE; rw [if_neg h0, if_pos h3]
      rw [h2]
      go_enter Tryd.func64, Tryd.ntmps64
      go_wp2
      go_ret
      exact ⟨rfl, rfl⟩
    · have h2 : checkE n = 0 := by unfold checkE; rw [if_neg h0, if_neg h3]
      rw [h2]
      go_enter Tryd.func64, Tryd.ntmps64
      go_wp2
      go_ret
      exact ⟨rfl, rfl⟩
end Go.Proofs.YthgkjcofmkkdcaaDoor
