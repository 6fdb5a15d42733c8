/- The walk of RangeproofReplies, part 3. -/
import Derived.Test.YthebahahpkficaaDoorRpLawR
namespace Go.Proofs.YthebahahpkficaaDoor
open Go.RowKit
set_option linter.unusedVariables false
set_option maxHeartbeats 8000000 in
set_option maxRecDepth 100000 in
theorem rep_f0_eq (value blind bits : Int) (seed : ByteArray) (ati what by_ : Int) (w : World) (h0 : 0 ≤ value ∧ value ≤ 4294967295) (h1 : 0 ≤ blind ∧ blind ≤ 4294967295) (h2 : 0 ≤ bits ∧ bits ≤ 255) (h4 : 0 ≤ ati ∧ ati ≤ 255) (h5 : 0 ≤ what ∧ what ≤ 255) (h6 : 0 ≤ by_ ∧ by_ ≤ 4294967295) (hs : seed.size ≤ 60) (HT : Hid (Tabs w))
    (hk : ati / 16 % 2 = 0) (hw : what % 3 = 2) (n i : Nat) (hn : bits % 28 + 1 = (n : Int)) (hn1 : 1 ≤ n) (hn2 : n ≤ 28) (hi : ati % (n : Int) = (i : Int)) (hi2 : i < n) (E x r : Int) (hEb : 1 ≤ E ∧ E ≤ 268435456) (hsh : IntKind.i64.wrap ((2 : Int) ^ n) = E) (hx : value % E = x) (hxb : 0 ≤ x ∧ x < E) (HX : Hid (x < ((2 ^ n : Nat) : Int))) (hr : blind % 1073741789 = r) (hrb : 0 ≤ r ∧ r < 1073741789)
    (l : List BP) (HL : Hid (proveL x.toNat seed.data.toList r n = l)) (HLL : Hid (l.length = n)) (c : Int) (HC : Hid (commitI x r = c)) (HV : Hid (verifyB c n l = true)) (pc f0 f1 e0 e1 z0 z1 nv : Int) (HP : Hid (l.getD i zeroBP = ⟨pc, f0, f1, e0, e1, z0, z1⟩)) (HVP : Hid (validB ⟨pc, f0, f1, e0, e1, z0, z1⟩ = true))
    (hp3 : 0 ≤ e0 ∧ e0 < 1073741789) (hp4 : 0 ≤ e1 ∧ e1 < 1073741789) (hp5 : 0 ≤ z0 ∧ z0 < 1073741789) (hp6 : 0 ≤ z1 ∧ z1 < 1073741789) (bq : Int) (hbq : by_ % 1073741789 = bq) (HNV : Hid (pwI 4 bq = nv)) (hnb : 0 ≤ nv ∧ nv < 2147483579) (heq : (nv == f0) = true) :
    Calls Tryd.prog 5 #[.int .u32 value, .int .u32 blind, .int .u8 bits, .string seed, .int .u8 ati, .int .u8 what, .int .u32 by_] w fun e w' => e = .returned (.bool true) ∧ Below w.heap.size w w' := by
  have hnz : (E == 0) = false := beq_eq_false_iff_ne.2 (by omega)
  have hE0 : E ≠ 0 := by omega
  have hnz2 : ((n : Int) == 0) = false := beq_eq_false_iff_ne.2 (by omega)
  have hne : ((n : Int) != (n : Int)) = false := by simp
  have hEQ := fun w => eq_f0 pc f0 f1 e0 e1 z0 z1 nv w
  rw [heq] at hEQ
  obtain ⟨k0, hk0, hy0, hy1, hy2⟩ := info_parts info_bp
  go_enter Tryd.func5, Tryd.ntmps5
  go_wp2_with fail
  refine (head_any _ HT.out).mono ?_
  rintro e w1 ⟨rfl, hB1⟩
  go_wp2_with fail
  refine (prove_at x r (n : Int) n seed l HL rfl _ (HT.out.go hB1) hn1 hn2 hxb.1 HX.out hrb.1 hrb.2 hs).mono ?_
  rintro e w2 ⟨A, cap, rfl, hcap, hcm, hS, hB⟩
  have hB2 := bgo hB1 hB
  have HS := Lib.hid hS
  clear hB1 hB hS
  go_wp2_with fail
  refine (commit_at x r c HC _ (HT.out.go hB2).2 hxb.1 (by omega) hrb.1 hrb.2).mono ?_
  rintro e w4 ⟨rfl, hB⟩
  have hB4 := bgo hB2 hB
  have HS4 := Lib.hid (HS.out.go hB)
  clear hB2 hB HS
  obtain ⟨b1, o1, rfl, hb1⟩ := sl_addr HS4.out (by omega)
  obtain ⟨b', o', e', _, hcell⟩ := HS4.out.2 (by omega)
  injection e' with e'
  injection e' with q1 q2 q3
  subst q1 q2
  have hg := fun j (hj : j < 7) (v : Value) (hv : (bpC (l.getD i zeroBP))[j]? = some v) => hcell (i * 7 + j) v (by rw [bpsC_get l i j (by rw [HLL.out]; exact hi2) hj]; exact hv)
  rw [HP.out] at hg
  have m0 : w4.cell? ⟨b1, o1 + i * 7, none⟩ = some (.int .i64 pc) := hg 0 (by omega) _ rfl
  have m1 : w4.cell? ⟨b1, o1 + i * 7 + 1, none⟩ = some (.int .i64 f0) := hg 1 (by omega) _ rfl
  have m2 : w4.cell? ⟨b1, o1 + i * 7 + 2, none⟩ = some (.int .i64 f1) := hg 2 (by omega) _ rfl
  have m3 : w4.cell? ⟨b1, o1 + i * 7 + 3, none⟩ = some (.int .i64 e0) := hg 3 (by omega) _ rfl
  have m4 : w4.cell? ⟨b1, o1 + i * 7 + 4, none⟩ = some (.int .i64 e1) := hg 4 (by omega) _ rfl
  have m5 : w4.cell? ⟨b1, o1 + i * 7 + 5, none⟩ = some (.int .i64 z0) := hg 5 (by omega) _ rfl
  have m6 : w4.cell? ⟨b1, o1 + i * 7 + 6, none⟩ = some (.int .i64 z1) := hg 6 (by omega) _ rfl
  have i1 : (0 : Int) ≤ (i : Int) := Int.natCast_nonneg _
  have i2 : (i : Int) < (n : Int) := by omega
  clear hcell hg
  go_wp2_with fail
  obtain ⟨w5, hw5⟩ : ∃ w5, w5 = (w4.alloc (.cells #[.int .i64 pc, .int .i64 f0, .int .i64 f1, .int .i64 e0, .int .i64 e1, .int .i64 z0, .int .i64 z1] 25)).alloc (.cells #[.int .i64 pc, .int .i64 f0, .int .i64 f1, .int .i64 e0, .int .i64 e1, .int .i64 z0, .int .i64 z1] 25) := ⟨_, rfl⟩
  rw [← hw5]
  have hB5 : Below w4.heap.size w4 w5 := by rw [hw5]; exact bal (bal (Below.refl _ _) _) _
  have hX5 : BPW w5 w4.heap.size ⟨pc, f0, f1, e0, e1, z0, z1⟩ := by unfold BPW; rw [hw5]; exact (Below.heap_alloc _ _ _ (by simp)).trans (World.alloc_heap_new w4 _)
  have hO5 : BPW w5 (w4.heap.size + 1) ⟨pc, f0, f1, e0, e1, z0, z1⟩ := by unfold BPW; rw [hw5]; have := World.alloc_heap_new (w4.alloc (.cells #[.int .i64 pc, .int .i64 f0, .int .i64 f1, .int .i64 e0, .int .i64 e1, .int .i64 z0, .int .i64 z1] 25)) (.cells #[.int .i64 pc, .int .i64 f0, .int .i64 f1, .int .i64 e0, .int .i64 e1, .int .i64 z0, .int .i64 z1] 25); rwa [World.size_alloc] at this
  clear hw5 m0 m1 m2 m3 m4 m5 m6
  refine (power_v 4 bq nv w5 (by omega) (by omega) (by omega) (by omega) HNV).mono ?_
  rintro e wp ⟨rfl, hbp⟩
  have hXp := hX5.go hbp
  have hOp := hO5.go hbp
  have hsz : w4.heap.size + 1 < wp.heap.size := hOp.lt
  have hBp := bgo hB5 hbp
  obtain ⟨W6, hW6⟩ : ∃ W6, W6 = wp.setCell ⟨w4.heap.size, 1, none⟩ (.int .i64 nv) := ⟨_, rfl⟩
  have hX6 : BPW W6 w4.heap.size ⟨pc, nv, f1, e0, e1, z0, z1⟩ := by rw [hW6]; exact heap_set (j := 1) hXp (.int .i64 nv) (by simp)
  have hO6 : BPW W6 (w4.heap.size + 1) ⟨pc, f0, f1, e0, e1, z0, z1⟩ := by rw [hW6]; exact (Below.heap_setCell _ _ _ _ (by simp)).trans hOp
  have hB6 : Below w4.heap.size w4 W6 := by rw [hW6]; exact hBp.setCell (Nat.le_refl _) _
  have HW6 := Lib.hid hW6
  have HZ6 : Hid (W6.heap.size = wp.heap.size) := Lib.hid (by rw [hW6]; simp [World.setCell])
  have kx := hXp.at.c1
  have fx := hXp.free 1
  simp only [] at kx
  have u0 := hXp.at.c0
  have v0 := hOp.at.c0
  have u1 := hXp.at.c1
  have v1 := hOp.at.c1
  have u2 := hXp.at.c2
  have v2 := hOp.at.c2
  have u3 := hXp.at.c3
  have v3 := hOp.at.c3
  have u4 := hXp.at.c4
  have v4 := hOp.at.c4
  have u5 := hXp.at.c5
  have v5 := hOp.at.c5
  have u6 := hXp.at.c6
  have v6 := hOp.at.c6
  simp only [] at u0 v0 u1 v1 u2 v2 u3 v3 u4 v4 u5 v5 u6 v6
  clear hW6 hX5 hO5 hbp hBp hB5
  go_wp2
  go_ret
  exact ⟨rfl, by rw [← HW6.out]; exact bgo hB4 hB6⟩
set_option maxHeartbeats 8000000 in
set_option maxRecDepth 100000 in
theorem rep_f0_ne (value blind bits : Int) (seed : ByteArray) (ati what by_ : Int) (w : World) (h0 : 0 ≤ value ∧ value ≤ 4294967295) (h1 : 0 ≤ blind ∧ blind ≤ 4294967295) (h2 : 0 ≤ bits ∧ bits ≤ 255) (h4 : 0 ≤ ati ∧ ati ≤ 255) (h5 : 0 ≤ what ∧ what ≤ 255) (h6 : 0 ≤ by_ ∧ by_ ≤ 4294967295) (hs : seed.size ≤ 60) (HT : Hid (Tabs w))
    (hk : ati / 16 % 2 = 0) (hw : what % 3 = 2) (n i : Nat) (hn : bits % 28 + 1 = (n : Int)) (hn1 : 1 ≤ n) (hn2 : n ≤ 28) (hi : ati % (n : Int) = (i : Int)) (hi2 : i < n) (E x r : Int) (hEb : 1 ≤ E ∧ E ≤ 268435456) (hsh : IntKind.i64.wrap ((2 : Int) ^ n) = E) (hx : value % E = x) (hxb : 0 ≤ x ∧ x < E) (HX : Hid (x < ((2 ^ n : Nat) : Int))) (hr : blind % 1073741789 = r) (hrb : 0 ≤ r ∧ r < 1073741789)
    (l : List BP) (HL : Hid (proveL x.toNat seed.data.toList r n = l)) (HLL : Hid (l.length = n)) (c : Int) (HC : Hid (commitI x r = c)) (HV : Hid (verifyB c n l = true)) (pc f0 f1 e0 e1 z0 z1 nv : Int) (HP : Hid (l.getD i zeroBP = ⟨pc, f0, f1, e0, e1, z0, z1⟩)) (HVP : Hid (validB ⟨pc, f0, f1, e0, e1, z0, z1⟩ = true))
    (hp3 : 0 ≤ e0 ∧ e0 < 1073741789) (hp4 : 0 ≤ e1 ∧ e1 < 1073741789) (hp5 : 0 ≤ z0 ∧ z0 < 1073741789) (hp6 : 0 ≤ z1 ∧ z1 < 1073741789) (bq : Int) (hbq : by_ % 1073741789 = bq) (HNV : Hid (pwI 4 bq = nv)) (hnb : 0 ≤ nv ∧ nv < 2147483579) (heq : (nv == f0) = false) :
    Calls Tryd.prog 5 #[.int .u32 value, .int .u32 blind, .int .u8 bits, .string seed, .int .u8 ati, .int .u8 what, .int .u32 by_] w fun e w' => e = .returned (.bool true) ∧ Below w.heap.size w w' := by
  have hnz : (E == 0) = false := beq_eq_false_iff_ne.2 (by omega)
  have hE0 : E ≠ 0 := by omega
  have hnz2 : ((n : Int) == 0) = false := beq_eq_false_iff_ne.2 (by omega)
  have hne : ((n : Int) != (n : Int)) = false := by simp
  have hEQ := fun w => eq_f0 pc f0 f1 e0 e1 z0 z1 nv w
  rw [heq] at hEQ
  have HBAD : Hid (verifyB c n (l.set i ⟨pc, nv, f1, e0, e1, z0, z1⟩) = false) := Lib.hid (verify_set c n l i _ (by rw [HLL.out]; exact hi2) (bad_f0 HVP.out (fun h => by rw [h] at heq; simp at heq)))
  have HLS : Hid ((l.set i ⟨pc, nv, f1, e0, e1, z0, z1⟩).length = n) := Lib.hid (by rw [List.length_set]; exact HLL.out)
  have HSET := Lib.hid (set_bps l i ⟨pc, nv, f1, e0, e1, z0, z1⟩ (by rw [HLL.out]; exact hi2))
  have H1 := Lib.hid (bpsC_one l)
  obtain ⟨k0, hk0, hy0, hy1, hy2⟩ := info_parts info_bp
  go_enter Tryd.func5, Tryd.ntmps5
  go_wp2_with fail
  refine (head_any _ HT.out).mono ?_
  rintro e w1 ⟨rfl, hB1⟩
  go_wp2_with fail
  refine (prove_at x r (n : Int) n seed l HL rfl _ (HT.out.go hB1) hn1 hn2 hxb.1 HX.out hrb.1 hrb.2 hs).mono ?_
  rintro e w2 ⟨A, cap, rfl, hcap, hcm, hS, hB⟩
  have hB2 := bgo hB1 hB
  have HS := Lib.hid hS
  clear hB1 hB hS
  go_wp2_with fail
  refine (commit_at x r c HC _ (HT.out.go hB2).2 hxb.1 (by omega) hrb.1 hrb.2).mono ?_
  rintro e w4 ⟨rfl, hB⟩
  have hB4 := bgo hB2 hB
  have HS4 := Lib.hid (HS.out.go hB)
  clear hB2 hB HS
  obtain ⟨b1, o1, rfl, hb1⟩ := sl_addr HS4.out (by omega)
  obtain ⟨b', o', e', _, hcell⟩ := HS4.out.2 (by omega)
  injection e' with e'
  injection e' with q1 q2 q3
  subst q1 q2
  have hg := fun j (hj : j < 7) (v : Value) (hv : (bpC (l.getD i zeroBP))[j]? = some v) => hcell (i * 7 + j) v (by rw [bpsC_get l i j (by rw [HLL.out]; exact hi2) hj]; exact hv)
  rw [HP.out] at hg
  have m0 : w4.cell? ⟨b1, o1 + i * 7, none⟩ = some (.int .i64 pc) := hg 0 (by omega) _ rfl
  have m1 : w4.cell? ⟨b1, o1 + i * 7 + 1, none⟩ = some (.int .i64 f0) := hg 1 (by omega) _ rfl
  have m2 : w4.cell? ⟨b1, o1 + i * 7 + 2, none⟩ = some (.int .i64 f1) := hg 2 (by omega) _ rfl
  have m3 : w4.cell? ⟨b1, o1 + i * 7 + 3, none⟩ = some (.int .i64 e0) := hg 3 (by omega) _ rfl
  have m4 : w4.cell? ⟨b1, o1 + i * 7 + 4, none⟩ = some (.int .i64 e1) := hg 4 (by omega) _ rfl
  have m5 : w4.cell? ⟨b1, o1 + i * 7 + 5, none⟩ = some (.int .i64 z0) := hg 5 (by omega) _ rfl
  have m6 : w4.cell? ⟨b1, o1 + i * 7 + 6, none⟩ = some (.int .i64 z1) := hg 6 (by omega) _ rfl
  have i1 : (0 : Int) ≤ (i : Int) := Int.natCast_nonneg _
  have i2 : (i : Int) < (n : Int) := by omega
  clear hcell hg
  go_wp2_with fail
  obtain ⟨w5, hw5⟩ : ∃ w5, w5 = (w4.alloc (.cells #[.int .i64 pc, .int .i64 f0, .int .i64 f1, .int .i64 e0, .int .i64 e1, .int .i64 z0, .int .i64 z1] 25)).alloc (.cells #[.int .i64 pc, .int .i64 f0, .int .i64 f1, .int .i64 e0, .int .i64 e1, .int .i64 z0, .int .i64 z1] 25) := ⟨_, rfl⟩
  rw [← hw5]
  have hB5 : Below w4.heap.size w4 w5 := by rw [hw5]; exact bal (bal (Below.refl _ _) _) _
  have hX5 : BPW w5 w4.heap.size ⟨pc, f0, f1, e0, e1, z0, z1⟩ := by unfold BPW; rw [hw5]; exact (Below.heap_alloc _ _ _ (by simp)).trans (World.alloc_heap_new w4 _)
  have hO5 : BPW w5 (w4.heap.size + 1) ⟨pc, f0, f1, e0, e1, z0, z1⟩ := by unfold BPW; rw [hw5]; have := World.alloc_heap_new (w4.alloc (.cells #[.int .i64 pc, .int .i64 f0, .int .i64 f1, .int .i64 e0, .int .i64 e1, .int .i64 z0, .int .i64 z1] 25)) (.cells #[.int .i64 pc, .int .i64 f0, .int .i64 f1, .int .i64 e0, .int .i64 e1, .int .i64 z0, .int .i64 z1] 25); rwa [World.size_alloc] at this
  clear hw5 m0 m1 m2 m3 m4 m5 m6
  refine (power_v 4 bq nv w5 (by omega) (by omega) (by omega) (by omega) HNV).mono ?_
  rintro e wp ⟨rfl, hbp⟩
  have hXp := hX5.go hbp
  have hOp := hO5.go hbp
  have hsz : w4.heap.size + 1 < wp.heap.size := hOp.lt
  have hBp := bgo hB5 hbp
  obtain ⟨W6, hW6⟩ : ∃ W6, W6 = wp.setCell ⟨w4.heap.size, 1, none⟩ (.int .i64 nv) := ⟨_, rfl⟩
  have hX6 : BPW W6 w4.heap.size ⟨pc, nv, f1, e0, e1, z0, z1⟩ := by rw [hW6]; exact heap_set (j := 1) hXp (.int .i64 nv) (by simp)
  have hO6 : BPW W6 (w4.heap.size + 1) ⟨pc, f0, f1, e0, e1, z0, z1⟩ := by rw [hW6]; exact (Below.heap_setCell _ _ _ _ (by simp)).trans hOp
  have hB6 : Below w4.heap.size w4 W6 := by rw [hW6]; exact hBp.setCell (Nat.le_refl _) _
  have HW6 := Lib.hid hW6
  have HZ6 : Hid (W6.heap.size = wp.heap.size) := Lib.hid (by rw [hW6]; simp [World.setCell])
  have kx := hXp.at.c1
  have fx := hXp.free 1
  simp only [] at kx
  have u0 := hXp.at.c0
  have v0 := hOp.at.c0
  have u1 := hXp.at.c1
  have v1 := hOp.at.c1
  have u2 := hXp.at.c2
  have v2 := hOp.at.c2
  have u3 := hXp.at.c3
  have v3 := hOp.at.c3
  have u4 := hXp.at.c4
  have v4 := hOp.at.c4
  have u5 := hXp.at.c5
  have v5 := hOp.at.c5
  have u6 := hXp.at.c6
  have v6 := hOp.at.c6
  simp only [] at u0 v0 u1 v1 u2 v2 u3 v3 u4 v4 u5 v5 u6 v6
  clear hW6 hX5 hO5 hbp hBp hB5
  go_upto_region 21 with (fail)
  rw [← HW6.out]
  clear hEQ kx fx u0 v0 u1 v1 u2 v2 u3 v3 u4 v4 u5 v5 u6 v6
  have HX6 := Lib.hid hX6
  have HS6 := Lib.hid (HS4.out.go hB6)
  have hBw6 := bgo hB4 hB6
  have hXl := hX6.lt
  have hown0 := own_empty W6 25 25 7 rfl
  have hsrc0 : Src W6 7 (.slice (some ⟨b1, o1, none⟩) n cap) n (bpsC l) := sl_src HS6.out (by omega)
  have GO := Lib.hid (And.intro hown0 hsrc0)
  clear hX6 hown0 hsrc0 hB4 hB6 HS4
  go_wp2_with (at_builtin; refine app_src (w0 := W6) rfl _ _ 22 rfl 25 k0 (.agg #[.int .i64 0, .int .i64 0, .int .i64 0, .int .i64 0, .int .i64 0, .int .i64 0, .int .i64 0]) 7 56 Tryd.underlying22 hk0 hy0 hy1 hy2 rfl (by decide) _ 0 [] rfl GO.out.1 (bal (Below.refl _ _) _) (.slice (some ⟨b1, o1, none⟩) n cap) n (bpsC l) rfl (GO.out.2.al _) H1.out (by unfold maxLen; omega) (by omega) ?_)
  intro v7 w7 hown7 hB7 _
  obtain ⟨g, cap7, hv7⟩ : ∃ g cap7, v7 = .slice (some ⟨g, 0, none⟩) n cap7 := by
    obtain ⟨n', rfl⟩ : ∃ n', n = n' + 1 := ⟨n - 1, by omega⟩
    exact ownsRow_succ hown7
  subst hv7
  have hgl := hown7.lt g rfl
  have hXne : w4.heap.size ≠ g := by omega
  have hX7 := HX6.out.go hB7
  have HO7 := Lib.hid hown7
  have d0 := hX7.at.c0
  have r0 : w7.cell? ⟨g, i * 7, none⟩ = some (.int .i64 pc) := row_at hown7 HLL.out i 0 hi2 (by omega) _ (by rw [HP.out]; rfl)
  have s0 := (row_cells hown7 (i * 7) (by omega)).2
  have d1 := hX7.at.c1
  have r1 : w7.cell? ⟨g, i * 7 + 1, none⟩ = some (.int .i64 f0) := row_at hown7 HLL.out i 1 hi2 (by omega) _ (by rw [HP.out]; rfl)
  have s1 := (row_cells hown7 (i * 7 + 1) (by omega)).2
  have d2 := hX7.at.c2
  have r2 : w7.cell? ⟨g, i * 7 + 2, none⟩ = some (.int .i64 f1) := row_at hown7 HLL.out i 2 hi2 (by omega) _ (by rw [HP.out]; rfl)
  have s2 := (row_cells hown7 (i * 7 + 2) (by omega)).2
  have d3 := hX7.at.c3
  have r3 : w7.cell? ⟨g, i * 7 + 3, none⟩ = some (.int .i64 e0) := row_at hown7 HLL.out i 3 hi2 (by omega) _ (by rw [HP.out]; rfl)
  have s3 := (row_cells hown7 (i * 7 + 3) (by omega)).2
  have d4 := hX7.at.c4
  have r4 : w7.cell? ⟨g, i * 7 + 4, none⟩ = some (.int .i64 e1) := row_at hown7 HLL.out i 4 hi2 (by omega) _ (by rw [HP.out]; rfl)
  have s4 := (row_cells hown7 (i * 7 + 4) (by omega)).2
  have d5 := hX7.at.c5
  have r5 : w7.cell? ⟨g, i * 7 + 5, none⟩ = some (.int .i64 z0) := row_at hown7 HLL.out i 5 hi2 (by omega) _ (by rw [HP.out]; rfl)
  have s5 := (row_cells hown7 (i * 7 + 5) (by omega)).2
  have d6 := hX7.at.c6
  have r6 : w7.cell? ⟨g, i * 7 + 6, none⟩ = some (.int .i64 z1) := row_at hown7 HLL.out i 6 hi2 (by omega) _ (by rw [HP.out]; rfl)
  have s6 := (row_cells hown7 (i * 7 + 6) (by omega)).2
  simp only [] at d0 d1 d2 d3 d4 d5 d6
  have dd0 : w7.drew.cell? ⟨w4.heap.size, 0, none⟩ = some (.int .i64 pc) := d0
  have dd1 : w7.drew.cell? ⟨w4.heap.size, 1, none⟩ = some (.int .i64 nv) := d1
  have dd2 : w7.drew.cell? ⟨w4.heap.size, 2, none⟩ = some (.int .i64 f1) := d2
  have dd3 : w7.drew.cell? ⟨w4.heap.size, 3, none⟩ = some (.int .i64 e0) := d3
  have dd4 : w7.drew.cell? ⟨w4.heap.size, 4, none⟩ = some (.int .i64 e1) := d4
  have dd5 : w7.drew.cell? ⟨w4.heap.size, 5, none⟩ = some (.int .i64 z0) := d5
  have dd6 : w7.drew.cell? ⟨w4.heap.size, 6, none⟩ = some (.int .i64 z1) := d6
  have hwat : IntKind.i64.wrap ati = ati := IntWalk.i64_in _ (by omega)
  have htat : ati.tmod (n : Int) = (i : Int) := by rw [Int.tmod_eq_emod_of_nonneg (by omega)]; exact hi
  have hn0 : n ≠ 0 := by omega
  clear hown7 GO hk hw hn hx hr hsh hnz hE0 hnz2 hne heq hi hbq hk0 hy0 hy1 hy2
  go_wp2_with fail
  go_region_held3 (fun w' => w'.cell? ⟨w4.heap.size, 0, none⟩ = some (.int .i64 pc) ∧ w'.cell? ⟨w4.heap.size, 1, none⟩ = some (.int .i64 nv) ∧ w'.cell? ⟨w4.heap.size, 2, none⟩ = some (.int .i64 f1) ∧ w'.cell? ⟨w4.heap.size, 3, none⟩ = some (.int .i64 e0) ∧ w'.cell? ⟨w4.heap.size, 4, none⟩ = some (.int .i64 e1) ∧ w'.cell? ⟨w4.heap.size, 5, none⟩ = some (.int .i64 z0) ∧ w'.cell? ⟨w4.heap.size, 6, none⟩ = some (.int .i64 z1))
    (first | (with_reducible exact ⟨dd0, dd1, dd2, dd3, dd4, dd5, dd6⟩) | (with_reducible exact ⟨keep7 hXne d0, keep7 hXne d1, keep7 hXne d2, keep7 hXne d3, keep7 hXne d4, keep7 hXne d5, keep7 hXne d6⟩))
    (fail)
  have hB8 := below7 (bgo hBw6 hB7) (show w.heap.size ≤ g by have := hBw6.size; omega) (.int .i64 pc) (.int .i64 nv) (.int .i64 f1) (.int .i64 e0) (.int .i64 e1) (.int .i64 z0) (.int .i64 z1) (i * 7) (i * 7 + 1) (i * 7 + 2) (i * 7 + 3) (i * 7 + 4) (i * 7 + 5) (i * 7 + 6)
  have hBl := below7 hB7 hgl.1 (.int .i64 pc) (.int .i64 nv) (.int .i64 f1) (.int .i64 e0) (.int .i64 e1) (.int .i64 z0) (.int .i64 z1) (i * 7) (i * 7 + 1) (i * 7 + 2) (i * 7 + 3) (i * 7 + 4) (i * 7 + 5) (i * 7 + 6)
  have hO8 := own7 HO7.out (.int .i64 pc) (.int .i64 nv) (.int .i64 f1) (.int .i64 e0) (.int .i64 e1) (.int .i64 z0) (.int .i64 z1) (i * 7) (i * 7 + 1) (i * 7 + 2) (i * 7 + 3) (i * 7 + 4) (i * 7 + 5) (i * 7 + 6)
  rw [HSET.out] at hO8
  obtain ⟨A8, cap8, hv8, _, _, hS8⟩ := own_sl hO8
  injection hv8 with hv81 hv82 hv83
  subst hv81 hv83
  have HS8 := Lib.hid (HS6.out.go hBl)
  have HSM := Lib.hid hS8
  clear hwat htat hO8 hS8 hBl HO7 hB7 hBw6 HS6 HX6 hX7 d0 dd0 r0 s0 d1 dd1 r1 s1 d2 dd2 r2 s2 d3 dd3 r3 s3 d4 dd4 r4 s4 d5 dd5 r5 s5 d6 dd6 r6 s6
  go_wp2_with fail
  refine (verify_at c (n : Int) n l (some ⟨b1, o1, none⟩) cap true HLL HV _ (HT.out.go hB8).1 HS8.out (by unfold maxLen; omega)).mono ?_
  rintro e w9 ⟨rfl, hB9⟩
  have hBw9 := bgo hB8 hB9
  have HSM9 := Lib.hid (HSM.out.go hB9)
  clear hB8 hB9 HS8 HSM
  go_wp2_with fail
  refine (verify_at c (n : Int) n _ (some ⟨g, 0, none⟩) cap7 false HLS HBAD _ (HT.out.go hBw9).1 HSM9.out (by unfold maxLen; omega)).mono ?_
  rintro e wa ⟨rfl, hBa⟩
  go_wp2
  go_ret
  exact ⟨rfl, bgo hBw9 hBa⟩
set_option maxHeartbeats 8000000 in
set_option maxRecDepth 100000 in
theorem rep_f1_eq (value blind bits : Int) (seed : ByteArray) (ati what by_ : Int) (w : World) (h0 : 0 ≤ value ∧ value ≤ 4294967295) (h1 : 0 ≤ blind ∧ blind ≤ 4294967295) (h2 : 0 ≤ bits ∧ bits ≤ 255) (h4 : 0 ≤ ati ∧ ati ≤ 255) (h5 : 0 ≤ what ∧ what ≤ 255) (h6 : 0 ≤ by_ ∧ by_ ≤ 4294967295) (hs : seed.size ≤ 60) (HT : Hid (Tabs w))
    (hk : ati / 16 % 2 = 1) (hw : what % 3 = 2) (n i : Nat) (hn : bits % 28 + 1 = (n : Int)) (hn1 : 1 ≤ n) (hn2 : n ≤ 28) (hi : ati % (n : Int) = (i : Int)) (hi2 : i < n) (E x r : Int) (hEb : 1 ≤ E ∧ E ≤ 268435456) (hsh : IntKind.i64.wrap ((2 : Int) ^ n) = E) (hx : value % E = x) (hxb : 0 ≤ x ∧ x < E) (HX : Hid (x < ((2 ^ n : Nat) : Int))) (hr : blind % 1073741789 = r) (hrb : 0 ≤ r ∧ r < 1073741789)
    (l : List BP) (HL : Hid (proveL x.toNat seed.data.toList r n = l)) (HLL : Hid (l.length = n)) (c : Int) (HC : Hid (commitI x r = c)) (HV : Hid (verifyB c n l = true)) (pc f0 f1 e0 e1 z0 z1 nv : Int) (HP : Hid (l.getD i zeroBP = ⟨pc, f0, f1, e0, e1, z0, z1⟩)) (HVP : Hid (validB ⟨pc, f0, f1, e0, e1, z0, z1⟩ = true))
    (hp3 : 0 ≤ e0 ∧ e0 < 1073741789) (hp4 : 0 ≤ e1 ∧ e1 < 1073741789) (hp5 : 0 ≤ z0 ∧ z0 < 1073741789) (hp6 : 0 ≤ z1 ∧ z1 < 1073741789) (bq : Int) (hbq : by_ % 1073741789 = bq) (HNV : Hid (pwI 4 bq = nv)) (hnb : 0 ≤ nv ∧ nv < 2147483579) (heq : (nv == f1) = true) :
    Calls Tryd.prog 5 #[.int .u32 value, .int .u32 blind, .int .u8 bits, .string seed, .int .u8 ati, .int .u8 what, .int .u32 by_] w fun e w' => e = .returned (.bool true) ∧ Below w.heap.size w w' := by
  have hnz : (E == 0) = false := beq_eq_false_iff_ne.2 (by omega)
  have hE0 : E ≠ 0 := by omega
  have hnz2 : ((n : Int) == 0) = false := beq_eq_false_iff_ne.2 (by omega)
  have hne : ((n : Int) != (n : Int)) = false := by simp
  have hEQ := fun w => eq_f1 pc f0 f1 e0 e1 z0 z1 nv w
  rw [heq] at hEQ
  obtain ⟨k0, hk0, hy0, hy1, hy2⟩ := info_parts info_bp
  go_enter Tryd.func5, Tryd.ntmps5
  go_wp2_with fail
  refine (head_any _ HT.out).mono ?_
  rintro e w1 ⟨rfl, hB1⟩
  go_wp2_with fail
  refine (prove_at x r (n : Int) n seed l HL rfl _ (HT.out.go hB1) hn1 hn2 hxb.1 HX.out hrb.1 hrb.2 hs).mono ?_
  rintro e w2 ⟨A, cap, rfl, hcap, hcm, hS, hB⟩
  have hB2 := bgo hB1 hB
  have HS := Lib.hid hS
  clear hB1 hB hS
  go_wp2_with fail
  refine (commit_at x r c HC _ (HT.out.go hB2).2 hxb.1 (by omega) hrb.1 hrb.2).mono ?_
  rintro e w4 ⟨rfl, hB⟩
  have hB4 := bgo hB2 hB
  have HS4 := Lib.hid (HS.out.go hB)
  clear hB2 hB HS
  obtain ⟨b1, o1, rfl, hb1⟩ := sl_addr HS4.out (by omega)
  obtain ⟨b', o', e', _, hcell⟩ := HS4.out.2 (by omega)
  injection e' with e'
  injection e' with q1 q2 q3
  subst q1 q2
  have hg := fun j (hj : j < 7) (v : Value) (hv : (bpC (l.getD i zeroBP))[j]? = some v) => hcell (i * 7 + j) v (by rw [bpsC_get l i j (by rw [HLL.out]; exact hi2) hj]; exact hv)
  rw [HP.out] at hg
  have m0 : w4.cell? ⟨b1, o1 + i * 7, none⟩ = some (.int .i64 pc) := hg 0 (by omega) _ rfl
  have m1 : w4.cell? ⟨b1, o1 + i * 7 + 1, none⟩ = some (.int .i64 f0) := hg 1 (by omega) _ rfl
  have m2 : w4.cell? ⟨b1, o1 + i * 7 + 2, none⟩ = some (.int .i64 f1) := hg 2 (by omega) _ rfl
  have m3 : w4.cell? ⟨b1, o1 + i * 7 + 3, none⟩ = some (.int .i64 e0) := hg 3 (by omega) _ rfl
  have m4 : w4.cell? ⟨b1, o1 + i * 7 + 4, none⟩ = some (.int .i64 e1) := hg 4 (by omega) _ rfl
  have m5 : w4.cell? ⟨b1, o1 + i * 7 + 5, none⟩ = some (.int .i64 z0) := hg 5 (by omega) _ rfl
  have m6 : w4.cell? ⟨b1, o1 + i * 7 + 6, none⟩ = some (.int .i64 z1) := hg 6 (by omega) _ rfl
  have i1 : (0 : Int) ≤ (i : Int) := Int.natCast_nonneg _
  have i2 : (i : Int) < (n : Int) := by omega
  clear hcell hg
  go_wp2_with fail
  obtain ⟨w5, hw5⟩ : ∃ w5, w5 = (w4.alloc (.cells #[.int .i64 pc, .int .i64 f0, .int .i64 f1, .int .i64 e0, .int .i64 e1, .int .i64 z0, .int .i64 z1] 25)).alloc (.cells #[.int .i64 pc, .int .i64 f0, .int .i64 f1, .int .i64 e0, .int .i64 e1, .int .i64 z0, .int .i64 z1] 25) := ⟨_, rfl⟩
  rw [← hw5]
  have hB5 : Below w4.heap.size w4 w5 := by rw [hw5]; exact bal (bal (Below.refl _ _) _) _
  have hX5 : BPW w5 w4.heap.size ⟨pc, f0, f1, e0, e1, z0, z1⟩ := by unfold BPW; rw [hw5]; exact (Below.heap_alloc _ _ _ (by simp)).trans (World.alloc_heap_new w4 _)
  have hO5 : BPW w5 (w4.heap.size + 1) ⟨pc, f0, f1, e0, e1, z0, z1⟩ := by unfold BPW; rw [hw5]; have := World.alloc_heap_new (w4.alloc (.cells #[.int .i64 pc, .int .i64 f0, .int .i64 f1, .int .i64 e0, .int .i64 e1, .int .i64 z0, .int .i64 z1] 25)) (.cells #[.int .i64 pc, .int .i64 f0, .int .i64 f1, .int .i64 e0, .int .i64 e1, .int .i64 z0, .int .i64 z1] 25); rwa [World.size_alloc] at this
  clear hw5 m0 m1 m2 m3 m4 m5 m6
  refine (power_v 4 bq nv w5 (by omega) (by omega) (by omega) (by omega) HNV).mono ?_
  rintro e wp ⟨rfl, hbp⟩
  have hXp := hX5.go hbp
  have hOp := hO5.go hbp
  have hsz : w4.heap.size + 1 < wp.heap.size := hOp.lt
  have hBp := bgo hB5 hbp
  obtain ⟨W6, hW6⟩ : ∃ W6, W6 = wp.setCell ⟨w4.heap.size, 2, none⟩ (.int .i64 nv) := ⟨_, rfl⟩
  have hX6 : BPW W6 w4.heap.size ⟨pc, f0, nv, e0, e1, z0, z1⟩ := by rw [hW6]; exact heap_set (j := 2) hXp (.int .i64 nv) (by simp)
  have hO6 : BPW W6 (w4.heap.size + 1) ⟨pc, f0, f1, e0, e1, z0, z1⟩ := by rw [hW6]; exact (Below.heap_setCell _ _ _ _ (by simp)).trans hOp
  have hB6 : Below w4.heap.size w4 W6 := by rw [hW6]; exact hBp.setCell (Nat.le_refl _) _
  have HW6 := Lib.hid hW6
  have HZ6 : Hid (W6.heap.size = wp.heap.size) := Lib.hid (by rw [hW6]; simp [World.setCell])
  have kx := hXp.at.c2
  have fx := hXp.free 2
  simp only [] at kx
  have u0 := hXp.at.c0
  have v0 := hOp.at.c0
  have u1 := hXp.at.c1
  have v1 := hOp.at.c1
  have u2 := hXp.at.c2
  have v2 := hOp.at.c2
  have u3 := hXp.at.c3
  have v3 := hOp.at.c3
  have u4 := hXp.at.c4
  have v4 := hOp.at.c4
  have u5 := hXp.at.c5
  have v5 := hOp.at.c5
  have u6 := hXp.at.c6
  have v6 := hOp.at.c6
  simp only [] at u0 v0 u1 v1 u2 v2 u3 v3 u4 v4 u5 v5 u6 v6
  clear hW6 hX5 hO5 hbp hBp hB5
  go_wp2
  go_ret
  exact ⟨rfl, by rw [← HW6.out]; exact bgo hB4 hB6⟩
set_option maxHeartbeats 8000000 in
set_option maxRecDepth 100000 in
theorem rep_f1_ne (value blind bits : Int) (seed : ByteArray) (ati what by_ : Int) (w : World) (h0 : 0 ≤ value ∧ value ≤ 4294967295) (h1 : 0 ≤ blind ∧ blind ≤ 4294967295) (h2 : 0 ≤ bits ∧ bits ≤ 255) (h4 : 0 ≤ ati ∧ ati ≤ 255) (h5 : 0 ≤ what ∧ what ≤ 255) (h6 : 0 ≤ by_ ∧ by_ ≤ 4294967295) (hs : seed.size ≤ 60) (HT : Hid (Tabs w))
    (hk : ati / 16 % 2 = 1) (hw : what % 3 = 2) (n i : Nat) (hn : bits % 28 + 1 = (n : Int)) (hn1 : 1 ≤ n) (hn2 : n ≤ 28) (hi : ati % (n : Int) = (i : Int)) (hi2 : i < n) (E x r : Int) (hEb : 1 ≤ E ∧ E ≤ 268435456) (hsh : IntKind.i64.wrap ((2 : Int) ^ n) = E) (hx : value % E = x) (hxb : 0 ≤ x ∧ x < E) (HX : Hid (x < ((2 ^ n : Nat) : Int))) (hr : blind % 1073741789 = r) (hrb : 0 ≤ r ∧ r < 1073741789)
    (l : List BP) (HL : Hid (proveL x.toNat seed.data.toList r n = l)) (HLL : Hid (l.length = n)) (c : Int) (HC : Hid (commitI x r = c)) (HV : Hid (verifyB c n l = true)) (pc f0 f1 e0 e1 z0 z1 nv : Int) (HP : Hid (l.getD i zeroBP = ⟨pc, f0, f1, e0, e1, z0, z1⟩)) (HVP : Hid (validB ⟨pc, f0, f1, e0, e1, z0, z1⟩ = true))
    (hp3 : 0 ≤ e0 ∧ e0 < 1073741789) (hp4 : 0 ≤ e1 ∧ e1 < 1073741789) (hp5 : 0 ≤ z0 ∧ z0 < 1073741789) (hp6 : 0 ≤ z1 ∧ z1 < 1073741789) (bq : Int) (hbq : by_ % 1073741789 = bq) (HNV : Hid (pwI 4 bq = nv)) (hnb : 0 ≤ nv ∧ nv < 2147483579) (heq : (nv == f1) = false) :
    Calls Tryd.prog 5 #[.int .u32 value, .int .u32 blind, .int .u8 bits, .string seed, .int .u8 ati, .int .u8 what, .int .u32 by_] w fun e w' => e = .returned (.bool true) ∧ Below w.heap.size w w' := by
  have hnz : (E == 0) = false := beq_eq_false_iff_ne.2 (by omega)
  have hE0 : E ≠ 0 := by omega
  have hnz2 : ((n : Int) == 0) = false := beq_eq_false_iff_ne.2 (by omega)
  have hne : ((n : Int) != (n : Int)) = false := by simp
  have hEQ := fun w => eq_f1 pc f0 f1 e0 e1 z0 z1 nv w
  rw [heq] at hEQ
  have HBAD : Hid (verifyB c n (l.set i ⟨pc, f0, nv, e0, e1, z0, z1⟩) = false) := Lib.hid (verify_set c n l i _ (by rw [HLL.out]; exact hi2) (bad_f1 HVP.out (fun h => by rw [h] at heq; simp at heq)))
  have HLS : Hid ((l.set i ⟨pc, f0, nv, e0, e1, z0, z1⟩).length = n) := Lib.hid (by rw [List.length_set]; exact HLL.out)
  have HSET := Lib.hid (set_bps l i ⟨pc, f0, nv, e0, e1, z0, z1⟩ (by rw [HLL.out]; exact hi2))
  have H1 := Lib.hid (bpsC_one l)
  obtain ⟨k0, hk0, hy0, hy1, hy2⟩ := info_parts info_bp
  go_enter Tryd.func5, Tryd.ntmps5
  go_wp2_with fail
  refine (head_any _ HT.out).mono ?_
  rintro e w1 ⟨rfl, hB1⟩
  go_wp2_with fail
  refine (prove_at x r (n : Int) n seed l HL rfl _ (HT.out.go hB1) hn1 hn2 hxb.1 HX.out hrb.1 hrb.2 hs).mono ?_
  rintro e w2 ⟨A, cap, rfl, hcap, hcm, hS, hB⟩
  have hB2 := bgo hB1 hB
  have HS := Lib.hid hS
  clear hB1 hB hS
  go_wp2_with fail
  refine (commit_at x r c HC _ (HT.out.go hB2).2 hxb.1 (by omega) hrb.1 hrb.2).mono ?_
  rintro e w4 ⟨rfl, hB⟩
  have hB4 := bgo hB2 hB
  have HS4 := Lib.hid (HS.out.go hB)
  clear hB2 hB HS
  obtain ⟨b1, o1, rfl, hb1⟩ := sl_addr HS4.out (by omega)
  obtain ⟨b', o', e', _, hcell⟩ := HS4.out.2 (by omega)
  injection e' with e'
  injection e' with q1 q2 q3
  subst q1 q2
  have hg := fun j (hj : j < 7) (v : Value) (hv : (bpC (l.getD i zeroBP))[j]? = some v) => hcell (i * 7 + j) v (by rw [bpsC_get l i j (by rw [HLL.out]; exact hi2) hj]; exact hv)
  rw [HP.out] at hg
  have m0 : w4.cell? ⟨b1, o1 + i * 7, none⟩ = some (.int .i64 pc) := hg 0 (by omega) _ rfl
  have m1 : w4.cell? ⟨b1, o1 + i * 7 + 1, none⟩ = some (.int .i64 f0) := hg 1 (by omega) _ rfl
  have m2 : w4.cell? ⟨b1, o1 + i * 7 + 2, none⟩ = some (.int .i64 f1) := hg 2 (by omega) _ rfl
  have m3 : w4.cell? ⟨b1, o1 + i * 7 + 3, none⟩ = some (.int .i64 e0) := hg 3 (by omega) _ rfl
  have m4 : w4.cell? ⟨b1, o1 + i * 7 + 4, none⟩ = some (.int .i64 e1) := hg 4 (by omega) _ rfl
  have m5 : w4.cell? ⟨b1, o1 + i * 7 + 5, none⟩ = some (.int .i64 z0) := hg 5 (by omega) _ rfl
  have m6 : w4.cell? ⟨b1, o1 + i * 7 + 6, none⟩ = some (.int .i64 z1) := hg 6 (by omega) _ rfl
  have i1 : (0 : Int) ≤ (i : Int) := Int.natCast_nonneg _
  have i2 : (i : Int) < (n : Int) := by omega
  clear hcell hg
  go_wp2_with fail
  obtain ⟨w5, hw5⟩ : ∃ w5, w5 = (w4.alloc (.cells #[.int .i64 pc, .int .i64 f0, .int .i64 f1, .int .i64 e0, .int .i64 e1, .int .i64 z0, .int .i64 z1] 25)).alloc (.cells #[.int .i64 pc, .int .i64 f0, .int .i64 f1, .int .i64 e0, .int .i64 e1, .int .i64 z0, .int .i64 z1] 25) := ⟨_, rfl⟩
  rw [← hw5]
  have hB5 : Below w4.heap.size w4 w5 := by rw [hw5]; exact bal (bal (Below.refl _ _) _) _
  have hX5 : BPW w5 w4.heap.size ⟨pc, f0, f1, e0, e1, z0, z1⟩ := by unfold BPW; rw [hw5]; exact (Below.heap_alloc _ _ _ (by simp)).trans (World.alloc_heap_new w4 _)
  have hO5 : BPW w5 (w4.heap.size + 1) ⟨pc, f0, f1, e0, e1, z0, z1⟩ := by unfold BPW; rw [hw5]; have := World.alloc_heap_new (w4.alloc (.cells #[.int .i64 pc, .int .i64 f0, .int .i64 f1, .int .i64 e0, .int .i64 e1, .int .i64 z0, .int .i64 z1] 25)) (.cells #[.int .i64 pc, .int .i64 f0, .int .i64 f1, .int .i64 e0, .int .i64 e1, .int .i64 z0, .int .i64 z1] 25); rwa [World.size_alloc] at this
  clear hw5 m0 m1 m2 m3 m4 m5 m6
  refine (power_v 4 bq nv w5 (by omega) (by omega) (by omega) (by omega) HNV).mono ?_
  rintro e wp ⟨rfl, hbp⟩
  have hXp := hX5.go hbp
  have hOp := hO5.go hbp
  have hsz : w4.heap.size + 1 < wp.heap.size := hOp.lt
  have hBp := bgo hB5 hbp
  obtain ⟨W6, hW6⟩ : ∃ W6, W6 = wp.setCell ⟨w4.heap.size, 2, none⟩ (.int .i64 nv) := ⟨_, rfl⟩
  have hX6 : BPW W6 w4.heap.size ⟨pc, f0, nv, e0, e1, z0, z1⟩ := by rw [hW6]; exact heap_set (j := 2) hXp (.int .i64 nv) (by simp)
  have hO6 : BPW W6 (w4.heap.size + 1) ⟨pc, f0, f1, e0, e1, z0, z1⟩ := by rw [hW6]; exact (Below.heap_setCell _ _ _ _ (by simp)).trans hOp
  have hB6 : Below w4.heap.size w4 W6 := by rw [hW6]; exact hBp.setCell (Nat.le_refl _) _
  have HW6 := Lib.hid hW6
  have HZ6 : Hid (W6.heap.size = wp.heap.size) := Lib.hid (by rw [hW6]; simp [World.setCell])
  have kx := hXp.at.c2
  have fx := hXp.free 2
  simp only [] at kx
  have u0 := hXp.at.c0
  have v0 := hOp.at.c0
  have u1 := hXp.at.c1
  have v1 := hOp.at.c1
  have u2 := hXp.at.c2
  have v2 := hOp.at.c2
  have u3 := hXp.at.c3
  have v3 := hOp.at.c3
  have u4 := hXp.at.c4
  have v4 := hOp.at.c4
  have u5 := hXp.at.c5
  have v5 := hOp.at.c5
  have u6 := hXp.at.c6
  have v6 := hOp.at.c6
  simp only [] at u0 v0 u1 v1 u2 v2 u3 v3 u4 v4 u5 v5 u6 v6
  clear hW6 hX5 hO5 hbp hBp hB5
  go_upto_region 21 with (fail)
  rw [← HW6.out]
  clear hEQ kx fx u0 v0 u1 v1 u2 v2 u3 v3 u4 v4 u5 v5 u6 v6
  have HX6 := Lib.hid hX6
  have HS6 := Lib.hid (HS4.out.go hB6)
  have hBw6 := bgo hB4 hB6
  have hXl := hX6.lt
  have hown0 := own_empty W6 25 25 7 rfl
  have hsrc0 : Src W6 7 (.slice (some ⟨b1, o1, none⟩) n cap) n (bpsC l) := sl_src HS6.out (by omega)
  have GO := Lib.hid (And.intro hown0 hsrc0)
  clear hX6 hown0 hsrc0 hB4 hB6 HS4
  go_wp2_with (at_builtin; refine app_src (w0 := W6) rfl _ _ 22 rfl 25 k0 (.agg #[.int .i64 0, .int .i64 0, .int .i64 0, .int .i64 0, .int .i64 0, .int .i64 0, .int .i64 0]) 7 56 Tryd.underlying22 hk0 hy0 hy1 hy2 rfl (by decide) _ 0 [] rfl GO.out.1 (bal (Below.refl _ _) _) (.slice (some ⟨b1, o1, none⟩) n cap) n (bpsC l) rfl (GO.out.2.al _) H1.out (by unfold maxLen; omega) (by omega) ?_)
  intro v7 w7 hown7 hB7 _
  obtain ⟨g, cap7, hv7⟩ : ∃ g cap7, v7 = .slice (some ⟨g, 0, none⟩) n cap7 := by
    obtain ⟨n', rfl⟩ : ∃ n', n = n' + 1 := ⟨n - 1, by omega⟩
    exact ownsRow_succ hown7
  subst hv7
  have hgl := hown7.lt g rfl
  have hXne : w4.heap.size ≠ g := by omega
  have hX7 := HX6.out.go hB7
  have HO7 := Lib.hid hown7
  have d0 := hX7.at.c0
  have r0 : w7.cell? ⟨g, i * 7, none⟩ = some (.int .i64 pc) := row_at hown7 HLL.out i 0 hi2 (by omega) _ (by rw [HP.out]; rfl)
  have s0 := (row_cells hown7 (i * 7) (by omega)).2
  have d1 := hX7.at.c1
  have r1 : w7.cell? ⟨g, i * 7 + 1, none⟩ = some (.int .i64 f0) := row_at hown7 HLL.out i 1 hi2 (by omega) _ (by rw [HP.out]; rfl)
  have s1 := (row_cells hown7 (i * 7 + 1) (by omega)).2
  have d2 := hX7.at.c2
  have r2 : w7.cell? ⟨g, i * 7 + 2, none⟩ = some (.int .i64 f1) := row_at hown7 HLL.out i 2 hi2 (by omega) _ (by rw [HP.out]; rfl)
  have s2 := (row_cells hown7 (i * 7 + 2) (by omega)).2
  have d3 := hX7.at.c3
  have r3 : w7.cell? ⟨g, i * 7 + 3, none⟩ = some (.int .i64 e0) := row_at hown7 HLL.out i 3 hi2 (by omega) _ (by rw [HP.out]; rfl)
  have s3 := (row_cells hown7 (i * 7 + 3) (by omega)).2
  have d4 := hX7.at.c4
  have r4 : w7.cell? ⟨g, i * 7 + 4, none⟩ = some (.int .i64 e1) := row_at hown7 HLL.out i 4 hi2 (by omega) _ (by rw [HP.out]; rfl)
  have s4 := (row_cells hown7 (i * 7 + 4) (by omega)).2
  have d5 := hX7.at.c5
  have r5 : w7.cell? ⟨g, i * 7 + 5, none⟩ = some (.int .i64 z0) := row_at hown7 HLL.out i 5 hi2 (by omega) _ (by rw [HP.out]; rfl)
  have s5 := (row_cells hown7 (i * 7 + 5) (by omega)).2
  have d6 := hX7.at.c6
  have r6 : w7.cell? ⟨g, i * 7 + 6, none⟩ = some (.int .i64 z1) := row_at hown7 HLL.out i 6 hi2 (by omega) _ (by rw [HP.out]; rfl)
  have s6 := (row_cells hown7 (i * 7 + 6) (by omega)).2
  simp only [] at d0 d1 d2 d3 d4 d5 d6
  have dd0 : w7.drew.cell? ⟨w4.heap.size, 0, none⟩ = some (.int .i64 pc) := d0
  have dd1 : w7.drew.cell? ⟨w4.heap.size, 1, none⟩ = some (.int .i64 f0) := d1
  have dd2 : w7.drew.cell? ⟨w4.heap.size, 2, none⟩ = some (.int .i64 nv) := d2
  have dd3 : w7.drew.cell? ⟨w4.heap.size, 3, none⟩ = some (.int .i64 e0) := d3
  have dd4 : w7.drew.cell? ⟨w4.heap.size, 4, none⟩ = some (.int .i64 e1) := d4
  have dd5 : w7.drew.cell? ⟨w4.heap.size, 5, none⟩ = some (.int .i64 z0) := d5
  have dd6 : w7.drew.cell? ⟨w4.heap.size, 6, none⟩ = some (.int .i64 z1) := d6
  have hwat : IntKind.i64.wrap ati = ati := IntWalk.i64_in _ (by omega)
  have htat : ati.tmod (n : Int) = (i : Int) := by rw [Int.tmod_eq_emod_of_nonneg (by omega)]; exact hi
  have hn0 : n ≠ 0 := by omega
  clear hown7 GO hk hw hn hx hr hsh hnz hE0 hnz2 hne heq hi hbq hk0 hy0 hy1 hy2
  go_wp2_with fail
  go_region_held3 (fun w' => w'.cell? ⟨w4.heap.size, 0, none⟩ = some (.int .i64 pc) ∧ w'.cell? ⟨w4.heap.size, 1, none⟩ = some (.int .i64 f0) ∧ w'.cell? ⟨w4.heap.size, 2, none⟩ = some (.int .i64 nv) ∧ w'.cell? ⟨w4.heap.size, 3, none⟩ = some (.int .i64 e0) ∧ w'.cell? ⟨w4.heap.size, 4, none⟩ = some (.int .i64 e1) ∧ w'.cell? ⟨w4.heap.size, 5, none⟩ = some (.int .i64 z0) ∧ w'.cell? ⟨w4.heap.size, 6, none⟩ = some (.int .i64 z1))
    (first | (with_reducible exact ⟨dd0, dd1, dd2, dd3, dd4, dd5, dd6⟩) | (with_reducible exact ⟨keep7 hXne d0, keep7 hXne d1, keep7 hXne d2, keep7 hXne d3, keep7 hXne d4, keep7 hXne d5, keep7 hXne d6⟩))
    (fail)
  have hB8 := below7 (bgo hBw6 hB7) (show w.heap.size ≤ g by have := hBw6.size; omega) (.int .i64 pc) (.int .i64 f0) (.int .i64 nv) (.int .i64 e0) (.int .i64 e1) (.int .i64 z0) (.int .i64 z1) (i * 7) (i * 7 + 1) (i * 7 + 2) (i * 7 + 3) (i * 7 + 4) (i * 7 + 5) (i * 7 + 6)
  have hBl := below7 hB7 hgl.1 (.int .i64 pc) (.int .i64 f0) (.int .i64 nv) (.int .i64 e0) (.int .i64 e1) (.int .i64 z0) (.int .i64 z1) (i * 7) (i * 7 + 1) (i * 7 + 2) (i * 7 + 3) (i * 7 + 4) (i * 7 + 5) (i * 7 + 6)
  have hO8 := own7 HO7.out (.int .i64 pc) (.int .i64 f0) (.int .i64 nv) (.int .i64 e0) (.int .i64 e1) (.int .i64 z0) (.int .i64 z1) (i * 7) (i * 7 + 1) (i * 7 + 2) (i * 7 + 3) (i * 7 + 4) (i * 7 + 5) (i * 7 + 6)
  rw [HSET.out] at hO8
  obtain ⟨A8, cap8, hv8, _, _, hS8⟩ := own_sl hO8
  injection hv8 with hv81 hv82 hv83
  subst hv81 hv83
  have HS8 := Lib.hid (HS6.out.go hBl)
  have HSM := Lib.hid hS8
  clear hwat htat hO8 hS8 hBl HO7 hB7 hBw6 HS6 HX6 hX7 d0 dd0 r0 s0 d1 dd1 r1 s1 d2 dd2 r2 s2 d3 dd3 r3 s3 d4 dd4 r4 s4 d5 dd5 r5 s5 d6 dd6 r6 s6
  go_wp2_with fail
  refine (verify_at c (n : Int) n l (some ⟨b1, o1, none⟩) cap true HLL HV _ (HT.out.go hB8).1 HS8.out (by unfold maxLen; omega)).mono ?_
  rintro e w9 ⟨rfl, hB9⟩
  have hBw9 := bgo hB8 hB9
  have HSM9 := Lib.hid (HSM.out.go hB9)
  clear hB8 hB9 HS8 HSM
  go_wp2_with fail
  refine (verify_at c (n : Int) n _ (some ⟨g, 0, none⟩) cap7 false HLS HBAD _ (HT.out.go hBw9).1 HSM9.out (by unfold maxLen; omega)).mono ?_
  rintro e wa ⟨rfl, hBa⟩
  go_wp2
  go_ret
  exact ⟨rfl, bgo hBw9 hBa⟩
end Go.Proofs.YthebahahpkficaaDoor
