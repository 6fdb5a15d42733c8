/- The walks of the reference package 27, second part: random, challenge, bit. -/
import Derived.Test.YthebahahpkficaaDoorRpRef1
namespace Go.Proofs.YthebahahpkficaaDoor
open Go.RowKit
set_option linter.unusedVariables false
theorem digits_at (x : Int) (t : ByteArray) (ht : Hid (itoaB x = t)) (h0 : 0 ≤ x) (h1 : x < 2147483579) (w : World) : Calls Tryd.prog 47 #[.int .i64 x] w fun r w' => r = .returned (.string t) ∧ Below w.heap.size w w' := by
  obtain ⟨n, rfl⟩ := Int.eq_ofNat_of_zero_le h0
  rw [← ht.out]
  exact digits_any n (by omega) w
theorem rsum_at (s : ByteArray) (d : UInt64) (hd : Hid (Dig.sum s.data.toList = d)) (w : World) (hs : s.size ≤ maxLen) : Calls Tryd.prog 46 #[.string s] w fun e w' => e = .returned (.int .u64 d.toNat) ∧ w = w' := by
  rw [← hd.out]
  exact rsum_any s w hs
set_option maxHeartbeats 2000000 in
set_option maxRecDepth 100000 in
theorem rrandom_v (seed : ByteArray) (i k v : Int) (hv : Hid (rndI seed.data.toList i k = v)) (w : World) (hs : seed.size ≤ 1000) (i0 : 0 ≤ i) (i1 : i < 1000) (k0 : 0 ≤ k) (k1 : k < 1000) :
    Calls Tryd.prog 28 #[.string seed, .int .i64 i, .int .i64 k] w fun e w' => e = .returned (.int .i64 v) ∧ Below w.heap.size w w' := by
  obtain ⟨ti, hti⟩ : ∃ t, itoaB i = t := ⟨_, rfl⟩
  obtain ⟨tk, htk⟩ : ∃ t, itoaB k = t := ⟨_, rfl⟩
  have li := itoaB_size i (by omega) (by omega)
  have lk := itoaB_size k (by omega) (by omega)
  rw [hti] at li
  rw [htk] at lk
  obtain ⟨d, hd⟩ : ∃ d, Dig.sum (seed ++ ⟨#[32]⟩ ++ ti ++ ⟨#[32]⟩ ++ tk).data.toList = d := ⟨_, rfl⟩
  have hvd : modQ d = v := by
    rw [← hv.out, ← hd, ← hti, ← htk]
    unfold rndI rnText
    congr 2
    simp only [app_data]
    show seed.data.toList ++ [32] ++ Lib.itoa i ++ [32] ++ Lib.itoa k = _
    simp
  have hss : (seed ++ ⟨#[32]⟩ ++ ti ++ ⟨#[32]⟩ ++ tk).size ≤ maxLen := by
    simp only [app_size]
    show seed.size + 1 + ti.size + 1 + tk.size ≤ _
    unfold maxLen; omega
  have n1 : ¬ (9223372036854775807 < seed.size + 1) := by omega
  have n2 : ¬ (9223372036854775807 < seed.size + 1 + ti.size) := by omega
  have n3 : ¬ (9223372036854775807 < seed.size + 1 + ti.size + 1) := by omega
  have n4 : ¬ (9223372036854775807 < seed.size + 1 + ti.size + 1 + tk.size) := by omega
  have HTI := Lib.hid hti
  have HTK := Lib.hid htk
  have HD := Lib.hid hd
  have HVD := Lib.hid hvd
  clear hti htk hd hvd hv
  go_enter Tryd.func28, Tryd.ntmps28
  go_wp2_with fail
  refine (digits_at i ti HTI (by omega) (by omega) _).mono ?_
  rintro e w1 ⟨rfl, hB1⟩
  go_wp2_with fail
  refine (digits_at k tk HTK (by omega) (by omega) _).mono ?_
  rintro e w2 ⟨rfl, hB2⟩
  go_wp2_with fail
  refine (rsum_at _ d HD _ hss).mono ?_
  rintro e w' ⟨rfl, rfl⟩
  go_wp2_with fail
  refine (rmod_v d v HVD _).mono ?_
  rintro e w' ⟨rfl, rfl⟩
  go_wp2
  go_ret
  exact ⟨rfl, bgo hB1 hB2⟩
set_option maxHeartbeats 2000000 in
set_option maxRecDepth 100000 in
theorem rchal_v (a b c v : Int) (hv : Hid (chalI a b c = v)) (w : World) (a0 : 0 ≤ a ∧ a < 2147483579) (b0 : 0 ≤ b ∧ b < 2147483579) (c0 : 0 ≤ c ∧ c < 2147483579) :
    Calls Tryd.prog 53 #[.int .i64 a, .int .i64 b, .int .i64 c] w fun e w' => e = .returned (.int .i64 v) ∧ Below w.heap.size w w' := by
  obtain ⟨ta, hta⟩ : ∃ t, itoaB a = t := ⟨_, rfl⟩
  obtain ⟨tb, htb⟩ : ∃ t, itoaB b = t := ⟨_, rfl⟩
  obtain ⟨tc, htc⟩ : ∃ t, itoaB c = t := ⟨_, rfl⟩
  have la := itoaB_size a (by omega) (by omega)
  have lb := itoaB_size b (by omega) (by omega)
  have lc := itoaB_size c (by omega) (by omega)
  rw [hta] at la
  rw [htb] at lb
  rw [htc] at lc
  obtain ⟨d, hd⟩ : ∃ d, Dig.sum ((⟨#[99, 32]⟩ : ByteArray) ++ ta ++ ⟨#[32]⟩ ++ tb ++ ⟨#[32]⟩ ++ tc).data.toList = d := ⟨_, rfl⟩
  have hvd : modQ d = v := by
    rw [← hv.out, ← hd, ← hta, ← htb, ← htc]
    unfold chalI chText
    congr 2
  have hss : ((⟨#[99, 32]⟩ : ByteArray) ++ ta ++ ⟨#[32]⟩ ++ tb ++ ⟨#[32]⟩ ++ tc).size ≤ maxLen := by
    simp only [app_size]
    show 2 + ta.size + 1 + tb.size + 1 + tc.size ≤ _
    unfold maxLen; omega
  have n1 : ¬ (9223372036854775807 < 2 + ta.size) := by omega
  have n2 : ¬ (9223372036854775807 < 2 + ta.size + 1) := by omega
  have n3 : ¬ (9223372036854775807 < 2 + ta.size + 1 + tb.size) := by omega
  have n4 : ¬ (9223372036854775807 < 2 + ta.size + 1 + tb.size + 1) := by omega
  have n5 : ¬ (9223372036854775807 < 2 + ta.size + 1 + tb.size + 1 + tc.size) := by omega
  have HTA := Lib.hid hta
  have HTB := Lib.hid htb
  have HTC := Lib.hid htc
  have HD := Lib.hid hd
  have HVD := Lib.hid hvd
  clear hta htb htc hd hvd hv
  go_enter Tryd.func53, Tryd.ntmps53
  go_wp2_with fail
  refine (digits_at a ta HTA a0.1 a0.2 _).mono ?_
  rintro e w1 ⟨rfl, hB1⟩
  go_wp2_with fail
  refine (digits_at b tb HTB b0.1 b0.2 _).mono ?_
  rintro e w2 ⟨rfl, hB2⟩
  go_wp2_with fail
  refine (digits_at c tc HTC c0.1 c0.2 _).mono ?_
  rintro e w3 ⟨rfl, hB3⟩
  go_wp2_with fail
  refine (rsum_at _ d HD _ hss).mono ?_
  rintro e w' ⟨rfl, rfl⟩
  go_wp2_with fail
  refine (rmod_v d v HVD _).mono ?_
  rintro e w' ⟨rfl, rfl⟩
  go_wp2
  go_ret
  exact ⟨rfl, bgo hB1 (bgo hB2 hB3)⟩
set_option maxHeartbeats 8000000 in
set_option maxRecDepth 100000 in
theorem rbit_0 (r k e z : Int) (seed : ByteArray) (j : Int) (p : BP) (hp : Hid (bit0P r k e z = p)) (hk : Hid (rndI seed.data.toList j 1 = k)) (he : Hid (rndI seed.data.toList j 2 = e)) (hz : Hid (rndI seed.data.toList j 3 = z)) (w : World) (hs : seed.size ≤ 60) (j0 : 0 ≤ j) (j1 : j < 100) (r0 : 0 ≤ r) (r1 : r < 1073741789) :
    Calls Tryd.prog 29 #[.int .i64 0, .int .i64 r, .string seed, .int .i64 j] w fun q w' => q = .returned (bpVal p) ∧ Below w.heap.size w w' := by
  have kb := rndI_bd seed.data.toList j 1
  have ebd := rndI_bd seed.data.toList j 2
  have zbd := rndI_bd seed.data.toList j 3
  rw [hk.out] at kb
  rw [he.out] at ebd
  rw [hz.out] at zbd
  obtain ⟨c, hc⟩ : ∃ c, commitI 0 r = c := ⟨_, rfl⟩
  have hcb := commitI_bd 0 r
  rw [hc] at hcb
  obtain ⟨x, hx⟩ : ∃ x, pwI 9 k = x := ⟨_, rfl⟩
  have hxb := pwI_bd 9 k
  rw [hx] at hxb
  obtain ⟨d, hd⟩ : ∃ d, divI c 1 = d := ⟨_, rfl⟩
  have hdb := divI_bd c 1
  rw [hd] at hdb
  obtain ⟨q, hq⟩ : ∃ q, pwI d 1073741788 = q := ⟨_, rfl⟩
  have hqb := pwI_bd d 1073741788
  rw [hq] at hqb
  obtain ⟨u, hu⟩ : ∃ u, pwI q e = u := ⟨_, rfl⟩
  have hub := pwI_bd q e
  rw [hu] at hub
  obtain ⟨t, ht⟩ : ∃ t, pwI 9 z = t := ⟨_, rfl⟩
  have htb := pwI_bd 9 z
  rw [ht] at htb
  obtain ⟨y, hy⟩ : ∃ y, t * u % 2147483579 = y := ⟨_, rfl⟩
  have hyb : 0 ≤ y ∧ y < 2147483579 := by rw [← hy]; omega
  have hoy : otherF c 1 e z = y := by unfold otherF; rw [hd, hq, hu, ht, hy]
  obtain ⟨ch, hch⟩ : ∃ ch, chalI c x y = ch := ⟨_, rfl⟩
  have hchb := chalI_bd c x y
  rw [hch] at hchb
  obtain ⟨eb, heb⟩ : ∃ eb, (ch - e) % 1073741789 = eb := ⟨_, rfl⟩
  have hebb : 0 ≤ eb ∧ eb < 1073741789 := by rw [← heb]; omega
  have heb2 : (ch + 1073741789 - e) % 1073741789 = eb := by rw [← heb]; omega
  have hmul := mulQ hebb.1 hebb.2 r0 r1
  obtain ⟨zb, hzb⟩ : ∃ zb, ownZ k eb r = zb := ⟨_, rfl⟩
  have hzb2 : (k + eb * r) % 1073741789 = zb := hzb
  have hpe : p = ⟨c, x, y, eb, e, zb, z⟩ := by
    rw [← hp.out]
    unfold bit0P ownE
    rw [hc, hx, hoy, hch, heb, hzb]
  subst hpe
  have HC := Lib.hid hc
  have HX := Lib.hid hx
  have HD := Lib.hid hd
  have HQ := Lib.hid hq
  have HU := Lib.hid hu
  have HT := Lib.hid ht
  have HY := Lib.hid hy
  have HCH := Lib.hid hch
  clear hp hc hx hd hq hu ht hy hoy hch heb hzb
  go_enter Tryd.func29, Tryd.ntmps29
  go_wp2_with fail
  obtain ⟨w1, hw1⟩ : ∃ w1, w1 = w.alloc (.cells #[.int .i64 0, .int .i64 0, .int .i64 0, .int .i64 0, .int .i64 0, .int .i64 0, .int .i64 0] 25) := ⟨_, rfl⟩
  rw [← hw1]
  have hB1 : Below w.heap.size w w1 := by rw [hw1]; exact bal (Below.refl _ _) _
  have hR1 : BPW w1 w.heap.size ⟨0, 0, 0, 0, 0, 0, 0⟩ := by unfold BPW; rw [hw1]; exact World.alloc_heap_new w _
  clear hw1
  refine (rcommit_v 0 r c HC w1 (by omega) (by omega) r0 r1).mono ?_
  rintro e_ w' ⟨rfl, rfl⟩
  go_wp2_with fail
  refine (rrandom_v seed j 1 k hk w1 (by omega) j0 (by omega) (by omega) (by omega)).mono ?_
  rintro e_ w2 ⟨rfl, hB⟩
  have hB2 := bgo hB1 hB
  have hR2 := hR1.go hB
  clear hB hB1 hR1
  go_wp2_with fail
  refine (rrandom_v seed j 2 e he w2 (by omega) j0 (by omega) (by omega) (by omega)).mono ?_
  rintro e_ w3 ⟨rfl, hB⟩
  have hB3 := bgo hB2 hB
  have hR3 := hR2.go hB
  clear hB hB2 hR2
  go_wp2_with fail
  refine (rrandom_v seed j 3 z hz w3 (by omega) j0 (by omega) (by omega) (by omega)).mono ?_
  rintro e_ w4 ⟨rfl, hB⟩
  have hB4 := bgo hB3 hB
  have hR4 := hR3.go hB
  clear hB hB3 hR3
  go_wp2_with fail
  refine (rpower_v 9 z t _ (by omega) (by omega) (by omega) (by omega) HT).mono ?_
  rintro e_ w' ⟨rfl, rfl⟩
  go_wp2_with fail
  refine (shifted_v c 1 d (by omega) HD _ hcb.1 hcb.2).mono ?_
  rintro e_ w' ⟨rfl, rfl⟩
  go_wp2_with fail
  refine (inverse_v d q HQ _ hdb.1 hdb.2).mono ?_
  rintro e_ w' ⟨rfl, rfl⟩
  go_wp2_with fail
  refine (rpower_v q e u _ (by omega) (by omega) (by omega) (by omega) HU).mono ?_
  rintro e_ w' ⟨rfl, rfl⟩
  go_wp2_with fail
  refine (times_v t u y HY _ htb.1 htb.2 hub.1 hub.2).mono ?_
  rintro e_ w' ⟨rfl, rfl⟩
  go_wp2_with fail
  refine (rpower_v 9 k x _ (by omega) (by omega) (by omega) (by omega) HX).mono ?_
  rintro e_ w' ⟨rfl, rfl⟩
  go_wp2_with fail
  obtain ⟨w5, hw5⟩ : ∃ w5, w5 = w4.alloc (.cells #[.int .i64 c, .int .i64 x, .int .i64 y, .int .i64 0, .int .i64 e, .int .i64 0, .int .i64 z] 25) := ⟨_, rfl⟩
  rw [← hw5]
  have hB5 : Below w4.heap.size w4 w5 := by rw [hw5]; exact bal (Below.refl _ _) _
  have hX5 : BPW w5 w4.heap.size ⟨c, x, y, 0, e, 0, z⟩ := by unfold BPW; rw [hw5]; exact World.alloc_heap_new w4 _
  have hR5 := hR4.go hB5
  have hBw5 := bgo hB4 hB5
  have hlt : w.heap.size < w4.heap.size := hR4.lt
  clear hw5 hB5 hR4 hB4
  refine (rchal_v c x y ch HCH w5 hcb (by omega) (by omega)).mono ?_
  rintro e_ w6 ⟨rfl, hB⟩
  have hB6 := bgo hBw5 hB
  have hX6 := hX5.go hB
  have hR6 := hR5.go hB
  clear hB hBw5 hX5 hR5
  obtain ⟨w7, hw7⟩ : ∃ w7, w7 = w6.setCell ⟨w4.heap.size, 3, none⟩ (.int .i64 eb) := ⟨_, rfl⟩
  have hX7 : BPW w7 w4.heap.size ⟨c, x, y, eb, e, 0, z⟩ := by rw [hw7]; exact heap_set (j := 3) hX6 (.int .i64 eb) (by simp)
  have hR7 : BPW w7 w.heap.size ⟨0, 0, 0, 0, 0, 0, 0⟩ := by rw [hw7]; exact (Below.heap_setCell _ _ _ _ (by show w.heap.size ≠ w4.heap.size; omega)).trans hR6
  have hB7 : Below w.heap.size w w7 := by rw [hw7]; exact hB6.setCell (by show w.heap.size ≤ w4.heap.size; omega) _
  obtain ⟨w8, hw8⟩ : ∃ w8, w8 = w7.setCell ⟨w4.heap.size, 5, none⟩ (.int .i64 zb) := ⟨_, rfl⟩
  have hX8 : BPW w8 w4.heap.size ⟨c, x, y, eb, e, zb, z⟩ := by rw [hw8]; exact heap_set (j := 5) hX7 (.int .i64 zb) (by simp)
  have hR8 : BPW w8 w.heap.size ⟨0, 0, 0, 0, 0, 0, 0⟩ := by rw [hw8]; exact (Below.heap_setCell _ _ _ _ (by show w.heap.size ≠ w4.heap.size; omega)).trans hR7
  have hB8 : Below w.heap.size w w8 := by rw [hw8]; exact hB7.setCell (by show w.heap.size ≤ w4.heap.size; omega) _
  have HW7 := Lib.hid hw7
  have HW8 := Lib.hid hw8
  have a1 := hX6.at.c3
  have a2 := hX6.free 3
  simp only [] at a1
  clear hw7 hw8 hX6 hR6 hB6
  go_upto_region 12 with (fail)
  rw [← HW7.out]
  have b1 := hX7.at.c3
  have b2 := hX7.at.c5
  have b3 := hX7.free 5
  simp only [] at b1 b2
  clear a1 a2 hX7 hR7 hB7
  go_upto_region 13 with (fail)
  rw [← HW8.out]
  clear b1 b2 b3
  have m0 := hX8.at.c0
  have m1 := hX8.at.c1
  have m2 := hX8.at.c2
  have m3 := hX8.at.c3
  have m4 := hX8.at.c4
  have m5 := hX8.at.c5
  have m6 := hX8.at.c6
  have l0 := hR8.at.c0
  have l1 := hR8.at.c1
  have l2 := hR8.at.c2
  have l3 := hR8.at.c3
  have l4 := hR8.at.c4
  have l5 := hR8.at.c5
  have l6 := hR8.at.c6
  have g0 := hR8.free 0
  have g1 := hR8.free 1
  have g2 := hR8.free 2
  have g3 := hR8.free 3
  have g4 := hR8.free 4
  have g5 := hR8.free 5
  have g6 := hR8.free 6
  simp only [] at m0 m1 m2 m3 m4 m5 m6 l0 l1 l2 l3 l4 l5 l6
  clear heb2 hzb2
  go_wp2_with fail
  refine bodyPost_ret (v := bpVal ⟨c, x, y, eb, e, zb, z⟩) (by simp [results, Tryd.results29, go_sem, bpVal, l0, l1, l2, l3, l4, l5, l6]) rfl ⟨rfl, ?_⟩
  exact ((((((hB8.setCell (Nat.le_refl _) _).setCell (Nat.le_refl _) _).setCell (Nat.le_refl _) _).setCell (Nat.le_refl _) _).setCell (Nat.le_refl _) _).setCell (Nat.le_refl _) _).setCell (Nat.le_refl _) _
set_option maxHeartbeats 8000000 in
set_option maxRecDepth 100000 in
theorem rbit_1 (r k e z : Int) (seed : ByteArray) (j : Int) (p : BP) (hp : Hid (bit1P r k e z = p)) (hk : Hid (rndI seed.data.toList j 1 = k)) (he : Hid (rndI seed.data.toList j 2 = e)) (hz : Hid (rndI seed.data.toList j 3 = z)) (w : World) (hs : seed.size ≤ 60) (j0 : 0 ≤ j) (j1 : j < 100) (r0 : 0 ≤ r) (r1 : r < 1073741789) :
    Calls Tryd.prog 29 #[.int .i64 1, .int .i64 r, .string seed, .int .i64 j] w fun q w' => q = .returned (bpVal p) ∧ Below w.heap.size w w' := by
  have kb := rndI_bd seed.data.toList j 1
  have ebd := rndI_bd seed.data.toList j 2
  have zbd := rndI_bd seed.data.toList j 3
  rw [hk.out] at kb
  rw [he.out] at ebd
  rw [hz.out] at zbd
  obtain ⟨c, hc⟩ : ∃ c, commitI 1 r = c := ⟨_, rfl⟩
  have hcb := commitI_bd 1 r
  rw [hc] at hcb
  obtain ⟨x, hx⟩ : ∃ x, pwI 9 k = x := ⟨_, rfl⟩
  have hxb := pwI_bd 9 k
  rw [hx] at hxb
  obtain ⟨d, hd⟩ : ∃ d, divI c 0 = d := ⟨_, rfl⟩
  have hdb := divI_bd c 0
  rw [hd] at hdb
  obtain ⟨q, hq⟩ : ∃ q, pwI d 1073741788 = q := ⟨_, rfl⟩
  have hqb := pwI_bd d 1073741788
  rw [hq] at hqb
  obtain ⟨u, hu⟩ : ∃ u, pwI q e = u := ⟨_, rfl⟩
  have hub := pwI_bd q e
  rw [hu] at hub
  obtain ⟨t, ht⟩ : ∃ t, pwI 9 z = t := ⟨_, rfl⟩
  have htb := pwI_bd 9 z
  rw [ht] at htb
  obtain ⟨y, hy⟩ : ∃ y, t * u % 2147483579 = y := ⟨_, rfl⟩
  have hyb : 0 ≤ y ∧ y < 2147483579 := by rw [← hy]; omega
  have hoy : otherF c 0 e z = y := by unfold otherF; rw [hd, hq, hu, ht, hy]
  obtain ⟨ch, hch⟩ : ∃ ch, chalI c y x = ch := ⟨_, rfl⟩
  have hchb := chalI_bd c y x
  rw [hch] at hchb
  obtain ⟨eb, heb⟩ : ∃ eb, (ch - e) % 1073741789 = eb := ⟨_, rfl⟩
  have hebb : 0 ≤ eb ∧ eb < 1073741789 := by rw [← heb]; omega
  have heb2 : (ch + 1073741789 - e) % 1073741789 = eb := by rw [← heb]; omega
  have hmul := mulQ hebb.1 hebb.2 r0 r1
  obtain ⟨zb, hzb⟩ : ∃ zb, ownZ k eb r = zb := ⟨_, rfl⟩
  have hzb2 : (k + eb * r) % 1073741789 = zb := hzb
  have hpe : p = ⟨c, y, x, e, eb, z, zb⟩ := by
    rw [← hp.out]
    unfold bit1P ownE
    rw [hc, hx, hoy, hch, heb, hzb]
  subst hpe
  have HC := Lib.hid hc
  have HX := Lib.hid hx
  have HD := Lib.hid hd
  have HQ := Lib.hid hq
  have HU := Lib.hid hu
  have HT := Lib.hid ht
  have HY := Lib.hid hy
  have HCH := Lib.hid hch
  clear hp hc hx hd hq hu ht hy hoy hch heb hzb
  go_enter Tryd.func29, Tryd.ntmps29
  go_wp2_with fail
  obtain ⟨w1, hw1⟩ : ∃ w1, w1 = w.alloc (.cells #[.int .i64 0, .int .i64 0, .int .i64 0, .int .i64 0, .int .i64 0, .int .i64 0, .int .i64 0] 25) := ⟨_, rfl⟩
  rw [← hw1]
  have hB1 : Below w.heap.size w w1 := by rw [hw1]; exact bal (Below.refl _ _) _
  have hR1 : BPW w1 w.heap.size ⟨0, 0, 0, 0, 0, 0, 0⟩ := by unfold BPW; rw [hw1]; exact World.alloc_heap_new w _
  clear hw1
  refine (rcommit_v 1 r c HC w1 (by omega) (by omega) r0 r1).mono ?_
  rintro e_ w' ⟨rfl, rfl⟩
  go_wp2_with fail
  refine (rrandom_v seed j 1 k hk w1 (by omega) j0 (by omega) (by omega) (by omega)).mono ?_
  rintro e_ w2 ⟨rfl, hB⟩
  have hB2 := bgo hB1 hB
  have hR2 := hR1.go hB
  clear hB hB1 hR1
  go_wp2_with fail
  refine (rrandom_v seed j 2 e he w2 (by omega) j0 (by omega) (by omega) (by omega)).mono ?_
  rintro e_ w3 ⟨rfl, hB⟩
  have hB3 := bgo hB2 hB
  have hR3 := hR2.go hB
  clear hB hB2 hR2
  go_wp2_with fail
  refine (rrandom_v seed j 3 z hz w3 (by omega) j0 (by omega) (by omega) (by omega)).mono ?_
  rintro e_ w4 ⟨rfl, hB⟩
  have hB4 := bgo hB3 hB
  have hR4 := hR3.go hB
  clear hB hB3 hR3
  go_wp2_with fail
  refine (rpower_v 9 z t _ (by omega) (by omega) (by omega) (by omega) HT).mono ?_
  rintro e_ w' ⟨rfl, rfl⟩
  go_wp2_with fail
  refine (shifted_v c 0 d (by omega) HD _ hcb.1 hcb.2).mono ?_
  rintro e_ w' ⟨rfl, rfl⟩
  go_wp2_with fail
  refine (inverse_v d q HQ _ hdb.1 hdb.2).mono ?_
  rintro e_ w' ⟨rfl, rfl⟩
  go_wp2_with fail
  refine (rpower_v q e u _ (by omega) (by omega) (by omega) (by omega) HU).mono ?_
  rintro e_ w' ⟨rfl, rfl⟩
  go_wp2_with fail
  refine (times_v t u y HY _ htb.1 htb.2 hub.1 hub.2).mono ?_
  rintro e_ w' ⟨rfl, rfl⟩
  go_wp2_with fail
  refine (rpower_v 9 k x _ (by omega) (by omega) (by omega) (by omega) HX).mono ?_
  rintro e_ w' ⟨rfl, rfl⟩
  go_wp2_with fail
  obtain ⟨w5, hw5⟩ : ∃ w5, w5 = w4.alloc (.cells #[.int .i64 c, .int .i64 y, .int .i64 x, .int .i64 e, .int .i64 0, .int .i64 z, .int .i64 0] 25) := ⟨_, rfl⟩
  rw [← hw5]
  have hB5 : Below w4.heap.size w4 w5 := by rw [hw5]; exact bal (Below.refl _ _) _
  have hX5 : BPW w5 w4.heap.size ⟨c, y, x, e, 0, z, 0⟩ := by unfold BPW; rw [hw5]; exact World.alloc_heap_new w4 _
  have hR5 := hR4.go hB5
  have hBw5 := bgo hB4 hB5
  have hlt : w.heap.size < w4.heap.size := hR4.lt
  clear hw5 hB5 hR4 hB4
  refine (rchal_v c y x ch HCH w5 hcb (by omega) (by omega)).mono ?_
  rintro e_ w6 ⟨rfl, hB⟩
  have hB6 := bgo hBw5 hB
  have hX6 := hX5.go hB
  have hR6 := hR5.go hB
  clear hB hBw5 hX5 hR5
  obtain ⟨w7, hw7⟩ : ∃ w7, w7 = w6.setCell ⟨w4.heap.size, 4, none⟩ (.int .i64 eb) := ⟨_, rfl⟩
  have hX7 : BPW w7 w4.heap.size ⟨c, y, x, e, eb, z, 0⟩ := by rw [hw7]; exact heap_set (j := 4) hX6 (.int .i64 eb) (by simp)
  have hR7 : BPW w7 w.heap.size ⟨0, 0, 0, 0, 0, 0, 0⟩ := by rw [hw7]; exact (Below.heap_setCell _ _ _ _ (by show w.heap.size ≠ w4.heap.size; omega)).trans hR6
  have hB7 : Below w.heap.size w w7 := by rw [hw7]; exact hB6.setCell (by show w.heap.size ≤ w4.heap.size; omega) _
  obtain ⟨w8, hw8⟩ : ∃ w8, w8 = w7.setCell ⟨w4.heap.size, 6, none⟩ (.int .i64 zb) := ⟨_, rfl⟩
  have hX8 : BPW w8 w4.heap.size ⟨c, y, x, e, eb, z, zb⟩ := by rw [hw8]; exact heap_set (j := 6) hX7 (.int .i64 zb) (by simp)
  have hR8 : BPW w8 w.heap.size ⟨0, 0, 0, 0, 0, 0, 0⟩ := by rw [hw8]; exact (Below.heap_setCell _ _ _ _ (by show w.heap.size ≠ w4.heap.size; omega)).trans hR7
  have hB8 : Below w.heap.size w w8 := by rw [hw8]; exact hB7.setCell (by show w.heap.size ≤ w4.heap.size; omega) _
  have HW7 := Lib.hid hw7
  have HW8 := Lib.hid hw8
  have a1 := hX6.at.c4
  have a2 := hX6.free 4
  simp only [] at a1
  clear hw7 hw8 hX6 hR6 hB6
  go_upto_region 12 with (fail)
  rw [← HW7.out]
  have b1 := hX7.at.c4
  have b2 := hX7.at.c6
  have b3 := hX7.free 6
  simp only [] at b1 b2
  clear a1 a2 hX7 hR7 hB7
  go_upto_region 13 with (fail)
  rw [← HW8.out]
  clear b1 b2 b3
  have m0 := hX8.at.c0
  have m1 := hX8.at.c1
  have m2 := hX8.at.c2
  have m3 := hX8.at.c3
  have m4 := hX8.at.c4
  have m5 := hX8.at.c5
  have m6 := hX8.at.c6
  have l0 := hR8.at.c0
  have l1 := hR8.at.c1
  have l2 := hR8.at.c2
  have l3 := hR8.at.c3
  have l4 := hR8.at.c4
  have l5 := hR8.at.c5
  have l6 := hR8.at.c6
  have g0 := hR8.free 0
  have g1 := hR8.free 1
  have g2 := hR8.free 2
  have g3 := hR8.free 3
  have g4 := hR8.free 4
  have g5 := hR8.free 5
  have g6 := hR8.free 6
  simp only [] at m0 m1 m2 m3 m4 m5 m6 l0 l1 l2 l3 l4 l5 l6
  clear heb2 hzb2
  go_wp2_with fail
  refine bodyPost_ret (v := bpVal ⟨c, y, x, e, eb, z, zb⟩) (by simp [results, Tryd.results29, go_sem, bpVal, l0, l1, l2, l3, l4, l5, l6]) rfl ⟨rfl, ?_⟩
  exact ((((((hB8.setCell (Nat.le_refl _) _).setCell (Nat.le_refl _) _).setCell (Nat.le_refl _) _).setCell (Nat.le_refl _) _).setCell (Nat.le_refl _) _).setCell (Nat.le_refl _) _).setCell (Nat.le_refl _) _
end Go.Proofs.YthebahahpkficaaDoor
