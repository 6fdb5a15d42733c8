/- The walk of package rangeproof: proveBit. -/
import Derived.Test.YthebahahpkficaaDoorRpW8
import Derived.LoopN
namespace Go.Proofs.YthebahahpkficaaDoor
open Go.RowKit
set_option linter.unusedVariables false
theorem i64_Z {x : Int} (h : 0 ≤ x ∧ x < 2147483579) : I64 x := ⟨by omega, by omega⟩
theorem Upd.below {n B : Nat} {w W W' : World} (h : Below n w W) (hn : n ≤ B) (hu : Upd W B W') : Below n w W' := h.trans (hu.1.mono hn)
structure PSt (w W : World) (Bp Bc Bb Bl Bo Bk Be Bz : Nat) (cs : Array Value) (vb vl vo vk ve vz : Int) (p : BP) : Prop where
  pw : BPW W Bp p
  ob : Own1 (Bp + 1) W Bb vb
  ol : Own1 (Bp + 1) W Bl vl
  oo : Own1 (Bp + 1) W Bo vo
  ok : Own1 (Bp + 1) W Bk vk
  oe : Own1 (Bp + 1) W Be ve
  oz : Own1 (Bp + 1) W Bz vz
  cc : W.heap[Bc]? = some (.cells cs 72)
  lc : Bp < Bc
  bw : Below w.heap.size w W
  rw : BPW W (w.heap.size + 1) ⟨0, 0, 0, 0, 0, 0, 0⟩
  lw : w.heap.size + 1 < Bp
section
variable {w W W' : World} {Bp Bc Bb Bl Bo Bk Be Bz : Nat} {cs : Array Value} {vb vl vo vk ve vz : Int} {p p' : BP}
theorem PSt.go (h : PSt w W Bp Bc Bb Bl Bo Bk Be Bz cs vb vl vo vk ve vz p) (hb : Below W.heap.size W W') : PSt w W' Bp Bc Bb Bl Bo Bk Be Bz cs vb vl vo vk ve vz p :=
  ⟨h.pw.go hb, h.ob.go hb, h.ol.go hb, h.oo.go hb, h.ok.go hb, h.oe.go hb, h.oz.go hb, (hb.block _ (Array.getElem?_eq_some_iff.1 h.cc).1).trans h.cc, h.lc, bgo h.bw hb, h.rw.go hb, h.lw⟩
theorem PSt.al (h : PSt w W Bp Bc Bb Bl Bo Bk Be Bz cs vb vl vo vk ve vz p) (o : Obj) : PSt w (W.alloc o) Bp Bc Bb Bl Bo Bk Be Bz cs vb vl vo vk ve vz p := h.go (bal (Below.refl _ _) o)
theorem PSt.up (h : PSt w W Bp Bc Bb Bl Bo Bk Be Bz cs vb vl vo vk ve vz p) (hp : BPW W' Bp p') (hu : Upd W Bp W') : PSt w W' Bp Bc Bb Bl Bo Bk Be Bz cs vb vl vo vk ve vz p' :=
  ⟨hp, h.ob.upd (by omega) hu, h.ol.upd (by omega) hu, h.oo.upd (by omega) hu, h.ok.upd (by omega) hu, h.oe.upd (by omega) hu, h.oz.upd (by omega) hu, (hu.2 Bc h.lc (Array.getElem?_eq_some_iff.1 h.cc).1).trans h.cc, h.lc,
   Upd.below h.bw (by have := h.lw; omega) hu, (hu.1.block _ h.lw).trans h.rw, h.lw⟩
theorem PSt.cell (h : PSt w W Bp Bc Bb Bl Bo Bk Be Bz cs vb vl vo vk ve vz p) (j : Nat) (v : Value) (hj : cs[j]? = some v) : W.cell? ⟨Bc, j, none⟩ = some v := by
  have := h.cc
  simp only [World.cell?, this]
  exact hj
end
set_option maxHeartbeats 8000000 in
set_option maxRecDepth 100000 in
theorem proveBit_0 (b k e z : Int) (p : BP) (hp : Hid (bit0P b k e z = p)) (w : World) (hT : PTab w) (hG : GTab w) (hb : 0 ≤ b ∧ b < 1073741789) (hk : 0 ≤ k ∧ k < 1073741789) (he : 0 ≤ e ∧ e < 1073741789) (hz : 0 ≤ z ∧ z < 1073741789) :
    Calls Tryd.prog 25 #[.int .i64 0, .agg #[.int .i64 b, .int .i64 k, .int .i64 e, .int .i64 z]] w fun r w' => r = .returned (bpVal p) ∧ Below w.heap.size w w' := by
  obtain ⟨c, hc⟩ : ∃ c, commitI 0 b = c := ⟨_, rfl⟩
  have hcb := commitI_bd 0 b
  rw [hc] at hcb
  have HC := Lib.hid hc
  have HT := Lib.hid hT
  have HG := Lib.hid hG
  clear hT hG hc
  go_enter Tryd.func25, Tryd.ntmps25
  go_wp2_with fail
  obtain ⟨w1, hw1⟩ : ∃ w1, w1 = (w.alloc (.cells #[.int .i64 b, .int .i64 k, .int .i64 e, .int .i64 z] 52)).alloc (.cells #[.int .i64 0, .int .i64 0, .int .i64 0, .int .i64 0, .int .i64 0, .int .i64 0, .int .i64 0] 25) := ⟨_, rfl⟩
  rw [← hw1]
  have hB1 : Below w.heap.size w w1 := by rw [hw1]; exact bal (bal (Below.refl _ _) _) _
  have hs1 : w1.heap.size = w.heap.size + 2 := by rw [hw1]; simp
  have n0 : w1.cell? ⟨w.heap.size, 0, none⟩ = some (.int .i64 b) := by rw [hw1]; simp [go_sem]
  have n1 : w1.cell? ⟨w.heap.size, 1, none⟩ = some (.int .i64 k) := by rw [hw1]; simp [go_sem]
  have n2 : w1.cell? ⟨w.heap.size, 2, none⟩ = some (.int .i64 e) := by rw [hw1]; simp [go_sem]
  have n3 : w1.cell? ⟨w.heap.size, 3, none⟩ = some (.int .i64 z) := by rw [hw1]; simp [go_sem]
  have r1 : BPW w1 (w.heap.size + 1) ⟨0, 0, 0, 0, 0, 0, 0⟩ := by
    unfold BPW
    rw [hw1]
    have := World.alloc_heap_new (w.alloc (.cells #[.int .i64 b, .int .i64 k, .int .i64 e, .int .i64 z] 52)) (.cells #[.int .i64 0, .int .i64 0, .int .i64 0, .int .i64 0, .int .i64 0, .int .i64 0, .int .i64 0] 25)
    rwa [World.size_alloc] at this
  clear hw1
  refine (commit_ok 0 b w1 (HG.out.go hB1) (by omega) (by omega) hb.1 hb.2).mono ?_
  rw [HC.out]
  rintro r w2 ⟨rfl, hB2⟩
  have hs2 := hB2.size
  have n0 := (hB2.cell (p := ⟨w.heap.size, 0, none⟩) (by show w.heap.size < _; omega)).trans n0
  have n1 := (hB2.cell (p := ⟨w.heap.size, 1, none⟩) (by show w.heap.size < _; omega)).trans n1
  have n2 := (hB2.cell (p := ⟨w.heap.size, 2, none⟩) (by show w.heap.size < _; omega)).trans n2
  have n3 := (hB2.cell (p := ⟨w.heap.size, 3, none⟩) (by show w.heap.size < _; omega)).trans n3
  have r2 := r1.go hB2
  have hBw := bgo hB1 hB2
  have hl : w.heap.size < w2.heap.size := by omega
  have hl1 : w.heap.size + 1 < w2.heap.size := by omega
  have R2 := Lib.hid r2
  have HB := Lib.hid hBw
  clear hs1 hs2 r1 r2 hB1 hB2 hBw
  go_wp2_with fail
  obtain ⟨w3, hw3⟩ : ∃ w3, w3 = w2.alloc (.cells #[.int .i64 c, .int .i64 0, .int .i64 0, .int .i64 0, .int .i64 0, .int .i64 0, .int .i64 0] 25) := ⟨_, rfl⟩
  rw [← hw3]
  have hB3 : Below w2.heap.size w2 w3 := by rw [hw3]; exact bal (Below.refl _ _) _
  have hs3 : w3.heap.size = w2.heap.size + 1 := by rw [hw3]; simp
  have q3 : BPW w3 w2.heap.size ⟨c, 0, 0, 0, 0, 0, 0⟩ := by unfold BPW; rw [hw3]; exact World.alloc_heap_new _ _
  clear hw3 n0 n1 n2 n3
  refine (sides_0 b b k e z w3).mono ?_
  rintro r w4 ⟨⟨Bb, Bl, Bo, Bk, Be, Bz, rfl, ob, ol, oo, ok, oe, oz⟩, hB4⟩
  rw [hs3] at ob ol oo ok oe oz
  have hs4 := hB4.size
  have q4 := q3.go hB4
  have t4 := (R2.out.go hB3).go hB4
  have hBw4 := bgo HB.out (bgo hB3 hB4)
  obtain ⟨w5, hw5⟩ : ∃ w5, w5 = w4.alloc (.cells #[(.func (.func 63) #[] #[.pointer (some ⟨Bk, 0, none⟩), .pointer (some ⟨Bb, 0, none⟩)]), (.func (.func 64) #[] #[.pointer (some ⟨Be, 0, none⟩), .pointer (some ⟨Bb, 0, none⟩), .pointer (some ⟨Bk, 0, none⟩), .pointer (some ⟨Bl, 0, none⟩)]), (.func (.func 61) #[] #[.pointer (some ⟨Be, 0, none⟩), .pointer (some ⟨Bo, 0, none⟩), .pointer (some ⟨Bz, 0, none⟩)]), (.func (.func 62) #[] #[.pointer (some ⟨Be, 0, none⟩), .pointer (some ⟨Bz, 0, none⟩), .pointer (some ⟨Bo, 0, none⟩)])] 72) := ⟨_, rfl⟩
  have st0 : PSt w w4 w2.heap.size w4.heap.size Bb Bl Bo Bk Be Bz #[(.func (.func 63) #[] #[.pointer (some ⟨Bk, 0, none⟩), .pointer (some ⟨Bb, 0, none⟩)]), (.func (.func 64) #[] #[.pointer (some ⟨Be, 0, none⟩), .pointer (some ⟨Bb, 0, none⟩), .pointer (some ⟨Bk, 0, none⟩), .pointer (some ⟨Bl, 0, none⟩)]), (.func (.func 61) #[] #[.pointer (some ⟨Be, 0, none⟩), .pointer (some ⟨Bo, 0, none⟩), .pointer (some ⟨Bz, 0, none⟩)]), (.func (.func 62) #[] #[.pointer (some ⟨Be, 0, none⟩), .pointer (some ⟨Bz, 0, none⟩), .pointer (some ⟨Bo, 0, none⟩)])] 0 b 1 k e z ⟨c, 0, 0, 0, 0, 0, 0⟩ → True := fun _ => trivial
  have st5 : PSt w w5 w2.heap.size w4.heap.size Bb Bl Bo Bk Be Bz #[(.func (.func 63) #[] #[.pointer (some ⟨Bk, 0, none⟩), .pointer (some ⟨Bb, 0, none⟩)]), (.func (.func 64) #[] #[.pointer (some ⟨Be, 0, none⟩), .pointer (some ⟨Bb, 0, none⟩), .pointer (some ⟨Bk, 0, none⟩), .pointer (some ⟨Bl, 0, none⟩)]), (.func (.func 61) #[] #[.pointer (some ⟨Be, 0, none⟩), .pointer (some ⟨Bo, 0, none⟩), .pointer (some ⟨Bz, 0, none⟩)]), (.func (.func 62) #[] #[.pointer (some ⟨Be, 0, none⟩), .pointer (some ⟨Bz, 0, none⟩), .pointer (some ⟨Bo, 0, none⟩)])] 0 b 1 k e z ⟨c, 0, 0, 0, 0, 0, 0⟩ := by
    have hb5 : Below w4.heap.size w4 w5 := by rw [hw5]; exact bal (Below.refl _ _) _
    exact ⟨q4.go hb5, ob.go hb5, ol.go hb5, oo.go hb5, ok.go hb5, oe.go hb5, oz.go hb5, by rw [hw5]; exact World.alloc_heap_new _ _, by omega, bgo hBw4 hb5, t4.go hb5, by omega⟩
  have ST5 := Lib.hid st5
  have HW5 := Lib.hid hw5
  clear st0 st5 ob ol oo ok oe oz q4 t4 hBw4 hB4 hs4 q3 hs3 hB3 hw5
  obtain ⟨x, hx⟩ : ∃ x, pwI 9 k = x := ⟨_, rfl⟩
  have hxb := pwI_bd 9 k
  rw [hx] at hxb
  obtain ⟨y, hy⟩ : ∃ y, otherF c 1 e z = y := ⟨_, rfl⟩
  have hyb := otherF_bd c 1 e z
  rw [hy] at hyb
  obtain ⟨ch, hch⟩ : ∃ ch, chalI c x y = ch := ⟨_, rfl⟩
  obtain ⟨eb, heb⟩ : ∃ eb, (ch - e) % 1073741789 = eb := ⟨_, rfl⟩
  obtain ⟨zb, hzb⟩ : ∃ zb, ownZ k eb b = zb := ⟨_, rfl⟩
  have hpe : p = ⟨c, x, y, eb, e, zb, z⟩ := by
    rw [← hp.out]
    unfold bit0P ownE
    rw [HC.out, hx, hy, hch, heb, hzb]
  subst hpe
  have HX := Lib.hid hx
  have HY := Lib.hid hy
  have HCH := Lib.hid hch
  have HEB := Lib.hid heb
  have HZB := Lib.hid hzb
  clear hp hx hy hch heb hzb
  have i0 : ∀ w, (Instr.index 72 (.agg #[(.func (.func 63) #[] #[.pointer (some ⟨Bk, 0, none⟩), .pointer (some ⟨Bb, 0, none⟩)]), (.func (.func 64) #[] #[.pointer (some ⟨Be, 0, none⟩), .pointer (some ⟨Bb, 0, none⟩), .pointer (some ⟨Bk, 0, none⟩), .pointer (some ⟨Bl, 0, none⟩)]), (.func (.func 61) #[] #[.pointer (some ⟨Be, 0, none⟩), .pointer (some ⟨Bo, 0, none⟩), .pointer (some ⟨Bz, 0, none⟩)]), (.func (.func 62) #[] #[.pointer (some ⟨Be, 0, none⟩), .pointer (some ⟨Bz, 0, none⟩), .pointer (some ⟨Bo, 0, none⟩)])]) (.int .i64 0)).run Tryd.prog w = .ok (.agg #[(.func (.func 63) #[] #[.pointer (some ⟨Bk, 0, none⟩), .pointer (some ⟨Bb, 0, none⟩)]), (.func (.func 64) #[] #[.pointer (some ⟨Be, 0, none⟩), .pointer (some ⟨Bb, 0, none⟩), .pointer (some ⟨Bk, 0, none⟩), .pointer (some ⟨Bl, 0, none⟩)])]) w := fun _ => by kernel_rfl
  have i1 : ∀ w, (Instr.index 72 (.agg #[(.func (.func 63) #[] #[.pointer (some ⟨Bk, 0, none⟩), .pointer (some ⟨Bb, 0, none⟩)]), (.func (.func 64) #[] #[.pointer (some ⟨Be, 0, none⟩), .pointer (some ⟨Bb, 0, none⟩), .pointer (some ⟨Bk, 0, none⟩), .pointer (some ⟨Bl, 0, none⟩)]), (.func (.func 61) #[] #[.pointer (some ⟨Be, 0, none⟩), .pointer (some ⟨Bo, 0, none⟩), .pointer (some ⟨Bz, 0, none⟩)]), (.func (.func 62) #[] #[.pointer (some ⟨Be, 0, none⟩), .pointer (some ⟨Bz, 0, none⟩), .pointer (some ⟨Bo, 0, none⟩)])]) (.int .i64 1)).run Tryd.prog w = .ok (.agg #[(.func (.func 61) #[] #[.pointer (some ⟨Be, 0, none⟩), .pointer (some ⟨Bo, 0, none⟩), .pointer (some ⟨Bz, 0, none⟩)]), (.func (.func 62) #[] #[.pointer (some ⟨Be, 0, none⟩), .pointer (some ⟨Bz, 0, none⟩), .pointer (some ⟨Bo, 0, none⟩)])]) w := fun _ => by kernel_rfl
  go_wp2_with fail
  rw [← HW5.out]
  refine wp_loop_rounds 3 ?_
  rw [rounds_succ]
  go_wp2_with fail
  have S := ST5.out.al (.cells #[(.func (.func 63) #[] #[.pointer (some ⟨Bk, 0, none⟩), .pointer (some ⟨Bb, 0, none⟩)]), (.func (.func 64) #[] #[.pointer (some ⟨Be, 0, none⟩), .pointer (some ⟨Bb, 0, none⟩), .pointer (some ⟨Bk, 0, none⟩), .pointer (some ⟨Bl, 0, none⟩)])] 71)
  refine (first_own0 c 0 0 0 0 0 0 k x HX w2.heap.size Bk Bb _ S.pw S.ok S.ob hk.1 hk.2).mono ?_
  rintro r w6 ⟨rfl, hq, hu⟩
  have st6 := S.up hq hu
  have ST6 := Lib.hid st6
  clear S hq hu st6
  go_wp2_with fail
  rw [rounds_succ]
  go_wp2_with fail
  have S := ST6.out.al (.cells #[(.func (.func 61) #[] #[.pointer (some ⟨Be, 0, none⟩), .pointer (some ⟨Bo, 0, none⟩), .pointer (some ⟨Bz, 0, none⟩)]), (.func (.func 62) #[] #[.pointer (some ⟨Be, 0, none⟩), .pointer (some ⟨Bz, 0, none⟩), .pointer (some ⟨Bo, 0, none⟩)])] 71)
  refine (first_other1 c x 0 0 0 0 0 e z y HY w2.heap.size Be Bo Bz _ S.pw S.oe S.oo S.oz hcb.1 hcb.2 he.1 he.2 hz.1 hz.2).mono ?_
  rintro r w7 ⟨rfl, hq, hu⟩
  have st7 := S.up hq hu
  have ST7 := Lib.hid st7
  clear S hq hu st7
  have c0 := ST7.out.cell 0 _ rfl
  have c1 := ST7.out.cell 1 _ rfl
  have c2 := ST7.out.cell 2 _ rfl
  have c3 := ST7.out.cell 3 _ rfl
  go_wp2_with fail
  rw [rounds_succ]
  go_wp2_with fail
  clear c0 c1 c2 c3
  refine wp_loop_rounds 3 ?_
  rw [rounds_succ]
  go_wp2_with fail
  have S := ST7.out.al (.cells #[(.func (.func 63) #[] #[.pointer (some ⟨Bk, 0, none⟩), .pointer (some ⟨Bb, 0, none⟩)]), (.func (.func 64) #[] #[.pointer (some ⟨Be, 0, none⟩), .pointer (some ⟨Bb, 0, none⟩), .pointer (some ⟨Bk, 0, none⟩), .pointer (some ⟨Bl, 0, none⟩)])] 71)
  refine (reply_own0 c x y 0 0 0 0 k e b ch eb zb HCH HEB HZB w2.heap.size Be Bb Bk Bl _ (HT.out.go S.bw) S.pw S.oe S.ob S.ok S.ol (i64_Z hcb) (i64_Z hxb) (i64_Z hyb) he.1 he.2 hk.1 hk.2 hb.1 hb.2).mono ?_
  rintro r w8 ⟨rfl, hq, hu⟩
  have st8 := S.up hq hu
  have ST8 := Lib.hid st8
  clear S hq hu st8
  go_wp2_with fail
  rw [rounds_succ]
  go_wp2_with fail
  have S := ST8.out.al (.cells #[(.func (.func 61) #[] #[.pointer (some ⟨Be, 0, none⟩), .pointer (some ⟨Bo, 0, none⟩), .pointer (some ⟨Bz, 0, none⟩)]), (.func (.func 62) #[] #[.pointer (some ⟨Be, 0, none⟩), .pointer (some ⟨Bz, 0, none⟩), .pointer (some ⟨Bo, 0, none⟩)])] 71)
  refine (reply_other1 c x y eb 0 zb 0 e z w2.heap.size Be Bo Bz _ S.pw S.oe S.oo S.oz).mono ?_
  rintro r w9 ⟨rfl, hq, hu⟩
  have st9 := S.up hq hu
  have ST9 := Lib.hid st9
  clear S hq hu st9
  go_wp2_with fail
  have m0 := ST9.out.pw.at.c0
  have m1 := ST9.out.pw.at.c1
  have m2 := ST9.out.pw.at.c2
  have m3 := ST9.out.pw.at.c3
  have m4 := ST9.out.pw.at.c4
  have m5 := ST9.out.pw.at.c5
  have m6 := ST9.out.pw.at.c6
  have l0 := ST9.out.rw.at.c0
  have l1 := ST9.out.rw.at.c1
  have l2 := ST9.out.rw.at.c2
  have l3 := ST9.out.rw.at.c3
  have l4 := ST9.out.rw.at.c4
  have l5 := ST9.out.rw.at.c5
  have l6 := ST9.out.rw.at.c6
  have g0 := ST9.out.rw.free 0
  have g1 := ST9.out.rw.free 1
  have g2 := ST9.out.rw.free 2
  have g3 := ST9.out.rw.free 3
  have g4 := ST9.out.rw.free 4
  have g5 := ST9.out.rw.free 5
  have g6 := ST9.out.rw.free 6
  simp only [] at m0 m1 m2 m3 m4 m5 m6 l0 l1 l2 l3 l4 l5 l6
  have hlw := ST9.out.lw
  clear i0 i1
  rw [rounds_succ]
  go_wp2_with fail
  refine bodyPost_ret (v := bpVal ⟨c, x, y, eb, e, zb, z⟩) (by simp [results, Tryd.results25, go_sem, bpVal, l0, l1, l2, l3, l4, l5, l6]) rfl ⟨rfl, ?_⟩
  exact ((((((ST9.out.bw.setCell (by simp) _).setCell (by simp) _).setCell (by simp) _).setCell (by simp) _).setCell (by simp) _).setCell (by simp) _).setCell (by simp) _
set_option maxHeartbeats 8000000 in
set_option maxRecDepth 100000 in
theorem proveBit_1 (b k e z : Int) (p : BP) (hp : Hid (bit1P b k e z = p)) (w : World) (hT : PTab w) (hG : GTab w) (hb : 0 ≤ b ∧ b < 1073741789) (hk : 0 ≤ k ∧ k < 1073741789) (he : 0 ≤ e ∧ e < 1073741789) (hz : 0 ≤ z ∧ z < 1073741789) :
    Calls Tryd.prog 25 #[.int .i64 1, .agg #[.int .i64 b, .int .i64 k, .int .i64 e, .int .i64 z]] w fun r w' => r = .returned (bpVal p) ∧ Below w.heap.size w w' := by
  obtain ⟨c, hc⟩ : ∃ c, commitI 1 b = c := ⟨_, rfl⟩
  have hcb := commitI_bd 1 b
  rw [hc] at hcb
  have HC := Lib.hid hc
  have HT := Lib.hid hT
  have HG := Lib.hid hG
  clear hT hG hc
  go_enter Tryd.func25, Tryd.ntmps25
  go_wp2_with fail
  obtain ⟨w1, hw1⟩ : ∃ w1, w1 = (w.alloc (.cells #[.int .i64 b, .int .i64 k, .int .i64 e, .int .i64 z] 52)).alloc (.cells #[.int .i64 0, .int .i64 0, .int .i64 0, .int .i64 0, .int .i64 0, .int .i64 0, .int .i64 0] 25) := ⟨_, rfl⟩
  rw [← hw1]
  have hB1 : Below w.heap.size w w1 := by rw [hw1]; exact bal (bal (Below.refl _ _) _) _
  have hs1 : w1.heap.size = w.heap.size + 2 := by rw [hw1]; simp
  have n0 : w1.cell? ⟨w.heap.size, 0, none⟩ = some (.int .i64 b) := by rw [hw1]; simp [go_sem]
  have n1 : w1.cell? ⟨w.heap.size, 1, none⟩ = some (.int .i64 k) := by rw [hw1]; simp [go_sem]
  have n2 : w1.cell? ⟨w.heap.size, 2, none⟩ = some (.int .i64 e) := by rw [hw1]; simp [go_sem]
  have n3 : w1.cell? ⟨w.heap.size, 3, none⟩ = some (.int .i64 z) := by rw [hw1]; simp [go_sem]
  have r1 : BPW w1 (w.heap.size + 1) ⟨0, 0, 0, 0, 0, 0, 0⟩ := by
    unfold BPW
    rw [hw1]
    have := World.alloc_heap_new (w.alloc (.cells #[.int .i64 b, .int .i64 k, .int .i64 e, .int .i64 z] 52)) (.cells #[.int .i64 0, .int .i64 0, .int .i64 0, .int .i64 0, .int .i64 0, .int .i64 0, .int .i64 0] 25)
    rwa [World.size_alloc] at this
  clear hw1
  refine (commit_ok 1 b w1 (HG.out.go hB1) (by omega) (by omega) hb.1 hb.2).mono ?_
  rw [HC.out]
  rintro r w2 ⟨rfl, hB2⟩
  have hs2 := hB2.size
  have n0 := (hB2.cell (p := ⟨w.heap.size, 0, none⟩) (by show w.heap.size < _; omega)).trans n0
  have n1 := (hB2.cell (p := ⟨w.heap.size, 1, none⟩) (by show w.heap.size < _; omega)).trans n1
  have n2 := (hB2.cell (p := ⟨w.heap.size, 2, none⟩) (by show w.heap.size < _; omega)).trans n2
  have n3 := (hB2.cell (p := ⟨w.heap.size, 3, none⟩) (by show w.heap.size < _; omega)).trans n3
  have r2 := r1.go hB2
  have hBw := bgo hB1 hB2
  have hl : w.heap.size < w2.heap.size := by omega
  have hl1 : w.heap.size + 1 < w2.heap.size := by omega
  have R2 := Lib.hid r2
  have HB := Lib.hid hBw
  clear hs1 hs2 r1 r2 hB1 hB2 hBw
  go_wp2_with fail
  obtain ⟨w3, hw3⟩ : ∃ w3, w3 = w2.alloc (.cells #[.int .i64 c, .int .i64 0, .int .i64 0, .int .i64 0, .int .i64 0, .int .i64 0, .int .i64 0] 25) := ⟨_, rfl⟩
  rw [← hw3]
  have hB3 : Below w2.heap.size w2 w3 := by rw [hw3]; exact bal (Below.refl _ _) _
  have hs3 : w3.heap.size = w2.heap.size + 1 := by rw [hw3]; simp
  have q3 : BPW w3 w2.heap.size ⟨c, 0, 0, 0, 0, 0, 0⟩ := by unfold BPW; rw [hw3]; exact World.alloc_heap_new _ _
  clear hw3 n0 n1 n2 n3
  refine (sides_1 b b k e z w3).mono ?_
  rintro r w4 ⟨⟨Bb, Bl, Bo, Bk, Be, Bz, rfl, ob, ol, oo, ok, oe, oz⟩, hB4⟩
  rw [hs3] at ob ol oo ok oe oz
  have hs4 := hB4.size
  have q4 := q3.go hB4
  have t4 := (R2.out.go hB3).go hB4
  have hBw4 := bgo HB.out (bgo hB3 hB4)
  obtain ⟨w5, hw5⟩ : ∃ w5, w5 = w4.alloc (.cells #[(.func (.func 61) #[] #[.pointer (some ⟨Be, 0, none⟩), .pointer (some ⟨Bo, 0, none⟩), .pointer (some ⟨Bz, 0, none⟩)]), (.func (.func 62) #[] #[.pointer (some ⟨Be, 0, none⟩), .pointer (some ⟨Bz, 0, none⟩), .pointer (some ⟨Bo, 0, none⟩)]), (.func (.func 63) #[] #[.pointer (some ⟨Bk, 0, none⟩), .pointer (some ⟨Bb, 0, none⟩)]), (.func (.func 64) #[] #[.pointer (some ⟨Be, 0, none⟩), .pointer (some ⟨Bb, 0, none⟩), .pointer (some ⟨Bk, 0, none⟩), .pointer (some ⟨Bl, 0, none⟩)])] 72) := ⟨_, rfl⟩
  have st0 : PSt w w4 w2.heap.size w4.heap.size Bb Bl Bo Bk Be Bz #[(.func (.func 61) #[] #[.pointer (some ⟨Be, 0, none⟩), .pointer (some ⟨Bo, 0, none⟩), .pointer (some ⟨Bz, 0, none⟩)]), (.func (.func 62) #[] #[.pointer (some ⟨Be, 0, none⟩), .pointer (some ⟨Bz, 0, none⟩), .pointer (some ⟨Bo, 0, none⟩)]), (.func (.func 63) #[] #[.pointer (some ⟨Bk, 0, none⟩), .pointer (some ⟨Bb, 0, none⟩)]), (.func (.func 64) #[] #[.pointer (some ⟨Be, 0, none⟩), .pointer (some ⟨Bb, 0, none⟩), .pointer (some ⟨Bk, 0, none⟩), .pointer (some ⟨Bl, 0, none⟩)])] 1 b 0 k e z ⟨c, 0, 0, 0, 0, 0, 0⟩ → True := fun _ => trivial
  have st5 : PSt w w5 w2.heap.size w4.heap.size Bb Bl Bo Bk Be Bz #[(.func (.func 61) #[] #[.pointer (some ⟨Be, 0, none⟩), .pointer (some ⟨Bo, 0, none⟩), .pointer (some ⟨Bz, 0, none⟩)]), (.func (.func 62) #[] #[.pointer (some ⟨Be, 0, none⟩), .pointer (some ⟨Bz, 0, none⟩), .pointer (some ⟨Bo, 0, none⟩)]), (.func (.func 63) #[] #[.pointer (some ⟨Bk, 0, none⟩), .pointer (some ⟨Bb, 0, none⟩)]), (.func (.func 64) #[] #[.pointer (some ⟨Be, 0, none⟩), .pointer (some ⟨Bb, 0, none⟩), .pointer (some ⟨Bk, 0, none⟩), .pointer (some ⟨Bl, 0, none⟩)])] 1 b 0 k e z ⟨c, 0, 0, 0, 0, 0, 0⟩ := by
    have hb5 : Below w4.heap.size w4 w5 := by rw [hw5]; exact bal (Below.refl _ _) _
    exact ⟨q4.go hb5, ob.go hb5, ol.go hb5, oo.go hb5, ok.go hb5, oe.go hb5, oz.go hb5, by rw [hw5]; exact World.alloc_heap_new _ _, by omega, bgo hBw4 hb5, t4.go hb5, by omega⟩
  have ST5 := Lib.hid st5
  have HW5 := Lib.hid hw5
  clear st0 st5 ob ol oo ok oe oz q4 t4 hBw4 hB4 hs4 q3 hs3 hB3 hw5
  obtain ⟨x, hx⟩ : ∃ x, pwI 9 k = x := ⟨_, rfl⟩
  have hxb := pwI_bd 9 k
  rw [hx] at hxb
  obtain ⟨y, hy⟩ : ∃ y, otherF c 0 e z = y := ⟨_, rfl⟩
  have hyb := otherF_bd c 0 e z
  rw [hy] at hyb
  obtain ⟨ch, hch⟩ : ∃ ch, chalI c y x = ch := ⟨_, rfl⟩
  obtain ⟨eb, heb⟩ : ∃ eb, (ch - e) % 1073741789 = eb := ⟨_, rfl⟩
  obtain ⟨zb, hzb⟩ : ∃ zb, ownZ k eb b = zb := ⟨_, rfl⟩
  have hpe : p = ⟨c, y, x, e, eb, z, zb⟩ := by
    rw [← hp.out]
    unfold bit1P ownE
    rw [HC.out, hx, hy, hch, heb, hzb]
  subst hpe
  have HX := Lib.hid hx
  have HY := Lib.hid hy
  have HCH := Lib.hid hch
  have HEB := Lib.hid heb
  have HZB := Lib.hid hzb
  clear hp hx hy hch heb hzb
  have i0 : ∀ w, (Instr.index 72 (.agg #[(.func (.func 61) #[] #[.pointer (some ⟨Be, 0, none⟩), .pointer (some ⟨Bo, 0, none⟩), .pointer (some ⟨Bz, 0, none⟩)]), (.func (.func 62) #[] #[.pointer (some ⟨Be, 0, none⟩), .pointer (some ⟨Bz, 0, none⟩), .pointer (some ⟨Bo, 0, none⟩)]), (.func (.func 63) #[] #[.pointer (some ⟨Bk, 0, none⟩), .pointer (some ⟨Bb, 0, none⟩)]), (.func (.func 64) #[] #[.pointer (some ⟨Be, 0, none⟩), .pointer (some ⟨Bb, 0, none⟩), .pointer (some ⟨Bk, 0, none⟩), .pointer (some ⟨Bl, 0, none⟩)])]) (.int .i64 0)).run Tryd.prog w = .ok (.agg #[(.func (.func 61) #[] #[.pointer (some ⟨Be, 0, none⟩), .pointer (some ⟨Bo, 0, none⟩), .pointer (some ⟨Bz, 0, none⟩)]), (.func (.func 62) #[] #[.pointer (some ⟨Be, 0, none⟩), .pointer (some ⟨Bz, 0, none⟩), .pointer (some ⟨Bo, 0, none⟩)])]) w := fun _ => by kernel_rfl
  have i1 : ∀ w, (Instr.index 72 (.agg #[(.func (.func 61) #[] #[.pointer (some ⟨Be, 0, none⟩), .pointer (some ⟨Bo, 0, none⟩), .pointer (some ⟨Bz, 0, none⟩)]), (.func (.func 62) #[] #[.pointer (some ⟨Be, 0, none⟩), .pointer (some ⟨Bz, 0, none⟩), .pointer (some ⟨Bo, 0, none⟩)]), (.func (.func 63) #[] #[.pointer (some ⟨Bk, 0, none⟩), .pointer (some ⟨Bb, 0, none⟩)]), (.func (.func 64) #[] #[.pointer (some ⟨Be, 0, none⟩), .pointer (some ⟨Bb, 0, none⟩), .pointer (some ⟨Bk, 0, none⟩), .pointer (some ⟨Bl, 0, none⟩)])]) (.int .i64 1)).run Tryd.prog w = .ok (.agg #[(.func (.func 63) #[] #[.pointer (some ⟨Bk, 0, none⟩), .pointer (some ⟨Bb, 0, none⟩)]), (.func (.func 64) #[] #[.pointer (some ⟨Be, 0, none⟩), .pointer (some ⟨Bb, 0, none⟩), .pointer (some ⟨Bk, 0, none⟩), .pointer (some ⟨Bl, 0, none⟩)])]) w := fun _ => by kernel_rfl
  go_wp2_with fail
  rw [← HW5.out]
  refine wp_loop_rounds 3 ?_
  rw [rounds_succ]
  go_wp2_with fail
  have S := ST5.out.al (.cells #[(.func (.func 61) #[] #[.pointer (some ⟨Be, 0, none⟩), .pointer (some ⟨Bo, 0, none⟩), .pointer (some ⟨Bz, 0, none⟩)]), (.func (.func 62) #[] #[.pointer (some ⟨Be, 0, none⟩), .pointer (some ⟨Bz, 0, none⟩), .pointer (some ⟨Bo, 0, none⟩)])] 71)
  refine (first_other0 c 0 0 0 0 0 0 e z y HY w2.heap.size Be Bo Bz _ S.pw S.oe S.oo S.oz hcb.1 hcb.2 he.1 he.2 hz.1 hz.2).mono ?_
  rintro r w6 ⟨rfl, hq, hu⟩
  have st6 := S.up hq hu
  have ST6 := Lib.hid st6
  clear S hq hu st6
  go_wp2_with fail
  rw [rounds_succ]
  go_wp2_with fail
  have S := ST6.out.al (.cells #[(.func (.func 63) #[] #[.pointer (some ⟨Bk, 0, none⟩), .pointer (some ⟨Bb, 0, none⟩)]), (.func (.func 64) #[] #[.pointer (some ⟨Be, 0, none⟩), .pointer (some ⟨Bb, 0, none⟩), .pointer (some ⟨Bk, 0, none⟩), .pointer (some ⟨Bl, 0, none⟩)])] 71)
  refine (first_own1 c y 0 0 0 0 0 k x HX w2.heap.size Bk Bb _ S.pw S.ok S.ob hk.1 hk.2).mono ?_
  rintro r w7 ⟨rfl, hq, hu⟩
  have st7 := S.up hq hu
  have ST7 := Lib.hid st7
  clear S hq hu st7
  have c0 := ST7.out.cell 0 _ rfl
  have c1 := ST7.out.cell 1 _ rfl
  have c2 := ST7.out.cell 2 _ rfl
  have c3 := ST7.out.cell 3 _ rfl
  go_wp2_with fail
  rw [rounds_succ]
  go_wp2_with fail
  clear c0 c1 c2 c3
  refine wp_loop_rounds 3 ?_
  rw [rounds_succ]
  go_wp2_with fail
  have S := ST7.out.al (.cells #[(.func (.func 61) #[] #[.pointer (some ⟨Be, 0, none⟩), .pointer (some ⟨Bo, 0, none⟩), .pointer (some ⟨Bz, 0, none⟩)]), (.func (.func 62) #[] #[.pointer (some ⟨Be, 0, none⟩), .pointer (some ⟨Bz, 0, none⟩), .pointer (some ⟨Bo, 0, none⟩)])] 71)
  refine (reply_other0 c y x 0 0 0 0 e z w2.heap.size Be Bo Bz _ S.pw S.oe S.oo S.oz).mono ?_
  rintro r w8 ⟨rfl, hq, hu⟩
  have st8 := S.up hq hu
  have ST8 := Lib.hid st8
  clear S hq hu st8
  go_wp2_with fail
  rw [rounds_succ]
  go_wp2_with fail
  have S := ST8.out.al (.cells #[(.func (.func 63) #[] #[.pointer (some ⟨Bk, 0, none⟩), .pointer (some ⟨Bb, 0, none⟩)]), (.func (.func 64) #[] #[.pointer (some ⟨Be, 0, none⟩), .pointer (some ⟨Bb, 0, none⟩), .pointer (some ⟨Bk, 0, none⟩), .pointer (some ⟨Bl, 0, none⟩)])] 71)
  refine (reply_own1 c y x e 0 z 0 k e b ch eb zb HCH HEB HZB w2.heap.size Be Bb Bk Bl _ (HT.out.go S.bw) S.pw S.oe S.ob S.ok S.ol (i64_Z hcb) (i64_Z hyb) (i64_Z hxb) he.1 he.2 hk.1 hk.2 hb.1 hb.2).mono ?_
  rintro r w9 ⟨rfl, hq, hu⟩
  have st9 := S.up hq hu
  have ST9 := Lib.hid st9
  clear S hq hu st9
  go_wp2_with fail
  have m0 := ST9.out.pw.at.c0
  have m1 := ST9.out.pw.at.c1
  have m2 := ST9.out.pw.at.c2
  have m3 := ST9.out.pw.at.c3
  have m4 := ST9.out.pw.at.c4
  have m5 := ST9.out.pw.at.c5
  have m6 := ST9.out.pw.at.c6
  have l0 := ST9.out.rw.at.c0
  have l1 := ST9.out.rw.at.c1
  have l2 := ST9.out.rw.at.c2
  have l3 := ST9.out.rw.at.c3
  have l4 := ST9.out.rw.at.c4
  have l5 := ST9.out.rw.at.c5
  have l6 := ST9.out.rw.at.c6
  have g0 := ST9.out.rw.free 0
  have g1 := ST9.out.rw.free 1
  have g2 := ST9.out.rw.free 2
  have g3 := ST9.out.rw.free 3
  have g4 := ST9.out.rw.free 4
  have g5 := ST9.out.rw.free 5
  have g6 := ST9.out.rw.free 6
  simp only [] at m0 m1 m2 m3 m4 m5 m6 l0 l1 l2 l3 l4 l5 l6
  have hlw := ST9.out.lw
  clear i0 i1
  rw [rounds_succ]
  go_wp2_with fail
  refine bodyPost_ret (v := bpVal ⟨c, y, x, e, eb, z, zb⟩) (by simp [results, Tryd.results25, go_sem, bpVal, l0, l1, l2, l3, l4, l5, l6]) rfl ⟨rfl, ?_⟩
  exact ((((((ST9.out.bw.setCell (by simp) _).setCell (by simp) _).setCell (by simp) _).setCell (by simp) _).setCell (by simp) _).setCell (by simp) _).setCell (by simp) _
end Go.Proofs.YthebahahpkficaaDoor
