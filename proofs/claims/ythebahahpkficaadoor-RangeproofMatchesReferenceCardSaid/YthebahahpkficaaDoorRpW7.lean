/- The walks of package rangeproof: the closures that sides makes. -/
import Derived.Test.YthebahahpkficaaDoorRpW6
namespace Go.Proofs.YthebahahpkficaaDoor
open Go.RowKit
set_option linter.unusedVariables false
/-- A bit proof in a variable of its own that may be written. -/
def BPW (W : World) (B : Nat) (p : BP) : Prop := W.heap[B]? = some (.cells #[.int .i64 p.c, .int .i64 p.f0, .int .i64 p.f1, .int .i64 p.e0, .int .i64 p.e1, .int .i64 p.z0, .int .i64 p.z1] 25)
theorem BPW.at {W : World} {B : Nat} {p : BP} (h : BPW W B p) : BPAt W B p := ⟨_, _, h⟩
theorem BPW.go {W W' : World} {B : Nat} {p : BP} (h : BPW W B p) (hb : Below W.heap.size W W') : BPW W' B p := (hb.block _ (Array.getElem?_eq_some_iff.1 h).1).trans h
theorem BPW.lt {W : World} {B : Nat} {p : BP} (h : BPW W B p) : B < W.heap.size := (Array.getElem?_eq_some_iff.1 h).1
theorem BPW.free {W : World} {B : Nat} {p : BP} (h : BPW W B p) (j : Nat) : W.frozen? ⟨B, j, none⟩ = false := by
  unfold BPW at h
  simp [World.frozen?, h]
theorem heap_set {W : World} {B j : Nat} {cs : Array Value} {t : TypeId} (h : W.heap[B]? = some (.cells cs t)) (v : Value) (hj : j < cs.size) : (W.setCell ⟨B, j, none⟩ v).heap[B]? = some (.cells (cs.set j v) t) := by
  show (W.heap.modify B _)[B]? = _
  rw [Array.getElem?_modify, if_pos rfl, h]
  simp [Array.setIfInBounds, hj]
/-- What a closure does to the world: block B is changed, blocks are made, nothing else. -/
def Upd (W : World) (B : Nat) (W' : World) : Prop := Below B W W' ∧ ∀ b, B < b → b < W.heap.size → W'.heap[b]? = W.heap[b]?
theorem Own1.upd {n B C : Nat} {W W' : World} {v : Int} (h : Own1 n W C v) (hn : B < n) (hu : Upd W B W') : Own1 n W' C v :=
  ⟨h.1, Nat.lt_of_lt_of_le h.2.1 hu.1.size, (World.cell?_of_block (hu.2 C (by have := h.1; omega) h.2.1)).trans h.2.2⟩
theorem upd_set {W W1 : World} {B j : Nat} (hb : Below W.heap.size W W1) (hB : B < W.heap.size) (v : Value) : Upd W B (W1.setCell ⟨B, j, none⟩ v) :=
  ⟨(hb.mono (Nat.le_of_lt hB)).setCell (p := ⟨B, j, none⟩) (Nat.le_refl _) _, fun b h1 h2 => (Below.heap_setCell _ _ _ _ (by show b ≠ B; omega)).trans (hb.block b h2)⟩
theorem upd_trans {W W1 W2 : World} {B : Nat} (h : Upd W B W1) (k : Upd W1 B W2) : Upd W B W2 :=
  ⟨h.1.trans k.1, fun b h1 h2 => (k.2 b h1 (Nat.lt_of_lt_of_le h2 h.1.size)).trans (h.2 b h1 h2)⟩
set_option maxHeartbeats 8000000 in
set_option maxRecDepth 100000 in
theorem first_other0 (c f0 f1 e0 e1 z0 z1 e z v : Int) (hv : Hid (otherF c 0 e z = v)) (Bp Be Bo Bz : Nat) (W : World) (hP : BPW W Bp ⟨c, f0, f1, e0, e1, z0, z1⟩) (oe : Own1 (Bp + 1) W Be e) (oo : Own1 (Bp + 1) W Bo 0) (oz : Own1 (Bp + 1) W Bz z) (hc0 : 0 ≤ c) (hc1 : c < 2147483579) (he0 : 0 ≤ e) (he1 : e < 1073741789) (hz0 : 0 ≤ z) (hz1 : z < 1073741789) :
    Calls Tryd.prog 61 #[.pointer (some ⟨Bp, 0, none⟩), .pointer (some ⟨Be, 0, none⟩), .pointer (some ⟨Bo, 0, none⟩), .pointer (some ⟨Bz, 0, none⟩)] W fun r w' => r = .returned (.tuple #[]) ∧ BPW w' Bp ⟨c, v, f1, e0, e1, z0, z1⟩ ∧ Upd W Bp w' := by
  obtain ⟨d, hd⟩ : ∃ d, divI c 0 = d := ⟨_, rfl⟩
  have hdb := divI_bd c 0
  rw [hd] at hdb
  obtain ⟨q, hq⟩ : ∃ q, pwI d 1073741788 = q := ⟨_, rfl⟩
  have hqb := pwI_bd d 1073741788
  rw [hq] at hqb
  obtain ⟨y, hy⟩ : ∃ y, pwI q e = y := ⟨_, rfl⟩
  have hyb := pwI_bd q e
  rw [hy] at hyb
  obtain ⟨x, hx⟩ : ∃ x, pwI 9 z = x := ⟨_, rfl⟩
  have hxb := pwI_bd 9 z
  rw [hx] at hxb
  have hm := mulB hxb.1 hxb.2 hyb.1 hyb.2
  have hv' : x * y % 2147483579 = v := by rw [← hv.out]; unfold otherF; rw [hd, hq, hy, hx]
  have Hd := Lib.hid hd
  have Hq := Lib.hid hq
  have Hy := Lib.hid hy
  have Hx := Lib.hid hx
  have HV := Lib.hid hv'
  clear hd hq hy hx hv hv'
  have HP := Lib.hid hP
  have OE := Lib.hid oe
  have OO := Lib.hid oo
  have OZ := Lib.hid oz
  have ke := oe.2.2
  have ko := oo.2.2
  have kz := oz.2.2
  have kc := hP.at.c0
  simp only [] at kc
  have le1 := oe.1
  have lo1 := oo.1
  have lz1 := oz.1
  have hPd : BPW W.drew Bp ⟨c, f0, f1, e0, e1, z0, z1⟩ := hP
  have oed : Own1 (Bp + 1) W.drew Be e := oe
  have ood : Own1 (Bp + 1) W.drew Bo 0 := oo
  have ozd : Own1 (Bp + 1) W.drew Bz z := oz
  clear hP oe oo oz
  have hmf : ∀ (fn : Fn) (first cap : Array Value) (w : World), (Instr.makeFunc fn first cap).run Tryd.prog w = .ok (.func fn first cap) w := fun _ _ _ _ => rfl
  go_enter Tryd.func61, Tryd.ntmps61
  go_wp2
  go_region_held3 (fun w' => w'.cell? ⟨Be, 0, none⟩ = some (.int .i64 e) ∧ w'.cell? ⟨Bo, 0, none⟩ = some (.int .i64 0) ∧ w'.cell? ⟨Bp, 0, none⟩ = some (.int .i64 c))
    (go_keep)
    (first
      | (go_at_call 56; (with_reducible refine (divided_any c 0 d Hd (by omega) (by omega) (by omega) (by omega) W.drew).mono ?_); rintro r w1 ⟨rfl, hb1⟩; have hP1 := hPd.go hb1; have oe1 := oed.go hb1; have oo1 := ood.go hb1; have oz1 := ozd.go hb1; have ke1 := oe1.2.2; have ko1 := oo1.2.2; have kc1 := hP1.at.c0; simp only [] at kc1)
      | (go_at_call 35; (with_reducible refine (inGroup_v d 1073741788 q w1 (by omega) (by omega) (by omega) (by omega) Hq).mono ?_); rintro r w2 ⟨rfl, hb2⟩; have hP2 := hP1.go hb2; have oe2 := oe1.go hb2; have oo2 := oo1.go hb2; have oz2 := oz1.go hb2; have ke2 := oe2.2.2; have ko2 := oo2.2.2; have kc2 := hP2.at.c0; simp only [] at kc2)
      | (go_at_call 35; (with_reducible refine (inGroup_v q e y w2 (by omega) (by omega) (by omega) (by omega) Hy).mono ?_); rintro r w3 ⟨rfl, hb3⟩; have hP3 := hP2.go hb3; have oe3 := oe2.go hb3; have oo3 := oo2.go hb3; have oz3 := oz2.go hb3; have ke3 := oe3.2.2; have ko3 := oo3.2.2; have kc3 := hP3.at.c0; simp only [] at kc3))
  have hB3 : Below W.heap.size W w3 := bgo (below_undrew hb1) (bgo hb2 hb3)
  have kz3 := oz3.2.2
  clear hb1 hb2 hb3 hP1 hP2 oe1 oe2 oo1 oo2 oz1 oz2 ke1 ke2 ko1 ko2 kc1 kc2 ke ko kz kc hPd oed ood ozd
  have hPd : BPW w3.drew Bp ⟨c, f0, f1, e0, e1, z0, z1⟩ := hP3
  have ood : Own1 (Bp + 1) w3.drew Bo 0 := oo3
  have ozd : Own1 (Bp + 1) w3.drew Bz z := oz3
  have hwr : IntKind.i64.wrap (x * y) = x * y := IntWalk.i64_in _ (by omega)
  have htm : (x * y).tmod 2147483579 = v := by rw [Int.tmod_eq_emod_of_nonneg hm.1]; exact HV.out
  go_wp2_with fail
  go_region_held3 (fun w' => w'.cell? ⟨Bo, 0, none⟩ = some (.int .i64 0) ∧ w'.cell? ⟨Bz, 0, none⟩ = some (.int .i64 z))
    (first | go_keep | (refine ⟨?_, ?_⟩ <;> (rw [World.cell?_of_block (Below.heap_setCell _ _ _ _ (by simp; omega))]; assumption)))
    (first
      | (go_at_call 35; (with_reducible refine (inGroup_v 9 z x w3.drew (by omega) (by omega) (by omega) (by omega) Hx).mono ?_); rintro r w4 ⟨rfl, hb4⟩; have hP4 := hPd.go hb4; have ko4 := (ood.go hb4).2.2; have kz4 := (ozd.go hb4).2.2; have kf4 := hP4.at.c1; have fr4 := hP4.free 1; simp only [] at kf4))
  have hB4 : Below W.heap.size W w4 := bgo hB3 (below_undrew hb4)
  clear hwr htm
  go_wp2
  go_end0
  refine ⟨rfl, ?_, upd_set hB4 HP.out.lt _⟩
  have h9 := heap_set (j := 1) hP4 (.int .i64 v) (by simp)
  exact h9
set_option maxHeartbeats 8000000 in
set_option maxRecDepth 100000 in
theorem first_other1 (c f0 f1 e0 e1 z0 z1 e z v : Int) (hv : Hid (otherF c 1 e z = v)) (Bp Be Bo Bz : Nat) (W : World) (hP : BPW W Bp ⟨c, f0, f1, e0, e1, z0, z1⟩) (oe : Own1 (Bp + 1) W Be e) (oo : Own1 (Bp + 1) W Bo 1) (oz : Own1 (Bp + 1) W Bz z) (hc0 : 0 ≤ c) (hc1 : c < 2147483579) (he0 : 0 ≤ e) (he1 : e < 1073741789) (hz0 : 0 ≤ z) (hz1 : z < 1073741789) :
    Calls Tryd.prog 61 #[.pointer (some ⟨Bp, 0, none⟩), .pointer (some ⟨Be, 0, none⟩), .pointer (some ⟨Bo, 0, none⟩), .pointer (some ⟨Bz, 0, none⟩)] W fun r w' => r = .returned (.tuple #[]) ∧ BPW w' Bp ⟨c, f0, v, e0, e1, z0, z1⟩ ∧ Upd W Bp w' := by
  obtain ⟨d, hd⟩ : ∃ d, divI c 1 = d := ⟨_, rfl⟩
  have hdb := divI_bd c 1
  rw [hd] at hdb
  obtain ⟨q, hq⟩ : ∃ q, pwI d 1073741788 = q := ⟨_, rfl⟩
  have hqb := pwI_bd d 1073741788
  rw [hq] at hqb
  obtain ⟨y, hy⟩ : ∃ y, pwI q e = y := ⟨_, rfl⟩
  have hyb := pwI_bd q e
  rw [hy] at hyb
  obtain ⟨x, hx⟩ : ∃ x, pwI 9 z = x := ⟨_, rfl⟩
  have hxb := pwI_bd 9 z
  rw [hx] at hxb
  have hm := mulB hxb.1 hxb.2 hyb.1 hyb.2
  have hv' : x * y % 2147483579 = v := by rw [← hv.out]; unfold otherF; rw [hd, hq, hy, hx]
  have Hd := Lib.hid hd
  have Hq := Lib.hid hq
  have Hy := Lib.hid hy
  have Hx := Lib.hid hx
  have HV := Lib.hid hv'
  clear hd hq hy hx hv hv'
  have HP := Lib.hid hP
  have OE := Lib.hid oe
  have OO := Lib.hid oo
  have OZ := Lib.hid oz
  have ke := oe.2.2
  have ko := oo.2.2
  have kz := oz.2.2
  have kc := hP.at.c0
  simp only [] at kc
  have le1 := oe.1
  have lo1 := oo.1
  have lz1 := oz.1
  have hPd : BPW W.drew Bp ⟨c, f0, f1, e0, e1, z0, z1⟩ := hP
  have oed : Own1 (Bp + 1) W.drew Be e := oe
  have ood : Own1 (Bp + 1) W.drew Bo 1 := oo
  have ozd : Own1 (Bp + 1) W.drew Bz z := oz
  clear hP oe oo oz
  have hmf : ∀ (fn : Fn) (first cap : Array Value) (w : World), (Instr.makeFunc fn first cap).run Tryd.prog w = .ok (.func fn first cap) w := fun _ _ _ _ => rfl
  go_enter Tryd.func61, Tryd.ntmps61
  go_wp2
  go_region_held3 (fun w' => w'.cell? ⟨Be, 0, none⟩ = some (.int .i64 e) ∧ w'.cell? ⟨Bo, 0, none⟩ = some (.int .i64 1) ∧ w'.cell? ⟨Bp, 0, none⟩ = some (.int .i64 c))
    (go_keep)
    (first
      | (go_at_call 56; (with_reducible refine (divided_any c 1 d Hd (by omega) (by omega) (by omega) (by omega) W.drew).mono ?_); rintro r w1 ⟨rfl, hb1⟩; have hP1 := hPd.go hb1; have oe1 := oed.go hb1; have oo1 := ood.go hb1; have oz1 := ozd.go hb1; have ke1 := oe1.2.2; have ko1 := oo1.2.2; have kc1 := hP1.at.c0; simp only [] at kc1)
      | (go_at_call 35; (with_reducible refine (inGroup_v d 1073741788 q w1 (by omega) (by omega) (by omega) (by omega) Hq).mono ?_); rintro r w2 ⟨rfl, hb2⟩; have hP2 := hP1.go hb2; have oe2 := oe1.go hb2; have oo2 := oo1.go hb2; have oz2 := oz1.go hb2; have ke2 := oe2.2.2; have ko2 := oo2.2.2; have kc2 := hP2.at.c0; simp only [] at kc2)
      | (go_at_call 35; (with_reducible refine (inGroup_v q e y w2 (by omega) (by omega) (by omega) (by omega) Hy).mono ?_); rintro r w3 ⟨rfl, hb3⟩; have hP3 := hP2.go hb3; have oe3 := oe2.go hb3; have oo3 := oo2.go hb3; have oz3 := oz2.go hb3; have ke3 := oe3.2.2; have ko3 := oo3.2.2; have kc3 := hP3.at.c0; simp only [] at kc3))
  have hB3 : Below W.heap.size W w3 := bgo (below_undrew hb1) (bgo hb2 hb3)
  have kz3 := oz3.2.2
  clear hb1 hb2 hb3 hP1 hP2 oe1 oe2 oo1 oo2 oz1 oz2 ke1 ke2 ko1 ko2 kc1 kc2 ke ko kz kc hPd oed ood ozd
  have hPd : BPW w3.drew Bp ⟨c, f0, f1, e0, e1, z0, z1⟩ := hP3
  have ood : Own1 (Bp + 1) w3.drew Bo 1 := oo3
  have ozd : Own1 (Bp + 1) w3.drew Bz z := oz3
  have hwr : IntKind.i64.wrap (x * y) = x * y := IntWalk.i64_in _ (by omega)
  have htm : (x * y).tmod 2147483579 = v := by rw [Int.tmod_eq_emod_of_nonneg hm.1]; exact HV.out
  go_wp2_with fail
  go_region_held3 (fun w' => w'.cell? ⟨Bo, 0, none⟩ = some (.int .i64 1) ∧ w'.cell? ⟨Bz, 0, none⟩ = some (.int .i64 z))
    (first | go_keep | (refine ⟨?_, ?_⟩ <;> (rw [World.cell?_of_block (Below.heap_setCell _ _ _ _ (by simp; omega))]; assumption)))
    (first
      | (go_at_call 35; (with_reducible refine (inGroup_v 9 z x w3.drew (by omega) (by omega) (by omega) (by omega) Hx).mono ?_); rintro r w4 ⟨rfl, hb4⟩; have hP4 := hPd.go hb4; have ko4 := (ood.go hb4).2.2; have kz4 := (ozd.go hb4).2.2; have kf4 := hP4.at.c2; have fr4 := hP4.free 2; simp only [] at kf4))
  have hB4 : Below W.heap.size W w4 := bgo hB3 (below_undrew hb4)
  clear hwr htm
  go_wp2
  go_end0
  refine ⟨rfl, ?_, upd_set hB4 HP.out.lt _⟩
  have h9 := heap_set (j := 2) hP4 (.int .i64 v) (by simp)
  exact h9
end Go.Proofs.YthebahahpkficaaDoor
