/- The walks of package rangeproof: the closures that sides makes, second part. -/
import Derived.Test.YthebahahpkficaaDoorRpW7
namespace Go.Proofs.YthebahahpkficaaDoor
open Go.RowKit
set_option linter.unusedVariables false
theorem cell_sd {W : World} {B C i j : Nat} {v u : Value} (hne : C ≠ B) (h : W.cell? ⟨C, i, none⟩ = some u) : (W.setCell ⟨B, j, none⟩ v).drew.cell? ⟨C, i, none⟩ = some u :=
  (World.cell?_of_block (Below.heap_setCell _ _ _ _ hne)).trans h
theorem cell_s {W : World} {B C i j : Nat} {v u : Value} (hne : C ≠ B) (h : W.cell? ⟨C, i, none⟩ = some u) : (W.setCell ⟨B, j, none⟩ v).cell? ⟨C, i, none⟩ = some u :=
  (World.cell?_of_block (Below.heap_setCell _ _ _ _ hne)).trans h
theorem cell_so {W : World} {B i j : Nat} {v u : Value} (hne : i ≠ j) (h : W.cell? ⟨B, i, none⟩ = some u) : (W.setCell ⟨B, j, none⟩ v).drew.cell? ⟨B, i, none⟩ = some u := by
  have h2 : (⟨B, j, none⟩ : Addr) ≠ ⟨B, i, none⟩ := by intro e; injection e with _ e; exact hne e.symm
  have h3 := World.cell?_setCell_other W _ _ v h2
  exact h3.trans h
set_option maxHeartbeats 8000000 in
set_option maxRecDepth 100000 in
theorem reply_other0 (c f0 f1 e0 e1 z0 z1 e z : Int) (Bp Be Bo Bz : Nat) (W : World) (hP : BPW W Bp ⟨c, f0, f1, e0, e1, z0, z1⟩) (oe : Own1 (Bp + 1) W Be e) (oo : Own1 (Bp + 1) W Bo 0) (oz : Own1 (Bp + 1) W Bz z) :
    Calls Tryd.prog 62 #[.pointer (some ⟨Bp, 0, none⟩), .pointer (some ⟨Be, 0, none⟩), .pointer (some ⟨Bz, 0, none⟩), .pointer (some ⟨Bo, 0, none⟩)] W fun r w' => r = .returned (.tuple #[]) ∧ BPW w' Bp ⟨c, f0, f1, e, e1, z, z1⟩ ∧ Upd W Bp w' := by
  have HP := Lib.hid hP
  have ke := oe.2.2
  have ko := oo.2.2
  have kz := oz.2.2
  have k1 := hP.at.c3
  have k2 := hP.at.c5
  have g1 := hP.free 3
  have g2 := hP.free 5
  simp only [] at k1 k2
  have le1 := oe.1
  have lo1 := oo.1
  have lz1 := oz.1
  have ne1 : Be ≠ Bp := by omega
  have ne2 : Bo ≠ Bp := by omega
  have ne3 : Bz ≠ Bp := by omega
  clear hP oe oo oz
  go_enter Tryd.func62, Tryd.ntmps62
  go_wp2
  go_region_held3 (fun w' => w'.cell? ⟨Bo, 0, none⟩ = some (.int .i64 0) ∧ w'.cell? ⟨Be, 0, none⟩ = some (.int .i64 e) ∧ w'.cell? ⟨Bz, 0, none⟩ = some (.int .i64 z))
    (first | (exact ⟨ko, ke, kz⟩) | (exact ⟨cell_sd ne2 ko, cell_sd ne1 ke, cell_sd ne3 kz⟩) | (exact ⟨cell_sd ne2 (cell_s ne2 ko), cell_sd ne1 (cell_s ne1 ke), cell_sd ne3 (cell_s ne3 kz)⟩))
    (fail)
  all_goals
    go_wp2
    go_end0
    refine ⟨rfl, ?_, upd_trans (upd_set (Below.refl _ _).drew HP.out.lt _) (upd_set (Below.refl _ _) (by simp [World.setCell]; exact HP.out.lt) _)⟩
    have h9 := heap_set (j := 3) (W := W.drew) HP.out (.int .i64 e) (by simp)
    have h8 := heap_set (j := 5) h9 (.int .i64 z) (by simp)
    exact h8
set_option maxHeartbeats 8000000 in
set_option maxRecDepth 100000 in
theorem reply_other1 (c f0 f1 e0 e1 z0 z1 e z : Int) (Bp Be Bo Bz : Nat) (W : World) (hP : BPW W Bp ⟨c, f0, f1, e0, e1, z0, z1⟩) (oe : Own1 (Bp + 1) W Be e) (oo : Own1 (Bp + 1) W Bo 1) (oz : Own1 (Bp + 1) W Bz z) :
    Calls Tryd.prog 62 #[.pointer (some ⟨Bp, 0, none⟩), .pointer (some ⟨Be, 0, none⟩), .pointer (some ⟨Bz, 0, none⟩), .pointer (some ⟨Bo, 0, none⟩)] W fun r w' => r = .returned (.tuple #[]) ∧ BPW w' Bp ⟨c, f0, f1, e0, e, z0, z⟩ ∧ Upd W Bp w' := by
  have HP := Lib.hid hP
  have ke := oe.2.2
  have ko := oo.2.2
  have kz := oz.2.2
  have k1 := hP.at.c4
  have k2 := hP.at.c6
  have g1 := hP.free 4
  have g2 := hP.free 6
  simp only [] at k1 k2
  have le1 := oe.1
  have lo1 := oo.1
  have lz1 := oz.1
  have ne1 : Be ≠ Bp := by omega
  have ne2 : Bo ≠ Bp := by omega
  have ne3 : Bz ≠ Bp := by omega
  clear hP oe oo oz
  go_enter Tryd.func62, Tryd.ntmps62
  go_wp2
  go_region_held3 (fun w' => w'.cell? ⟨Bo, 0, none⟩ = some (.int .i64 1) ∧ w'.cell? ⟨Be, 0, none⟩ = some (.int .i64 e) ∧ w'.cell? ⟨Bz, 0, none⟩ = some (.int .i64 z))
    (first | (exact ⟨ko, ke, kz⟩) | (exact ⟨cell_sd ne2 ko, cell_sd ne1 ke, cell_sd ne3 kz⟩) | (exact ⟨cell_sd ne2 (cell_s ne2 ko), cell_sd ne1 (cell_s ne1 ke), cell_sd ne3 (cell_s ne3 kz)⟩))
    (fail)
  all_goals
    go_wp2
    go_end0
    refine ⟨rfl, ?_, upd_trans (upd_set (Below.refl _ _).drew HP.out.lt _) (upd_set (Below.refl _ _) (by simp [World.setCell]; exact HP.out.lt) _)⟩
    have h9 := heap_set (j := 4) (W := W.drew) HP.out (.int .i64 e) (by simp)
    have h8 := heap_set (j := 6) h9 (.int .i64 z) (by simp)
    exact h8
set_option maxHeartbeats 8000000 in
set_option maxRecDepth 100000 in
theorem first_own0 (c f0 f1 e0 e1 z0 z1 k x : Int) (hx : Hid (pwI 9 k = x)) (Bp Bk Bb : Nat) (W : World) (hP : BPW W Bp ⟨c, f0, f1, e0, e1, z0, z1⟩) (ok : Own1 (Bp + 1) W Bk k) (ob : Own1 (Bp + 1) W Bb 0) (hk0 : 0 ≤ k) (hk1 : k < 1073741789) :
    Calls Tryd.prog 63 #[.pointer (some ⟨Bp, 0, none⟩), .pointer (some ⟨Bk, 0, none⟩), .pointer (some ⟨Bb, 0, none⟩)] W fun r w' => r = .returned (.tuple #[]) ∧ BPW w' Bp ⟨c, x, f1, e0, e1, z0, z1⟩ ∧ Upd W Bp w' := by
  have HP := Lib.hid hP
  have kk := ok.2.2
  have kb := ob.2.2
  have le1 := ok.1
  have lo1 := ob.1
  have hPd : BPW W.drew Bp ⟨c, f0, f1, e0, e1, z0, z1⟩ := hP
  have okd : Own1 (Bp + 1) W.drew Bk k := ok
  have obd : Own1 (Bp + 1) W.drew Bb 0 := ob
  clear hP ok ob
  go_enter Tryd.func63, Tryd.ntmps63
  go_wp2
  go_region_held3 (fun w' => w'.cell? ⟨Bb, 0, none⟩ = some (.int .i64 0) ∧ w'.cell? ⟨Bk, 0, none⟩ = some (.int .i64 k))
    (first | go_keep | (refine ⟨?_, ?_⟩ <;> (rw [World.cell?_of_block (Below.heap_setCell _ _ _ _ (by simp; omega))]; assumption)))
    (first
      | (go_at_call 35; (with_reducible refine (inGroup_v 9 k x W.drew (by omega) (by omega) (by omega) (by omega) hx).mono ?_); rintro r w4 ⟨rfl, hb4⟩; have hP4 := hPd.go hb4; have ko4 := (obd.go hb4).2.2; have kz4 := (okd.go hb4).2.2; have kf4 := hP4.at.c1; have fr4 := hP4.free 1; simp only [] at kf4))
  have hB4 : Below W.heap.size W w4 := below_undrew hb4
  go_wp2
  go_end0
  refine ⟨rfl, ?_, upd_set hB4 HP.out.lt _⟩
  have h9 := heap_set (j := 1) hP4 (.int .i64 x) (by simp)
  exact h9
set_option maxHeartbeats 8000000 in
set_option maxRecDepth 100000 in
theorem first_own1 (c f0 f1 e0 e1 z0 z1 k x : Int) (hx : Hid (pwI 9 k = x)) (Bp Bk Bb : Nat) (W : World) (hP : BPW W Bp ⟨c, f0, f1, e0, e1, z0, z1⟩) (ok : Own1 (Bp + 1) W Bk k) (ob : Own1 (Bp + 1) W Bb 1) (hk0 : 0 ≤ k) (hk1 : k < 1073741789) :
    Calls Tryd.prog 63 #[.pointer (some ⟨Bp, 0, none⟩), .pointer (some ⟨Bk, 0, none⟩), .pointer (some ⟨Bb, 0, none⟩)] W fun r w' => r = .returned (.tuple #[]) ∧ BPW w' Bp ⟨c, f0, x, e0, e1, z0, z1⟩ ∧ Upd W Bp w' := by
  have HP := Lib.hid hP
  have kk := ok.2.2
  have kb := ob.2.2
  have le1 := ok.1
  have lo1 := ob.1
  have hPd : BPW W.drew Bp ⟨c, f0, f1, e0, e1, z0, z1⟩ := hP
  have okd : Own1 (Bp + 1) W.drew Bk k := ok
  have obd : Own1 (Bp + 1) W.drew Bb 1 := ob
  clear hP ok ob
  go_enter Tryd.func63, Tryd.ntmps63
  go_wp2
  go_region_held3 (fun w' => w'.cell? ⟨Bb, 0, none⟩ = some (.int .i64 1) ∧ w'.cell? ⟨Bk, 0, none⟩ = some (.int .i64 k))
    (first | go_keep | (refine ⟨?_, ?_⟩ <;> (rw [World.cell?_of_block (Below.heap_setCell _ _ _ _ (by simp; omega))]; assumption)))
    (first
      | (go_at_call 35; (with_reducible refine (inGroup_v 9 k x W.drew (by omega) (by omega) (by omega) (by omega) hx).mono ?_); rintro r w4 ⟨rfl, hb4⟩; have hP4 := hPd.go hb4; have ko4 := (obd.go hb4).2.2; have kz4 := (okd.go hb4).2.2; have kf4 := hP4.at.c2; have fr4 := hP4.free 2; simp only [] at kf4))
  have hB4 : Below W.heap.size W w4 := below_undrew hb4
  go_wp2
  go_end0
  refine ⟨rfl, ?_, upd_set hB4 HP.out.lt _⟩
  have h9 := heap_set (j := 2) hP4 (.int .i64 x) (by simp)
  exact h9
set_option maxHeartbeats 8000000 in
set_option maxRecDepth 100000 in
theorem reply_own0 (c f0 f1 e0 e1 z0 z1 k e bl ch eb zb : Int) (hch : Hid (chalI c f0 f1 = ch)) (heb : Hid ((ch - e) % 1073741789 = eb)) (hzb : Hid (ownZ k eb bl = zb)) (Bp Be Bb Bk Bl : Nat) (W : World) (hT : PTab W) (hP : BPW W Bp ⟨c, f0, f1, e0, e1, z0, z1⟩) (oe : Own1 (Bp + 1) W Be e) (ob : Own1 (Bp + 1) W Bb 0) (ok : Own1 (Bp + 1) W Bk k) (ol : Own1 (Bp + 1) W Bl bl)
    (hc : I64 c) (hf0 : I64 f0) (hf1 : I64 f1) (he0 : 0 ≤ e) (he1 : e < 1073741789) (hk0 : 0 ≤ k) (hk1 : k < 1073741789) (hl0 : 0 ≤ bl) (hl1 : bl < 1073741789) :
    Calls Tryd.prog 64 #[.pointer (some ⟨Bp, 0, none⟩), .pointer (some ⟨Be, 0, none⟩), .pointer (some ⟨Bb, 0, none⟩), .pointer (some ⟨Bk, 0, none⟩), .pointer (some ⟨Bl, 0, none⟩)] W fun r w' => r = .returned (.tuple #[]) ∧ BPW w' Bp ⟨c, f0, f1, eb, e1, zb, z1⟩ ∧ Upd W Bp w' := by
  have HP := Lib.hid hP
  have HI := Lib.hid (And.intro hc (And.intro hf0 hf1))
  have hcb := chalI_bd c f0 f1
  rw [hch.out] at hcb
  have hebb : 0 ≤ eb ∧ eb < 1073741789 := by rw [← heb.out]; omega
  have hmul : 0 ≤ eb * bl ∧ eb * bl ≤ 1152921504606846976 := by
    refine ⟨Int.mul_nonneg hebb.1 hl0, ?_⟩
    have : eb * bl ≤ 1073741824 * 1073741824 := Int.mul_le_mul (by omega) (by omega) hl0 (by omega)
    omega
  have kb := ob.2.2
  have ke := oe.2.2
  have m0 := hP.at.c0
  have m1 := hP.at.c1
  have m2 := hP.at.c2
  have m3 := hP.at.c3
  have m4 := hP.at.c4
  have m5 := hP.at.c5
  have m6 := hP.at.c6
  simp only [] at m0 m1 m2 m3 m4 m5 m6
  have lb1 := ob.1
  have le1 := oe.1
  have lk1 := ok.1
  have ll1 := ol.1
  have hTd : PTab W.drew := hT
  have hPd : BPW W.drew Bp ⟨c, f0, f1, e0, e1, z0, z1⟩ := hP
  have oed : Own1 (Bp + 1) W.drew Be e := oe
  have obd : Own1 (Bp + 1) W.drew Bb 0 := ob
  have okd : Own1 (Bp + 1) W.drew Bk k := ok
  have old : Own1 (Bp + 1) W.drew Bl bl := ol
  have hws : IntKind.i64.wrap (ch - e) = ch - e := IntWalk.i64_in _ (by omega)
  clear hP oe ob ok ol hT hc hf0 hf1
  go_enter Tryd.func64, Tryd.ntmps64
  go_wp2
  refine wp_region_noPanic ?_
  refine wp_region_held_drew (S := fun w' => w'.cell? ⟨Bb, 0, none⟩ = some (.int .i64 0) ∧ w'.cell? ⟨Be, 0, none⟩ = some (.int .i64 e)) (by kernel_rfl) ⟨kb, ke⟩ (fun hHeld => ?_)
  refine wpAnyH_take (i := 0) (v := ?_) rfl (by kernel_rfl) (by kernel_rfl) (by kernel_rfl) (fun _ _ _ h => h) (Or.inl ⟨by rfl, ?_⟩) (by assumption) ?_
  rotate_left
  · intro w hSw
    (try dsimp only at hSw)
    go_simp
    first | done | with_reducible rfl
  simp only [List.getElem_toArray, List.getElem_cons_zero, List.getElem_cons_succ, Act.put, List.setIfInBounds_toArray, List.set_cons_zero, List.set_cons_succ]
  refine wpAnyH_take (i := 1) (v := ?_) rfl (by kernel_rfl) (by kernel_rfl) (by kernel_rfl) (fun _ _ _ h => h) (Or.inl ⟨by rfl, ?_⟩) (by assumption) ?_
  rotate_left
  · intro w hSw
    (try dsimp only at hSw)
    go_simp
    first | done | with_reducible rfl
  simp only [List.getElem_toArray, List.getElem_cons_zero, List.getElem_cons_succ, Act.put, List.setIfInBounds_toArray, List.set_cons_zero, List.set_cons_succ]
  refine wpAnyH_take (i := 2) (v := ?_) rfl (by kernel_rfl) (by kernel_rfl) (by kernel_rfl) (fun _ _ _ h => h) (Or.inl ⟨by rfl, ?_⟩) (by assumption) ?_
  rotate_left
  · intro w hSw
    (try dsimp only at hSw)
    go_simp
    first | done | with_reducible rfl
  simp only [List.getElem_toArray, List.getElem_cons_zero, List.getElem_cons_succ, Act.put, List.setIfInBounds_toArray, List.set_cons_zero, List.set_cons_succ]
  refine wpAnyH_take (i := 3) (v := ?_) rfl (by kernel_rfl) (by kernel_rfl) (by kernel_rfl) (fun _ _ _ h => h) (Or.inl ⟨by rfl, ?_⟩) (by assumption) ?_
  rotate_left
  · intro w hSw
    (try dsimp only at hSw)
    go_simp
    first | done | with_reducible rfl
  simp only [List.getElem_toArray, List.getElem_cons_zero, List.getElem_cons_succ, Act.put, List.setIfInBounds_toArray, List.set_cons_zero, List.set_cons_succ]
  refine wpAnyH_take (i := 6) (v := ?_) rfl (by kernel_rfl) (by kernel_rfl) (by kernel_rfl) (fun _ _ _ h => h) (Or.inl ⟨by rfl, ?_⟩) (by assumption) ?_
  rotate_left
  · intro w hSw
    (try dsimp only at hSw)
    go_simp
    first | done | with_reducible rfl
  simp only [List.getElem_toArray, List.getElem_cons_zero, List.getElem_cons_succ, Act.put, List.setIfInBounds_toArray, List.set_cons_zero, List.set_cons_succ]
  refine wpAnyH_take (i := 9) (v := ?_) rfl (by kernel_rfl) (by kernel_rfl) (by kernel_rfl) (fun _ _ _ h => h) (Or.inl ⟨by rfl, ?_⟩) (by assumption) ?_
  rotate_left
  · intro w hSw
    (try dsimp only at hSw)
    go_simp
    first | done | with_reducible rfl
  simp only [List.getElem_toArray, List.getElem_cons_zero, List.getElem_cons_succ, Act.put, List.setIfInBounds_toArray, List.set_cons_zero, List.set_cons_succ]
  refine wpAnyH_take (i := 10) (v := ?_) rfl (by kernel_rfl) (by kernel_rfl) (by kernel_rfl) (fun _ _ _ h => h) (Or.inl ⟨by rfl, ?_⟩) (by assumption) ?_
  rotate_left
  · intro w hSw
    (try dsimp only at hSw)
    go_simp
    first | done | with_reducible rfl
  simp only [List.getElem_toArray, List.getElem_cons_zero, List.getElem_cons_succ, Act.put, List.setIfInBounds_toArray, List.set_cons_zero, List.set_cons_succ]
  refine wpAnyH_ready (rs := [4]) (by kernel_rfl) (by simp) ?_
  refine AllReadyH.cons rfl (fun K hK => ?_) AllReadyH.nil
  simp only [List.getElem_toArray, List.getElem_cons_zero, List.getElem_cons_succ]
  go_simp
  refine hK.out _ _ ⟨kb, ke⟩ (fun hHeld => ?_)
  clear hK K
  try simp only [List.getElem_toArray, List.getElem_cons_zero, List.getElem_cons_succ, Act.put, List.setIfInBounds_toArray, List.set_cons_zero, List.set_cons_succ]
  refine wpAnyH_ready (rs := [5]) (by kernel_rfl) (by simp) ?_
  refine AllReadyH.cons rfl (fun K hK => ?_) AllReadyH.nil
  simp only [List.getElem_toArray, List.getElem_cons_zero, List.getElem_cons_succ]
  go_simp
  (with_reducible refine (chal_lit c f0 f1 e0 e1 z0 z1 ch hch W.drew hTd HI.out.1 HI.out.2.1 HI.out.2.2).mono ?_)
  rintro r w4 ⟨rfl, hb4⟩
  have hP4 := hPd.go hb4
  have kb4 := (obd.go hb4).2.2
  have ke4 := (oed.go hb4).2.2
  have kf4 := hP4.at.c3
  have fr4 := hP4.free 3
  simp only [] at kf4
  dsimp only
  refine hK.out _ _ ⟨kb4, ke4⟩ (fun hHeld => ?_)
  clear hK K
  try simp only [List.getElem_toArray, List.getElem_cons_zero, List.getElem_cons_succ, Act.put, List.setIfInBounds_toArray, List.set_cons_zero, List.set_cons_succ]
  refine wpAnyH_take (i := 7) (v := ?_) rfl (by kernel_rfl) (by kernel_rfl) (by kernel_rfl) (fun _ _ _ h => h) (Or.inl ⟨by rfl, ?_⟩) (by assumption) ?_
  rotate_left
  · intro w hSw
    (try dsimp only at hSw)
    go_simp
    first | done | with_reducible rfl
  simp only [List.getElem_toArray, List.getElem_cons_zero, List.getElem_cons_succ, Act.put, List.setIfInBounds_toArray, List.set_cons_zero, List.set_cons_succ]
  refine wpAnyH_ready (rs := [8]) (by kernel_rfl) (by simp) ?_
  refine AllReadyH.cons rfl (fun K hK => ?_) AllReadyH.nil
  simp only [List.getElem_toArray, List.getElem_cons_zero, List.getElem_cons_succ]
  go_simp
  (with_reducible refine (reduce_any (ch - e) w4 (by omega) (by omega)).mono ?_)
  rintro r w5 ⟨rfl, rfl⟩
  dsimp only
  refine hK.out _ _ ⟨kb4, ke4⟩ (fun hHeld => ?_)
  clear hK K
  try simp only [List.getElem_toArray, List.getElem_cons_zero, List.getElem_cons_succ, Act.put, List.setIfInBounds_toArray, List.set_cons_zero, List.set_cons_succ]
  refine wpAnyH_take (i := 11) (v := ?_) rfl (by kernel_rfl) (by kernel_rfl) (by kernel_rfl) (fun _ _ _ h => h) (Or.inl ⟨by rfl, ?_⟩) (by assumption) ?_
  rotate_left
  · intro w hSw
    (try dsimp only at hSw)
    go_simp
    first | done | with_reducible rfl
  simp only [List.getElem_toArray, List.getElem_cons_zero, List.getElem_cons_succ, Act.put, List.setIfInBounds_toArray, List.set_cons_zero, List.set_cons_succ]
  refine wpAnyH_ready (rs := [12]) (by kernel_rfl) (by simp) ?_
  refine AllReadyH.cons rfl (fun K hK => ?_) AllReadyH.nil
  simp only [List.getElem_toArray, List.getElem_cons_zero, List.getElem_cons_succ]
  go_simp
  refine hK.out _ _ ⟨(World.cell?_of_block (Below.heap_setCell _ _ _ _ (by simp; omega))).trans kb4, (World.cell?_of_block (Below.heap_setCell _ _ _ _ (by simp; omega))).trans ke4⟩ (fun hHeld => ?_)
  clear hK K
  try simp only [List.getElem_toArray, List.getElem_cons_zero, List.getElem_cons_succ, Act.put, List.setIfInBounds_toArray, List.set_cons_zero, List.set_cons_succ]
  refine wpAnyH_done (by kernel_rfl) ?_ _
  dsimp only [NoPanic]
  have hu4 : Upd W Bp (w4.setCell ⟨Bp, 3, none⟩ (.int .i64 ((ch - e) % 1073741789))) := upd_set (below_undrew hb4) HP.out.lt _
  have h9 : BPW (w4.setCell ⟨Bp, 3, none⟩ (.int .i64 ((ch - e) % 1073741789))) Bp ⟨c, f0, f1, eb, e1, z0, z1⟩ := by
    have := heap_set (j := 3) hP4 (.int .i64 ((ch - e) % 1073741789)) (by simp)
    rw [heb.out] at this ⊢
    exact this
  have ok5 := (okd.go hb4)
  have ob5 := (obd.go hb4)
  have ol5 := (old.go hb4)
  obtain ⟨w5, hw5⟩ : ∃ w5, w5 = w4.setCell ⟨Bp, 3, none⟩ (.int .i64 ((ch - e) % 1073741789)) := ⟨_, rfl⟩
  rw [← hw5] at hu4 h9 ⊢
  have kk5 : w5.cell? ⟨Bk, 0, none⟩ = some (.int .i64 k) := by rw [hw5]; exact (World.cell?_of_block (Below.heap_setCell _ _ _ _ (by simp; omega))).trans ok5.2.2
  have kb5 : w5.cell? ⟨Bb, 0, none⟩ = some (.int .i64 0) := by rw [hw5]; exact (World.cell?_of_block (Below.heap_setCell _ _ _ _ (by simp; omega))).trans ob5.2.2
  have kl5 : w5.cell? ⟨Bl, 0, none⟩ = some (.int .i64 bl) := by rw [hw5]; exact (World.cell?_of_block (Below.heap_setCell _ _ _ _ (by simp; omega))).trans ol5.2.2
  have ke5 := h9.at.c3
  have kz5 := h9.at.c5
  have fz5 := h9.free 5
  simp only [] at ke5 kz5
  have H9 := Lib.hid h9
  have HU := Lib.hid hu4
  have ne1 : Bk ≠ Bp := by omega
  have ne2 : Bb ≠ Bp := by omega
  have ne3 : Bl ≠ Bp := by omega
  clear hw5 hb4 hP4 kb4 ke4 kf4 fr4 m0 m1 m2 m3 m4 m5 m6 hPd oed obd okd old ok5 ob5 ol5 kb ke hws hTd h9 hu4 hHeld
  have hw1 : IntKind.i64.wrap (eb * bl) = eb * bl := IntWalk.i64_in _ (by omega)
  have hw2 : IntKind.i64.wrap (k + eb * bl) = k + eb * bl := IntWalk.i64_in _ (by omega)
  have htm : (k + eb * bl).tmod 1073741789 = zb := by rw [Int.tmod_eq_emod_of_nonneg (by omega)]; exact hzb.out
  go_wp2_with fail
  go_region_held3 (fun w' => w'.cell? ⟨Bb, 0, none⟩ = some (.int .i64 0) ∧ w'.cell? ⟨Bk, 0, none⟩ = some (.int .i64 k) ∧ w'.cell? ⟨Bl, 0, none⟩ = some (.int .i64 bl) ∧ w'.cell? ⟨Bp, 3, none⟩ = some (.int .i64 eb))
    (first | (exact ⟨kb5, kk5, kl5, ke5⟩) | (exact ⟨cell_sd ne2 kb5, cell_sd ne1 kk5, cell_sd ne3 kl5, cell_so (by omega) ke5⟩))
    (fail)
  clear hw1 hw2 htm
  go_wp2
  go_end0
  refine ⟨rfl, ?_, upd_trans HU.out (upd_set (Below.refl _ _).drew H9.out.lt _)⟩
  exact heap_set (j := 5) (W := w5.drew) H9.out (.int .i64 zb) (by simp)
set_option maxHeartbeats 8000000 in
set_option maxRecDepth 100000 in
theorem reply_own1 (c f0 f1 e0 e1 z0 z1 k e bl ch eb zb : Int) (hch : Hid (chalI c f0 f1 = ch)) (heb : Hid ((ch - e) % 1073741789 = eb)) (hzb : Hid (ownZ k eb bl = zb)) (Bp Be Bb Bk Bl : Nat) (W : World) (hT : PTab W) (hP : BPW W Bp ⟨c, f0, f1, e0, e1, z0, z1⟩) (oe : Own1 (Bp + 1) W Be e) (ob : Own1 (Bp + 1) W Bb 1) (ok : Own1 (Bp + 1) W Bk k) (ol : Own1 (Bp + 1) W Bl bl)
    (hc : I64 c) (hf0 : I64 f0) (hf1 : I64 f1) (he0 : 0 ≤ e) (he1 : e < 1073741789) (hk0 : 0 ≤ k) (hk1 : k < 1073741789) (hl0 : 0 ≤ bl) (hl1 : bl < 1073741789) :
    Calls Tryd.prog 64 #[.pointer (some ⟨Bp, 0, none⟩), .pointer (some ⟨Be, 0, none⟩), .pointer (some ⟨Bb, 0, none⟩), .pointer (some ⟨Bk, 0, none⟩), .pointer (some ⟨Bl, 0, none⟩)] W fun r w' => r = .returned (.tuple #[]) ∧ BPW w' Bp ⟨c, f0, f1, e0, eb, z0, zb⟩ ∧ Upd W Bp w' := by
  have HP := Lib.hid hP
  have HI := Lib.hid (And.intro hc (And.intro hf0 hf1))
  have hcb := chalI_bd c f0 f1
  rw [hch.out] at hcb
  have hebb : 0 ≤ eb ∧ eb < 1073741789 := by rw [← heb.out]; omega
  have hmul : 0 ≤ eb * bl ∧ eb * bl ≤ 1152921504606846976 := by
    refine ⟨Int.mul_nonneg hebb.1 hl0, ?_⟩
    have : eb * bl ≤ 1073741824 * 1073741824 := Int.mul_le_mul (by omega) (by omega) hl0 (by omega)
    omega
  have kb := ob.2.2
  have ke := oe.2.2
  have m0 := hP.at.c0
  have m1 := hP.at.c1
  have m2 := hP.at.c2
  have m3 := hP.at.c3
  have m4 := hP.at.c4
  have m5 := hP.at.c5
  have m6 := hP.at.c6
  simp only [] at m0 m1 m2 m3 m4 m5 m6
  have lb1 := ob.1
  have le1 := oe.1
  have lk1 := ok.1
  have ll1 := ol.1
  have hTd : PTab W.drew := hT
  have hPd : BPW W.drew Bp ⟨c, f0, f1, e0, e1, z0, z1⟩ := hP
  have oed : Own1 (Bp + 1) W.drew Be e := oe
  have obd : Own1 (Bp + 1) W.drew Bb 1 := ob
  have okd : Own1 (Bp + 1) W.drew Bk k := ok
  have old : Own1 (Bp + 1) W.drew Bl bl := ol
  have hws : IntKind.i64.wrap (ch - e) = ch - e := IntWalk.i64_in _ (by omega)
  clear hP oe ob ok ol hT hc hf0 hf1
  go_enter Tryd.func64, Tryd.ntmps64
  go_wp2
  refine wp_region_noPanic ?_
  refine wp_region_held_drew (S := fun w' => w'.cell? ⟨Bb, 0, none⟩ = some (.int .i64 1) ∧ w'.cell? ⟨Be, 0, none⟩ = some (.int .i64 e)) (by kernel_rfl) ⟨kb, ke⟩ (fun hHeld => ?_)
  refine wpAnyH_take (i := 0) (v := ?_) rfl (by kernel_rfl) (by kernel_rfl) (by kernel_rfl) (fun _ _ _ h => h) (Or.inl ⟨by rfl, ?_⟩) (by assumption) ?_
  rotate_left
  · intro w hSw
    (try dsimp only at hSw)
    go_simp
    first | done | with_reducible rfl
  simp only [List.getElem_toArray, List.getElem_cons_zero, List.getElem_cons_succ, Act.put, List.setIfInBounds_toArray, List.set_cons_zero, List.set_cons_succ]
  refine wpAnyH_take (i := 1) (v := ?_) rfl (by kernel_rfl) (by kernel_rfl) (by kernel_rfl) (fun _ _ _ h => h) (Or.inl ⟨by rfl, ?_⟩) (by assumption) ?_
  rotate_left
  · intro w hSw
    (try dsimp only at hSw)
    go_simp
    first | done | with_reducible rfl
  simp only [List.getElem_toArray, List.getElem_cons_zero, List.getElem_cons_succ, Act.put, List.setIfInBounds_toArray, List.set_cons_zero, List.set_cons_succ]
  refine wpAnyH_take (i := 2) (v := ?_) rfl (by kernel_rfl) (by kernel_rfl) (by kernel_rfl) (fun _ _ _ h => h) (Or.inl ⟨by rfl, ?_⟩) (by assumption) ?_
  rotate_left
  · intro w hSw
    (try dsimp only at hSw)
    go_simp
    first | done | with_reducible rfl
  simp only [List.getElem_toArray, List.getElem_cons_zero, List.getElem_cons_succ, Act.put, List.setIfInBounds_toArray, List.set_cons_zero, List.set_cons_succ]
  refine wpAnyH_take (i := 3) (v := ?_) rfl (by kernel_rfl) (by kernel_rfl) (by kernel_rfl) (fun _ _ _ h => h) (Or.inl ⟨by rfl, ?_⟩) (by assumption) ?_
  rotate_left
  · intro w hSw
    (try dsimp only at hSw)
    go_simp
    first | done | with_reducible rfl
  simp only [List.getElem_toArray, List.getElem_cons_zero, List.getElem_cons_succ, Act.put, List.setIfInBounds_toArray, List.set_cons_zero, List.set_cons_succ]
  refine wpAnyH_take (i := 6) (v := ?_) rfl (by kernel_rfl) (by kernel_rfl) (by kernel_rfl) (fun _ _ _ h => h) (Or.inl ⟨by rfl, ?_⟩) (by assumption) ?_
  rotate_left
  · intro w hSw
    (try dsimp only at hSw)
    go_simp
    first | done | with_reducible rfl
  simp only [List.getElem_toArray, List.getElem_cons_zero, List.getElem_cons_succ, Act.put, List.setIfInBounds_toArray, List.set_cons_zero, List.set_cons_succ]
  refine wpAnyH_take (i := 9) (v := ?_) rfl (by kernel_rfl) (by kernel_rfl) (by kernel_rfl) (fun _ _ _ h => h) (Or.inl ⟨by rfl, ?_⟩) (by assumption) ?_
  rotate_left
  · intro w hSw
    (try dsimp only at hSw)
    go_simp
    first | done | with_reducible rfl
  simp only [List.getElem_toArray, List.getElem_cons_zero, List.getElem_cons_succ, Act.put, List.setIfInBounds_toArray, List.set_cons_zero, List.set_cons_succ]
  refine wpAnyH_take (i := 10) (v := ?_) rfl (by kernel_rfl) (by kernel_rfl) (by kernel_rfl) (fun _ _ _ h => h) (Or.inl ⟨by rfl, ?_⟩) (by assumption) ?_
  rotate_left
  · intro w hSw
    (try dsimp only at hSw)
    go_simp
    first | done | with_reducible rfl
  simp only [List.getElem_toArray, List.getElem_cons_zero, List.getElem_cons_succ, Act.put, List.setIfInBounds_toArray, List.set_cons_zero, List.set_cons_succ]
  refine wpAnyH_ready (rs := [4]) (by kernel_rfl) (by simp) ?_
  refine AllReadyH.cons rfl (fun K hK => ?_) AllReadyH.nil
  simp only [List.getElem_toArray, List.getElem_cons_zero, List.getElem_cons_succ]
  go_simp
  refine hK.out _ _ ⟨kb, ke⟩ (fun hHeld => ?_)
  clear hK K
  try simp only [List.getElem_toArray, List.getElem_cons_zero, List.getElem_cons_succ, Act.put, List.setIfInBounds_toArray, List.set_cons_zero, List.set_cons_succ]
  refine wpAnyH_ready (rs := [5]) (by kernel_rfl) (by simp) ?_
  refine AllReadyH.cons rfl (fun K hK => ?_) AllReadyH.nil
  simp only [List.getElem_toArray, List.getElem_cons_zero, List.getElem_cons_succ]
  go_simp
  (with_reducible refine (chal_lit c f0 f1 e0 e1 z0 z1 ch hch W.drew hTd HI.out.1 HI.out.2.1 HI.out.2.2).mono ?_)
  rintro r w4 ⟨rfl, hb4⟩
  have hP4 := hPd.go hb4
  have kb4 := (obd.go hb4).2.2
  have ke4 := (oed.go hb4).2.2
  have kf4 := hP4.at.c4
  have fr4 := hP4.free 4
  simp only [] at kf4
  dsimp only
  refine hK.out _ _ ⟨kb4, ke4⟩ (fun hHeld => ?_)
  clear hK K
  try simp only [List.getElem_toArray, List.getElem_cons_zero, List.getElem_cons_succ, Act.put, List.setIfInBounds_toArray, List.set_cons_zero, List.set_cons_succ]
  refine wpAnyH_take (i := 7) (v := ?_) rfl (by kernel_rfl) (by kernel_rfl) (by kernel_rfl) (fun _ _ _ h => h) (Or.inl ⟨by rfl, ?_⟩) (by assumption) ?_
  rotate_left
  · intro w hSw
    (try dsimp only at hSw)
    go_simp
    first | done | with_reducible rfl
  simp only [List.getElem_toArray, List.getElem_cons_zero, List.getElem_cons_succ, Act.put, List.setIfInBounds_toArray, List.set_cons_zero, List.set_cons_succ]
  refine wpAnyH_ready (rs := [8]) (by kernel_rfl) (by simp) ?_
  refine AllReadyH.cons rfl (fun K hK => ?_) AllReadyH.nil
  simp only [List.getElem_toArray, List.getElem_cons_zero, List.getElem_cons_succ]
  go_simp
  (with_reducible refine (reduce_any (ch - e) w4 (by omega) (by omega)).mono ?_)
  rintro r w5 ⟨rfl, rfl⟩
  dsimp only
  refine hK.out _ _ ⟨kb4, ke4⟩ (fun hHeld => ?_)
  clear hK K
  try simp only [List.getElem_toArray, List.getElem_cons_zero, List.getElem_cons_succ, Act.put, List.setIfInBounds_toArray, List.set_cons_zero, List.set_cons_succ]
  refine wpAnyH_take (i := 11) (v := ?_) rfl (by kernel_rfl) (by kernel_rfl) (by kernel_rfl) (fun _ _ _ h => h) (Or.inl ⟨by rfl, ?_⟩) (by assumption) ?_
  rotate_left
  · intro w hSw
    (try dsimp only at hSw)
    go_simp
    first | done | with_reducible rfl
  simp only [List.getElem_toArray, List.getElem_cons_zero, List.getElem_cons_succ, Act.put, List.setIfInBounds_toArray, List.set_cons_zero, List.set_cons_succ]
  refine wpAnyH_ready (rs := [12]) (by kernel_rfl) (by simp) ?_
  refine AllReadyH.cons rfl (fun K hK => ?_) AllReadyH.nil
  simp only [List.getElem_toArray, List.getElem_cons_zero, List.getElem_cons_succ]
  go_simp
  refine hK.out _ _ ⟨(World.cell?_of_block (Below.heap_setCell _ _ _ _ (by simp; omega))).trans kb4, (World.cell?_of_block (Below.heap_setCell _ _ _ _ (by simp; omega))).trans ke4⟩ (fun hHeld => ?_)
  clear hK K
  try simp only [List.getElem_toArray, List.getElem_cons_zero, List.getElem_cons_succ, Act.put, List.setIfInBounds_toArray, List.set_cons_zero, List.set_cons_succ]
  refine wpAnyH_done (by kernel_rfl) ?_ _
  dsimp only [NoPanic]
  have hu4 : Upd W Bp (w4.setCell ⟨Bp, 4, none⟩ (.int .i64 ((ch - e) % 1073741789))) := upd_set (below_undrew hb4) HP.out.lt _
  have h9 : BPW (w4.setCell ⟨Bp, 4, none⟩ (.int .i64 ((ch - e) % 1073741789))) Bp ⟨c, f0, f1, e0, eb, z0, z1⟩ := by
    have := heap_set (j := 4) hP4 (.int .i64 ((ch - e) % 1073741789)) (by simp)
    rw [heb.out] at this ⊢
    exact this
  have ok5 := (okd.go hb4)
  have ob5 := (obd.go hb4)
  have ol5 := (old.go hb4)
  obtain ⟨w5, hw5⟩ : ∃ w5, w5 = w4.setCell ⟨Bp, 4, none⟩ (.int .i64 ((ch - e) % 1073741789)) := ⟨_, rfl⟩
  rw [← hw5] at hu4 h9 ⊢
  have kk5 : w5.cell? ⟨Bk, 0, none⟩ = some (.int .i64 k) := by rw [hw5]; exact (World.cell?_of_block (Below.heap_setCell _ _ _ _ (by simp; omega))).trans ok5.2.2
  have kb5 : w5.cell? ⟨Bb, 0, none⟩ = some (.int .i64 1) := by rw [hw5]; exact (World.cell?_of_block (Below.heap_setCell _ _ _ _ (by simp; omega))).trans ob5.2.2
  have kl5 : w5.cell? ⟨Bl, 0, none⟩ = some (.int .i64 bl) := by rw [hw5]; exact (World.cell?_of_block (Below.heap_setCell _ _ _ _ (by simp; omega))).trans ol5.2.2
  have ke5 := h9.at.c4
  have kz5 := h9.at.c6
  have fz5 := h9.free 6
  simp only [] at ke5 kz5
  have H9 := Lib.hid h9
  have HU := Lib.hid hu4
  have ne1 : Bk ≠ Bp := by omega
  have ne2 : Bb ≠ Bp := by omega
  have ne3 : Bl ≠ Bp := by omega
  clear hw5 hb4 hP4 kb4 ke4 kf4 fr4 m0 m1 m2 m3 m4 m5 m6 hPd oed obd okd old ok5 ob5 ol5 kb ke hws hTd h9 hu4 hHeld
  have hw1 : IntKind.i64.wrap (eb * bl) = eb * bl := IntWalk.i64_in _ (by omega)
  have hw2 : IntKind.i64.wrap (k + eb * bl) = k + eb * bl := IntWalk.i64_in _ (by omega)
  have htm : (k + eb * bl).tmod 1073741789 = zb := by rw [Int.tmod_eq_emod_of_nonneg (by omega)]; exact hzb.out
  go_wp2_with fail
  go_region_held3 (fun w' => w'.cell? ⟨Bb, 0, none⟩ = some (.int .i64 1) ∧ w'.cell? ⟨Bk, 0, none⟩ = some (.int .i64 k) ∧ w'.cell? ⟨Bl, 0, none⟩ = some (.int .i64 bl) ∧ w'.cell? ⟨Bp, 4, none⟩ = some (.int .i64 eb))
    (first | (exact ⟨kb5, kk5, kl5, ke5⟩) | (exact ⟨cell_sd ne2 kb5, cell_sd ne1 kk5, cell_sd ne3 kl5, cell_so (by omega) ke5⟩))
    (fail)
  clear hw1 hw2 htm
  go_wp2
  go_end0
  refine ⟨rfl, ?_, upd_trans HU.out (upd_set (Below.refl _ _).drew H9.out.lt _)⟩
  exact heap_set (j := 6) (W := w5.drew) H9.out (.int .i64 zb) (by simp)
end Go.Proofs.YthebahahpkficaaDoor
