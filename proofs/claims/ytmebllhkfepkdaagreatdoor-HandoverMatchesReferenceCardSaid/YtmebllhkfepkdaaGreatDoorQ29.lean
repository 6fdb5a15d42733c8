/- The reference's SameSig and Issue (layer 29). The reference's way to the latest totals (layer 29, plain). -/
import Derived.Test.YtmebllhkfepkdaaGreatDoorQ19
import Derived.Test.YtmebllhkfepkdaaGreatDoorQ27
import Derived.Test.YtmebllhkfepkdaaGreatDoorQ28
namespace Go.Proofs.YtmebllhkfepkdaaGreatDoor
open Go.RowKit Go.Shelf
set_option linter.unusedVariables false
set_option linter.unusedSimpArgs false
set_option maxRecDepth 100000
theorem forkV_first : ∀ (p : Forks), 0 < p.length → ∃ z : Nat, (forkV p)[0]? = some (.int .u64 (z : Int))
  | x :: p, _ => ⟨x.1.toNat, rfl⟩
theorem sl_past {W W' : World} {size n R : Nat} {A : Option Addr} {xs : List Value} {cs : Array Value} {t : TypeId} {fr : Nat × Nat} (h : Sl W W.heap.size size A n xs) (hR : W.heap[R]? = some (.cells cs t fr)) (hk : ∀ b, b ≠ R → W'.heap[b]? = W.heap[b]?) (hs : W'.heap.size = W.heap.size)
    (hx : 0 < n → ∃ v, xs[0]? = some v ∧ v ∉ cs.toList) : Sl W' W'.heap.size size A n xs := by
  refine ⟨h.1, fun hn => ?_⟩
  obtain ⟨b, off, e, hb, hc⟩ := h.2 hn
  obtain ⟨v, hv, hnv⟩ := hx hn
  have hne : b ≠ R := by
    intro e2
    subst e2
    have h1 := hc 0 v hv
    rw [Lib.cell_of_heap hR] at h1
    exact hnv (Array.mem_toList_iff.2 (Array.mem_of_getElem? h1))
  refine ⟨b, off, e, by rw [hs]; exact hb, fun j u hu => ?_⟩
  rw [World.cell?_of_block (a := ⟨b, off + j, none⟩) (hk b hne)]
  exact hc j u hu
set_option maxHeartbeats 4000000 in
set_option maxHeartbeats 4000000 in
theorem rsamesig_any (i : Int) (A B A' B' : Option Addr) (ca cb ca' cb' n m : Nat) (c : List UInt64) (p : Forks) (hn : c.length = n) (hm : p.length = m) (ln : n ≤ 100) (lm : m ≤ 100) (w : World) (hA : Sl w w.heap.size 1 A n (u64V c)) (hB : Sl w w.heap.size 2 B m (forkV p)) (hA' : Sl w w.heap.size 1 A' n (u64V c)) (hB' : Sl w w.heap.size 2 B' m (forkV p)) :
    Calls Tryz.prog 12 #[.agg #[.int .i64 i, .slice A n ca, .slice B m cb], .agg #[.int .i64 i, .slice A' n ca', .slice B' m cb']] w fun e w' => e = .returned (.bool true) ∧ Below w.heap.size w w' := by
  have HS := Lib.hid (And.intro hA (And.intro hB (And.intro hA' hB')))
  clear hA hB hA' hB'
  go_enter Tryz.func12, Tryz.ntmps12
  go_upto_region 1 with fail
  obtain ⟨W, hW⟩ : ∃ W, W = (w.alloc (.cells #[.int .i64 i, .slice A n ca, .slice B m cb] 31)).alloc (.cells #[.int .i64 i, .slice A' n ca', .slice B' m cb'] 31) := ⟨_, rfl⟩
  rw [← hW]
  have hb0 : BoxAt25 W w.heap.size i A n ca B m cb := boxAt25_of (by rw [hW]; exact heap_alloc2_old w _ _)
  have hb1 : BoxAt25 W (w.heap.size + 1) i A' n ca' B' m cb' := boxAt25_of (by rw [hW]; exact heap_alloc2_new w _ _)
  have hBW : Below w.heap.size w W := by rw [hW]; exact bal (bal (Below.refl _ _) _) _
  clear hW
  obtain ⟨p0, hp0⟩ : ∃ q, q = w.heap.size := ⟨_, rfl⟩
  obtain ⟨p1, hp1⟩ : ∃ q, q = w.heap.size + 1 := ⟨_, rfl⟩
  rw [← hp0] at hb0
  rw [← hp1] at hb1
  rw [← hp1, ← hp0]
  clear hp0 hp1
  have X0 := Lib.hid hb0
  have X1 := Lib.hid hb1
  obtain ⟨k0, k1, k2, k3⟩ := hb0
  obtain ⟨q0, q1, q2, q3⟩ := hb1
  go_wp2
  go_loopw [5] (fun q wr => ∃ k : Nat, k ≤ n ∧ q = .int .i64 (k : Int) ∧ Below W.heap.size W wr) (fun q _ => n - (intOf q).toNat)
  case atStart => exact ⟨0, Nat.zero_le _, rfl, Below.refl _ _⟩
  case round =>
    clear k0 k1 k2 k3 q0 q1 q2 q3
    obtain ⟨k, hk, rfl, hBr⟩ := hrel
    have hBw := bgo hBW hBr
    obtain ⟨k0, k1, k2, k3⟩ := X0.out
    obtain ⟨q0, q1, q2, q3⟩ := X1.out
    have r1 : wr.cell? ⟨p0, 1, none⟩ = some (.slice A n ca) := (hBr.cell (p := ⟨p0, 1, none⟩) k0).trans k2
    have s1 : wr.cell? ⟨p1, 1, none⟩ = some (.slice A' n ca') := (hBr.cell (p := ⟨p1, 1, none⟩) q0).trans q2
    by_cases hlt : k < n
    · have hlt' : (k : Int) < (n : Int) := by omega
      obtain ⟨hA, hB, hA', hB'⟩ := HS.out
      obtain ⟨bA, oA, rfl, hbA, hcA⟩ := hA.2 (by omega)
      obtain ⟨bC, oC, rfl, hbC, hcC⟩ := hA'.2 (by omega)
      have x1 : wr.cell? ⟨bA, oA + k, none⟩ = some (.int .u64 (c.getD k 0).toNat) := (hBw.cell (p := ⟨bA, oA + k, none⟩) hbA).trans (hcA k _ (u64V_get c k (by omega)))
      have x2 : wr.cell? ⟨bC, oC + k, none⟩ = some (.int .u64 (c.getD k 0).toNat) := (hBw.cell (p := ⟨bC, oC + k, none⟩) hbC).trans (hcC k _ (u64V_get c k (by omega)))
      obtain ⟨v, hv⟩ : ∃ v, c.getD k 0 = v := ⟨_, rfl⟩
      rw [hv] at x1 x2
      clear hv hcA hcC hA hB hA' hB' k1 k2 k3 q1 q2 q3
      go_wp2
      go_region
      go_wp2
      go_roundw
      case rel => exact ⟨k + 1, by omega, by go_num, hBr.drew⟩
      case measure => simp [intOf]; omega
    · obtain rfl : n = k := by omega
      clear k1 k2 k3 q1 q2 q3
      go_wp2
      go_loopw [6] (fun q wx => ∃ j : Nat, j ≤ m ∧ q = .int .i64 (j : Int) ∧ Below W.heap.size W wx) (fun q _ => m - (intOf q).toNat)
      case atStart => exact ⟨0, Nat.zero_le _, rfl, hBr⟩
      case round =>
        clear r1 s1 k0 q0
        obtain ⟨j, hj, rfl, hBx⟩ := hrel
        have hBwx := bgo hBW hBx
        obtain ⟨k0, k1, k2, k3⟩ := X0.out
        obtain ⟨q0, q1, q2, q3⟩ := X1.out
        have r1 : wr.cell? ⟨p0, 2, none⟩ = some (.slice B m cb) := (hBx.cell (p := ⟨p0, 2, none⟩) k0).trans k3
        have s1 : wr.cell? ⟨p1, 2, none⟩ = some (.slice B' m cb') := (hBx.cell (p := ⟨p1, 2, none⟩) q0).trans q3
        by_cases hjt : j < m
        · have hjt' : (j : Int) < (m : Int) := by omega
          obtain ⟨hA, hB, hA', hB'⟩ := HS.out
          obtain ⟨bB, oB, rfl, hbB, hcB⟩ := hB.2 (by omega)
          obtain ⟨bD, oD, rfl, hbD, hcD⟩ := hB'.2 (by omega)
          have hjl : j < p.length := by omega
          obtain ⟨v, hv⟩ : ∃ v, v = (p[j]).1 := ⟨_, rfl⟩
          obtain ⟨u, hu⟩ : ∃ u, u = (p[j]).2 := ⟨_, rfl⟩
          have x1 : wr.cell? ⟨bB, oB + j * 2, none⟩ = some (.int .u64 v.toNat) := (hBwx.cell (p := ⟨bB, oB + j * 2, none⟩) hbB).trans (by rw [hv]; exact hcB _ _ (forkV_get1 p j hjl))
          have x2 : wr.cell? ⟨bB, oB + j * 2 + 1, none⟩ = some (.bool u) := (hBwx.cell (p := ⟨bB, oB + j * 2 + 1, none⟩) hbB).trans (by rw [Nat.add_assoc, hu]; exact hcB _ _ (forkV_get2 p j hjl))
          have x3 : wr.cell? ⟨bD, oD + j * 2, none⟩ = some (.int .u64 v.toNat) := (hBwx.cell (p := ⟨bD, oD + j * 2, none⟩) hbD).trans (by rw [hv]; exact hcD _ _ (forkV_get1 p j hjl))
          have x4 : wr.cell? ⟨bD, oD + j * 2 + 1, none⟩ = some (.bool u) := (hBwx.cell (p := ⟨bD, oD + j * 2 + 1, none⟩) hbD).trans (by rw [Nat.add_assoc, hu]; exact hcD _ _ (forkV_get2 p j hjl))
          clear hv hu hcB hcD hA hB hA' hB' k1 k2 k3 q1 q2 q3 hjl
          go_wp2
          go_region
          go_wp2
          go_roundw
          case rel => exact ⟨j + 1, by omega, by go_num, hBx.drew⟩
          case measure => simp [intOf]; omega
        · obtain rfl : m = j := by omega
          clear k1 k2 k3 q1 q2 q3
          go_wp2
          go_ret
          exact ⟨rfl, hBwx⟩
set_option maxHeartbeats 4000000 in
/-- Issue, for a total that is not valid. -/
theorem rissue_no (seed : ByteArray) (h i : Int) (te tp : ByteArray) (tm tg tx : Int) (hv : Hid (validTB ⟨te, tp, tm, tg, tx⟩ = false)) (w : World) (he : te.size ≤ maxLen) (hp : tp.size ≤ maxLen) :
    Calls Tryz.prog 11 #[.string seed, .int .i64 h, .int .i64 i, .agg #[.string te, .string tp, .int .i64 tm, .int .i64 tg, .int .i64 tx]] w fun e w' => e = .returned (.tuple #[.agg #[.string ⟨#[]⟩, .string ⟨#[]⟩, .int .i64 0, .int .i64 0, .int .i64 0, .int .i64 0, .slice none 0 0, .slice none 0 0], .int .i64 1]) ∧ Below w.heap.size w w' := by
  go_enter Tryz.func11, Tryz.ntmps11
  go_upto_region 1 with fail
  obtain ⟨W, hW⟩ : ∃ W, W = (w.alloc (.cells #[.string te, .string tp, .int .i64 tm, .int .i64 tg, .int .i64 tx] 25)).alloc (.cells #[.string ⟨#[]⟩, .string ⟨#[]⟩, .int .i64 0, .int .i64 0, .int .i64 0, .int .i64 0, .slice none 0 0, .slice none 0 0] 33) := ⟨_, rfl⟩
  obtain ⟨X, hX⟩ : ∃ x, x = w.heap.size := ⟨_, rfl⟩
  obtain ⟨R, hR⟩ : ∃ x, x = X + 1 := ⟨_, rfl⟩
  have g : W.heap[X]? = some (.cells #[.string te, .string tp, .int .i64 tm, .int .i64 tg, .int .i64 tx] 25) := by rw [hW, hX]; exact heap_alloc2_old w _ _
  have gR : W.heap[R]? = some (.cells #[.string ⟨#[]⟩, .string ⟨#[]⟩, .int .i64 0, .int .i64 0, .int .i64 0, .int .i64 0, .slice none 0 0, .slice none 0 0] 33) := by rw [hW, hR, hX]; exact heap_alloc2_new w _ _
  have hBW : Below w.heap.size w W := by rw [hW]; exact bal (bal (Below.refl _ _) _) _
  have hRw : w.heap.size ≤ R := by omega
  have hRX : R ≠ X := by omega
  have hXR : X ≠ R := by omega
  rw [← hW, ← hX, ← hR]
  clear hW hX hR
  have x0 : W.cell? ⟨X, 0, none⟩ = some (.string te) := by rw [Lib.cell_of_heap g]; rfl
  have x1 : W.cell? ⟨X, 1, none⟩ = some (.string tp) := by rw [Lib.cell_of_heap g]; rfl
  have x2 : W.cell? ⟨X, 2, none⟩ = some (.int .i64 tm) := by rw [Lib.cell_of_heap g]; rfl
  have x3 : W.cell? ⟨X, 3, none⟩ = some (.int .i64 tg) := by rw [Lib.cell_of_heap g]; rfl
  have x4 : W.cell? ⟨X, 4, none⟩ = some (.int .i64 tx) := by rw [Lib.cell_of_heap g]; rfl
  go_wp2_with fail
  refine (rvalid29_any te tp tm tg tx false hv W he hp).mono ?_
  rintro e w2 ⟨rfl, hB2⟩
  have hBw2 := bgo hBW hB2
  have gR2 := (hB2.block _ (Array.getElem?_eq_some_iff.1 gR).1).trans gR
  clear x0 x1 x2 x3 x4
  have r0 : w2.cell? ⟨R, 0, none⟩ = some (.string ⟨#[]⟩) := by rw [Lib.cell_of_heap gR2]; rfl
  have r1 : w2.cell? ⟨R, 1, none⟩ = some (.string ⟨#[]⟩) := by rw [Lib.cell_of_heap gR2]; rfl
  have r2 : w2.cell? ⟨R, 2, none⟩ = some (.int .i64 0) := by rw [Lib.cell_of_heap gR2]; rfl
  have r3 : w2.cell? ⟨R, 3, none⟩ = some (.int .i64 0) := by rw [Lib.cell_of_heap gR2]; rfl
  have r4 : w2.cell? ⟨R, 4, none⟩ = some (.int .i64 0) := by rw [Lib.cell_of_heap gR2]; rfl
  have r5 : w2.cell? ⟨R, 5, none⟩ = some (.int .i64 0) := by rw [Lib.cell_of_heap gR2]; rfl
  have r6 : w2.cell? ⟨R, 6, none⟩ = some (.slice none 0 0) := by rw [Lib.cell_of_heap gR2]; rfl
  have r7 : w2.cell? ⟨R, 7, none⟩ = some (.slice none 0 0) := by rw [Lib.cell_of_heap gR2]; rfl
  have fR : ∀ j, w2.frozen? ⟨R, j, none⟩ = false := fun j => Lib.frozen_of_heap gR2 j
  go_wp2_with fail
  refine bodyPost_ret (v := .tuple #[.agg #[.string ⟨#[]⟩, .string ⟨#[]⟩, .int .i64 0, .int .i64 0, .int .i64 0, .int .i64 0, .slice none 0 0, .slice none 0 0], .int .i64 1]) (by simp [results, Tryz.results11, go_sem, r0, r1, r2, r3, r4, r5, r6, r7]) rfl ?_
  exact ⟨rfl, below_set8 hBw2 hRw _ _ _ _ _ _ _ _⟩
set_option maxHeartbeats 4000000 in
/-- Issue, where there is no key. -/
theorem rissue_bad (seed : ByteArray) (h i : Int) (te tp : ByteArray) (tm tg tx : Int) (hv : Hid (validTB ⟨te, tp, tm, tg, tx⟩ = true)) (hb : Hid (signB seed h i = false)) (hs : seed.size ≤ maxLen) (w : World) (he : te.size ≤ maxLen) (hp : tp.size ≤ maxLen) :
    Calls Tryz.prog 11 #[.string seed, .int .i64 h, .int .i64 i, .agg #[.string te, .string tp, .int .i64 tm, .int .i64 tg, .int .i64 tx]] w fun e w' => e = .returned (.tuple #[.agg #[.string ⟨#[]⟩, .string ⟨#[]⟩, .int .i64 0, .int .i64 0, .int .i64 0, .int .i64 0, .slice none 0 0, .slice none 0 0], .int .i64 1]) ∧ Below w.heap.size w w' := by
  go_enter Tryz.func11, Tryz.ntmps11
  go_upto_region 1 with fail
  obtain ⟨W, hW⟩ : ∃ W, W = (w.alloc (.cells #[.string te, .string tp, .int .i64 tm, .int .i64 tg, .int .i64 tx] 25)).alloc (.cells #[.string ⟨#[]⟩, .string ⟨#[]⟩, .int .i64 0, .int .i64 0, .int .i64 0, .int .i64 0, .slice none 0 0, .slice none 0 0] 33) := ⟨_, rfl⟩
  obtain ⟨X, hX⟩ : ∃ x, x = w.heap.size := ⟨_, rfl⟩
  obtain ⟨R, hR⟩ : ∃ x, x = X + 1 := ⟨_, rfl⟩
  have g : W.heap[X]? = some (.cells #[.string te, .string tp, .int .i64 tm, .int .i64 tg, .int .i64 tx] 25) := by rw [hW, hX]; exact heap_alloc2_old w _ _
  have gR : W.heap[R]? = some (.cells #[.string ⟨#[]⟩, .string ⟨#[]⟩, .int .i64 0, .int .i64 0, .int .i64 0, .int .i64 0, .slice none 0 0, .slice none 0 0] 33) := by rw [hW, hR, hX]; exact heap_alloc2_new w _ _
  have hBW : Below w.heap.size w W := by rw [hW]; exact bal (bal (Below.refl _ _) _) _
  have hRw : w.heap.size ≤ R := by omega
  have hRX : R ≠ X := by omega
  have hXR : X ≠ R := by omega
  rw [← hW, ← hX, ← hR]
  clear hW hX hR
  have x0 : W.cell? ⟨X, 0, none⟩ = some (.string te) := by rw [Lib.cell_of_heap g]; rfl
  have x1 : W.cell? ⟨X, 1, none⟩ = some (.string tp) := by rw [Lib.cell_of_heap g]; rfl
  have x2 : W.cell? ⟨X, 2, none⟩ = some (.int .i64 tm) := by rw [Lib.cell_of_heap g]; rfl
  have x3 : W.cell? ⟨X, 3, none⟩ = some (.int .i64 tg) := by rw [Lib.cell_of_heap g]; rfl
  have x4 : W.cell? ⟨X, 4, none⟩ = some (.int .i64 tx) := by rw [Lib.cell_of_heap g]; rfl
  go_wp2_with fail
  refine (rvalid29_any te tp tm tg tx true hv W he hp).mono ?_
  rintro e w2 ⟨rfl, hB2⟩
  have hBw2 := bgo hBW hB2
  have g2 := (hB2.block _ (Array.getElem?_eq_some_iff.1 g).1).trans g
  clear x0 x1 x2 x3 x4
  have x0 : w2.cell? ⟨X, 0, none⟩ = some (.string te) := by rw [Lib.cell_of_heap g2]; rfl
  have x1 : w2.cell? ⟨X, 1, none⟩ = some (.string tp) := by rw [Lib.cell_of_heap g2]; rfl
  have x2 : w2.cell? ⟨X, 2, none⟩ = some (.int .i64 tm) := by rw [Lib.cell_of_heap g2]; rfl
  have x3 : w2.cell? ⟨X, 3, none⟩ = some (.int .i64 tg) := by rw [Lib.cell_of_heap g2]; rfl
  have x4 : w2.cell? ⟨X, 4, none⟩ = some (.int .i64 tx) := by rw [Lib.cell_of_heap g2]; rfl
  obtain ⟨t, ht⟩ : ∃ t, textT ⟨te, tp, tm, tg, tx⟩ = t := ⟨_, rfl⟩
  have Ht := Lib.hid ht
  clear ht
  go_wp2_with fail
  refine (rtext29_any te tp tm tg tx t Ht w2 he hp).mono ?_
  rintro e w3 ⟨rfl, hB3⟩
  go_wp2_with fail
  refine (rsign_bad seed h i t hb hs w3).mono ?_
  rintro e w4 ⟨rfl, hB4⟩
  have hBw4 := bgo hBw2 (bgo hB3 hB4)
  have gR4 := ((bgo hB2 (bgo hB3 hB4)).block _ (Array.getElem?_eq_some_iff.1 gR).1).trans gR
  clear x0 x1 x2 x3 x4
  go_upto_region 5 with fail
  obtain ⟨W5, hW5⟩ : ∃ x, x = w4.alloc (.cells #[.int .i64 0, .slice none 0 0, .slice none 0 0] 31) := ⟨_, rfl⟩
  have hB45 : Below w4.heap.size w4 W5 := by rw [hW5]; exact bal (Below.refl _ _) _
  have gR5 := (hB45.block _ (Array.getElem?_eq_some_iff.1 gR4).1).trans gR4
  rw [← hW5]
  clear hW5
  have r0 : W5.cell? ⟨R, 0, none⟩ = some (.string ⟨#[]⟩) := by rw [Lib.cell_of_heap gR5]; rfl
  have r1 : W5.cell? ⟨R, 1, none⟩ = some (.string ⟨#[]⟩) := by rw [Lib.cell_of_heap gR5]; rfl
  have r2 : W5.cell? ⟨R, 2, none⟩ = some (.int .i64 0) := by rw [Lib.cell_of_heap gR5]; rfl
  have r3 : W5.cell? ⟨R, 3, none⟩ = some (.int .i64 0) := by rw [Lib.cell_of_heap gR5]; rfl
  have r4 : W5.cell? ⟨R, 4, none⟩ = some (.int .i64 0) := by rw [Lib.cell_of_heap gR5]; rfl
  have r5 : W5.cell? ⟨R, 5, none⟩ = some (.int .i64 0) := by rw [Lib.cell_of_heap gR5]; rfl
  have r6 : W5.cell? ⟨R, 6, none⟩ = some (.slice none 0 0) := by rw [Lib.cell_of_heap gR5]; rfl
  have r7 : W5.cell? ⟨R, 7, none⟩ = some (.slice none 0 0) := by rw [Lib.cell_of_heap gR5]; rfl
  have fR : ∀ j, W5.frozen? ⟨R, j, none⟩ = false := fun j => Lib.frozen_of_heap gR5 j
  go_wp2_with fail
  refine bodyPost_ret (v := .tuple #[.agg #[.string ⟨#[]⟩, .string ⟨#[]⟩, .int .i64 0, .int .i64 0, .int .i64 0, .int .i64 0, .slice none 0 0, .slice none 0 0], .int .i64 1]) (by simp [results, Tryz.results11, go_sem, r0, r1, r2, r3, r4, r5, r6, r7]) rfl ?_
  exact ⟨rfl, below_set8 (bgo hBw4 hB45) hRw _ _ _ _ _ _ _ _⟩
set_option maxHeartbeats 4000000 in
/-- Issue, where there is a key. -/
theorem rissue_ok (seed : ByteArray) (h i n : Nat) (hh : h ≤ 8) (hn : Hid (2 ^ h = n)) (hi : i < n) (hs : seed.size ≤ 64) (te tp : ByteArray) (tm tg tx : Int) (hv : Hid (validTB ⟨te, tp, tm, tg, tx⟩ = true)) (t : ByteArray) (ht : Hid (textT ⟨te, tp, tm, tg, tx⟩ = t)) (d : UInt64) (hd : Hid (Dig.sum t.data.toList = d))
    (p : Forks) (hp' : Hid (pathL (leavesB seed n) (i : Int) = p)) (w : World) (he : te.size ≤ maxLen) (hp : tp.size ≤ maxLen) (hO : OTabs w) :
    Calls Tryz.prog 11 #[.string seed, .int .i64 (h : Int), .int .i64 (i : Int), .agg #[.string te, .string tp, .int .i64 tm, .int .i64 tg, .int .i64 tx]] w fun e w' => ∃ A ca B cb, e = .returned (.tuple #[.agg #[.string te, .string tp, .int .i64 tm, .int .i64 tg, .int .i64 tx, .int .i64 (i : Int), .slice A 18 ca, .slice B p.length cb], .int .i64 0]) ∧
      Sl w' w'.heap.size 1 A 18 (u64V (On.chains seed.data.toList (i : Int) d 18)) ∧ Sl w' w'.heap.size 2 B p.length (forkV p) ∧ Below w.heap.size w w' := by
  go_enter Tryz.func11, Tryz.ntmps11
  go_upto_region 1 with fail
  obtain ⟨W, hW⟩ : ∃ W, W = (w.alloc (.cells #[.string te, .string tp, .int .i64 tm, .int .i64 tg, .int .i64 tx] 25)).alloc (.cells #[.string ⟨#[]⟩, .string ⟨#[]⟩, .int .i64 0, .int .i64 0, .int .i64 0, .int .i64 0, .slice none 0 0, .slice none 0 0] 33) := ⟨_, rfl⟩
  obtain ⟨X, hX⟩ : ∃ x, x = w.heap.size := ⟨_, rfl⟩
  obtain ⟨R, hR⟩ : ∃ x, x = X + 1 := ⟨_, rfl⟩
  have g : W.heap[X]? = some (.cells #[.string te, .string tp, .int .i64 tm, .int .i64 tg, .int .i64 tx] 25) := by rw [hW, hX]; exact heap_alloc2_old w _ _
  have gR : W.heap[R]? = some (.cells #[.string ⟨#[]⟩, .string ⟨#[]⟩, .int .i64 0, .int .i64 0, .int .i64 0, .int .i64 0, .slice none 0 0, .slice none 0 0] 33) := by rw [hW, hR, hX]; exact heap_alloc2_new w _ _
  have hBW : Below w.heap.size w W := by rw [hW]; exact bal (bal (Below.refl _ _) _) _
  have hRw : w.heap.size ≤ R := by omega
  have hRX : R ≠ X := by omega
  have hXR : X ≠ R := by omega
  rw [← hW, ← hX, ← hR]
  clear hW hX hR
  have x0 : W.cell? ⟨X, 0, none⟩ = some (.string te) := by rw [Lib.cell_of_heap g]; rfl
  have x1 : W.cell? ⟨X, 1, none⟩ = some (.string tp) := by rw [Lib.cell_of_heap g]; rfl
  have x2 : W.cell? ⟨X, 2, none⟩ = some (.int .i64 tm) := by rw [Lib.cell_of_heap g]; rfl
  have x3 : W.cell? ⟨X, 3, none⟩ = some (.int .i64 tg) := by rw [Lib.cell_of_heap g]; rfl
  have x4 : W.cell? ⟨X, 4, none⟩ = some (.int .i64 tx) := by rw [Lib.cell_of_heap g]; rfl
  go_wp2_with fail
  refine (rvalid29_any te tp tm tg tx true hv W he hp).mono ?_
  rintro e w2 ⟨rfl, hB2⟩
  have hBw2 := bgo hBW hB2
  have g2 := (hB2.block _ (Array.getElem?_eq_some_iff.1 g).1).trans g
  clear x0 x1 x2 x3 x4
  have x0 : w2.cell? ⟨X, 0, none⟩ = some (.string te) := by rw [Lib.cell_of_heap g2]; rfl
  have x1 : w2.cell? ⟨X, 1, none⟩ = some (.string tp) := by rw [Lib.cell_of_heap g2]; rfl
  have x2 : w2.cell? ⟨X, 2, none⟩ = some (.int .i64 tm) := by rw [Lib.cell_of_heap g2]; rfl
  have x3 : w2.cell? ⟨X, 3, none⟩ = some (.int .i64 tg) := by rw [Lib.cell_of_heap g2]; rfl
  have x4 : w2.cell? ⟨X, 4, none⟩ = some (.int .i64 tx) := by rw [Lib.cell_of_heap g2]; rfl
  have hts : t.size ≤ maxLen := by
    rw [← ht.out]
    unfold textT
    rw [if_pos hv.out]
    have := text_size hv.out
    unfold maxLen
    omega
  go_wp2_with fail
  refine (rtext29_any te tp tm tg tx t ht w2 he hp).mono ?_
  rintro e w3 ⟨rfl, hB3⟩
  have hBw3 := bgo hBw2 hB3
  clear x0 x1 x2 x3 x4
  go_wp2_with fail
  refine (rsign_ok seed h i n hh hn hi hs t d hd hts p hp' w3 (hO.go hBw3)).mono ?_
  rintro e w4 ⟨A, ca, B, cb, rfl, _, _, hA4, hB4o, hB4⟩
  have hBw4 := bgo hBw3 hB4
  go_upto_region 5 with fail
  obtain ⟨W5, hW5⟩ : ∃ x, x = w4.alloc (.cells #[.int .i64 (i : Int), .slice A 18 ca, .slice B p.length cb] 31) := ⟨_, rfl⟩
  obtain ⟨Y, hY⟩ : ∃ x, x = w4.heap.size := ⟨_, rfl⟩
  have hB45 : Below w4.heap.size w4 W5 := by rw [hW5]; exact bal (Below.refl _ _) _
  have gY : W5.heap[Y]? = some (.cells #[.int .i64 (i : Int), .slice A 18 ca, .slice B p.length cb] 31) := by rw [hW5, hY]; exact World.alloc_heap_new _ _
  rw [← hW5, ← hY]
  have hB25 := bgo hB3 (bgo hB4 hB45)
  have g5 := (hB25.block _ (Array.getElem?_eq_some_iff.1 g2).1).trans g2
  have gR5 := ((bgo hB2 hB25).block _ (Array.getElem?_eq_some_iff.1 gR).1).trans gR
  have hRl : R < W.heap.size := (Array.getElem?_eq_some_iff.1 gR).1
  have hRY : R ≠ Y := by have := hB2.size; have := hB3.size; have := hB4.size; omega
  have hYR : Y ≠ R := fun e => hRY e.symm
  have hR3 : R < w3.heap.size := by have := hB2.size; have := hB3.size; omega
  clear hW5 hY
  have x0 : W5.cell? ⟨X, 0, none⟩ = some (.string te) := by rw [Lib.cell_of_heap g5]; rfl
  have x1 : W5.cell? ⟨X, 1, none⟩ = some (.string tp) := by rw [Lib.cell_of_heap g5]; rfl
  have x2 : W5.cell? ⟨X, 2, none⟩ = some (.int .i64 tm) := by rw [Lib.cell_of_heap g5]; rfl
  have x3 : W5.cell? ⟨X, 3, none⟩ = some (.int .i64 tg) := by rw [Lib.cell_of_heap g5]; rfl
  have x4 : W5.cell? ⟨X, 4, none⟩ = some (.int .i64 tx) := by rw [Lib.cell_of_heap g5]; rfl
  have y0 : W5.cell? ⟨Y, 0, none⟩ = some (.int .i64 (i : Int)) := by rw [Lib.cell_of_heap gY]; rfl
  have y1 : W5.cell? ⟨Y, 1, none⟩ = some (.slice A 18 ca) := by rw [Lib.cell_of_heap gY]; rfl
  have y2 : W5.cell? ⟨Y, 2, none⟩ = some (.slice B p.length cb) := by rw [Lib.cell_of_heap gY]; rfl
  have r0 : W5.cell? ⟨R, 0, none⟩ = some (.string ⟨#[]⟩) := by rw [Lib.cell_of_heap gR5]; rfl
  have r1 : W5.cell? ⟨R, 1, none⟩ = some (.string ⟨#[]⟩) := by rw [Lib.cell_of_heap gR5]; rfl
  have r2 : W5.cell? ⟨R, 2, none⟩ = some (.int .i64 0) := by rw [Lib.cell_of_heap gR5]; rfl
  have r3 : W5.cell? ⟨R, 3, none⟩ = some (.int .i64 0) := by rw [Lib.cell_of_heap gR5]; rfl
  have r4 : W5.cell? ⟨R, 4, none⟩ = some (.int .i64 0) := by rw [Lib.cell_of_heap gR5]; rfl
  have r5 : W5.cell? ⟨R, 5, none⟩ = some (.int .i64 0) := by rw [Lib.cell_of_heap gR5]; rfl
  have r6 : W5.cell? ⟨R, 6, none⟩ = some (.slice none 0 0) := by rw [Lib.cell_of_heap gR5]; rfl
  have r7 : W5.cell? ⟨R, 7, none⟩ = some (.slice none 0 0) := by rw [Lib.cell_of_heap gR5]; rfl
  have fR : ∀ j, W5.frozen? ⟨R, j, none⟩ = false := fun j => Lib.frozen_of_heap gR5 j
  go_wp2_with fail
  refine bodyPost_ret (v := .tuple #[.agg #[.string te, .string tp, .int .i64 tm, .int .i64 tg, .int .i64 tx, .int .i64 (i : Int), .slice A 18 ca, .slice B p.length cb], .int .i64 0]) (by simp [results, Tryz.results11, go_sem, r0, r1, r2, r3, r4, r5, r6, r7]) rfl ?_
  have hk : ∀ b, b ≠ R → _ := fun b hb => heap_set8 W5 R b (.string te) (.string tp) (.int .i64 tm) (.int .i64 tg) (.int .i64 tx) (.int .i64 (i : Int)) (.slice A 18 ca) (.slice B p.length cb) hb
  have hs8 : (((((((((W5.setCell ⟨R, 0, none⟩ (.string te)).setCell ⟨R, 1, none⟩ (.string tp)).setCell ⟨R, 2, none⟩ (.int .i64 tm)).setCell ⟨R, 3, none⟩ (.int .i64 tg)).setCell ⟨R, 4, none⟩ (.int .i64 tx)).setCell ⟨R, 5, none⟩ (.int .i64 (i : Int))).setCell ⟨R, 6, none⟩ (.slice A 18 ca)).setCell ⟨R, 7, none⟩ (.slice B p.length cb))).heap.size = W5.heap.size := by simp
  refine ⟨A, ca, B, cb, rfl, ?_, ?_, below_set8 (bgo hBw4 hB45) hRw _ _ _ _ _ _ _ _⟩
  · refine sl_past (hA4.go hB45) gR5 hk hs8 (fun _ => ?_)
    have hl : (On.chains seed.data.toList (i : Int) d 18).length = 18 := On.chains_len _ _ _ _
    obtain ⟨x, hx⟩ : ∃ x, (u64V (On.chains seed.data.toList (i : Int) d 18))[0]? = some (.int .u64 x) := ⟨_, u64V_get _ 0 (by rw [hl]; decide)⟩
    exact ⟨_, hx, by simp⟩
  · refine sl_past (hB4o.go hB45) gR5 hk hs8 (fun hn => ?_)
    obtain ⟨z, hz⟩ := forkV_first p hn
    exact ⟨_, hz, by simp⟩
end Go.Proofs.YtmebllhkfepkdaaGreatDoor
namespace Go.Proofs.YtmebllhkfepkdaaGreatDoor
open Go.RowKit Go.Shelf
set_option linter.unusedVariables false
set_option linter.unusedSimpArgs false
/-- Whether another total (at the place k) takes the place of a total (at the place i). -/
def beatsT (p : ByteArray) (m : Int) (u : TotD) (k : Nat) (t : TotD) (i : Nat) : Bool := cntB p m u && decide (u.e = t.e) && (decide (u.m > t.m) || (decide (u.m = t.m) && decide (k > i)))
/-- Whether none of the first n totals takes its place. -/
def holdsT (p : ByteArray) (m : Int) (L : List TotD) (n : Nat) (t : TotD) (i : Nat) : Bool := ((List.range n).all fun k => match L[k]? with | some u => !beatsT p m u k t i | none => true)
def bestT (p : ByteArray) (m : Int) (L : List TotD) (n : Nat) (t : TotD) (i : Nat) : Bool := cntB p m t && holdsT p m L n t i
theorem holds_succ {p : ByteArray} {m : Int} {L : List TotD} {n : Nat} {u t : TotD} {i : Nat} (h : L[n]? = some u) : holdsT p m L (n + 1) t i = (holdsT p m L n t i && !beatsT p m u n t i) := by
  unfold holdsT
  rw [List.range_succ, List.all_append]
  simp [h]
theorem best_succ {p : ByteArray} {m : Int} {L : List TotD} {n : Nat} {u t : TotD} {i : Nat} (h : L[n]? = some u) : bestT p m L (n + 1) t i = (bestT p m L n t i && !beatsT p m u n t i) := by
  unfold bestT
  rw [holds_succ h, Bool.and_assoc]
/-- The best ones of the first k totals, seen against the first n. -/
def bestL (p : ByteArray) (m : Int) (L : List TotD) (n : Nat) : Nat → List TotD
  | 0 => []
  | k + 1 => bestL p m L n k ++ (match L[k]? with | some t => if bestT p m L n t k = true then [t] else [] | none => [])
theorem holds_mem {p : ByteArray} {m : Int} {L : List TotD} {n : Nat} {t : TotD} {i : Nat} (h : holdsT p m L n t i = true) {k : Nat} {u : TotD} (hk : k < n) (hu : L[k]? = some u) : beatsT p m u k t i = false := by
  unfold holdsT at h
  have := List.all_eq_true.1 h k (List.mem_range.2 hk)
  rw [hu] at this
  simpa using this
theorem bestL_succ_n {p : ByteArray} {m : Int} {L : List TotD} {n : Nat} {u : TotD} (hu : L[n]? = some u) : ∀ k, k ≤ n → bestL p m L (n + 1) k = if cntB p m u = true then (bestL p m L n k).filter (fun t => decide (¬ (t.e = u.e ∧ t.m ≤ u.m))) else bestL p m L n k := by
  intro k
  induction k with
  | zero => intro _; unfold bestL; split <;> rfl
  | succ k ih =>
    intro hk
    have hlk : k < L.length := by have := (List.getElem?_eq_some_iff.1 hu).1; omega
    have hLk : L[k]? = some L[k] := List.getElem?_eq_getElem hlk
    unfold bestL
    rw [ih (by omega), hLk]
    dsimp only
    rw [best_succ hu]
    by_cases hc : cntB p m u = true
    · rw [if_pos hc, if_pos hc, List.filter_append]
      congr 1
      have hb : beatsT p m u n L[k] k = decide (L[k].e = u.e ∧ L[k].m ≤ u.m) := by
        unfold beatsT
        rw [hc, Bool.true_and, decide_eq_true (show n > k by omega), Bool.and_true]
        by_cases h1 : u.e = L[k].e
        · rw [decide_eq_true h1, Bool.true_and]
          by_cases h2 : u.m > L[k].m
          · rw [decide_eq_true h2, Bool.true_or, decide_eq_true ⟨h1.symm, by omega⟩]
          · rw [decide_eq_false h2, Bool.false_or]
            by_cases h3 : u.m = L[k].m
            · rw [decide_eq_true h3, decide_eq_true ⟨h1.symm, by omega⟩]
            · rw [decide_eq_false h3, decide_eq_false (by omega)]
        · rw [decide_eq_false h1, Bool.false_and, decide_eq_false (fun k => h1 k.1.symm)]
      rw [hb]
      by_cases h4 : bestT p m L n L[k] k = true
      · rw [h4, Bool.true_and, if_pos rfl]
        by_cases h5 : L[k].e = u.e ∧ L[k].m ≤ u.m
        · simp [h5]
        · simp only [List.filter_cons, List.filter_nil, decide_eq_false h5, decide_eq_true h5, Bool.not_false, if_true]
      · rw [if_neg h4]
        rw [if_neg (by simp [h4])]
        rfl
    · rw [if_neg hc, if_neg hc]
      have hb : beatsT p m u n L[k] k = false := by unfold beatsT; simp [hc]
      rw [hb]
      simp
theorem bestL_mem {p : ByteArray} {m : Int} {L : List TotD} {n : Nat} : ∀ k {t : TotD}, t ∈ bestL p m L n k → ∃ i, i < k ∧ L[i]? = some t ∧ bestT p m L n t i = true := by
  intro k
  induction k with
  | zero => intro t h; unfold bestL at h; cases h
  | succ k ih =>
    intro t h
    unfold bestL at h
    rcases List.mem_append.1 h with h | h
    · obtain ⟨i, h1, h2⟩ := ih h
      exact ⟨i, by omega, h2⟩
    · split at h
      · rename_i u hu
        split at h
        · rename_i hb
          rw [List.mem_singleton.1 h]
          exact ⟨k, by omega, hu, hb⟩
        · cases h
      · cases h
theorem best_perm {p : ByteArray} {m : Int} {L : List TotD} : ∀ n, n ≤ L.length → (lateL ((L.take n).filter (cntB p m))).Perm (bestL p m L n n) := by
  intro n
  induction n with
  | zero => intro _; rw [List.take_zero]; exact List.Perm.refl _
  | succ n ih =>
    intro hn
    have hln : n < L.length := by omega
    have hLn : L[n]? = some L[n] := List.getElem?_eq_getElem hln
    have hI := ih (by omega)
    obtain ⟨u, hu⟩ : ∃ u, L[n] = u := ⟨_, rfl⟩
    rw [hu] at hLn
    have htk : L.take (n + 1) = L.take n ++ [u] := by rw [List.take_add_one, hLn]; rfl
    rw [htk, List.filter_append]
    have hb0 : bestL p m L (n + 1) (n + 1) = bestL p m L (n + 1) n ++ (if bestT p m L (n + 1) u n = true then [u] else []) := by
      conv => lhs; unfold bestL
      rw [hLn]
    rw [hb0, bestL_succ_n hLn n (Nat.le_refl _)]
    have hself : beatsT p m u n u n = false := by
      unfold beatsT
      rw [decide_eq_false (show ¬ u.m > u.m by omega), decide_eq_false (show ¬ n > n by omega)]
      simp
    have hbu : bestT p m L (n + 1) u n = bestT p m L n u n := by rw [best_succ hLn, hself]; simp
    rw [hbu]
    by_cases hc : cntB p m u = true
    · rw [if_pos hc]
      have hR : [u].filter (cntB p m) = [u] := by rw [List.filter_cons, if_pos hc]; rfl
      rw [hR]
      have hst : lateL ((L.take n).filter (cntB p m) ++ [u]) = stepT (lateL ((L.take n).filter (cntB p m))) u := by
        unfold lateL
        rw [List.foldl_append]
        rfl
      rw [hst]
      obtain ⟨acc, hacc⟩ : ∃ acc, lateL ((L.take n).filter (cntB p m)) = acc := ⟨_, rfl⟩
      have hIs := late_is ((L.take n).filter (cntB p m))
      rw [hacc] at hI hIs ⊢
      have hmem : ∀ v, v ∈ acc ↔ v ∈ bestL p m L n n := fun v => hI.mem_iff
      unfold stepT
      cases hl : lastT u.e acc with
      | none =>
        dsimp only
        have hno := lastT_none hl
        have hnoR : ∀ v ∈ (L.take n).filter (cntB p m), ¬ v.e = u.e := by
          intro v hv he
          obtain ⟨z, hz, hze⟩ := hIs.cov v hv
          exact hno z hz (hze.trans he)
        have hbest : bestT p m L n u n = true := by
          unfold bestT holdsT
          rw [hc, Bool.true_and, List.all_eq_true]
          intro k hk
          have hkn := List.mem_range.1 hk
          have hLk : L[k]? = some (L[k]'(by omega)) := List.getElem?_eq_getElem (by omega)
          rw [hLk]
          dsimp only
          cases hb : beatsT p m (L[k]'(by omega)) k u n with
          | false => rfl
          | true =>
            unfold beatsT at hb
            simp only [Bool.and_eq_true, decide_eq_true_eq] at hb
            refine absurd hb.1.2 (hnoR _ (List.mem_filter.2 ⟨?_, hb.1.1⟩))
            rw [List.mem_iff_getElem?]
            exact ⟨k, by rw [List.getElem?_take, if_pos hkn, hLk]⟩
        rw [if_pos hbest]
        unfold updT
        have hf1 : acc.filter (fun v => decide (¬ v.e = u.e)) = acc := List.filter_eq_self.2 fun v hv => decide_eq_true (hno v hv)
        have hf2 : (bestL p m L n n).filter (fun t => decide (¬ (t.e = u.e ∧ t.m ≤ u.m))) = bestL p m L n n := List.filter_eq_self.2 fun v hv => decide_eq_true fun k => hno v ((hmem v).2 hv) k.1
        rw [hf1, hf2]
        exact (List.Perm.cons u hI).trans (List.perm_append_comm (l₁ := [u]) (l₂ := bestL p m L n n))
      | some z =>
        dsimp only
        obtain ⟨hz, hze⟩ := lastT_some hl
        obtain ⟨hzR, hzM⟩ := hIs.sub z hz
        by_cases hle : z.m ≤ u.m
        · rw [if_pos hle]
          have hbest : bestT p m L n u n = true := by
            unfold bestT holdsT
            rw [hc, Bool.true_and, List.all_eq_true]
            intro k hk
            have hkn := List.mem_range.1 hk
            have hLk : L[k]? = some (L[k]'(by omega)) := List.getElem?_eq_getElem (by omega)
            rw [hLk]
            dsimp only
            cases hb : beatsT p m (L[k]'(by omega)) k u n with
            | false => rfl
            | true =>
              unfold beatsT at hb
              simp only [Bool.and_eq_true, Bool.or_eq_true, decide_eq_true_eq] at hb
              have hm := hzM _ (List.mem_filter.2 ⟨by rw [List.mem_iff_getElem?]; exact ⟨k, by rw [List.getElem?_take, if_pos hkn, hLk]⟩, hb.1.1⟩) (hb.1.2.trans hze.symm)
              omega
          rw [if_pos hbest]
          unfold updT
          have hf2 : (bestL p m L n n).filter (fun t => decide (¬ (t.e = u.e ∧ t.m ≤ u.m))) = (bestL p m L n n).filter (fun t => decide (¬ t.e = u.e)) := by
            refine List.filter_congr fun v hv => ?_
            by_cases h1 : v.e = u.e
            · have hvz : v = z := hIs.one.eq ((hmem v).2 hv) hz (h1.trans hze.symm)
              have h2 : v.m ≤ u.m := by rw [hvz]; exact hle
              simp [h1, h2]
            · simp [h1]
          rw [hf2]
          have h1 := hI.filter (fun t => decide (¬ t.e = u.e))
          have h2 : List.Perm (u :: acc.filter (fun t => decide (¬ t.e = u.e))) (u :: (bestL p m L n n).filter (fun t => decide (¬ t.e = u.e))) := List.Perm.cons u h1
          exact h2.trans (List.perm_append_comm (l₁ := [u]))
        · rw [if_neg hle]
          have hbest : ¬ bestT p m L n u n = true := by
            intro hb
            obtain ⟨i, hi, hLi, hbi⟩ := bestL_mem n ((hmem z).1 hz)
            unfold bestT at hb
            rw [Bool.and_eq_true] at hb
            have h1 := holds_mem hb.2 hi hLi
            unfold bestT at hbi
            rw [Bool.and_eq_true] at hbi
            unfold beatsT at h1
            rw [hbi.1, decide_eq_true hze, decide_eq_true (show z.m > u.m by omega)] at h1
            simp at h1
          rw [if_neg hbest, List.append_nil]
          have hf2 : (bestL p m L n n).filter (fun t => decide (¬ (t.e = u.e ∧ t.m ≤ u.m))) = bestL p m L n n := by
            rw [List.filter_eq_self]
            intro v hv
            refine decide_eq_true fun k => ?_
            have hvz : v = z := hIs.one.eq ((hmem v).2 hv) hz (k.1.trans hze.symm)
            rw [hvz] at k
            omega
          rw [hf2]
          exact hI
    · rw [if_neg hc]
      have hR : [u].filter (cntB p m) = [] := by rw [List.filter_cons, if_neg hc]; rfl
      have hbest : ¬ bestT p m L n u n = true := by unfold bestT; simp [hc]
      rw [hR, List.append_nil, if_neg hbest, List.append_nil]
      exact hI
/-- What the reference's Before adds up. -/
theorem best_sum (f : TotD → Int) (p : ByteArray) (m : Int) (L : List TotD) : sumA f (befT p m L) = sumA f (bestL p m L L.length L.length) := by
  have h := best_perm (p := p) (m := m) (L := L) L.length (Nat.le_refl _)
  rw [List.take_length] at h
  exact sumA_perm f h
theorem sumA_app (f : TotD → Int) (a b : List TotD) : sumA f (a ++ b) = sumA f a + sumA f b := by
  unfold sumA
  rw [List.map_append, List.sum_append]
/-- The error of an element, as the reference finds it. -/
def wrongR (l : List (TotD × Int)) (t : TotD) (i : Int) : Int := if l.any (fun u => decide (u.2 = i) && decide (u.1 ≠ t)) = true then 251 else if l.any (fun u => decide (u.1 ≠ t) && decide (u.1.e = t.e) && decide (u.1.p = t.p) && decide (u.1.m = t.m)) = true then 5 else 0
theorem wrongL_gen : ∀ (l : List (TotD × Int)) (t : TotD) (i err : Int), wrongL l t i err = if l.any (fun u => decide (u.2 = i) && decide (u.1 ≠ t)) = true then 251 else if l.any (fun u => decide (u.1 ≠ t) && decide (u.1.e = t.e) && decide (u.1.p = t.p) && decide (u.1.m = t.m)) = true then 5 else err
  | [], t, i, err => by unfold wrongL; rfl
  | x :: l, t, i, err => by
    unfold wrongL
    rw [List.any_cons, List.any_cons]
    by_cases h : x.1 = t
    · rw [if_pos h, wrongL_gen l t i err]
      have e1 : (decide (x.2 = i) && decide (x.1 ≠ t)) = false := by simp [h]
      have e2 : (decide (x.1 ≠ t) && decide (x.1.e = t.e) && decide (x.1.p = t.p) && decide (x.1.m = t.m)) = false := by simp [h]
      rw [e1, e2, Bool.false_or, Bool.false_or]
    · rw [if_neg h]
      by_cases h2 : x.2 = i
      · rw [if_pos h2]
        have e1 : (decide (x.2 = i) && decide (x.1 ≠ t)) = true := by simp [h, h2]
        rw [e1, Bool.true_or, if_pos rfl]
      · rw [if_neg h2, wrongL_gen l t i _]
        have e1 : (decide (x.2 = i) && decide (x.1 ≠ t)) = false := by simp [h2]
        rw [e1, Bool.false_or]
        by_cases h3 : x.1.e = t.e ∧ x.1.p = t.p ∧ x.1.m = t.m
        · rw [if_pos h3]
          have e2 : (decide (x.1 ≠ t) && decide (x.1.e = t.e) && decide (x.1.p = t.p) && decide (x.1.m = t.m)) = true := by simp [h, h3.1, h3.2.1, h3.2.2]
          rw [e2, Bool.true_or, if_pos (show true = true from rfl)]
          split
          · rfl
          · split <;> rfl
        · rw [if_neg h3]
          have h4 : (decide (x.1 ≠ t) && decide (x.1.e = t.e) && decide (x.1.p = t.p) && decide (x.1.m = t.m)) = false := by
            cases hb : (decide (x.1 ≠ t) && decide (x.1.e = t.e) && decide (x.1.p = t.p) && decide (x.1.m = t.m)) with
            | false => rfl
            | true =>
              simp only [Bool.and_eq_true, decide_eq_true_eq] at hb
              exact absurd ⟨hb.1.1.2, hb.1.2, hb.2⟩ h3
          rw [h4, Bool.false_or]
theorem wrongL_ref (l : List (TotD × Int)) (t : TotD) (i : Int) : wrongL l t i 0 = wrongR l t i := wrongL_gen l t i 0
end Go.Proofs.YtmebllhkfepkdaaGreatDoor
