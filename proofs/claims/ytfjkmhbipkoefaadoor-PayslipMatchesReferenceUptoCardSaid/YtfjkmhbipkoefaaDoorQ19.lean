/- The reference's Leaves (layer 35). The reference's Name (layer 29). The reference's list of numbers (layer 35). -/
import Derived.Test.YtfjkmhbipkoefaaDoorQ18
import Derived.Test.YtfjkmhbipkoefaaDoorQ15
import Derived.Test.YtfjkmhbipkoefaaDoorQ04
namespace Go.Proofs.YtfjkmhbipkoefaaDoor
open Go.RowKit Go.Shelf
set_option linter.unusedVariables false
set_option linter.unusedSimpArgs false
set_option maxRecDepth 100000
set_option maxHeartbeats 8000000 in
theorem rleaves_any (A B : Option Addr) (ca cb n m : Nat) (rows : List RowD) (bl : List Int) (w : World) (hA : Sl w w.heap.size 3 A n (rowsV rows)) (hB : Sl w w.heap.size 1 B m (intV bl))
    (hn : rows.length = n) (hm : bl.length = m) (hnm : n ≤ m) (hnl : n ≤ 1000000) (hml : m ≤ maxLen) (hs : ∀ x ∈ rows, x.l.size ≤ 70368744177000 ∧ x.r.size ≤ 70368744177000 ∧ I64 x.c) (hb : ∀ b ∈ bl, 0 ≤ b ∧ b < 1073741789) :
    Calls Tryd.prog 33 #[.slice A n ca, .slice B m cb] w fun e w' => ∃ C cc, e = .returned (.slice C n cc) ∧ w'.ownsRow w.heap.size 9 1 (.slice C n cc) n (strV (leafK rows bl n)) ∧ Below w.heap.size w w' := by
  have HA := Lib.hid hA
  have HB := Lib.hid hB
  have Hn := Lib.hid hn
  have Hm := Lib.hid hm
  have Hs := Lib.hid hs
  have Hb := Lib.hid hb
  unfold maxLen at hml
  obtain ⟨i0, hi0, hz0, hz1, hz2⟩ := info_parts info_str
  clear hA hB hn hm hs hb
  go_enter Tryd.func33, Tryd.ntmps33
  go_wp2
  go_loopw [5, 6] (fun v q wr => ∃ k : Nat, k ≤ n ∧ q = .int .i64 (k : Int) ∧ wr.ownsRow w.heap.size 9 1 v k (strV (leafK rows bl k)) ∧ Below w.heap.size w wr) (fun _ q _ => n - (intOf q).toNat)
  case atStart => exact ⟨0, Nat.zero_le _, rfl, ⟨rfl, .inl ⟨rfl, rfl⟩⟩, Below.refl _ _⟩
  case round =>
    obtain ⟨k, hk, rfl, hown, hBw⟩ := hrel
    have Hown := Lib.hid hown
    clear hown
    by_cases hlt : k < n
    · have hlt' : (k : Int) < (n : Int) := by omega
      have hkm' : (k : Int) < (m : Int) := by omega
      have hkm : k < m := by omega
      have hkl : k < rows.length := by rw [Hn.out]; exact hlt
      have hkb : k < bl.length := by rw [Hm.out]; omega
      obtain ⟨b1, o1, rfl, hb1, hc1⟩ := HA.out.2 (by omega)
      obtain ⟨b2, o2, rfl, hb2, hc2⟩ := HB.out.2 (by omega)
      obtain ⟨x, hx⟩ : ∃ x, rows[k] = x := ⟨_, rfl⟩
      have hxg : rows.getD k default = x := by rw [List.getD_eq_getElem?_getD, List.getElem?_eq_getElem hkl]; exact hx
      have hget := flat_get rowV 3 (fun _ => rfl) rows k hkl
      rw [hx] at hget
      have hxs := Hs.out x (by rw [← hx]; exact List.getElem_mem hkl)
      obtain ⟨bv, hbv⟩ : ∃ b, bl.getD k 0 = b := ⟨_, rfl⟩
      have hbI : 0 ≤ bv ∧ bv < 1073741789 := by rw [← hbv]; exact Hb.out _ (by simp [List.getD, hkb])
      obtain ⟨xl, xc, xr⟩ := x
      have HY0 : Hid (∀ W, Below w.heap.size w W → W.cell? ⟨b1, o1 + k * 3, none⟩ = some (.string xl)) := Lib.hid fun W h => (h.cell (p := ⟨b1, o1 + k * 3, none⟩) hb1).trans (hc1 _ _ (hget 0 (by decide)))
      have HY1 : Hid (∀ W, Below w.heap.size w W → W.cell? ⟨b1, o1 + k * 3 + 1, none⟩ = some (.int .i64 xc)) := Lib.hid fun W h => (h.cell (p := ⟨b1, o1 + k * 3 + 1, none⟩) hb1).trans (hc1 _ _ (hget 1 (by decide)))
      have HY2 : Hid (∀ W, Below w.heap.size w W → W.cell? ⟨b1, o1 + k * 3 + 2, none⟩ = some (.string xr)) := Lib.hid fun W h => (h.cell (p := ⟨b1, o1 + k * 3 + 2, none⟩) hb1).trans (hc1 _ _ (hget 2 (by decide)))
      have HZ : Hid (∀ W, Below w.heap.size w W → W.cell? ⟨b2, o2 + k, none⟩ = some (.int .i64 bv)) := Lib.hid fun W h => (h.cell (p := ⟨b2, o2 + k, none⟩) hb2).trans (hc2 k _ (by rw [intV_get bl k hkb, hbv]))
      obtain ⟨hs1, hs2, hs3⟩ := hxs
      dsimp only at hs1 hs2 hs3
      obtain ⟨vi, hvi⟩ : ∃ v, xc % 1073741789 = v := ⟨_, rfl⟩
      have hvi1 : 0 ≤ vi ∧ vi < 1073741789 := by omega
      obtain ⟨cx, hcx⟩ : ∃ c, commitI vi bv = c := ⟨_, rfl⟩
      have hcI : -9223372036854775808 ≤ cx ∧ cx ≤ 9223372036854775807 := by
        have h1 := comI_bd vi bv
        unfold comI at h1
        rw [if_pos hbI, hcx] at h1
        exact ⟨by omega, by omega⟩
      obtain ⟨t, ht⟩ : ∃ t, leafB xl cx xr = t := ⟨_, rfl⟩
      have Hlf : Hid (leafK rows bl (k + 1) = leafK rows bl k ++ [t]) := Lib.hid (by rw [leafK_snoc, hxg, hbv, leafAt]; unfold comI; dsimp only; rw [hvi, if_pos hbI, hcx, ht])
      have Hcx := Lib.hid hcx
      have Ht := Lib.hid ht
      have Hvi := Lib.hid hvi
      have hBd := hBw.drew
      clear hcx ht hvi hx hxg hget hc1 hc2 hbv hkl hkb
      go_upto_region 5 with fail
      refine wp_region_noPanic ?_
      refine wp_region_held_drew (S := fun W => W.cell? ⟨b1, o1 + k * 3 + 1, none⟩ = some (.int .i64 xc) ∧ W.cell? ⟨b2, o2 + k, none⟩ = some (.int .i64 bv)) (by kernel_rfl) ⟨HY1.out _ hBd, HZ.out _ hBd⟩ (fun hHeld => ?_)
      refine wpAnyH_take (i := 0) (v := ?_) rfl (by kernel_rfl) (by kernel_rfl) (by kernel_rfl) (fun _ _ _ h => h) (Or.inl ⟨by kernel_rfl, ?_⟩) (by assumption) ?_
      rotate_left
      · intro w hSw
        (try dsimp only at hSw)
        go_simp
        first | done | with_reducible rfl
      simp only [List.getElem_toArray, List.getElem_cons_zero, List.getElem_cons_succ, Act.put, List.setIfInBounds_toArray, List.set_cons_zero, List.set_cons_succ]
      refine wpAnyH_take (i := 1) (v := ?_) rfl (by kernel_rfl) (by kernel_rfl) (by kernel_rfl) (fun _ _ _ h => h) (Or.inl ⟨by kernel_rfl, ?_⟩) (by assumption) ?_
      rotate_left
      · intro w hSw
        (try dsimp only at hSw)
        go_simp
        first | done | with_reducible rfl
      simp only [List.getElem_toArray, List.getElem_cons_zero, List.getElem_cons_succ, Act.put, List.setIfInBounds_toArray, List.set_cons_zero, List.set_cons_succ]
      refine wpAnyH_take (i := 2) (v := ?_) rfl (by kernel_rfl) (by kernel_rfl) (by kernel_rfl) (fun _ _ _ h => h) (Or.inl ⟨by kernel_rfl, ?_⟩) (by assumption) ?_
      rotate_left
      · intro w hSw
        (try dsimp only at hSw)
        go_simp
        first | done | with_reducible rfl
      simp only [List.getElem_toArray, List.getElem_cons_zero, List.getElem_cons_succ, Act.put, List.setIfInBounds_toArray, List.set_cons_zero, List.set_cons_succ]
      refine wpAnyH_take (i := 3) (v := ?_) rfl (by kernel_rfl) (by kernel_rfl) (by kernel_rfl) (fun _ _ _ h => h) (Or.inl ⟨by kernel_rfl, ?_⟩) (by assumption) ?_
      rotate_left
      · intro w hSw
        (try dsimp only at hSw)
        go_simp
        first | done | with_reducible rfl
      simp only [List.getElem_toArray, List.getElem_cons_zero, List.getElem_cons_succ, Act.put, List.setIfInBounds_toArray, List.set_cons_zero, List.set_cons_succ]
      refine wpAnyH_take (i := 4) (v := ?_) rfl (by kernel_rfl) (by kernel_rfl) (by kernel_rfl) (fun _ _ _ h => h) (Or.inl ⟨by kernel_rfl, ?_⟩) (by assumption) ?_
      rotate_left
      · intro w hSw
        (try dsimp only at hSw)
        have z := hSw.1
        go_simp
        first | done | with_reducible rfl
      simp only [List.getElem_toArray, List.getElem_cons_zero, List.getElem_cons_succ, Act.put, List.setIfInBounds_toArray, List.set_cons_zero, List.set_cons_succ]
      refine wpAnyH_take (i := 6) (v := ?_) rfl (by kernel_rfl) (by kernel_rfl) (by kernel_rfl) (fun _ _ _ h => h) (Or.inl ⟨by kernel_rfl, ?_⟩) (by assumption) ?_
      rotate_left
      · intro w hSw
        (try dsimp only at hSw)
        go_simp
        first | done | with_reducible rfl
      simp only [List.getElem_toArray, List.getElem_cons_zero, List.getElem_cons_succ, Act.put, List.setIfInBounds_toArray, List.set_cons_zero, List.set_cons_succ]
      refine wpAnyH_take (i := 7) (v := ?_) rfl (by kernel_rfl) (by kernel_rfl) (by kernel_rfl) (fun _ _ _ h => h) (Or.inl ⟨by kernel_rfl, ?_⟩) (by assumption) ?_
      rotate_left
      · intro w hSw
        (try dsimp only at hSw)
        go_simp
        first | done | with_reducible rfl
      simp only [List.getElem_toArray, List.getElem_cons_zero, List.getElem_cons_succ, Act.put, List.setIfInBounds_toArray, List.set_cons_zero, List.set_cons_succ]
      refine wpAnyH_take (i := 8) (v := ?_) rfl (by kernel_rfl) (by kernel_rfl) (by kernel_rfl) (fun _ _ _ h => h) (Or.inl ⟨by kernel_rfl, ?_⟩) (by assumption) ?_
      rotate_left
      · intro w hSw
        (try dsimp only at hSw)
        go_simp
        first | done | with_reducible rfl
      simp only [List.getElem_toArray, List.getElem_cons_zero, List.getElem_cons_succ, Act.put, List.setIfInBounds_toArray, List.set_cons_zero, List.set_cons_succ]
      refine wpAnyH_take (i := 9) (v := ?_) rfl (by kernel_rfl) (by kernel_rfl) (by kernel_rfl) (fun _ _ _ h => h) (Or.inl ⟨by kernel_rfl, ?_⟩) (by assumption) ?_
      rotate_left
      · intro w hSw
        (try dsimp only at hSw)
        have z := hSw.2
        go_simp
        first | done | with_reducible rfl
      simp only [List.getElem_toArray, List.getElem_cons_zero, List.getElem_cons_succ, Act.put, List.setIfInBounds_toArray, List.set_cons_zero, List.set_cons_succ]
      refine wpAnyH_ready (rs := [5]) (by kernel_rfl) (by simp) ?_
      refine AllReadyH.cons rfl (fun K hK => ?_) AllReadyH.nil
      simp only [List.getElem_toArray, List.getElem_cons_zero, List.getElem_cons_succ]
      go_simp
      (with_reducible refine (pvalue_any xc vi Hvi wr.drew).mono ?_)
      rintro e w1 ⟨rfl, hB1⟩
      dsimp only
      have hBw1 := bgo hBd hB1
      refine hK.out _ _ ⟨HY1.out _ hBw1, HZ.out _ hBw1⟩ (fun hHeld => ?_)
      clear hK K
      try simp only [List.getElem_toArray, List.getElem_cons_zero, List.getElem_cons_succ, Act.put, List.setIfInBounds_toArray, List.set_cons_zero, List.set_cons_succ]
      refine wpAnyH_ready (rs := [10]) (by kernel_rfl) (by simp) ?_
      refine AllReadyH.cons rfl (fun K hK => ?_) AllReadyH.nil
      simp only [List.getElem_toArray, List.getElem_cons_zero, List.getElem_cons_succ]
      go_simp
      (with_reducible refine (rcommit_v vi bv cx Hcx w1 hvi1.1 hvi1.2 hbI.1 hbI.2).mono ?_)
      rintro e w1b ⟨rfl, hw1b⟩
      obtain rfl := hw1b
      dsimp only
      refine hK.out _ _ ⟨HY1.out _ hBw1, HZ.out _ hBw1⟩ (fun hHeld => ?_)
      clear hK K
      try simp only [List.getElem_toArray, List.getElem_cons_zero, List.getElem_cons_succ, Act.put, List.setIfInBounds_toArray, List.set_cons_zero, List.set_cons_succ]
      refine wpAnyH_take (i := 11) (v := ?_) rfl (by kernel_rfl) (by kernel_rfl) (by kernel_rfl) (fun _ _ _ h => h) (Or.inl ⟨by kernel_rfl, ?_⟩) (by assumption) ?_
      rotate_left
      · intro w hSw
        (try dsimp only at hSw)
        go_simp
        first | done | with_reducible rfl
      simp only [List.getElem_toArray, List.getElem_cons_zero, List.getElem_cons_succ, Act.put, List.setIfInBounds_toArray, List.set_cons_zero, List.set_cons_succ]
      refine wpAnyH_take (i := 12) (v := ?_) rfl (by kernel_rfl) (by kernel_rfl) (by kernel_rfl) (fun _ _ _ h => h) (Or.inl ⟨by kernel_rfl, ?_⟩) (by assumption) ?_
      rotate_left
      · intro w hSw
        (try dsimp only at hSw)
        go_simp
        first | done | with_reducible rfl
      simp only [List.getElem_toArray, List.getElem_cons_zero, List.getElem_cons_succ, Act.put, List.setIfInBounds_toArray, List.set_cons_zero, List.set_cons_succ]
      refine wpAnyH_take (i := 13) (v := ?_) rfl (by kernel_rfl) (by kernel_rfl) (by kernel_rfl) (fun _ _ _ h => h) (Or.inl ⟨by kernel_rfl, ?_⟩) (by assumption) ?_
      rotate_left
      · intro w hSw
        (try dsimp only at hSw)
        go_simp
        first | done | with_reducible rfl
      simp only [List.getElem_toArray, List.getElem_cons_zero, List.getElem_cons_succ, Act.put, List.setIfInBounds_toArray, List.set_cons_zero, List.set_cons_succ]
      refine wpAnyH_take (i := 14) (v := ?_) rfl (by kernel_rfl) (by kernel_rfl) (by kernel_rfl) (fun _ _ _ h => h) (Or.inl ⟨by kernel_rfl, ?_⟩) (by assumption) ?_
      rotate_left
      · intro w hSw
        (try dsimp only at hSw)
        go_simp
        first | done | with_reducible rfl
      simp only [List.getElem_toArray, List.getElem_cons_zero, List.getElem_cons_succ, Act.put, List.setIfInBounds_toArray, List.set_cons_zero, List.set_cons_succ]
      refine wpAnyH_take (i := 15) (v := ?_) rfl (by kernel_rfl) (by kernel_rfl) (by kernel_rfl) (fun _ _ _ h => h) (Or.inl ⟨by kernel_rfl, ?_⟩) (by assumption) ?_
      rotate_left
      · intro w hSw
        (try dsimp only at hSw)
        go_simp
        first | done | with_reducible rfl
      simp only [List.getElem_toArray, List.getElem_cons_zero, List.getElem_cons_succ, Act.put, List.setIfInBounds_toArray, List.set_cons_zero, List.set_cons_succ]
      refine wpAnyH_done (by kernel_rfl) ?_ _
      dsimp only [NoPanic]
      clear hHeld
      have hBd1 := hBw1.drew
      have HO1 := Lib.hid (own_below Hown.out (bgo (Below.refl wr.heap.size wr).drew hB1))
      go_upto_region 6 with fail
      refine wp_region_noPanic ?_
      refine wp_region_held_drew (S := fun W => W.cell? ⟨b1, o1 + k * 3, none⟩ = some (.string xl) ∧ W.cell? ⟨b1, o1 + k * 3 + 2, none⟩ = some (.string xr)) (by kernel_rfl) ⟨HY0.out _ hBd1, HY2.out _ hBd1⟩ (fun hHeld => ?_)
      refine wpAnyH_take (i := 0) (v := ?_) rfl (by kernel_rfl) (by kernel_rfl) (by kernel_rfl) (fun _ _ _ h => h) (Or.inl ⟨by kernel_rfl, ?_⟩) (by assumption) ?_
      rotate_left
      · intro w hSw
        (try dsimp only at hSw)
        go_simp
        first | done | with_reducible rfl
      simp only [List.getElem_toArray, List.getElem_cons_zero, List.getElem_cons_succ, Act.put, List.setIfInBounds_toArray, List.set_cons_zero, List.set_cons_succ]
      refine wpAnyH_take (i := 1) (v := ?_) rfl (by kernel_rfl) (by kernel_rfl) (by kernel_rfl) (fun _ _ _ h => h) (Or.inl ⟨by kernel_rfl, ?_⟩) (by assumption) ?_
      rotate_left
      · intro w hSw
        (try dsimp only at hSw)
        go_simp
        first | done | with_reducible rfl
      simp only [List.getElem_toArray, List.getElem_cons_zero, List.getElem_cons_succ, Act.put, List.setIfInBounds_toArray, List.set_cons_zero, List.set_cons_succ]
      refine wpAnyH_take (i := 2) (v := ?_) rfl (by kernel_rfl) (by kernel_rfl) (by kernel_rfl) (fun _ _ _ h => h) (Or.inl ⟨by kernel_rfl, ?_⟩) (by assumption) ?_
      rotate_left
      · intro w hSw
        (try dsimp only at hSw)
        go_simp
        first | done | with_reducible rfl
      simp only [List.getElem_toArray, List.getElem_cons_zero, List.getElem_cons_succ, Act.put, List.setIfInBounds_toArray, List.set_cons_zero, List.set_cons_succ]
      refine wpAnyH_take (i := 3) (v := ?_) rfl (by kernel_rfl) (by kernel_rfl) (by kernel_rfl) (fun _ _ _ h => h) (Or.inl ⟨by kernel_rfl, ?_⟩) (by assumption) ?_
      rotate_left
      · intro w hSw
        (try dsimp only at hSw)
        go_simp
        first | done | with_reducible rfl
      simp only [List.getElem_toArray, List.getElem_cons_zero, List.getElem_cons_succ, Act.put, List.setIfInBounds_toArray, List.set_cons_zero, List.set_cons_succ]
      refine wpAnyH_take (i := 4) (v := ?_) rfl (by kernel_rfl) (by kernel_rfl) (by kernel_rfl) (fun _ _ _ h => h) (Or.inl ⟨by kernel_rfl, ?_⟩) (by assumption) ?_
      rotate_left
      · intro w hSw
        (try dsimp only at hSw)
        go_simp
        first | done | with_reducible rfl
      simp only [List.getElem_toArray, List.getElem_cons_zero, List.getElem_cons_succ, Act.put, List.setIfInBounds_toArray, List.set_cons_zero, List.set_cons_succ]
      refine wpAnyH_take (i := 5) (v := ?_) rfl (by kernel_rfl) (by kernel_rfl) (by kernel_rfl) (fun _ _ _ h => h) (Or.inl ⟨by kernel_rfl, ?_⟩) (by assumption) ?_
      rotate_left
      · intro w hSw
        (try dsimp only at hSw)
        have z := hSw.1
        go_simp
        first | done | with_reducible rfl
      simp only [List.getElem_toArray, List.getElem_cons_zero, List.getElem_cons_succ, Act.put, List.setIfInBounds_toArray, List.set_cons_zero, List.set_cons_succ]
      refine wpAnyH_take (i := 6) (v := ?_) rfl (by kernel_rfl) (by kernel_rfl) (by kernel_rfl) (fun _ _ _ h => h) (Or.inl ⟨by kernel_rfl, ?_⟩) (by assumption) ?_
      rotate_left
      · intro w hSw
        (try dsimp only at hSw)
        go_simp
        first | done | with_reducible rfl
      simp only [List.getElem_toArray, List.getElem_cons_zero, List.getElem_cons_succ, Act.put, List.setIfInBounds_toArray, List.set_cons_zero, List.set_cons_succ]
      refine wpAnyH_take (i := 7) (v := ?_) rfl (by kernel_rfl) (by kernel_rfl) (by kernel_rfl) (fun _ _ _ h => h) (Or.inl ⟨by kernel_rfl, ?_⟩) (by assumption) ?_
      rotate_left
      · intro w hSw
        (try dsimp only at hSw)
        go_simp
        first | done | with_reducible rfl
      simp only [List.getElem_toArray, List.getElem_cons_zero, List.getElem_cons_succ, Act.put, List.setIfInBounds_toArray, List.set_cons_zero, List.set_cons_succ]
      refine wpAnyH_take (i := 8) (v := ?_) rfl (by kernel_rfl) (by kernel_rfl) (by kernel_rfl) (fun _ _ _ h => h) (Or.inl ⟨by kernel_rfl, ?_⟩) (by assumption) ?_
      rotate_left
      · intro w hSw
        (try dsimp only at hSw)
        go_simp
        first | done | with_reducible rfl
      simp only [List.getElem_toArray, List.getElem_cons_zero, List.getElem_cons_succ, Act.put, List.setIfInBounds_toArray, List.set_cons_zero, List.set_cons_succ]
      refine wpAnyH_take (i := 9) (v := ?_) rfl (by kernel_rfl) (by kernel_rfl) (by kernel_rfl) (fun _ _ _ h => h) (Or.inl ⟨by kernel_rfl, ?_⟩) (by assumption) ?_
      rotate_left
      · intro w hSw
        (try dsimp only at hSw)
        go_simp
        first | done | with_reducible rfl
      simp only [List.getElem_toArray, List.getElem_cons_zero, List.getElem_cons_succ, Act.put, List.setIfInBounds_toArray, List.set_cons_zero, List.set_cons_succ]
      refine wpAnyH_take (i := 10) (v := ?_) rfl (by kernel_rfl) (by kernel_rfl) (by kernel_rfl) (fun _ _ _ h => h) (Or.inl ⟨by kernel_rfl, ?_⟩) (by assumption) ?_
      rotate_left
      · intro w hSw
        (try dsimp only at hSw)
        go_simp
        first | done | with_reducible rfl
      simp only [List.getElem_toArray, List.getElem_cons_zero, List.getElem_cons_succ, Act.put, List.setIfInBounds_toArray, List.set_cons_zero, List.set_cons_succ]
      refine wpAnyH_take (i := 11) (v := ?_) rfl (by kernel_rfl) (by kernel_rfl) (by kernel_rfl) (fun _ _ _ h => h) (Or.inl ⟨by kernel_rfl, ?_⟩) (by assumption) ?_
      rotate_left
      · intro w hSw
        (try dsimp only at hSw)
        have z := hSw.2
        go_simp
        first | done | with_reducible rfl
      simp only [List.getElem_toArray, List.getElem_cons_zero, List.getElem_cons_succ, Act.put, List.setIfInBounds_toArray, List.set_cons_zero, List.set_cons_succ]
      refine wpAnyH_ready (rs := [12]) (by kernel_rfl) (by simp) ?_
      refine AllReadyH.cons rfl (fun K hK => ?_) ?_
      · simp only [List.getElem_toArray, List.getElem_cons_zero, List.getElem_cons_succ]
        go_simp
        (with_reducible refine (rleafP_any xl cx xr t Ht hcI hs1 hs2 w1.drew).mono ?_)
        rintro e w2 ⟨rfl, hB2⟩
        dsimp only
        have hBw2 := bgo hBd1 hB2
        have HO2 := Lib.hid (own_below HO1.out (bgo (Below.refl w1.heap.size w1).drew hB2))
        refine hK.out _ _ ⟨HY0.out _ hBw2, HY2.out _ hBw2⟩ (fun hHeld => ?_)
        clear hK K
        try simp only [List.getElem_toArray, List.getElem_cons_zero, List.getElem_cons_succ, Act.put, List.setIfInBounds_toArray, List.set_cons_zero, List.set_cons_succ]
        refine wpAnyH_ready (rs := [13]) (by kernel_rfl) (by simp) ?_
        refine AllReadyH.cons rfl (fun K hK => ?_) ?_
        · simp only [List.getElem_toArray, List.getElem_cons_zero, List.getElem_cons_succ]
          go_simp
          obtain ⟨w3, hw3⟩ : ∃ x, x = w2.alloc (.cells #[.string t] 9) := ⟨_, rfl⟩
          obtain ⟨nb, hnb⟩ : ∃ x, x = w2.heap.size := ⟨_, rfl⟩
          rw [← hw3, ← hnb]
          have hBw3 : Below w.heap.size w w3 := by rw [hw3]; exact bal hBw2 _
          have own3 : w3.ownsRow w.heap.size 9 1 u5 k (strV (leafK rows bl k)) := by rw [hw3]; exact HO2.out.alloc _
          have src3 : Src w3 1 (.slice (some ⟨nb, 0, none⟩) 1 1) 1 [.string t] := by rw [hw3, hnb]; exact block_src w2 [.string t] _ _ 1 1 1 rfl
          clear hw3 hnb
          refine hK.out _ _ ⟨HY0.out _ hBw3, HY2.out _ hBw3⟩ (fun hHeld => ?_)
          clear hK K
          try simp only [List.getElem_toArray, List.getElem_cons_zero, List.getElem_cons_succ, Act.put, List.setIfInBounds_toArray, List.set_cons_zero, List.set_cons_succ]
          refine wpAnyH_ready (rs := [14]) (by kernel_rfl) (by simp) ?_
          refine AllReadyH.cons rfl (fun K hK => ?_) ?_
          · refine step_src (w0 := w) (by rfl) _ _ 88 (by rfl) 9 i0 (.string ⟨#[]⟩) 1 16 Tryd.underlying88 hi0 hz0 hz1 hz2 (by rfl) (by decide) u5 k (strV (leafK rows bl k)) (by rfl) own3 hBw3 (.slice (some ⟨nb, 0, none⟩) 1 1) 1 [.string t] (by rfl) src3 (by simp [Value.oneCell']) (by unfold maxLen; omega) (by omega) ?_
            intro v4 w4 hown4 hB4 _
            have HO4 := Lib.hid hown4
            refine hK.out _ _ ⟨HY0.out _ hB4, HY2.out _ hB4⟩ (fun hHeld => ?_)
            clear hK K
            try simp only [List.getElem_toArray, List.getElem_cons_zero, List.getElem_cons_succ, Act.put, List.setIfInBounds_toArray, List.set_cons_zero, List.set_cons_succ]
            refine wpAnyH_take (i := 15) (v := ?_) rfl (by kernel_rfl) (by kernel_rfl) (by kernel_rfl) (fun _ _ _ h => h) (Or.inl ⟨by kernel_rfl, ?_⟩) (by assumption) ?_
            rotate_left
            · intro w hSw
              (try dsimp only at hSw)
              go_simp
              first | done | with_reducible rfl
            simp only [List.getElem_toArray, List.getElem_cons_zero, List.getElem_cons_succ, Act.put, List.setIfInBounds_toArray, List.set_cons_zero, List.set_cons_succ]
            refine wpAnyH_done (by kernel_rfl) ?_ _
            dsimp only [NoPanic]
            clear hHeld
            go_wp2_with fail
            go_roundw
            case rel => exact ⟨k + 1, by omega, by go_num, by rw [Hlf.out, strV_snoc']; exact HO4.out, hB4⟩
            case measure => simp [intOf]; omega
          exact AllReadyH.nil
        exact AllReadyH.nil
      exact AllReadyH.nil
    · obtain rfl : k = n := by omega
      obtain ⟨C, cc, hv, _⟩ := own_slice Hown.out
      subst hv
      go_wp2
      go_ret
      exact ⟨_, _, rfl, Hown.out, hBw⟩
end Go.Proofs.YtfjkmhbipkoefaaDoor
namespace Go.Proofs.YtfjkmhbipkoefaaDoor
open Go.RowKit Go.Shelf
set_option linter.unusedVariables false
set_option linter.unusedSimpArgs false
set_option maxRecDepth 100000
set_option maxHeartbeats 2000000 in
theorem rname_any (s : ByteArray) (w : World) (hs : s.size ≤ maxLen) : Calls Tryd.prog 37 #[.string s] w fun e w' => e = .returned (.bool (isNameB s)) ∧ w = w' := by
  unfold maxLen at hs
  by_cases h0 : 0 < s.size
  · have h0' : ¬ (s.size : Int) < 1 := by omega
    by_cases h16 : s.size ≤ 16
    · have h16' : ¬ (16 : Int) < (s.size : Int) := by omega
      have h00 : (0 : Int) < (s.size : Int) := by omega
      by_cases hc : 97 ≤ s[0].toNat ∧ s[0].toNat ≤ 122
      · obtain ⟨c0, hc0⟩ : ∃ c, s[0] = c := ⟨_, rfl⟩
        have HC := Lib.hid (And.intro hc0 hc)
        rw [hc0] at hc
        have hc1 : ¬ (c0.toNat : Int) < 97 := by omega
        have hc2 : ¬ 122 < (c0.toNat : Int) := by omega
        clear hc
        go_enter Tryd.func37, Tryd.ntmps37
        go_wp2_with fail
        clear hc0 hc1 hc2
        go_loop [3] (fun i => ∃ k : Nat, k ≤ s.size ∧ i = .int .i64 (k : Int) ∧ ∀ j (h : j < s.size), j < k → okC s[j] = true) (fun i => s.size - (intOf i).toNat)
        case atStart => exact ⟨0, Nat.zero_le _, rfl, fun j h hj => absurd hj (Nat.not_lt_zero j)⟩
        case round =>
          obtain ⟨k, hk, rfl, hok⟩ := hrel
          have Hok := Lib.hid hok
          clear hok
          by_cases hlt : k < s.size
          · have hlt' : (k : Int) < (s.size : Int) := by omega
            cases hcc : okC s[k] with
            | false =>
              have Hno := Lib.hid (name_no hlt hcc)
              obtain ⟨c, hce⟩ : ∃ c, s[k] = c := ⟨_, rfl⟩
              have hcn := of_decide_eq_false hcc
              rw [hce] at hcn
              clear hcc
              have hcase : c.toNat < 48 ∨ (57 < c.toNat ∧ c.toNat < 97 ∧ ¬ c.toNat = 95) ∨ 122 < c.toNat := by omega
              rcases hcase with hq | hq | hq
              · have p1 : ¬ 97 ≤ (c.toNat : Int) := by omega
                have p3 : ¬ 48 ≤ (c.toNat : Int) := by omega
                have p5 : ((c.toNat : Int) == 95) = false := by rw [beq_eq_false_iff_ne]; omega
                clear hcn hq
                go_wp2
                go_ret
                exact ⟨by rw [Hno.out]; rfl, rfl⟩
              · have p1 : ¬ 97 ≤ (c.toNat : Int) := by omega
                have p3 : 48 ≤ (c.toNat : Int) := by omega
                have p4 : ¬ (c.toNat : Int) ≤ 57 := by omega
                have p5 : ((c.toNat : Int) == 95) = false := by rw [beq_eq_false_iff_ne]; omega
                clear hcn hq
                go_wp2
                go_ret
                exact ⟨by rw [Hno.out]; rfl, rfl⟩
              · have p1 : 97 ≤ (c.toNat : Int) := by omega
                have p2 : ¬ (c.toNat : Int) ≤ 122 := by omega
                have p3 : 48 ≤ (c.toNat : Int) := by omega
                have p4 : ¬ (c.toNat : Int) ≤ 57 := by omega
                have p5 : ((c.toNat : Int) == 95) = false := by rw [beq_eq_false_iff_ne]; omega
                clear hcn hq
                go_wp2
                go_ret
                exact ⟨by rw [Hno.out]; rfl, rfl⟩
            | true =>
              have Hy : Hid (∀ j (h : j < s.size), j < k + 1 → okC s[j] = true) := Lib.hid (fun j h hj => by
                by_cases e : j < k
                · exact Hok.out j h e
                · obtain rfl : j = k := by omega
                  exact hcc)
              obtain ⟨c, hce⟩ : ∃ c, s[k] = c := ⟨_, rfl⟩
              have hcn := of_decide_eq_true hcc
              rw [hce] at hcn
              clear hcc
              have hcase : (97 ≤ c.toNat ∧ c.toNat ≤ 122) ∨ (48 ≤ c.toNat ∧ c.toNat ≤ 57) ∨ c.toNat = 95 := by omega
              rcases hcase with hq | hq | hq
              · have p1 : 97 ≤ (c.toNat : Int) := by omega
                have p2 : (c.toNat : Int) ≤ 122 := by omega
                clear hcn hq
                go_wp2
                go_round
                case rel => exact ⟨k + 1, by omega, by go_num, Hy.out⟩
                case measure => simp [intOf]; omega
              · have p1 : ¬ 97 ≤ (c.toNat : Int) := by omega
                have p3 : 48 ≤ (c.toNat : Int) := by omega
                have p4 : (c.toNat : Int) ≤ 57 := by omega
                clear hcn hq
                go_wp2
                go_round
                case rel => exact ⟨k + 1, by omega, by go_num, Hy.out⟩
                case measure => simp [intOf]; omega
              · have p1 : ¬ 97 ≤ (c.toNat : Int) := by omega
                have p3 : 48 ≤ (c.toNat : Int) := by omega
                have p4 : ¬ (c.toNat : Int) ≤ 57 := by omega
                have p5 : ((c.toNat : Int) == 95) = true := by rw [beq_iff_eq]; omega
                clear hcn hq
                go_wp2
                go_round
                case rel => exact ⟨k + 1, by omega, by go_num, Hy.out⟩
                case measure => simp [intOf]; omega
          · have hlt' : ¬ (k : Int) < (s.size : Int) := by omega
            have hyes : isNameB s = true := name_yes h0 h16 (by rw [HC.out.1]; have := HC.out.2; rw [HC.out.1] at this; exact this.1) (by rw [HC.out.1]; have := HC.out.2; rw [HC.out.1] at this; exact this.2) (fun j h => Hok.out j h (by omega))
            have Hyes := Lib.hid hyes
            clear hyes
            go_wp2
            go_ret
            exact ⟨by (rw [Hyes.out]; try rfl), rfl⟩
      · have hno : isNameB s = false := decide_eq_false (fun h => hc ⟨by rw [← name_head s h0]; exact h.2.2.1, by rw [← name_head s h0]; exact h.2.2.2.1⟩)
        have Hno := Lib.hid hno
        clear hno
        obtain ⟨c0, hc0⟩ : ∃ c, s[0] = c := ⟨_, rfl⟩
        rw [hc0] at hc
        by_cases q : c0.toNat < 97
        · have hc1 : (c0.toNat : Int) < 97 := by omega
          clear hc q
          go_enter Tryd.func37, Tryd.ntmps37
          go_wp2
          go_ret
          exact ⟨by (rw [Hno.out]; try rfl), rfl⟩
        · have hc1 : ¬ (c0.toNat : Int) < 97 := by omega
          have hc2 : 122 < (c0.toNat : Int) := by omega
          clear hc q
          go_enter Tryd.func37, Tryd.ntmps37
          go_wp2
          go_ret
          exact ⟨by (rw [Hno.out]; try rfl), rfl⟩
    · have h16' : (16 : Int) < (s.size : Int) := by omega
      have Hno := Lib.hid (show isNameB s = false from decide_eq_false (fun h => h16 h.2.1))
      go_enter Tryd.func37, Tryd.ntmps37
      go_wp2
      go_ret
      exact ⟨by (rw [Hno.out]; try rfl), rfl⟩
  · have h0' : (s.size : Int) < 1 := by omega
    have Hno := Lib.hid (show isNameB s = false from decide_eq_false (fun h => h0 h.1))
    go_enter Tryd.func37, Tryd.ntmps37
    go_wp2
    go_ret
    exact ⟨by (rw [Hno.out]; try rfl), rfl⟩
theorem rname_at (s : ByteArray) (r : Bool) (hr : Hid (isNameB s = r)) (w : World) (hs : s.size ≤ maxLen) : Calls Tryd.prog 37 #[.string s] w fun e w' => e = .returned (.bool r) ∧ w = w' := by
  rw [← hr.out]; exact rname_any s w hs
end Go.Proofs.YtfjkmhbipkoefaaDoor
namespace Go.Proofs.YtfjkmhbipkoefaaDoor
open Go.RowKit Go.Shelf
set_option linter.unusedVariables false
set_option linter.unusedSimpArgs false
set_option maxRecDepth 100000
/-- The text of the first k numbers. -/
def lsK (xs : List Int) (k : Nat) : ByteArray := ⟨(Lib.join ((xs.take k).map Lib.itoa) [32]).toArray⟩
theorem lsK_one (xs : List Int) (h : 0 < xs.length) : ⟨#[]⟩ ++ itoaB (xs.getD 0 0) = lsK xs 1 := by
  cases xs with
  | nil => exact absurd h (Nat.lt_irrefl 0)
  | cons x xs =>
    unfold lsK itoaB
    apply ByteArray.ext
    apply Array.toList_inj.1
    simp [ByteArray.data_append, Lib.join_one]
theorem lsK_step (xs : List Int) (k : Nat) (h0 : 0 < k) (h : k < xs.length) : lsK xs k ++ ⟨#[32]⟩ ++ itoaB (xs.getD k 0) = lsK xs (k + 1) := by
  have e : xs.getD k 0 = xs[k] := by simp [List.getD, h]
  have hj : Lib.join ((xs.take (k + 1)).map Lib.itoa) [32] = Lib.join ((xs.take k).map Lib.itoa) [32] ++ (32 :: Lib.itoa xs[k]) := by
    rw [List.take_succ_eq_append_getElem h]
    cases hx : xs.take k with
    | nil =>
      have := congrArg List.length hx
      rw [List.length_take, Nat.min_eq_left (by omega), List.length_nil] at this
      omega
    | cons a r =>
      rw [List.cons_append, List.map_cons, List.map_cons, Lib.join_cons, Lib.join_cons, List.map_append, List.append_assoc]
      congr 1
      simp [Lib.joinTail]
  unfold lsK itoaB
  rw [hj, e]
  apply ByteArray.ext
  apply Array.toList_inj.1
  simp [ByteArray.data_append]
theorem lsK_all (xs : List Int) (h : 0 < xs.length) : lsK xs xs.length = listedB xs := by
  unfold lsK listedB
  rw [if_neg (by omega), List.take_length]
  rfl
theorem lsK_size (xs : List Int) (hx : ∀ x ∈ xs, I64 x) : ∀ k, k ≤ xs.length → (lsK xs k).size ≤ 22 * k := by
  intro k
  induction k with
  | zero => intro _; exact Nat.le_of_eq rfl
  | succ k ih =>
    intro hk
    have h1 := ih (by omega)
    have hm : xs.getD k 0 ∈ xs := by rw [List.getD_eq_getElem?_getD, List.getElem?_eq_getElem (show k < xs.length by omega)]; exact List.getElem_mem _
    have h2 := itoaB_size (xs.getD k 0) (hx _ hm).1 (hx _ hm).2
    by_cases h0 : 0 < k
    · rw [← lsK_step xs k h0 (by omega)]
      simp only [ByteArray.size_append]
      have : (⟨#[32]⟩ : ByteArray).size = 1 := rfl
      omega
    · obtain rfl : k = 0 := by omega
      rw [← lsK_one xs (by omega)]
      simp only [ByteArray.size_append]
      have : (⟨#[]⟩ : ByteArray).size = 0 := rfl
      omega
theorem rnumber_at (n : Int) (t : ByteArray) (ht : Hid (itoaB n = t)) (hn : I64 n) (w : World) : Calls Tryd.prog 22 #[.int .i64 n] w fun e w' => e = .returned (.string t) ∧ Below w.heap.size w w' := by
  rw [← ht.out]
  exact rnumber_any n.natAbs n w (Nat.le_refl _) hn.1 hn.2
set_option maxHeartbeats 4000000 in
theorem rlist_any (A : Option Addr) (ca n : Nat) (xs : List Int) (t : ByteArray) (hxn : xs.length = n) (ht : Hid (listedB xs = t)) (w : World) (hA : Sl w w.heap.size 1 A n (intV xs)) (hn : n ≤ 1000) (hx : ∀ x ∈ xs, I64 x) :
    Calls Tryd.prog 24 #[.slice A n ca] w fun e w' => e = .returned (.string t) ∧ Below w.heap.size w w' := by
  have HA := Lib.hid hA
  have Hxn := Lib.hid hxn
  have Hx := Lib.hid hx
  clear hA hxn hx
  by_cases h0 : n = 0
  · subst h0
    have he : (⟨#[45]⟩ : ByteArray) = t := by rw [← ht.out]; unfold listedB; rw [if_pos Hxn.out]
    go_enter Tryd.func24, Tryd.ntmps24
    go_wp2_with fail
    go_ret
    exact ⟨by rw [← he] <;> rfl, Below.refl _ _⟩
  · have hn0 : ((n : Int) == 0) = false := beq_eq_false_iff_ne.2 (by omega)
    have hn1 : ¬ ((n : Int) = 0) := by omega
    go_enter Tryd.func24, Tryd.ntmps24
    go_wp2_with fail
    go_loopw [3, 4] (fun s i wr => ∃ k : Nat, k ≤ n ∧ i = .int .i64 (k : Int) ∧ s = .string (lsK xs k) ∧ Below w.heap.size w wr) (fun _ i _ => n - (intOf i).toNat)
    case atStart => exact ⟨0, Nat.zero_le _, rfl, rfl, Below.refl _ _⟩
    case round =>
      obtain ⟨k, hk, rfl, rfl, hBr⟩ := hrel
      have HB := Lib.hid hBr
      clear hBr
      by_cases hlt : k < n
      · have hlt' : (k : Int) < (n : Int) := by omega
        have hkl : k < xs.length := by rw [Hxn.out]; exact hlt
        obtain ⟨b, off, rfl, hb, hcell⟩ := HA.out.2 (by omega)
        obtain ⟨x, hxx⟩ : ∃ x, xs.getD k 0 = x := ⟨_, rfl⟩
        have hmem : x ∈ xs := by rw [← hxx, List.getD_eq_getElem?_getD, List.getElem?_eq_getElem hkl]; exact List.getElem_mem hkl
        have hxI := Hx.out x hmem
        have hc : wr.cell? ⟨b, off + k, none⟩ = some (.int .i64 x) := (HB.out.cell (p := ⟨b, off + k, none⟩) hb).trans (hcell k _ (by rw [intV_get xs k hkl, hxx]))
        obtain ⟨tx, htx⟩ : ∃ t, itoaB x = t := ⟨_, rfl⟩
        have htz := itoaB_size x hxI.1 hxI.2
        rw [htx] at htz
        have hsz := lsK_size xs Hx.out k (by rw [Hxn.out]; exact hk)
        have Htx := Lib.hid htx
        by_cases hk0 : 0 < k
        · have hk0' : (0 : Int) < (k : Int) := by omega
          have Hst : Hid (lsK xs k ++ ⟨#[32]⟩ ++ tx = lsK xs (k + 1)) := Lib.hid (by rw [← lsK_step xs k hk0 hkl, hxx, htx])
          obtain ⟨s, hs⟩ : ∃ s, lsK xs k = s := ⟨_, rfl⟩
          rw [hs] at hsz Hst ⊢
          have s1 : ¬ 9223372036854775807 < s.size + 1 := by omega
          have s2 : ¬ 9223372036854775807 < s.size + 1 + tx.size := by omega
          clear hcell hmem htx hxx hkl hs
          go_wp2_with fail
          refine (rnumber_at x tx Htx hxI _).mono ?_
          rintro e w1 ⟨rfl, hB1⟩
          have hB2 := bgo HB.out hB1
          have HB2 := Lib.hid hB2
          clear hB1 hB2 hc
          go_wp2_with fail
          go_roundw
          case rel => exact ⟨k + 1, by omega, by go_num, by rw [← Hst.out], HB2.out⟩
          case measure => simp [intOf]; omega
        · obtain rfl : k = 0 := by omega
          have Hst : Hid ((⟨#[]⟩ : ByteArray) ++ tx = lsK xs 1) := Lib.hid (by rw [← lsK_one xs hkl, hxx, htx])
          have e0 : lsK xs 0 = ⟨#[]⟩ := rfl
          rw [e0]
          have s2 : ¬ 9223372036854775807 < tx.size := by omega
          have hc0 : wr.cell? ⟨b, off, none⟩ = some (.int .i64 x) := hc
          clear hcell hmem htx hxx hkl hsz
          go_wp2_with fail
          refine (rnumber_at x tx Htx hxI _).mono ?_
          rintro e w1 ⟨rfl, hB1⟩
          have hB2 := bgo HB.out hB1
          have HB2 := Lib.hid hB2
          clear hB1 hB2 hc
          go_wp2_with fail
          go_roundw
          case rel => exact ⟨1, by omega, by go_num, by rw [← Hst.out], HB2.out⟩
          case measure => simp [intOf]; omega
      · obtain rfl : k = n := by omega
        have he : lsK xs k = t := by
          rw [← ht.out, ← lsK_all xs (by rw [Hxn.out]; omega), Hxn.out]
        rw [he]
        go_wp2_with fail
        go_ret
        exact ⟨rfl, HB.out⟩
end Go.Proofs.YtfjkmhbipkoefaaDoor
