/- The reference's Leaves (layer 35). The walks of the reference package of digest. The walks of the reference of merkle, first part: LeafText, word, NodeText, Leaf, Node, wrong. -/
import Derived.Test.YtfjkmhbipkoefaaGreatDoorQ27
import Derived.Test.YtfjkmhbipkoefaaGreatDoorQ26
import Derived.Test.YtfjkmhbipkoefaaGreatDoorQ02
import Derived.Test.YtfjkmhbipkoefaaGreatDoorQ01
import Derived.Test.YtfjkmhbipkoefaaGreatDoorQ11
import Derived.Test.YtfjkmhbipkoefaaGreatDoorQ05
namespace Go.Proofs.YtfjkmhbipkoefaaGreatDoor
open Go.RowKit Go.Shelf
set_option linter.unusedVariables false
set_option linter.unusedSimpArgs false
set_option maxRecDepth 100000
set_option maxHeartbeats 8000000 in
theorem rleaves_any (A B : Option Addr) (ca cb n m : Nat) (rows : List RowD) (bl : List Int) (w : World) (hA : Sl w w.heap.size 3 A n (rowsV rows)) (hB : Sl w w.heap.size 1 B m (intV bl))
    (hn : rows.length = n) (hm : bl.length = m) (hnm : n ≤ m) (hnl : n ≤ 1000000) (hml : m ≤ maxLen) (hs : ∀ x ∈ rows, x.l.size ≤ 70368744177000 ∧ x.r.size ≤ 70368744177000 ∧ I64 x.c) (hb : ∀ b ∈ bl, 0 ≤ b ∧ b < 1073741789) :
    Calls Tryz.prog 26 #[.slice A n ca, .slice B m cb] w fun e w' => ∃ C cc, e = .returned (.slice C n cc) ∧ w'.ownsRow w.heap.size 9 1 (.slice C n cc) n (strV (leafK rows bl n)) ∧ Below w.heap.size w w' := by
  have HA := Lib.hid hA
  have HB := Lib.hid hB
  have Hn := Lib.hid hn
  have Hm := Lib.hid hm
  have Hs := Lib.hid hs
  have Hb := Lib.hid hb
  unfold maxLen at hml
  obtain ⟨i0, hi0, hz0, hz1, hz2⟩ := info_parts info_str
  clear hA hB hn hm hs hb
  go_enter Tryz.func26, Tryz.ntmps26
  go_wp2
  go_loopw [5, 6] (fun v q wr => ∃ k : Nat, k ≤ n ∧ q = .int .i64 (k : Int) ∧ wr.ownsRow w.heap.size 9 1 v k (strV (leafK rows bl k)) ∧ Below w.heap.size w wr) (fun _ q _ => n - (intOf q).toNat)
  case atStart => exact ⟨0, Nat.zero_le _, rfl, ⟨rfl, .inl ⟨rfl, rfl⟩⟩, Below.refl _ _⟩
  case round =>
    obtain ⟨k, hk, rfl, hown, hBw⟩ := hrel
    have Hown := Lib.hid hown
    clear hown
    by_cases hlt : k < n
    · have hlt' : (k : Int) < (n : Int) := by omega
      have hkm' : (k : Int) < (m : Int) := by omega
      have hkm : k < m := by omega
      have hkl : k < rows.length := by rw [Hn.out]; exact hlt
      have hkb : k < bl.length := by rw [Hm.out]; omega
      obtain ⟨b1, o1, rfl, hb1, hc1⟩ := HA.out.2 (by omega)
      obtain ⟨b2, o2, rfl, hb2, hc2⟩ := HB.out.2 (by omega)
      obtain ⟨x, hx⟩ : ∃ x, rows[k] = x := ⟨_, rfl⟩
      have hxg : rows.getD k default = x := by rw [List.getD_eq_getElem?_getD, List.getElem?_eq_getElem hkl]; exact hx
      have hget := flat_get rowV 3 (fun _ => rfl) rows k hkl
      rw [hx] at hget
      have hxs := Hs.out x (by rw [← hx]; exact List.getElem_mem hkl)
      obtain ⟨bv, hbv⟩ : ∃ b, bl.getD k 0 = b := ⟨_, rfl⟩
      have hbI : 0 ≤ bv ∧ bv < 1073741789 := by rw [← hbv]; exact Hb.out _ (by simp [List.getD, hkb])
      obtain ⟨xl, xc, xr⟩ := x
      have HY0 : Hid (∀ W, Below w.heap.size w W → W.cell? ⟨b1, o1 + k * 3, none⟩ = some (.string xl)) := Lib.hid fun W h => (h.cell (p := ⟨b1, o1 + k * 3, none⟩) hb1).trans (hc1 _ _ (hget 0 (by decide)))
      have HY1 : Hid (∀ W, Below w.heap.size w W → W.cell? ⟨b1, o1 + k * 3 + 1, none⟩ = some (.int .i64 xc)) := Lib.hid fun W h => (h.cell (p := ⟨b1, o1 + k * 3 + 1, none⟩) hb1).trans (hc1 _ _ (hget 1 (by decide)))
      have HY2 : Hid (∀ W, Below w.heap.size w W → W.cell? ⟨b1, o1 + k * 3 + 2, none⟩ = some (.string xr)) := Lib.hid fun W h => (h.cell (p := ⟨b1, o1 + k * 3 + 2, none⟩) hb1).trans (hc1 _ _ (hget 2 (by decide)))
      have HZ : Hid (∀ W, Below w.heap.size w W → W.cell? ⟨b2, o2 + k, none⟩ = some (.int .i64 bv)) := Lib.hid fun W h => (h.cell (p := ⟨b2, o2 + k, none⟩) hb2).trans (hc2 k _ (by rw [intV_get bl k hkb, hbv]))
      obtain ⟨hs1, hs2, hs3⟩ := hxs
      dsimp only at hs1 hs2 hs3
      obtain ⟨vi, hvi⟩ : ∃ v, xc % 1073741789 = v := ⟨_, rfl⟩
      have hvi1 : 0 ≤ vi ∧ vi < 1073741789 := by omega
      obtain ⟨cx, hcx⟩ : ∃ c, commitI vi bv = c := ⟨_, rfl⟩
      have hcI : -9223372036854775808 ≤ cx ∧ cx ≤ 9223372036854775807 := by
        have h1 := comI_bd vi bv
        unfold comI at h1
        rw [if_pos hbI, hcx] at h1
        exact ⟨by omega, by omega⟩
      obtain ⟨t, ht⟩ : ∃ t, leafB xl cx xr = t := ⟨_, rfl⟩
      have Hlf : Hid (leafK rows bl (k + 1) = leafK rows bl k ++ [t]) := Lib.hid (by rw [leafK_snoc, hxg, hbv, leafAt]; unfold comI; dsimp only; rw [hvi, if_pos hbI, hcx, ht])
      have Hcx := Lib.hid hcx
      have Ht := Lib.hid ht
      have Hvi := Lib.hid hvi
      have hBd := hBw.drew
      clear hcx ht hvi hx hxg hget hc1 hc2 hbv hkl hkb
      go_upto_region 5 with fail
      refine wp_region_noPanic ?_
      refine wp_region_held_drew (S := fun W => W.cell? ⟨b1, o1 + k * 3 + 1, none⟩ = some (.int .i64 xc) ∧ W.cell? ⟨b2, o2 + k, none⟩ = some (.int .i64 bv)) (by kernel_rfl) ⟨HY1.out _ hBd, HZ.out _ hBd⟩ (fun hHeld => ?_)
      refine wpAnyH_take (i := 0) (v := ?_) rfl (by kernel_rfl) (by kernel_rfl) (by kernel_rfl) (fun _ _ _ h => h) (Or.inl ⟨by kernel_rfl, ?_⟩) (by assumption) ?_
      rotate_left
      · intro w hSw
        (try dsimp only at hSw)
        go_simp
        first | done | with_reducible rfl
      simp only [List.getElem_toArray, List.getElem_cons_zero, List.getElem_cons_succ, Act.put, List.setIfInBounds_toArray, List.set_cons_zero, List.set_cons_succ]
      refine wpAnyH_take (i := 1) (v := ?_) rfl (by kernel_rfl) (by kernel_rfl) (by kernel_rfl) (fun _ _ _ h => h) (Or.inl ⟨by kernel_rfl, ?_⟩) (by assumption) ?_
      rotate_left
      · intro w hSw
        (try dsimp only at hSw)
        go_simp
        first | done | with_reducible rfl
      simp only [List.getElem_toArray, List.getElem_cons_zero, List.getElem_cons_succ, Act.put, List.setIfInBounds_toArray, List.set_cons_zero, List.set_cons_succ]
      refine wpAnyH_take (i := 2) (v := ?_) rfl (by kernel_rfl) (by kernel_rfl) (by kernel_rfl) (fun _ _ _ h => h) (Or.inl ⟨by kernel_rfl, ?_⟩) (by assumption) ?_
      rotate_left
      · intro w hSw
        (try dsimp only at hSw)
        go_simp
        first | done | with_reducible rfl
      simp only [List.getElem_toArray, List.getElem_cons_zero, List.getElem_cons_succ, Act.put, List.setIfInBounds_toArray, List.set_cons_zero, List.set_cons_succ]
      refine wpAnyH_take (i := 3) (v := ?_) rfl (by kernel_rfl) (by kernel_rfl) (by kernel_rfl) (fun _ _ _ h => h) (Or.inl ⟨by kernel_rfl, ?_⟩) (by assumption) ?_
      rotate_left
      · intro w hSw
        (try dsimp only at hSw)
        go_simp
        first | done | with_reducible rfl
      simp only [List.getElem_toArray, List.getElem_cons_zero, List.getElem_cons_succ, Act.put, List.setIfInBounds_toArray, List.set_cons_zero, List.set_cons_succ]
      refine wpAnyH_take (i := 4) (v := ?_) rfl (by kernel_rfl) (by kernel_rfl) (by kernel_rfl) (fun _ _ _ h => h) (Or.inl ⟨by kernel_rfl, ?_⟩) (by assumption) ?_
      rotate_left
      · intro w hSw
        (try dsimp only at hSw)
        have z := hSw.1
        go_simp
        first | done | with_reducible rfl
      simp only [List.getElem_toArray, List.getElem_cons_zero, List.getElem_cons_succ, Act.put, List.setIfInBounds_toArray, List.set_cons_zero, List.set_cons_succ]
      refine wpAnyH_take (i := 6) (v := ?_) rfl (by kernel_rfl) (by kernel_rfl) (by kernel_rfl) (fun _ _ _ h => h) (Or.inl ⟨by kernel_rfl, ?_⟩) (by assumption) ?_
      rotate_left
      · intro w hSw
        (try dsimp only at hSw)
        go_simp
        first | done | with_reducible rfl
      simp only [List.getElem_toArray, List.getElem_cons_zero, List.getElem_cons_succ, Act.put, List.setIfInBounds_toArray, List.set_cons_zero, List.set_cons_succ]
      refine wpAnyH_take (i := 7) (v := ?_) rfl (by kernel_rfl) (by kernel_rfl) (by kernel_rfl) (fun _ _ _ h => h) (Or.inl ⟨by kernel_rfl, ?_⟩) (by assumption) ?_
      rotate_left
      · intro w hSw
        (try dsimp only at hSw)
        go_simp
        first | done | with_reducible rfl
      simp only [List.getElem_toArray, List.getElem_cons_zero, List.getElem_cons_succ, Act.put, List.setIfInBounds_toArray, List.set_cons_zero, List.set_cons_succ]
      refine wpAnyH_take (i := 8) (v := ?_) rfl (by kernel_rfl) (by kernel_rfl) (by kernel_rfl) (fun _ _ _ h => h) (Or.inl ⟨by kernel_rfl, ?_⟩) (by assumption) ?_
      rotate_left
      · intro w hSw
        (try dsimp only at hSw)
        go_simp
        first | done | with_reducible rfl
      simp only [List.getElem_toArray, List.getElem_cons_zero, List.getElem_cons_succ, Act.put, List.setIfInBounds_toArray, List.set_cons_zero, List.set_cons_succ]
      refine wpAnyH_take (i := 9) (v := ?_) rfl (by kernel_rfl) (by kernel_rfl) (by kernel_rfl) (fun _ _ _ h => h) (Or.inl ⟨by kernel_rfl, ?_⟩) (by assumption) ?_
      rotate_left
      · intro w hSw
        (try dsimp only at hSw)
        have z := hSw.2
        go_simp
        first | done | with_reducible rfl
      simp only [List.getElem_toArray, List.getElem_cons_zero, List.getElem_cons_succ, Act.put, List.setIfInBounds_toArray, List.set_cons_zero, List.set_cons_succ]
      refine wpAnyH_ready (rs := [5]) (by kernel_rfl) (by simp) ?_
      refine AllReadyH.cons rfl (fun K hK => ?_) AllReadyH.nil
      simp only [List.getElem_toArray, List.getElem_cons_zero, List.getElem_cons_succ]
      go_simp
      (with_reducible refine (pvalue_any xc vi Hvi wr.drew).mono ?_)
      rintro e w1 ⟨rfl, hB1⟩
      dsimp only
      have hBw1 := bgo hBd hB1
      refine hK.out _ _ ⟨HY1.out _ hBw1, HZ.out _ hBw1⟩ (fun hHeld => ?_)
      clear hK K
      try simp only [List.getElem_toArray, List.getElem_cons_zero, List.getElem_cons_succ, Act.put, List.setIfInBounds_toArray, List.set_cons_zero, List.set_cons_succ]
      refine wpAnyH_ready (rs := [10]) (by kernel_rfl) (by simp) ?_
      refine AllReadyH.cons rfl (fun K hK => ?_) AllReadyH.nil
      simp only [List.getElem_toArray, List.getElem_cons_zero, List.getElem_cons_succ]
      go_simp
      (with_reducible refine (rcommit_v vi bv cx Hcx w1 hvi1.1 hvi1.2 hbI.1 hbI.2).mono ?_)
      rintro e w1b ⟨rfl, hw1b⟩
      obtain rfl := hw1b
      dsimp only
      refine hK.out _ _ ⟨HY1.out _ hBw1, HZ.out _ hBw1⟩ (fun hHeld => ?_)
      clear hK K
      try simp only [List.getElem_toArray, List.getElem_cons_zero, List.getElem_cons_succ, Act.put, List.setIfInBounds_toArray, List.set_cons_zero, List.set_cons_succ]
      refine wpAnyH_take (i := 11) (v := ?_) rfl (by kernel_rfl) (by kernel_rfl) (by kernel_rfl) (fun _ _ _ h => h) (Or.inl ⟨by kernel_rfl, ?_⟩) (by assumption) ?_
      rotate_left
      · intro w hSw
        (try dsimp only at hSw)
        go_simp
        first | done | with_reducible rfl
      simp only [List.getElem_toArray, List.getElem_cons_zero, List.getElem_cons_succ, Act.put, List.setIfInBounds_toArray, List.set_cons_zero, List.set_cons_succ]
      refine wpAnyH_take (i := 12) (v := ?_) rfl (by kernel_rfl) (by kernel_rfl) (by kernel_rfl) (fun _ _ _ h => h) (Or.inl ⟨by kernel_rfl, ?_⟩) (by assumption) ?_
      rotate_left
      · intro w hSw
        (try dsimp only at hSw)
        go_simp
        first | done | with_reducible rfl
      simp only [List.getElem_toArray, List.getElem_cons_zero, List.getElem_cons_succ, Act.put, List.setIfInBounds_toArray, List.set_cons_zero, List.set_cons_succ]
      refine wpAnyH_take (i := 13) (v := ?_) rfl (by kernel_rfl) (by kernel_rfl) (by kernel_rfl) (fun _ _ _ h => h) (Or.inl ⟨by kernel_rfl, ?_⟩) (by assumption) ?_
      rotate_left
      · intro w hSw
        (try dsimp only at hSw)
        go_simp
        first | done | with_reducible rfl
      simp only [List.getElem_toArray, List.getElem_cons_zero, List.getElem_cons_succ, Act.put, List.setIfInBounds_toArray, List.set_cons_zero, List.set_cons_succ]
      refine wpAnyH_take (i := 14) (v := ?_) rfl (by kernel_rfl) (by kernel_rfl) (by kernel_rfl) (fun _ _ _ h => h) (Or.inl ⟨by kernel_rfl, ?_⟩) (by assumption) ?_
      rotate_left
      · intro w hSw
        (try dsimp only at hSw)
        go_simp
        first | done | with_reducible rfl
      simp only [List.getElem_toArray, List.getElem_cons_zero, List.getElem_cons_succ, Act.put, List.setIfInBounds_toArray, List.set_cons_zero, List.set_cons_succ]
      refine wpAnyH_take (i := 15) (v := ?_) rfl (by kernel_rfl) (by kernel_rfl) (by kernel_rfl) (fun _ _ _ h => h) (Or.inl ⟨by kernel_rfl, ?_⟩) (by assumption) ?_
      rotate_left
      · intro w hSw
        (try dsimp only at hSw)
        go_simp
        first | done | with_reducible rfl
      simp only [List.getElem_toArray, List.getElem_cons_zero, List.getElem_cons_succ, Act.put, List.setIfInBounds_toArray, List.set_cons_zero, List.set_cons_succ]
      refine wpAnyH_done (by kernel_rfl) ?_ _
      dsimp only [NoPanic]
      clear hHeld
      have hBd1 := hBw1.drew
      have HO1 := Lib.hid (own_below Hown.out (bgo (Below.refl wr.heap.size wr).drew hB1))
      go_upto_region 6 with fail
      refine wp_region_noPanic ?_
      refine wp_region_held_drew (S := fun W => W.cell? ⟨b1, o1 + k * 3, none⟩ = some (.string xl) ∧ W.cell? ⟨b1, o1 + k * 3 + 2, none⟩ = some (.string xr)) (by kernel_rfl) ⟨HY0.out _ hBd1, HY2.out _ hBd1⟩ (fun hHeld => ?_)
      refine wpAnyH_take (i := 0) (v := ?_) rfl (by kernel_rfl) (by kernel_rfl) (by kernel_rfl) (fun _ _ _ h => h) (Or.inl ⟨by kernel_rfl, ?_⟩) (by assumption) ?_
      rotate_left
      · intro w hSw
        (try dsimp only at hSw)
        go_simp
        first | done | with_reducible rfl
      simp only [List.getElem_toArray, List.getElem_cons_zero, List.getElem_cons_succ, Act.put, List.setIfInBounds_toArray, List.set_cons_zero, List.set_cons_succ]
      refine wpAnyH_take (i := 1) (v := ?_) rfl (by kernel_rfl) (by kernel_rfl) (by kernel_rfl) (fun _ _ _ h => h) (Or.inl ⟨by kernel_rfl, ?_⟩) (by assumption) ?_
      rotate_left
      · intro w hSw
        (try dsimp only at hSw)
        go_simp
        first | done | with_reducible rfl
      simp only [List.getElem_toArray, List.getElem_cons_zero, List.getElem_cons_succ, Act.put, List.setIfInBounds_toArray, List.set_cons_zero, List.set_cons_succ]
      refine wpAnyH_take (i := 2) (v := ?_) rfl (by kernel_rfl) (by kernel_rfl) (by kernel_rfl) (fun _ _ _ h => h) (Or.inl ⟨by kernel_rfl, ?_⟩) (by assumption) ?_
      rotate_left
      · intro w hSw
        (try dsimp only at hSw)
        go_simp
        first | done | with_reducible rfl
      simp only [List.getElem_toArray, List.getElem_cons_zero, List.getElem_cons_succ, Act.put, List.setIfInBounds_toArray, List.set_cons_zero, List.set_cons_succ]
      refine wpAnyH_take (i := 3) (v := ?_) rfl (by kernel_rfl) (by kernel_rfl) (by kernel_rfl) (fun _ _ _ h => h) (Or.inl ⟨by kernel_rfl, ?_⟩) (by assumption) ?_
      rotate_left
      · intro w hSw
        (try dsimp only at hSw)
        go_simp
        first | done | with_reducible rfl
      simp only [List.getElem_toArray, List.getElem_cons_zero, List.getElem_cons_succ, Act.put, List.setIfInBounds_toArray, List.set_cons_zero, List.set_cons_succ]
      refine wpAnyH_take (i := 4) (v := ?_) rfl (by kernel_rfl) (by kernel_rfl) (by kernel_rfl) (fun _ _ _ h => h) (Or.inl ⟨by kernel_rfl, ?_⟩) (by assumption) ?_
      rotate_left
      · intro w hSw
        (try dsimp only at hSw)
        go_simp
        first | done | with_reducible rfl
      simp only [List.getElem_toArray, List.getElem_cons_zero, List.getElem_cons_succ, Act.put, List.setIfInBounds_toArray, List.set_cons_zero, List.set_cons_succ]
      refine wpAnyH_take (i := 5) (v := ?_) rfl (by kernel_rfl) (by kernel_rfl) (by kernel_rfl) (fun _ _ _ h => h) (Or.inl ⟨by kernel_rfl, ?_⟩) (by assumption) ?_
      rotate_left
      · intro w hSw
        (try dsimp only at hSw)
        have z := hSw.1
        go_simp
        first | done | with_reducible rfl
      simp only [List.getElem_toArray, List.getElem_cons_zero, List.getElem_cons_succ, Act.put, List.setIfInBounds_toArray, List.set_cons_zero, List.set_cons_succ]
      refine wpAnyH_take (i := 6) (v := ?_) rfl (by kernel_rfl) (by kernel_rfl) (by kernel_rfl) (fun _ _ _ h => h) (Or.inl ⟨by kernel_rfl, ?_⟩) (by assumption) ?_
      rotate_left
      · intro w hSw
        (try dsimp only at hSw)
        go_simp
        first | done | with_reducible rfl
      simp only [List.getElem_toArray, List.getElem_cons_zero, List.getElem_cons_succ, Act.put, List.setIfInBounds_toArray, List.set_cons_zero, List.set_cons_succ]
      refine wpAnyH_take (i := 7) (v := ?_) rfl (by kernel_rfl) (by kernel_rfl) (by kernel_rfl) (fun _ _ _ h => h) (Or.inl ⟨by kernel_rfl, ?_⟩) (by assumption) ?_
      rotate_left
      · intro w hSw
        (try dsimp only at hSw)
        go_simp
        first | done | with_reducible rfl
      simp only [List.getElem_toArray, List.getElem_cons_zero, List.getElem_cons_succ, Act.put, List.setIfInBounds_toArray, List.set_cons_zero, List.set_cons_succ]
      refine wpAnyH_take (i := 8) (v := ?_) rfl (by kernel_rfl) (by kernel_rfl) (by kernel_rfl) (fun _ _ _ h => h) (Or.inl ⟨by kernel_rfl, ?_⟩) (by assumption) ?_
      rotate_left
      · intro w hSw
        (try dsimp only at hSw)
        go_simp
        first | done | with_reducible rfl
      simp only [List.getElem_toArray, List.getElem_cons_zero, List.getElem_cons_succ, Act.put, List.setIfInBounds_toArray, List.set_cons_zero, List.set_cons_succ]
      refine wpAnyH_take (i := 9) (v := ?_) rfl (by kernel_rfl) (by kernel_rfl) (by kernel_rfl) (fun _ _ _ h => h) (Or.inl ⟨by kernel_rfl, ?_⟩) (by assumption) ?_
      rotate_left
      · intro w hSw
        (try dsimp only at hSw)
        go_simp
        first | done | with_reducible rfl
      simp only [List.getElem_toArray, List.getElem_cons_zero, List.getElem_cons_succ, Act.put, List.setIfInBounds_toArray, List.set_cons_zero, List.set_cons_succ]
      refine wpAnyH_take (i := 10) (v := ?_) rfl (by kernel_rfl) (by kernel_rfl) (by kernel_rfl) (fun _ _ _ h => h) (Or.inl ⟨by kernel_rfl, ?_⟩) (by assumption) ?_
      rotate_left
      · intro w hSw
        (try dsimp only at hSw)
        go_simp
        first | done | with_reducible rfl
      simp only [List.getElem_toArray, List.getElem_cons_zero, List.getElem_cons_succ, Act.put, List.setIfInBounds_toArray, List.set_cons_zero, List.set_cons_succ]
      refine wpAnyH_take (i := 11) (v := ?_) rfl (by kernel_rfl) (by kernel_rfl) (by kernel_rfl) (fun _ _ _ h => h) (Or.inl ⟨by kernel_rfl, ?_⟩) (by assumption) ?_
      rotate_left
      · intro w hSw
        (try dsimp only at hSw)
        have z := hSw.2
        go_simp
        first | done | with_reducible rfl
      simp only [List.getElem_toArray, List.getElem_cons_zero, List.getElem_cons_succ, Act.put, List.setIfInBounds_toArray, List.set_cons_zero, List.set_cons_succ]
      refine wpAnyH_ready (rs := [12]) (by kernel_rfl) (by simp) ?_
      refine AllReadyH.cons rfl (fun K hK => ?_) ?_
      · simp only [List.getElem_toArray, List.getElem_cons_zero, List.getElem_cons_succ]
        go_simp
        (with_reducible refine (rleafP_any xl cx xr t Ht hcI hs1 hs2 w1.drew).mono ?_)
        rintro e w2 ⟨rfl, hB2⟩
        dsimp only
        have hBw2 := bgo hBd1 hB2
        have HO2 := Lib.hid (own_below HO1.out (bgo (Below.refl w1.heap.size w1).drew hB2))
        refine hK.out _ _ ⟨HY0.out _ hBw2, HY2.out _ hBw2⟩ (fun hHeld => ?_)
        clear hK K
        try simp only [List.getElem_toArray, List.getElem_cons_zero, List.getElem_cons_succ, Act.put, List.setIfInBounds_toArray, List.set_cons_zero, List.set_cons_succ]
        refine wpAnyH_ready (rs := [13]) (by kernel_rfl) (by simp) ?_
        refine AllReadyH.cons rfl (fun K hK => ?_) ?_
        · simp only [List.getElem_toArray, List.getElem_cons_zero, List.getElem_cons_succ]
          go_simp
          obtain ⟨w3, hw3⟩ : ∃ x, x = w2.alloc (.cells #[.string t] 9) := ⟨_, rfl⟩
          obtain ⟨nb, hnb⟩ : ∃ x, x = w2.heap.size := ⟨_, rfl⟩
          rw [← hw3, ← hnb]
          have hBw3 : Below w.heap.size w w3 := by rw [hw3]; exact bal hBw2 _
          have own3 : w3.ownsRow w.heap.size 9 1 u5 k (strV (leafK rows bl k)) := by rw [hw3]; exact HO2.out.alloc _
          have src3 : Src w3 1 (.slice (some ⟨nb, 0, none⟩) 1 1) 1 [.string t] := by rw [hw3, hnb]; exact block_src w2 [.string t] _ _ 1 1 1 rfl
          clear hw3 hnb
          refine hK.out _ _ ⟨HY0.out _ hBw3, HY2.out _ hBw3⟩ (fun hHeld => ?_)
          clear hK K
          try simp only [List.getElem_toArray, List.getElem_cons_zero, List.getElem_cons_succ, Act.put, List.setIfInBounds_toArray, List.set_cons_zero, List.set_cons_succ]
          refine wpAnyH_ready (rs := [14]) (by kernel_rfl) (by simp) ?_
          refine AllReadyH.cons rfl (fun K hK => ?_) ?_
          · refine step_src (w0 := w) (by rfl) _ _ 51 (by rfl) 9 i0 (.string ⟨#[]⟩) 1 16 Tryz.underlying51 hi0 hz0 hz1 hz2 (by rfl) (by decide) u5 k (strV (leafK rows bl k)) (by rfl) own3 hBw3 (.slice (some ⟨nb, 0, none⟩) 1 1) 1 [.string t] (by rfl) src3 (by simp [Value.oneCell']) (by unfold maxLen; omega) (by omega) ?_
            intro v4 w4 hown4 hB4 _
            have HO4 := Lib.hid hown4
            refine hK.out _ _ ⟨HY0.out _ hB4, HY2.out _ hB4⟩ (fun hHeld => ?_)
            clear hK K
            try simp only [List.getElem_toArray, List.getElem_cons_zero, List.getElem_cons_succ, Act.put, List.setIfInBounds_toArray, List.set_cons_zero, List.set_cons_succ]
            refine wpAnyH_take (i := 15) (v := ?_) rfl (by kernel_rfl) (by kernel_rfl) (by kernel_rfl) (fun _ _ _ h => h) (Or.inl ⟨by kernel_rfl, ?_⟩) (by assumption) ?_
            rotate_left
            · intro w hSw
              (try dsimp only at hSw)
              go_simp
              first | done | with_reducible rfl
            simp only [List.getElem_toArray, List.getElem_cons_zero, List.getElem_cons_succ, Act.put, List.setIfInBounds_toArray, List.set_cons_zero, List.set_cons_succ]
            refine wpAnyH_done (by kernel_rfl) ?_ _
            dsimp only [NoPanic]
            clear hHeld
            go_wp2_with fail
            go_roundw
            case rel => exact ⟨k + 1, by omega, by go_num, by rw [Hlf.out, strV_snoc']; exact HO4.out, hB4⟩
            case measure => simp [intOf]; omega
          exact AllReadyH.nil
        exact AllReadyH.nil
      exact AllReadyH.nil
    · obtain rfl : k = n := by omega
      obtain ⟨C, cc, hv, _⟩ := own_slice Hown.out
      subst hv
      go_wp2
      go_ret
      exact ⟨_, _, rfl, Hown.out, hBw⟩
end Go.Proofs.YtfjkmhbipkoefaaGreatDoor
namespace Go.Proofs.YtfjkmhbipkoefaaGreatDoor
open Go.RowKit
theorem u64_quo_k (a : UInt64) (k : Nat) (hk : k < 64) : IntKind.u64.wrap ((a.toNat : Int).tdiv ((2 ^ k : Nat) : Int)) = ((a >>> UInt64.ofNat k).toNat : Int) := by
  rw [← u64_shr_k a k hk, Int.tdiv_eq_ediv_of_nonneg (by omega), IntKind.wrap_u64]
  have h1 := a.toNat_lt
  have h2 : (a.toNat : Int) / ((2 ^ k : Nat) : Int) ≤ a.toNat := Int.ediv_le_self _ (by omega)
  have h3 : 0 ≤ (a.toNat : Int) / ((2 ^ k : Nat) : Int) := Int.ediv_nonneg (by omega) (Int.natCast_nonneg _)
  exact Int.emod_eq_of_lt h3 (by omega)
theorem u64_quo_32 (a : UInt64) : IntKind.u64.wrap ((a.toNat : Int).tdiv (4294967296 : Int)) = ((a >>> 32).toNat : Int) := u64_quo_k a 32 (by decide)
theorem u64_quo_31 (a : UInt64) : IntKind.u64.wrap ((a.toNat : Int).tdiv (2147483648 : Int)) = ((a >>> 31).toNat : Int) := u64_quo_k a 31 (by decide)
theorem u64_quo_27 (a : UInt64) : IntKind.u64.wrap ((a.toNat : Int).tdiv (134217728 : Int)) = ((a >>> 27).toNat : Int) := u64_quo_k a 27 (by decide)
theorem u64_quo_33 (a : UInt64) : IntKind.u64.wrap ((a.toNat : Int).tdiv (8589934592 : Int)) = ((a >>> 33).toNat : Int) := u64_quo_k a 33 (by decide)
set_option maxHeartbeats 400000 in
theorem rstate_any (s : ByteArray) (w : World) (hs : s.size ≤ maxLen) : Calls Tryz.prog 96 #[.string s] w fun e w' => e = .returned (.int .u64 (Dig.state s.data.toList).toNat) ∧ w = w' := by
  unfold maxLen at hs
  go_enter Tryz.func96, Tryz.ntmps96
  go_wp2
  go_loop [3, 4] (fun v i => ∃ k : Nat, k ≤ s.size ∧ i = .int .i64 k ∧ v = .int .u64 ((s.data.toList.take k).foldl Dig.feed Dig.init).toNat) (fun _ i => s.size - (intOf i).toNat)
  case atStart => exact ⟨0, Nat.zero_le _, rfl, rfl⟩
  case round =>
    obtain ⟨k, hk, rfl, rfl⟩ := hrel
    by_cases hlt : k < s.size
    · have HS := Lib.hid (take_snoc s k hlt)
      go_wp2
      simp only [u64_of_u8, u64_xor_uu, u64_mul_feed, u64_quo_32]
      go_round
      case rel => exact ⟨k + 1, by omega, by go_num, by rw [HS.out, List.foldl_append]; rfl⟩
      case measure => simp [intOf]; omega
    · have hE : s.data.toList.take k = s.data.toList := List.take_of_length_le (by simp; omega)
      have HE := Lib.hid hE
      clear hE
      go_wp2
      go_ret
      simp only [HE.out]
      exact ⟨rfl, trivial⟩
theorem rfinish_any (s : UInt64) (n : Nat) (hn : n ≤ maxLen) (w : World) : Calls Tryz.prog 95 #[.int .u64 s.toNat, .int .i64 n] w fun e w' => e = .returned (.int .u64 (Dig.finish s (UInt64.ofNat n)).toNat) ∧ w = w' := by
  unfold maxLen at hn
  go_enter Tryz.func95, Tryz.ntmps95
  go_wp2
  go_ret
  simp only [u64_xor_un _ n (by omega), u64_xor_uu, u64_mul_first, u64_quo_31, u64_mul_second, u64_quo_27, u64_quo_33]
  exact ⟨rfl, trivial⟩
theorem rsum_any (s : ByteArray) (w : World) (hs : s.size ≤ maxLen) : Calls Tryz.prog 82 #[.string s] w fun e w' => e = .returned (.int .u64 (Dig.sum s.data.toList).toNat) ∧ w = w' := by
  go_enter Tryz.func82, Tryz.ntmps82
  go_wp2_with fail
  refine (rstate_any _ _ hs).mono ?_
  rintro e w' ⟨rfl, rfl⟩
  go_wp2_with fail
  refine (rfinish_any _ _ hs _).mono ?_
  rintro e w' ⟨rfl, rfl⟩
  go_wp2_with fail
  go_ret
  refine ⟨?_, rfl⟩
  unfold Dig.sum
  rw [show s.data.toList.length = s.size by simp]
  rfl
end Go.Proofs.YtfjkmhbipkoefaaGreatDoor
namespace Go.Proofs.YtfjkmhbipkoefaaGreatDoor
open Go.RowKit Go.Shelf
set_option linter.unusedVariables false
theorem info_u8 : (Tryz.prog.info? 5).map (fun i => (i.zero, i.size, i.bytes)) = some (some (.int .u8 0), 1, 1) := by kernel_rfl
def u8V (l : List UInt8) : List Value := l.map fun b => Value.int .u8 b.toNat
theorem own_back {W : World} {base g cap n : Nat} {l : List UInt8} (hn : l.length = n) (h : W.ownsRow base 5 1 (.slice (some ⟨g, 0, none⟩) n cap) n (u8V l)) :
    (convert 73 9 (.slice (some ⟨g, 0, none⟩) n cap)).run Tryz.prog W = .ok (.string ⟨l.toArray⟩) W := by
  subst hn
  refine run_convert_bytes_back (P := Tryz.prog) W 73 9 5 ⟨g, 0, none⟩ cap l Tryz.underlying73 Tryz.underlying5 Tryz.underlying9 ?_
  intro j hj
  rw [Addr.add_lit, Nat.zero_add]
  exact (h.cellAt j (by omega)).trans (by simp [u8V, hj])
theorem rleafText_any (s : ByteArray) (w : World) (hs : s.size ≤ 140737488355328) : Calls Tryz.prog 93 #[.string s] w fun e w' => e = .returned (.string ⟨(0 :: s.data.toList).toArray⟩) ∧ Below w.heap.size w w' := by
  have h1 : ¬ (9223372036854775807 < 1 + s.size) := by omega
  have k := byte_back (w.alloc (.cells #[.int .u8 0] 5)) w.heap.size 0 (by simp [go_sem])
  have e : (⟨[(0 : UInt8)].toArray⟩ : ByteArray) ++ s = ⟨(0 :: s.data.toList).toArray⟩ := by apply ByteArray.ext; simp [ByteArray.data_append]
  have He := Lib.hid e
  clear e
  have hsz : (⟨[(0 : UInt8)].toArray⟩ : ByteArray).size = 1 := rfl
  go_enter Tryz.func93, Tryz.ntmps93
  go_wp2
  go_ret
  refine ⟨?_, (Below.refl _ _).alloc (Nat.le_refl _) _⟩
  rw [← He.out]
  rfl
set_option maxHeartbeats 2000000 in
theorem word_any (d : UInt64) (w : World) : Calls Tryz.prog 103 #[.int .u64 d.toNat] w fun e w' => e = .returned (.slice (some ⟨w.heap.size, 0, none⟩) 8 8) ∧ w' = w.alloc (.cells #[.int .u8 (Dig.byte d 7).toNat, .int .u8 (Dig.byte d 6).toNat, .int .u8 (Dig.byte d 5).toNat, .int .u8 (Dig.byte d 4).toNat, .int .u8 (Dig.byte d 3).toNat, .int .u8 (Dig.byte d 2).toNat, .int .u8 (Dig.byte d 1).toNat, .int .u8 (Dig.byte d 0).toNat] 5) := by
  have hd0 : (0 : Int) ≤ (d.toNat : Int) := Int.natCast_nonneg _
  have hd1 : (d.toNat : Int) ≤ 18446744073709551615 := by have := d.toNat_lt; omega
  have hmk : ∀ w : World, (Instr.makeSlice 73 (.int .i64 8) (.int .i64 8)).run Tryz.prog w = .ok (.slice (some ⟨w.heap.size, 0, none⟩) 8 8) (w.alloc (.cells #[.int .u8 0, .int .u8 0, .int .u8 0, .int .u8 0, .int .u8 0, .int .u8 0, .int .u8 0, .int .u8 0] 5)) := fun _ => by kernel_rfl
  go_enter Tryz.func103, Tryz.ntmps103
  go_wp2
  go_rounds 9
  go_ret
  simp only [byteV0, byteV1, byteV2, byteV3, byteV4, byteV5, byteV6, byteV7]
  exact ⟨rfl, trivial⟩
theorem nodeT_split (a b : UInt64) : u8V (Mk.nodeT a b) = .int .u8 1 :: (u8V (Dig.be8 a) ++ u8V (Dig.be8 b)) := by simp [u8V, Mk.nodeT]
set_option maxRecDepth 100000 in
set_option maxHeartbeats 1000000 in
theorem rnodeText_any (a b : UInt64) (w : World) : Calls Tryz.prog 94 #[.int .u64 a.toNat, .int .u64 b.toNat] w fun e w' => e = .returned (.string ⟨(Mk.nodeT a b).toArray⟩) ∧ Below w.heap.size w w' := by
  obtain ⟨i0, hi0, hz0, hz1, hz2⟩ := info_parts info_u8
  have hown0 : (w.alloc (.cells #[.int .u8 1] 5)).ownsRow w.heap.size 5 1 (.slice (some ⟨w.heap.size, 0, none⟩) 1 1) 1 [.int .u8 1] := ⟨rfl, .inr ⟨w.heap.size, 1, #[.int .u8 1], rfl, Nat.le_refl _, World.alloc_heap_new w _, Nat.le_refl _, by unfold maxLen; omega, rfl, rfl⟩⟩
  have hB0 : Below w.heap.size w (w.alloc (.cells #[.int .u8 1] 5)) := (Below.refl _ _).alloc (Nat.le_refl _) _
  have G := Lib.hid (And.intro hown0 hB0)
  clear hown0 hB0
  go_enter Tryz.func94, Tryz.ntmps94
  go_wp2_with fail
  obtain ⟨w1, hw1⟩ : ∃ w1, w1 = w.alloc (.cells #[.int .u8 1] 5) := ⟨_, rfl⟩
  rw [← hw1] at G ⊢
  have hz : w1.heap.size = w.heap.size + 1 := by rw [hw1]; simp
  have Hz := Lib.hid hz
  clear hw1 hz
  refine (word_any _ _).mono ?_
  rintro e w2 ⟨rfl, rfl⟩
  go_wp2_with (at_builtin; refine app_all rfl _ _ 73 rfl 5 i0 (.int .u8 0) 1 1 Tryz.underlying73 hi0 hz0 hz1 hz2 rfl (by decide) _ 1 _ rfl (G.out.1.alloc _) (bal G.out.2 _) ⟨w1.heap.size, 0, none⟩ 8 8 (u8V (Dig.be8 a)) rfl rfl (World.news_of_block (World.alloc_heap_new _ _)) (by simp [u8V, Dig.be8, Value.oneCell']) (by unfold maxLen; omega) (by omega) ?_)
  intro v3 w3 hown3 hB3 hoth
  clear hoth
  obtain ⟨g3, cap3, hv3⟩ := ownsRow_succ hown3
  subst hv3
  have H3 := Lib.hid (And.intro hown3 hB3)
  clear hown3 hB3
  go_wp2_with fail
  refine (word_any _ _).mono ?_
  rintro e w4 ⟨rfl, rfl⟩
  go_wp2_with (at_builtin; refine app_all rfl _ _ 73 rfl 5 i0 (.int .u8 0) 1 1 Tryz.underlying73 hi0 hz0 hz1 hz2 rfl (by decide) _ 9 _ rfl (H3.out.1.alloc _) (bal H3.out.2 _) ⟨w3.heap.size, 0, none⟩ 8 8 (u8V (Dig.be8 b)) rfl rfl (World.news_of_block (World.alloc_heap_new _ _)) (by simp [u8V, Dig.be8, Value.oneCell']) (by unfold maxLen; omega) (by omega) ?_)
  intro v5 w5 hown5 hB5 hoth
  clear hoth
  obtain ⟨g5, cap5, hv5⟩ := ownsRow_succ hown5
  subst hv5
  rw [← nodeT_split] at hown5
  have hconv := own_back (show (Mk.nodeT a b).length = 17 from rfl) hown5
  clear hown5
  go_wp2
  go_ret
  exact ⟨rfl, hB5⟩
theorem rleaf_any (s : ByteArray) (w : World) (hs : s.size ≤ 140737488355328) : Calls Tryz.prog 80 #[.string s] w fun e w' => e = .returned (.int .u64 (Mk.leafD s.data.toList).toNat) ∧ Below w.heap.size w w' := by
  go_enter Tryz.func80, Tryz.ntmps80
  go_wp2_with fail
  refine (rleafText_any _ _ hs).mono ?_
  rintro e w1 ⟨rfl, hB1⟩
  go_wp2_with fail
  refine (rsum_any _ _ (leaf_size _ hs)).mono ?_
  rintro e w' ⟨rfl, rfl⟩
  go_wp2
  go_ret
  exact ⟨rfl, hB1⟩
theorem rnode_any (a b : UInt64) (w : World) : Calls Tryz.prog 81 #[.int .u64 a.toNat, .int .u64 b.toNat] w fun e w' => e = .returned (.int .u64 (Dig.pair a b).toNat) ∧ Below w.heap.size w w' := by
  go_enter Tryz.func81, Tryz.ntmps81
  go_wp2_with fail
  refine (rnodeText_any _ _ _).mono ?_
  rintro e w1 ⟨rfl, hB1⟩
  go_wp2_with fail
  refine (rsum_any _ _ (node_size _ _)).mono ?_
  rintro e w' ⟨rfl, rfl⟩
  go_wp2
  go_ret
  exact ⟨rfl, hB1⟩
theorem wrong_any (A : Option Addr) (n c : Nat) (w : World) (e : Int) (hn : n ≤ maxLen) (he : checkE n = e) : Calls Tryz.prog 59 #[.slice A n c] w fun r w' => r = .returned (.int .i64 e) ∧ w = w' := by
  subst he
  unfold maxLen at hn
  by_cases h0 : n = 0
  · have h1 : ((n : Int) == 0) = true := by simp [h0]
    have h2 : checkE n = 1 := by unfold checkE; rw [if_pos h0]
    rw [h2]
    go_enter Tryz.func59, Tryz.ntmps59
    go_wp2
    go_ret
    exact ⟨rfl, rfl⟩
  · have h1 : ((n : Int) == 0) = false := by simp; omega
    by_cases h3 : 1024 < n
    · have h2 : checkE n = 2 := by unfold checkE; rw [if_neg h0, if_pos h3]
      rw [h2]
      go_enter Tryz.func59, Tryz.ntmps59
      go_wp2
      go_ret
      exact ⟨rfl, rfl⟩
    · have h2 : checkE n = 0 := by unfold checkE; rw [if_neg h0, if_neg h3]
      rw [h2]
      go_enter Tryz.func59, Tryz.ntmps59
      go_wp2
      go_ret
      exact ⟨rfl, rfl⟩
end Go.Proofs.YtfjkmhbipkoefaaGreatDoor
