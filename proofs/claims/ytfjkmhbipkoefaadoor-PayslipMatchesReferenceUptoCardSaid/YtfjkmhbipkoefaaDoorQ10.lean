/- Decimal numbers of the reference of layer 35. -/
import Derived.Test.YtfjkmhbipkoefaaDoorQ09
namespace Go.Proofs.YtfjkmhbipkoefaaDoor
open Go.RowKit Go.Shelf
set_option linter.unusedVariables false
set_option linter.unusedSimpArgs false
set_option maxRecDepth 100000
def dgB (k : Nat) : UInt8 := UInt8.ofNat (48 + k % 10)
theorem dgB_nat (k : Nat) : (dgB k).toNat = 48 + k % 10 := by unfold dgB; rw [UInt8.toNat_ofNat']; omega
theorem num_small (k : Nat) (h : k < 10) : itoaB (k : Int) = ⟨[dgB k].toArray⟩ := by
  unfold itoaB Lib.itoa
  rw [if_neg (by omega), Int.toNat_natCast, Lib.decDigits, dif_pos h]
  unfold dgB
  rw [Nat.mod_eq_of_lt h]
theorem num_small_neg (k : Nat) (h : k < 10) (h0 : 0 < k) : itoaB (-(k : Int)) = ⟨#[45]⟩ ++ ⟨[dgB k].toArray⟩ := by
  unfold itoaB Lib.itoa
  rw [if_pos (by omega), Int.natAbs_neg, Int.natAbs_natCast, Lib.decDigits, dif_pos h]
  unfold dgB
  rw [Nat.mod_eq_of_lt h]
  rfl
theorem num_big (k : Nat) (h : 10 ≤ k) : itoaB (k : Int) = itoaB ((k / 10 : Nat) : Int) ++ ⟨[dgB k].toArray⟩ := by
  unfold itoaB Lib.itoa
  rw [if_neg (by omega), if_neg (by omega), Int.toNat_natCast, Int.toNat_natCast, Lib.decDigits, dif_neg (by omega)]
  unfold dgB
  apply ByteArray.ext
  simp [ByteArray.data_append]
theorem num_big_neg (k : Nat) (h : 10 ≤ k) : itoaB (-(k : Int)) = itoaB (-((k / 10 : Nat) : Int)) ++ ⟨[dgB k].toArray⟩ := by
  unfold itoaB Lib.itoa
  rw [if_pos (by omega), if_pos (by omega), Int.natAbs_neg, Int.natAbs_natCast, Int.natAbs_neg, Int.natAbs_natCast, Lib.decDigits, dif_neg (by omega)]
  unfold dgB
  apply ByteArray.ext
  simp [ByteArray.data_append]
set_option maxHeartbeats 4000000 in
theorem rnumber_any : ∀ (m : Nat) (n : Int) (w : World), n.natAbs ≤ m → -9223372036854775808 ≤ n → n ≤ 9223372036854775807 → Calls Tryd.prog 22 #[.int .i64 n] w fun e w' => e = .returned (.string (itoaB n)) ∧ Below w.heap.size w w' := by
  intro m
  induction m with
  | zero =>
    intro n w h h1 h2
    obtain rfl : n = 0 := by omega
    have kb := byte_back (w.alloc (.cells #[.int .u8 48] 5)) w.heap.size 48 (by simp [go_sem])
    go_enter Tryd.func22, Tryd.ntmps22
    go_wp2
    go_ret
    exact ⟨by rw [show itoaB 0 = ⟨#[48]⟩ by decide +kernel]; rfl, bal (Below.refl _ _) _⟩
  | succ m ih =>
    intro n w h h1 h2
    by_cases hs : -10 < n ∧ n < 10
    · obtain ⟨g1, g2⟩ := hs
      by_cases h0 : n < 0
      · obtain ⟨k, rfl⟩ : ∃ k : Nat, n = -(k : Int) := ⟨n.natAbs, by omega⟩
        obtain ⟨c, hc⟩ : ∃ c, dgB k = c := ⟨_, rfl⟩
        have hcn : (c.toNat : Int) = 48 + (k : Int) := by rw [← hc, dgB_nat]; omega
        have hu8 : IntKind.u8.wrap (48 + (k : Int)) = (c.toNat : Int) := by rw [hcn, IntKind.wrap_u8']; omega
        have hu8' : IntKind.u8.wrap (48 - -(k : Int)) = (c.toNat : Int) := by rw [show (48 : Int) - -(k : Int) = 48 + (k : Int) by omega]; exact hu8
        have hw : IntKind.i64.wrap (48 - -(k : Int)) = 48 + (k : Int) := by rw [show (48 : Int) - -(k : Int) = 48 + (k : Int) by omega]; exact IntWalk.i64_in _ (by omega)
        have hw' : IntKind.i64.wrap (48 + (k : Int)) = 48 + (k : Int) := IntWalk.i64_in _ (by omega)
        have kb := byte_back (w.alloc (.cells #[.int .u8 c.toNat] 5)) w.heap.size c (by simp [go_sem])
        rw [num_small_neg k (by omega) (by omega), hc]
        clear hc hcn ih
        go_enter Tryd.func22, Tryd.ntmps22
        go_wp2
        go_ret
        exact ⟨rfl, bal (Below.refl _ _) _⟩
      · obtain ⟨k, rfl⟩ : ∃ k : Nat, n = (k : Int) := ⟨n.natAbs, by omega⟩
        obtain ⟨c, hc⟩ : ∃ c, dgB k = c := ⟨_, rfl⟩
        have hcn : (c.toNat : Int) = 48 + (k : Int) := by rw [← hc, dgB_nat]; omega
        have hu8 : IntKind.u8.wrap (48 + (k : Int)) = (c.toNat : Int) := by rw [hcn, IntKind.wrap_u8']; omega
        have hw' : IntKind.i64.wrap (48 + (k : Int)) = 48 + (k : Int) := IntWalk.i64_in _ (by omega)
        have kb := byte_back (w.alloc (.cells #[.int .u8 c.toNat] 5)) w.heap.size c (by simp [go_sem])
        rw [num_small k (by omega), hc]
        clear hc hcn ih
        go_enter Tryd.func22, Tryd.ntmps22
        go_wp2
        go_ret
        exact ⟨rfl, bal (Below.refl _ _) _⟩
    · by_cases h0 : n < 0
      · obtain ⟨k, rfl⟩ : ∃ k : Nat, n = -(k : Int) := ⟨n.natAbs, by omega⟩
        have hk : 10 ≤ k := by omega
        obtain ⟨c, hc⟩ : ∃ c, dgB k = c := ⟨_, rfl⟩
        obtain ⟨r, hr⟩ : ∃ r : Nat, k % 10 = r := ⟨_, rfl⟩
        obtain ⟨q, hq⟩ : ∃ q : Nat, k / 10 = q := ⟨_, rfl⟩
        have hcn : (c.toNat : Int) = 48 + (r : Int) := by rw [← hc, dgB_nat]; omega
        have hu8 : IntKind.u8.wrap (48 + (r : Int)) = (c.toNat : Int) := by rw [hcn, IntKind.wrap_u8']; omega
        have e1' : (k : Int).tmod 10 = (r : Int) := by rw [Int.tmod_eq_emod_of_nonneg (by omega)]; omega
        have e1'' : (k : Int) % 10 = (r : Int) := by omega
        have e2' : (k : Int).tdiv 10 = (q : Int) := by rw [Int.tdiv_eq_ediv_of_nonneg (by omega)]; omega
        have e2'' : (k : Int) / 10 = (q : Int) := by omega
        have e1 : (-(k : Int)).tmod 10 = -(r : Int) := by rw [Int.neg_tmod, e1']
        have e2 : (-(k : Int)).tdiv 10 = -(q : Int) := by rw [Int.neg_tdiv, e2']
        have g : ¬ -10 < -(k : Int) := by omega
        have g0 : -(k : Int) < 0 := by omega
        have IH0 := fun w => ih (-(q : Int)) w (by omega) (by omega) (by omega)
        rw [num_big_neg k hk, hc, hq]
        have hsz := itoaB_size (-(q : Int)) (by omega) (by omega)
        obtain ⟨t, ht⟩ : ∃ t, itoaB (-(q : Int)) = t := ⟨_, rfl⟩
        rw [ht] at hsz IH0 ⊢
        have IH := Lib.hid IH0
        have hr9 : r ≤ 9 := by omega
        have hcat : ¬ 9223372036854775807 < t.size + 1 := by omega
        have hwq : IntKind.i64.wrap (-(q : Int)) = -(q : Int) := IntWalk.i64_in _ (by omega)
        clear IH0
        by_cases hr0 : r = 0
        · subst hr0
          have hc48 : c = 48 := by apply UInt8.toNat_inj.1; show c.toNat = 48; omega
          subst hc48
          have e1 : (-(k : Int)).tmod 10 = 0 := by rw [e1]; rfl
          have e1b : (k : Int).tmod 10 = 0 := e1'
          have e1c : (k : Int) % 10 = 0 := e1''
          have hw48 : IntKind.i64.wrap 48 = 48 := IntWalk.i64_in _ (by omega)
          have hu48 : IntKind.u8.wrap 48 = 48 := by decide
          clear hcn hu8 e1' e1''
          clear hc ih hs h hr hq ht
          go_enter Tryd.func22, Tryd.ntmps22
          go_upto_region 8 with fail
          have bel0 : Below w.heap.size w w.drew := (Below.refl _ _).drew
          refine wp_region_noPanic ?_
          refine wp_region_held_drew (S := fun _ => True) (by kernel_rfl) trivial (fun hHeld => ?_)
          refine wpAnyH_take (i := 0) (v := ?_) rfl (by kernel_rfl) (by kernel_rfl) (by kernel_rfl) (fun _ _ _ h => h) (Or.inl ⟨by kernel_rfl, ?_⟩) (by assumption) ?_
          rotate_left
          · intro w hSw
            (try dsimp only at hSw)
            go_simp
            first | done | with_reducible rfl
          simp only [List.getElem_toArray, List.getElem_cons_zero, List.getElem_cons_succ, Act.put, List.setIfInBounds_toArray, List.set_cons_zero, List.set_cons_succ]
          refine wpAnyH_take (i := 1) (v := ?_) rfl (by kernel_rfl) (by kernel_rfl) (by kernel_rfl) (fun _ _ _ h => h) (Or.inl ⟨by kernel_rfl, ?_⟩) (by assumption) ?_
          rotate_left
          · intro w hSw
            (try dsimp only at hSw)
            go_simp
            first | done | with_reducible rfl
          simp only [List.getElem_toArray, List.getElem_cons_zero, List.getElem_cons_succ, Act.put, List.setIfInBounds_toArray, List.set_cons_zero, List.set_cons_succ]
          refine wpAnyH_take (i := 3) (v := ?_) rfl (by kernel_rfl) (by kernel_rfl) (by kernel_rfl) (fun _ _ _ h => h) (Or.inl ⟨by kernel_rfl, ?_⟩) (by assumption) ?_
          rotate_left
          · intro w hSw
            (try dsimp only at hSw)
            go_simp
            first | done | with_reducible rfl
          simp only [List.getElem_toArray, List.getElem_cons_zero, List.getElem_cons_succ, Act.put, List.setIfInBounds_toArray, List.set_cons_zero, List.set_cons_succ]
          refine wpAnyH_take (i := 4) (v := ?_) rfl (by kernel_rfl) (by kernel_rfl) (by kernel_rfl) (fun _ _ _ h => h) (Or.inl ⟨by kernel_rfl, ?_⟩) (by assumption) ?_
          rotate_left
          · intro w hSw
            (try dsimp only at hSw)
            go_simp
            first | done | with_reducible rfl
          simp only [List.getElem_toArray, List.getElem_cons_zero, List.getElem_cons_succ, Act.put, List.setIfInBounds_toArray, List.set_cons_zero, List.set_cons_succ]
          refine wpAnyH_take (i := 5) (v := ?_) rfl (by kernel_rfl) (by kernel_rfl) (by kernel_rfl) (fun _ _ _ h => h) (Or.inl ⟨by kernel_rfl, ?_⟩) (by assumption) ?_
          rotate_left
          · intro w hSw
            (try dsimp only at hSw)
            go_simp
            first | done | with_reducible rfl
          simp only [List.getElem_toArray, List.getElem_cons_zero, List.getElem_cons_succ, Act.put, List.setIfInBounds_toArray, List.set_cons_zero, List.set_cons_succ]
          refine wpAnyH_ready (rs := [2, 6]) (by kernel_rfl) (by simp) ?_
          refine AllReadyH.cons rfl (fun K hK => ?_) ?_
          · simp only [List.getElem_toArray, List.getElem_cons_zero, List.getElem_cons_succ]
            go_simp
            (with_reducible refine (IH.out w.drew).mono ?_)
            rintro e w_2 ⟨rfl, hB_2⟩
            dsimp only
            have bel_2 := bgo bel0 hB_2
            refine hK.out _ _ trivial (fun hHeld => ?_)
            clear hK K
            try simp only [List.getElem_toArray, List.getElem_cons_zero, List.getElem_cons_succ, Act.put, List.setIfInBounds_toArray, List.set_cons_zero, List.set_cons_succ]
            refine wpAnyH_ready (rs := [6]) (by kernel_rfl) (by simp) ?_
            refine AllReadyH.cons rfl (fun K hK => ?_) ?_
            · simp only [List.getElem_toArray, List.getElem_cons_zero, List.getElem_cons_succ]
              go_simp
              refine hK.out _ _ trivial (fun hHeld => ?_)
              obtain ⟨B_26, hB_26⟩ : ∃ x, x = w_2.heap.size := ⟨_, rfl⟩
              obtain ⟨w_26, hw_26⟩ : ∃ x, x = w_2.alloc (.cells #[.int .u8 48] 5) := ⟨_, rfl⟩
              rw [← hw_26, ← hB_26]
              have bel_26 : Below w.heap.size w w_26 := by rw [hw_26]; exact bal bel_2 _
              have gB_26 : w_26.heap[B_26]? = some (.cells #[.int .u8 48] 5) := by rw [hw_26, hB_26]; exact World.alloc_heap_new w_2 _
              clear hw_26 hB_26
              clear hK K
              try simp only [List.getElem_toArray, List.getElem_cons_zero, List.getElem_cons_succ, Act.put, List.setIfInBounds_toArray, List.set_cons_zero, List.set_cons_succ]
              refine wpAnyH_ready (rs := [7]) (by kernel_rfl) (by simp) ?_
              refine AllReadyH.cons rfl (fun K hK => ?_) ?_
              · simp only [List.getElem_toArray, List.getElem_cons_zero, List.getElem_cons_succ]
                have kb := byte_back w_26 B_26 48 (by rw [Lib.cell_of_heap gB_26]; rfl)
                have kb0 : (convert 100 9 (.slice (some ⟨B_26, 0, none⟩) 1 1)).run Tryd.prog w_26 = .ok (.string ⟨#[48]⟩) w_26 := kb
                go_simp
                clear kb kb0
                refine hK.out _ _ trivial (fun hHeld => ?_)
                clear hK K
                try simp only [List.getElem_toArray, List.getElem_cons_zero, List.getElem_cons_succ, Act.put, List.setIfInBounds_toArray, List.set_cons_zero, List.set_cons_succ]
                refine wpAnyH_take (i := 8) (v := ?_) rfl (by kernel_rfl) (by kernel_rfl) (by kernel_rfl) (fun _ _ _ h => h) (Or.inl ⟨by kernel_rfl, ?_⟩) (by assumption) ?_
                rotate_left
                · intro w hSw
                  (try dsimp only at hSw)
                  go_simp
                  first | done | with_reducible rfl
                simp only [List.getElem_toArray, List.getElem_cons_zero, List.getElem_cons_succ, Act.put, List.setIfInBounds_toArray, List.set_cons_zero, List.set_cons_succ]
                refine wpAnyH_take (i := 9) (v := ?_) rfl (by kernel_rfl) (by kernel_rfl) (by kernel_rfl) (fun _ _ _ h => h) (Or.inl ⟨by kernel_rfl, ?_⟩) (by assumption) ?_
                rotate_left
                · intro w hSw
                  (try dsimp only at hSw)
                  go_simp
                  first | done | with_reducible rfl
                simp only [List.getElem_toArray, List.getElem_cons_zero, List.getElem_cons_succ, Act.put, List.setIfInBounds_toArray, List.set_cons_zero, List.set_cons_succ]
                refine wpAnyH_done (by kernel_rfl) ?_ _
                dsimp only [NoPanic]
                clear hHeld
                go_wp2_with fail
                go_ret
                exact ⟨rfl, bel_26⟩
              exact AllReadyH.nil
            exact AllReadyH.nil
          refine AllReadyH.cons rfl (fun K hK => ?_) ?_
          · simp only [List.getElem_toArray, List.getElem_cons_zero, List.getElem_cons_succ]
            go_simp
            refine hK.out _ _ trivial (fun hHeld => ?_)
            obtain ⟨B_6, hB_6⟩ : ∃ x, x = w.heap.size := ⟨_, rfl⟩
            obtain ⟨w_6, hw_6⟩ : ∃ x, x = (w.alloc (.cells #[.int .u8 48] 5)).drew := ⟨_, rfl⟩
            rw [← hw_6, ← hB_6]
            have bel_6 : Below w.heap.size w w_6 := by rw [hw_6]; exact (bal (Below.refl w.heap.size w) _).drew
            have gB_6 : w_6.heap[B_6]? = some (.cells #[.int .u8 48] 5) := by rw [hw_6, hB_6]; exact World.alloc_heap_new w _
            clear hw_6 hB_6
            clear hK K
            try simp only [List.getElem_toArray, List.getElem_cons_zero, List.getElem_cons_succ, Act.put, List.setIfInBounds_toArray, List.set_cons_zero, List.set_cons_succ]
            refine wpAnyH_ready (rs := [2, 7]) (by kernel_rfl) (by simp) ?_
            refine AllReadyH.cons rfl (fun K hK => ?_) ?_
            · simp only [List.getElem_toArray, List.getElem_cons_zero, List.getElem_cons_succ]
              go_simp
              (with_reducible refine (IH.out w_6).mono ?_)
              rintro e w_62 ⟨rfl, hB_62⟩
              dsimp only
              have bel_62 := bgo bel_6 hB_62
              have gB_62 := (hB_62.block _ (Array.getElem?_eq_some_iff.1 gB_6).1).trans gB_6
              refine hK.out _ _ trivial (fun hHeld => ?_)
              clear hK K
              try simp only [List.getElem_toArray, List.getElem_cons_zero, List.getElem_cons_succ, Act.put, List.setIfInBounds_toArray, List.set_cons_zero, List.set_cons_succ]
              refine wpAnyH_ready (rs := [7]) (by kernel_rfl) (by simp) ?_
              refine AllReadyH.cons rfl (fun K hK => ?_) ?_
              · simp only [List.getElem_toArray, List.getElem_cons_zero, List.getElem_cons_succ]
                have kb := byte_back w_62 B_6 48 (by rw [Lib.cell_of_heap gB_62]; rfl)
                have kb0 : (convert 100 9 (.slice (some ⟨B_6, 0, none⟩) 1 1)).run Tryd.prog w_62 = .ok (.string ⟨#[48]⟩) w_62 := kb
                go_simp
                clear kb kb0
                refine hK.out _ _ trivial (fun hHeld => ?_)
                clear hK K
                try simp only [List.getElem_toArray, List.getElem_cons_zero, List.getElem_cons_succ, Act.put, List.setIfInBounds_toArray, List.set_cons_zero, List.set_cons_succ]
                refine wpAnyH_take (i := 8) (v := ?_) rfl (by kernel_rfl) (by kernel_rfl) (by kernel_rfl) (fun _ _ _ h => h) (Or.inl ⟨by kernel_rfl, ?_⟩) (by assumption) ?_
                rotate_left
                · intro w hSw
                  (try dsimp only at hSw)
                  go_simp
                  first | done | with_reducible rfl
                simp only [List.getElem_toArray, List.getElem_cons_zero, List.getElem_cons_succ, Act.put, List.setIfInBounds_toArray, List.set_cons_zero, List.set_cons_succ]
                refine wpAnyH_take (i := 9) (v := ?_) rfl (by kernel_rfl) (by kernel_rfl) (by kernel_rfl) (fun _ _ _ h => h) (Or.inl ⟨by kernel_rfl, ?_⟩) (by assumption) ?_
                rotate_left
                · intro w hSw
                  (try dsimp only at hSw)
                  go_simp
                  first | done | with_reducible rfl
                simp only [List.getElem_toArray, List.getElem_cons_zero, List.getElem_cons_succ, Act.put, List.setIfInBounds_toArray, List.set_cons_zero, List.set_cons_succ]
                refine wpAnyH_done (by kernel_rfl) ?_ _
                dsimp only [NoPanic]
                clear hHeld
                go_wp2_with fail
                go_ret
                exact ⟨rfl, bel_62⟩
              exact AllReadyH.nil
            refine AllReadyH.cons rfl (fun K hK => ?_) ?_
            · simp only [List.getElem_toArray, List.getElem_cons_zero, List.getElem_cons_succ]
              have kb := byte_back w_6 B_6 48 (by rw [Lib.cell_of_heap gB_6]; rfl)
              have kb0 : (convert 100 9 (.slice (some ⟨B_6, 0, none⟩) 1 1)).run Tryd.prog w_6 = .ok (.string ⟨#[48]⟩) w_6 := kb
              go_simp
              clear kb kb0
              refine hK.out _ _ trivial (fun hHeld => ?_)
              clear hK K
              try simp only [List.getElem_toArray, List.getElem_cons_zero, List.getElem_cons_succ, Act.put, List.setIfInBounds_toArray, List.set_cons_zero, List.set_cons_succ]
              refine wpAnyH_ready (rs := [2]) (by kernel_rfl) (by simp) ?_
              refine AllReadyH.cons rfl (fun K hK => ?_) ?_
              · simp only [List.getElem_toArray, List.getElem_cons_zero, List.getElem_cons_succ]
                go_simp
                (with_reducible refine (IH.out w_6).mono ?_)
                rintro e w_672 ⟨rfl, hB_672⟩
                dsimp only
                have bel_672 := bgo bel_6 hB_672
                have gB_672 := (hB_672.block _ (Array.getElem?_eq_some_iff.1 gB_6).1).trans gB_6
                refine hK.out _ _ trivial (fun hHeld => ?_)
                clear hK K
                try simp only [List.getElem_toArray, List.getElem_cons_zero, List.getElem_cons_succ, Act.put, List.setIfInBounds_toArray, List.set_cons_zero, List.set_cons_succ]
                refine wpAnyH_take (i := 8) (v := ?_) rfl (by kernel_rfl) (by kernel_rfl) (by kernel_rfl) (fun _ _ _ h => h) (Or.inl ⟨by kernel_rfl, ?_⟩) (by assumption) ?_
                rotate_left
                · intro w hSw
                  (try dsimp only at hSw)
                  go_simp
                  first | done | with_reducible rfl
                simp only [List.getElem_toArray, List.getElem_cons_zero, List.getElem_cons_succ, Act.put, List.setIfInBounds_toArray, List.set_cons_zero, List.set_cons_succ]
                refine wpAnyH_take (i := 9) (v := ?_) rfl (by kernel_rfl) (by kernel_rfl) (by kernel_rfl) (fun _ _ _ h => h) (Or.inl ⟨by kernel_rfl, ?_⟩) (by assumption) ?_
                rotate_left
                · intro w hSw
                  (try dsimp only at hSw)
                  go_simp
                  first | done | with_reducible rfl
                simp only [List.getElem_toArray, List.getElem_cons_zero, List.getElem_cons_succ, Act.put, List.setIfInBounds_toArray, List.set_cons_zero, List.set_cons_succ]
                refine wpAnyH_done (by kernel_rfl) ?_ _
                dsimp only [NoPanic]
                clear hHeld
                go_wp2_with fail
                go_ret
                exact ⟨rfl, bel_672⟩
              exact AllReadyH.nil
            exact AllReadyH.nil
          exact AllReadyH.nil
        · have hw9 : IntKind.i64.wrap (48 + (r : Int)) = 48 + (r : Int) := IntWalk.i64_in _ (by omega)
          have hrp : -(r : Int) < 0 := by omega
          clear hcn
          clear hc ih hs h hr hq ht
          go_enter Tryd.func22, Tryd.ntmps22
          go_upto_region 8 with fail
          have bel0 : Below w.heap.size w w.drew := (Below.refl _ _).drew
          refine wp_region_noPanic ?_
          refine wp_region_held_drew (S := fun _ => True) (by kernel_rfl) trivial (fun hHeld => ?_)
          refine wpAnyH_take (i := 0) (v := ?_) rfl (by kernel_rfl) (by kernel_rfl) (by kernel_rfl) (fun _ _ _ h => h) (Or.inl ⟨by kernel_rfl, ?_⟩) (by assumption) ?_
          rotate_left
          · intro w hSw
            (try dsimp only at hSw)
            go_simp
            first | done | with_reducible rfl
          simp only [List.getElem_toArray, List.getElem_cons_zero, List.getElem_cons_succ, Act.put, List.setIfInBounds_toArray, List.set_cons_zero, List.set_cons_succ]
          refine wpAnyH_take (i := 1) (v := ?_) rfl (by kernel_rfl) (by kernel_rfl) (by kernel_rfl) (fun _ _ _ h => h) (Or.inl ⟨by kernel_rfl, ?_⟩) (by assumption) ?_
          rotate_left
          · intro w hSw
            (try dsimp only at hSw)
            go_simp
            first | done | with_reducible rfl
          simp only [List.getElem_toArray, List.getElem_cons_zero, List.getElem_cons_succ, Act.put, List.setIfInBounds_toArray, List.set_cons_zero, List.set_cons_succ]
          refine wpAnyH_take (i := 3) (v := ?_) rfl (by kernel_rfl) (by kernel_rfl) (by kernel_rfl) (fun _ _ _ h => h) (Or.inl ⟨by kernel_rfl, ?_⟩) (by assumption) ?_
          rotate_left
          · intro w hSw
            (try dsimp only at hSw)
            go_simp
            first | done | with_reducible rfl
          simp only [List.getElem_toArray, List.getElem_cons_zero, List.getElem_cons_succ, Act.put, List.setIfInBounds_toArray, List.set_cons_zero, List.set_cons_succ]
          refine wpAnyH_take (i := 4) (v := ?_) rfl (by kernel_rfl) (by kernel_rfl) (by kernel_rfl) (fun _ _ _ h => h) (Or.inl ⟨by kernel_rfl, ?_⟩) (by assumption) ?_
          rotate_left
          · intro w hSw
            (try dsimp only at hSw)
            go_simp
            first | done | with_reducible rfl
          simp only [List.getElem_toArray, List.getElem_cons_zero, List.getElem_cons_succ, Act.put, List.setIfInBounds_toArray, List.set_cons_zero, List.set_cons_succ]
          refine wpAnyH_take (i := 5) (v := ?_) rfl (by kernel_rfl) (by kernel_rfl) (by kernel_rfl) (fun _ _ _ h => h) (Or.inl ⟨by kernel_rfl, ?_⟩) (by assumption) ?_
          rotate_left
          · intro w hSw
            (try dsimp only at hSw)
            go_simp
            first | done | with_reducible rfl
          simp only [List.getElem_toArray, List.getElem_cons_zero, List.getElem_cons_succ, Act.put, List.setIfInBounds_toArray, List.set_cons_zero, List.set_cons_succ]
          refine wpAnyH_ready (rs := [2, 6]) (by kernel_rfl) (by simp) ?_
          refine AllReadyH.cons rfl (fun K hK => ?_) ?_
          · simp only [List.getElem_toArray, List.getElem_cons_zero, List.getElem_cons_succ]
            go_simp
            (with_reducible refine (IH.out w.drew).mono ?_)
            rintro e w_2 ⟨rfl, hB_2⟩
            dsimp only
            have bel_2 := bgo bel0 hB_2
            refine hK.out _ _ trivial (fun hHeld => ?_)
            clear hK K
            try simp only [List.getElem_toArray, List.getElem_cons_zero, List.getElem_cons_succ, Act.put, List.setIfInBounds_toArray, List.set_cons_zero, List.set_cons_succ]
            refine wpAnyH_ready (rs := [6]) (by kernel_rfl) (by simp) ?_
            refine AllReadyH.cons rfl (fun K hK => ?_) ?_
            · simp only [List.getElem_toArray, List.getElem_cons_zero, List.getElem_cons_succ]
              go_simp
              refine hK.out _ _ trivial (fun hHeld => ?_)
              obtain ⟨B_26, hB_26⟩ : ∃ x, x = w_2.heap.size := ⟨_, rfl⟩
              obtain ⟨w_26, hw_26⟩ : ∃ x, x = w_2.alloc (.cells #[.int .u8 c.toNat] 5) := ⟨_, rfl⟩
              rw [← hw_26, ← hB_26]
              have bel_26 : Below w.heap.size w w_26 := by rw [hw_26]; exact bal bel_2 _
              have gB_26 : w_26.heap[B_26]? = some (.cells #[.int .u8 c.toNat] 5) := by rw [hw_26, hB_26]; exact World.alloc_heap_new w_2 _
              clear hw_26 hB_26
              clear hK K
              try simp only [List.getElem_toArray, List.getElem_cons_zero, List.getElem_cons_succ, Act.put, List.setIfInBounds_toArray, List.set_cons_zero, List.set_cons_succ]
              refine wpAnyH_ready (rs := [7]) (by kernel_rfl) (by simp) ?_
              refine AllReadyH.cons rfl (fun K hK => ?_) ?_
              · simp only [List.getElem_toArray, List.getElem_cons_zero, List.getElem_cons_succ]
                have kb := byte_back w_26 B_26 c (by rw [Lib.cell_of_heap gB_26]; rfl)
                go_simp
                clear kb
                refine hK.out _ _ trivial (fun hHeld => ?_)
                clear hK K
                try simp only [List.getElem_toArray, List.getElem_cons_zero, List.getElem_cons_succ, Act.put, List.setIfInBounds_toArray, List.set_cons_zero, List.set_cons_succ]
                refine wpAnyH_take (i := 8) (v := ?_) rfl (by kernel_rfl) (by kernel_rfl) (by kernel_rfl) (fun _ _ _ h => h) (Or.inl ⟨by kernel_rfl, ?_⟩) (by assumption) ?_
                rotate_left
                · intro w hSw
                  (try dsimp only at hSw)
                  go_simp
                  first | done | with_reducible rfl
                simp only [List.getElem_toArray, List.getElem_cons_zero, List.getElem_cons_succ, Act.put, List.setIfInBounds_toArray, List.set_cons_zero, List.set_cons_succ]
                refine wpAnyH_take (i := 9) (v := ?_) rfl (by kernel_rfl) (by kernel_rfl) (by kernel_rfl) (fun _ _ _ h => h) (Or.inl ⟨by kernel_rfl, ?_⟩) (by assumption) ?_
                rotate_left
                · intro w hSw
                  (try dsimp only at hSw)
                  go_simp
                  first | done | with_reducible rfl
                simp only [List.getElem_toArray, List.getElem_cons_zero, List.getElem_cons_succ, Act.put, List.setIfInBounds_toArray, List.set_cons_zero, List.set_cons_succ]
                refine wpAnyH_done (by kernel_rfl) ?_ _
                dsimp only [NoPanic]
                clear hHeld
                go_wp2_with fail
                go_ret
                exact ⟨rfl, bel_26⟩
              exact AllReadyH.nil
            exact AllReadyH.nil
          refine AllReadyH.cons rfl (fun K hK => ?_) ?_
          · simp only [List.getElem_toArray, List.getElem_cons_zero, List.getElem_cons_succ]
            go_simp
            refine hK.out _ _ trivial (fun hHeld => ?_)
            obtain ⟨B_6, hB_6⟩ : ∃ x, x = w.heap.size := ⟨_, rfl⟩
            obtain ⟨w_6, hw_6⟩ : ∃ x, x = (w.alloc (.cells #[.int .u8 c.toNat] 5)).drew := ⟨_, rfl⟩
            rw [← hw_6, ← hB_6]
            have bel_6 : Below w.heap.size w w_6 := by rw [hw_6]; exact (bal (Below.refl w.heap.size w) _).drew
            have gB_6 : w_6.heap[B_6]? = some (.cells #[.int .u8 c.toNat] 5) := by rw [hw_6, hB_6]; exact World.alloc_heap_new w _
            clear hw_6 hB_6
            clear hK K
            try simp only [List.getElem_toArray, List.getElem_cons_zero, List.getElem_cons_succ, Act.put, List.setIfInBounds_toArray, List.set_cons_zero, List.set_cons_succ]
            refine wpAnyH_ready (rs := [2, 7]) (by kernel_rfl) (by simp) ?_
            refine AllReadyH.cons rfl (fun K hK => ?_) ?_
            · simp only [List.getElem_toArray, List.getElem_cons_zero, List.getElem_cons_succ]
              go_simp
              (with_reducible refine (IH.out w_6).mono ?_)
              rintro e w_62 ⟨rfl, hB_62⟩
              dsimp only
              have bel_62 := bgo bel_6 hB_62
              have gB_62 := (hB_62.block _ (Array.getElem?_eq_some_iff.1 gB_6).1).trans gB_6
              refine hK.out _ _ trivial (fun hHeld => ?_)
              clear hK K
              try simp only [List.getElem_toArray, List.getElem_cons_zero, List.getElem_cons_succ, Act.put, List.setIfInBounds_toArray, List.set_cons_zero, List.set_cons_succ]
              refine wpAnyH_ready (rs := [7]) (by kernel_rfl) (by simp) ?_
              refine AllReadyH.cons rfl (fun K hK => ?_) ?_
              · simp only [List.getElem_toArray, List.getElem_cons_zero, List.getElem_cons_succ]
                have kb := byte_back w_62 B_6 c (by rw [Lib.cell_of_heap gB_62]; rfl)
                go_simp
                clear kb
                refine hK.out _ _ trivial (fun hHeld => ?_)
                clear hK K
                try simp only [List.getElem_toArray, List.getElem_cons_zero, List.getElem_cons_succ, Act.put, List.setIfInBounds_toArray, List.set_cons_zero, List.set_cons_succ]
                refine wpAnyH_take (i := 8) (v := ?_) rfl (by kernel_rfl) (by kernel_rfl) (by kernel_rfl) (fun _ _ _ h => h) (Or.inl ⟨by kernel_rfl, ?_⟩) (by assumption) ?_
                rotate_left
                · intro w hSw
                  (try dsimp only at hSw)
                  go_simp
                  first | done | with_reducible rfl
                simp only [List.getElem_toArray, List.getElem_cons_zero, List.getElem_cons_succ, Act.put, List.setIfInBounds_toArray, List.set_cons_zero, List.set_cons_succ]
                refine wpAnyH_take (i := 9) (v := ?_) rfl (by kernel_rfl) (by kernel_rfl) (by kernel_rfl) (fun _ _ _ h => h) (Or.inl ⟨by kernel_rfl, ?_⟩) (by assumption) ?_
                rotate_left
                · intro w hSw
                  (try dsimp only at hSw)
                  go_simp
                  first | done | with_reducible rfl
                simp only [List.getElem_toArray, List.getElem_cons_zero, List.getElem_cons_succ, Act.put, List.setIfInBounds_toArray, List.set_cons_zero, List.set_cons_succ]
                refine wpAnyH_done (by kernel_rfl) ?_ _
                dsimp only [NoPanic]
                clear hHeld
                go_wp2_with fail
                go_ret
                exact ⟨rfl, bel_62⟩
              exact AllReadyH.nil
            refine AllReadyH.cons rfl (fun K hK => ?_) ?_
            · simp only [List.getElem_toArray, List.getElem_cons_zero, List.getElem_cons_succ]
              have kb := byte_back w_6 B_6 c (by rw [Lib.cell_of_heap gB_6]; rfl)
              go_simp
              clear kb
              refine hK.out _ _ trivial (fun hHeld => ?_)
              clear hK K
              try simp only [List.getElem_toArray, List.getElem_cons_zero, List.getElem_cons_succ, Act.put, List.setIfInBounds_toArray, List.set_cons_zero, List.set_cons_succ]
              refine wpAnyH_ready (rs := [2]) (by kernel_rfl) (by simp) ?_
              refine AllReadyH.cons rfl (fun K hK => ?_) ?_
              · simp only [List.getElem_toArray, List.getElem_cons_zero, List.getElem_cons_succ]
                go_simp
                (with_reducible refine (IH.out w_6).mono ?_)
                rintro e w_672 ⟨rfl, hB_672⟩
                dsimp only
                have bel_672 := bgo bel_6 hB_672
                have gB_672 := (hB_672.block _ (Array.getElem?_eq_some_iff.1 gB_6).1).trans gB_6
                refine hK.out _ _ trivial (fun hHeld => ?_)
                clear hK K
                try simp only [List.getElem_toArray, List.getElem_cons_zero, List.getElem_cons_succ, Act.put, List.setIfInBounds_toArray, List.set_cons_zero, List.set_cons_succ]
                refine wpAnyH_take (i := 8) (v := ?_) rfl (by kernel_rfl) (by kernel_rfl) (by kernel_rfl) (fun _ _ _ h => h) (Or.inl ⟨by kernel_rfl, ?_⟩) (by assumption) ?_
                rotate_left
                · intro w hSw
                  (try dsimp only at hSw)
                  go_simp
                  first | done | with_reducible rfl
                simp only [List.getElem_toArray, List.getElem_cons_zero, List.getElem_cons_succ, Act.put, List.setIfInBounds_toArray, List.set_cons_zero, List.set_cons_succ]
                refine wpAnyH_take (i := 9) (v := ?_) rfl (by kernel_rfl) (by kernel_rfl) (by kernel_rfl) (fun _ _ _ h => h) (Or.inl ⟨by kernel_rfl, ?_⟩) (by assumption) ?_
                rotate_left
                · intro w hSw
                  (try dsimp only at hSw)
                  go_simp
                  first | done | with_reducible rfl
                simp only [List.getElem_toArray, List.getElem_cons_zero, List.getElem_cons_succ, Act.put, List.setIfInBounds_toArray, List.set_cons_zero, List.set_cons_succ]
                refine wpAnyH_done (by kernel_rfl) ?_ _
                dsimp only [NoPanic]
                clear hHeld
                go_wp2_with fail
                go_ret
                exact ⟨rfl, bel_672⟩
              exact AllReadyH.nil
            exact AllReadyH.nil
          exact AllReadyH.nil
      · obtain ⟨k, rfl⟩ : ∃ k : Nat, n = (k : Int) := ⟨n.natAbs, by omega⟩
        have hk : 10 ≤ k := by omega
        obtain ⟨c, hc⟩ : ∃ c, dgB k = c := ⟨_, rfl⟩
        obtain ⟨r, hr⟩ : ∃ r : Nat, k % 10 = r := ⟨_, rfl⟩
        obtain ⟨q, hq⟩ : ∃ q : Nat, k / 10 = q := ⟨_, rfl⟩
        have hcn : (c.toNat : Int) = 48 + (r : Int) := by rw [← hc, dgB_nat]; omega
        have hu8 : IntKind.u8.wrap (48 + (r : Int)) = (c.toNat : Int) := by rw [hcn, IntKind.wrap_u8']; omega
        have e1' : (k : Int).tmod 10 = (r : Int) := by rw [Int.tmod_eq_emod_of_nonneg (by omega)]; omega
        have e1'' : (k : Int) % 10 = (r : Int) := by omega
        have e2' : (k : Int).tdiv 10 = (q : Int) := by rw [Int.tdiv_eq_ediv_of_nonneg (by omega)]; omega
        have e2'' : (k : Int) / 10 = (q : Int) := by omega
        have g : ¬ (k : Int) < 10 := by omega
        have g0 : -10 < (k : Int) := by omega
        have IH0 := fun w => ih ((q : Int)) w (by omega) (by omega) (by omega)
        rw [num_big k hk, hc, hq]
        have hsz := itoaB_size ((q : Int)) (by omega) (by omega)
        obtain ⟨t, ht⟩ : ∃ t, itoaB ((q : Int)) = t := ⟨_, rfl⟩
        rw [ht] at hsz IH0 ⊢
        have IH := Lib.hid IH0
        have hr9 : r ≤ 9 := by omega
        have hcat : ¬ 9223372036854775807 < t.size + 1 := by omega
        have hwq : IntKind.i64.wrap ((q : Int)) = (q : Int) := IntWalk.i64_in _ (by omega)
        clear IH0
        have hw9 : IntKind.i64.wrap (48 + (r : Int)) = 48 + (r : Int) := IntWalk.i64_in _ (by omega)
        clear hcn
        clear hc ih hs h hr hq ht
        go_enter Tryd.func22, Tryd.ntmps22
        go_upto_region 8 with fail
        have bel0 : Below w.heap.size w w.drew := (Below.refl _ _).drew
        refine wp_region_noPanic ?_
        refine wp_region_held_drew (S := fun _ => True) (by kernel_rfl) trivial (fun hHeld => ?_)
        refine wpAnyH_take (i := 0) (v := ?_) rfl (by kernel_rfl) (by kernel_rfl) (by kernel_rfl) (fun _ _ _ h => h) (Or.inl ⟨by kernel_rfl, ?_⟩) (by assumption) ?_
        rotate_left
        · intro w hSw
          (try dsimp only at hSw)
          go_simp
          first | done | with_reducible rfl
        simp only [List.getElem_toArray, List.getElem_cons_zero, List.getElem_cons_succ, Act.put, List.setIfInBounds_toArray, List.set_cons_zero, List.set_cons_succ]
        refine wpAnyH_take (i := 1) (v := ?_) rfl (by kernel_rfl) (by kernel_rfl) (by kernel_rfl) (fun _ _ _ h => h) (Or.inl ⟨by kernel_rfl, ?_⟩) (by assumption) ?_
        rotate_left
        · intro w hSw
          (try dsimp only at hSw)
          go_simp
          first | done | with_reducible rfl
        simp only [List.getElem_toArray, List.getElem_cons_zero, List.getElem_cons_succ, Act.put, List.setIfInBounds_toArray, List.set_cons_zero, List.set_cons_succ]
        refine wpAnyH_take (i := 3) (v := ?_) rfl (by kernel_rfl) (by kernel_rfl) (by kernel_rfl) (fun _ _ _ h => h) (Or.inl ⟨by kernel_rfl, ?_⟩) (by assumption) ?_
        rotate_left
        · intro w hSw
          (try dsimp only at hSw)
          go_simp
          first | done | with_reducible rfl
        simp only [List.getElem_toArray, List.getElem_cons_zero, List.getElem_cons_succ, Act.put, List.setIfInBounds_toArray, List.set_cons_zero, List.set_cons_succ]
        refine wpAnyH_take (i := 4) (v := ?_) rfl (by kernel_rfl) (by kernel_rfl) (by kernel_rfl) (fun _ _ _ h => h) (Or.inl ⟨by kernel_rfl, ?_⟩) (by assumption) ?_
        rotate_left
        · intro w hSw
          (try dsimp only at hSw)
          go_simp
          first | done | with_reducible rfl
        simp only [List.getElem_toArray, List.getElem_cons_zero, List.getElem_cons_succ, Act.put, List.setIfInBounds_toArray, List.set_cons_zero, List.set_cons_succ]
        refine wpAnyH_take (i := 5) (v := ?_) rfl (by kernel_rfl) (by kernel_rfl) (by kernel_rfl) (fun _ _ _ h => h) (Or.inl ⟨by kernel_rfl, ?_⟩) (by assumption) ?_
        rotate_left
        · intro w hSw
          (try dsimp only at hSw)
          go_simp
          first | done | with_reducible rfl
        simp only [List.getElem_toArray, List.getElem_cons_zero, List.getElem_cons_succ, Act.put, List.setIfInBounds_toArray, List.set_cons_zero, List.set_cons_succ]
        refine wpAnyH_ready (rs := [2, 6]) (by kernel_rfl) (by simp) ?_
        refine AllReadyH.cons rfl (fun K hK => ?_) ?_
        · simp only [List.getElem_toArray, List.getElem_cons_zero, List.getElem_cons_succ]
          go_simp
          (with_reducible refine (IH.out w.drew).mono ?_)
          rintro e w_2 ⟨rfl, hB_2⟩
          dsimp only
          have bel_2 := bgo bel0 hB_2
          refine hK.out _ _ trivial (fun hHeld => ?_)
          clear hK K
          try simp only [List.getElem_toArray, List.getElem_cons_zero, List.getElem_cons_succ, Act.put, List.setIfInBounds_toArray, List.set_cons_zero, List.set_cons_succ]
          refine wpAnyH_ready (rs := [6]) (by kernel_rfl) (by simp) ?_
          refine AllReadyH.cons rfl (fun K hK => ?_) ?_
          · simp only [List.getElem_toArray, List.getElem_cons_zero, List.getElem_cons_succ]
            go_simp
            refine hK.out _ _ trivial (fun hHeld => ?_)
            obtain ⟨B_26, hB_26⟩ : ∃ x, x = w_2.heap.size := ⟨_, rfl⟩
            obtain ⟨w_26, hw_26⟩ : ∃ x, x = w_2.alloc (.cells #[.int .u8 c.toNat] 5) := ⟨_, rfl⟩
            rw [← hw_26, ← hB_26]
            have bel_26 : Below w.heap.size w w_26 := by rw [hw_26]; exact bal bel_2 _
            have gB_26 : w_26.heap[B_26]? = some (.cells #[.int .u8 c.toNat] 5) := by rw [hw_26, hB_26]; exact World.alloc_heap_new w_2 _
            clear hw_26 hB_26
            clear hK K
            try simp only [List.getElem_toArray, List.getElem_cons_zero, List.getElem_cons_succ, Act.put, List.setIfInBounds_toArray, List.set_cons_zero, List.set_cons_succ]
            refine wpAnyH_ready (rs := [7]) (by kernel_rfl) (by simp) ?_
            refine AllReadyH.cons rfl (fun K hK => ?_) ?_
            · simp only [List.getElem_toArray, List.getElem_cons_zero, List.getElem_cons_succ]
              have kb := byte_back w_26 B_26 c (by rw [Lib.cell_of_heap gB_26]; rfl)
              go_simp
              clear kb
              refine hK.out _ _ trivial (fun hHeld => ?_)
              clear hK K
              try simp only [List.getElem_toArray, List.getElem_cons_zero, List.getElem_cons_succ, Act.put, List.setIfInBounds_toArray, List.set_cons_zero, List.set_cons_succ]
              refine wpAnyH_take (i := 8) (v := ?_) rfl (by kernel_rfl) (by kernel_rfl) (by kernel_rfl) (fun _ _ _ h => h) (Or.inl ⟨by kernel_rfl, ?_⟩) (by assumption) ?_
              rotate_left
              · intro w hSw
                (try dsimp only at hSw)
                go_simp
                first | done | with_reducible rfl
              simp only [List.getElem_toArray, List.getElem_cons_zero, List.getElem_cons_succ, Act.put, List.setIfInBounds_toArray, List.set_cons_zero, List.set_cons_succ]
              refine wpAnyH_take (i := 9) (v := ?_) rfl (by kernel_rfl) (by kernel_rfl) (by kernel_rfl) (fun _ _ _ h => h) (Or.inl ⟨by kernel_rfl, ?_⟩) (by assumption) ?_
              rotate_left
              · intro w hSw
                (try dsimp only at hSw)
                go_simp
                first | done | with_reducible rfl
              simp only [List.getElem_toArray, List.getElem_cons_zero, List.getElem_cons_succ, Act.put, List.setIfInBounds_toArray, List.set_cons_zero, List.set_cons_succ]
              refine wpAnyH_done (by kernel_rfl) ?_ _
              dsimp only [NoPanic]
              clear hHeld
              go_wp2_with fail
              go_ret
              exact ⟨rfl, bel_26⟩
            exact AllReadyH.nil
          exact AllReadyH.nil
        refine AllReadyH.cons rfl (fun K hK => ?_) ?_
        · simp only [List.getElem_toArray, List.getElem_cons_zero, List.getElem_cons_succ]
          go_simp
          refine hK.out _ _ trivial (fun hHeld => ?_)
          obtain ⟨B_6, hB_6⟩ : ∃ x, x = w.heap.size := ⟨_, rfl⟩
          obtain ⟨w_6, hw_6⟩ : ∃ x, x = (w.alloc (.cells #[.int .u8 c.toNat] 5)).drew := ⟨_, rfl⟩
          rw [← hw_6, ← hB_6]
          have bel_6 : Below w.heap.size w w_6 := by rw [hw_6]; exact (bal (Below.refl w.heap.size w) _).drew
          have gB_6 : w_6.heap[B_6]? = some (.cells #[.int .u8 c.toNat] 5) := by rw [hw_6, hB_6]; exact World.alloc_heap_new w _
          clear hw_6 hB_6
          clear hK K
          try simp only [List.getElem_toArray, List.getElem_cons_zero, List.getElem_cons_succ, Act.put, List.setIfInBounds_toArray, List.set_cons_zero, List.set_cons_succ]
          refine wpAnyH_ready (rs := [2, 7]) (by kernel_rfl) (by simp) ?_
          refine AllReadyH.cons rfl (fun K hK => ?_) ?_
          · simp only [List.getElem_toArray, List.getElem_cons_zero, List.getElem_cons_succ]
            go_simp
            (with_reducible refine (IH.out w_6).mono ?_)
            rintro e w_62 ⟨rfl, hB_62⟩
            dsimp only
            have bel_62 := bgo bel_6 hB_62
            have gB_62 := (hB_62.block _ (Array.getElem?_eq_some_iff.1 gB_6).1).trans gB_6
            refine hK.out _ _ trivial (fun hHeld => ?_)
            clear hK K
            try simp only [List.getElem_toArray, List.getElem_cons_zero, List.getElem_cons_succ, Act.put, List.setIfInBounds_toArray, List.set_cons_zero, List.set_cons_succ]
            refine wpAnyH_ready (rs := [7]) (by kernel_rfl) (by simp) ?_
            refine AllReadyH.cons rfl (fun K hK => ?_) ?_
            · simp only [List.getElem_toArray, List.getElem_cons_zero, List.getElem_cons_succ]
              have kb := byte_back w_62 B_6 c (by rw [Lib.cell_of_heap gB_62]; rfl)
              go_simp
              clear kb
              refine hK.out _ _ trivial (fun hHeld => ?_)
              clear hK K
              try simp only [List.getElem_toArray, List.getElem_cons_zero, List.getElem_cons_succ, Act.put, List.setIfInBounds_toArray, List.set_cons_zero, List.set_cons_succ]
              refine wpAnyH_take (i := 8) (v := ?_) rfl (by kernel_rfl) (by kernel_rfl) (by kernel_rfl) (fun _ _ _ h => h) (Or.inl ⟨by kernel_rfl, ?_⟩) (by assumption) ?_
              rotate_left
              · intro w hSw
                (try dsimp only at hSw)
                go_simp
                first | done | with_reducible rfl
              simp only [List.getElem_toArray, List.getElem_cons_zero, List.getElem_cons_succ, Act.put, List.setIfInBounds_toArray, List.set_cons_zero, List.set_cons_succ]
              refine wpAnyH_take (i := 9) (v := ?_) rfl (by kernel_rfl) (by kernel_rfl) (by kernel_rfl) (fun _ _ _ h => h) (Or.inl ⟨by kernel_rfl, ?_⟩) (by assumption) ?_
              rotate_left
              · intro w hSw
                (try dsimp only at hSw)
                go_simp
                first | done | with_reducible rfl
              simp only [List.getElem_toArray, List.getElem_cons_zero, List.getElem_cons_succ, Act.put, List.setIfInBounds_toArray, List.set_cons_zero, List.set_cons_succ]
              refine wpAnyH_done (by kernel_rfl) ?_ _
              dsimp only [NoPanic]
              clear hHeld
              go_wp2_with fail
              go_ret
              exact ⟨rfl, bel_62⟩
            exact AllReadyH.nil
          refine AllReadyH.cons rfl (fun K hK => ?_) ?_
          · simp only [List.getElem_toArray, List.getElem_cons_zero, List.getElem_cons_succ]
            have kb := byte_back w_6 B_6 c (by rw [Lib.cell_of_heap gB_6]; rfl)
            go_simp
            clear kb
            refine hK.out _ _ trivial (fun hHeld => ?_)
            clear hK K
            try simp only [List.getElem_toArray, List.getElem_cons_zero, List.getElem_cons_succ, Act.put, List.setIfInBounds_toArray, List.set_cons_zero, List.set_cons_succ]
            refine wpAnyH_ready (rs := [2]) (by kernel_rfl) (by simp) ?_
            refine AllReadyH.cons rfl (fun K hK => ?_) ?_
            · simp only [List.getElem_toArray, List.getElem_cons_zero, List.getElem_cons_succ]
              go_simp
              (with_reducible refine (IH.out w_6).mono ?_)
              rintro e w_672 ⟨rfl, hB_672⟩
              dsimp only
              have bel_672 := bgo bel_6 hB_672
              have gB_672 := (hB_672.block _ (Array.getElem?_eq_some_iff.1 gB_6).1).trans gB_6
              refine hK.out _ _ trivial (fun hHeld => ?_)
              clear hK K
              try simp only [List.getElem_toArray, List.getElem_cons_zero, List.getElem_cons_succ, Act.put, List.setIfInBounds_toArray, List.set_cons_zero, List.set_cons_succ]
              refine wpAnyH_take (i := 8) (v := ?_) rfl (by kernel_rfl) (by kernel_rfl) (by kernel_rfl) (fun _ _ _ h => h) (Or.inl ⟨by kernel_rfl, ?_⟩) (by assumption) ?_
              rotate_left
              · intro w hSw
                (try dsimp only at hSw)
                go_simp
                first | done | with_reducible rfl
              simp only [List.getElem_toArray, List.getElem_cons_zero, List.getElem_cons_succ, Act.put, List.setIfInBounds_toArray, List.set_cons_zero, List.set_cons_succ]
              refine wpAnyH_take (i := 9) (v := ?_) rfl (by kernel_rfl) (by kernel_rfl) (by kernel_rfl) (fun _ _ _ h => h) (Or.inl ⟨by kernel_rfl, ?_⟩) (by assumption) ?_
              rotate_left
              · intro w hSw
                (try dsimp only at hSw)
                go_simp
                first | done | with_reducible rfl
              simp only [List.getElem_toArray, List.getElem_cons_zero, List.getElem_cons_succ, Act.put, List.setIfInBounds_toArray, List.set_cons_zero, List.set_cons_succ]
              refine wpAnyH_done (by kernel_rfl) ?_ _
              dsimp only [NoPanic]
              clear hHeld
              go_wp2_with fail
              go_ret
              exact ⟨rfl, bel_672⟩
            exact AllReadyH.nil
          exact AllReadyH.nil
        exact AllReadyH.nil
end Go.Proofs.YtfjkmhbipkoefaaDoor
