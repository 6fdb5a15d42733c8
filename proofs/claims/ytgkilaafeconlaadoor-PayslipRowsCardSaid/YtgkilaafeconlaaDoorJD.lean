/- The walks of the reference package 26: powers, commitments. Decimal numbers of the reference of layer 35. The reference's SameRows and Same, at equal payslips; its Leaf (layer 35). The reference's Leaves (layer 35). -/
import Derived.Test.YtgkilaafeconlaaDoorCmW3
import Derived.Test.YtgkilaafeconlaaDoorPsW7
import Derived.Test.YtgkilaafeconlaaDoorJA
import Derived.Test.YtgkilaafeconlaaDoorApp2
import Derived.BigQuiet
import Derived.Test.YtgkilaafeconlaaDoorPsW9
namespace Go.Proofs.YtgkilaafeconlaaDoor
open Go.RowKit
set_option linter.unusedVariables false
/-- The loop of the reference's power: the bits from the highest on. -/
structure RpRel (b e : Int) (j : Nat) (o : Int) : Prop where
  j1 : j ≤ 63
  o0 : 0 ≤ o
  o1 : o < 2147483579
  hv : o = ((b.toNat ^ (e.toNat / 2 ^ j) % Grp.P : Nat) : Int)
theorem rstep (b E : Nat) (k : Nat) : b ^ (E / 2 ^ k) % Grp.P = (if E / 2 ^ k % 2 = 1 then (b ^ (E / 2 ^ (k + 1)) % Grp.P * (b ^ (E / 2 ^ (k + 1)) % Grp.P) % Grp.P) * b % Grp.P else b ^ (E / 2 ^ (k + 1)) % Grp.P * (b ^ (E / 2 ^ (k + 1)) % Grp.P) % Grp.P) := by
  have hh : E / 2 ^ (k + 1) = E / 2 ^ k / 2 := by rw [Nat.pow_succ, Nat.div_div_eq_div_mul]
  rw [hh]
  generalize E / 2 ^ k = q
  rw [← Nat.mul_mod]
  by_cases h : q % 2 = 1
  · rw [if_pos h, Nat.mod_mul_mod, ← Nat.pow_add, ← Nat.pow_succ]
    congr 2
    omega
  · rw [if_neg h, ← Nat.pow_add]
    congr 2
    omega
theorem RpRel.step {b e : Int} {k : Nat} {o o' : Int} (hb0 : 0 ≤ b) (h : RpRel b e (k + 1) o) (ho : o' = if e.toNat / 2 ^ k % 2 = 1 then o * o % 2147483579 * b % 2147483579 else o * o % 2147483579) : RpRel b e k o' := by
  have hj := h.j1
  obtain ⟨B, rfl⟩ := Int.eq_ofNat_of_zero_le hb0
  have hv : o' = ((B ^ (e.toNat / 2 ^ k) % Grp.P : Nat) : Int) := by
    rw [ho, h.hv, Int.toNat_natCast, rstep B e.toNat k]
    split
    · rw [mulI_nat, mulI_nat]
    · rw [mulI_nat]
  have hl : B ^ (e.toNat / 2 ^ k) % Grp.P < 2147483579 := Nat.mod_lt _ Grp.P_pos
  exact ⟨by omega, by rw [hv]; omega, by rw [hv]; omega, by rw [hv, Int.toNat_natCast]⟩
set_option maxHeartbeats 4000000 in
set_option maxRecDepth 100000 in
theorem rpower_v (b e v : Int) (w : World) (hb0 : 0 ≤ b) (hb1 : b < 2147483579) (he0 : 0 ≤ e) (he1 : e ≤ 9223372036854775807) (hv : Hid (pwI b e = v)) :
    Calls Tryd.prog 68 #[.int .i64 b, .int .i64 e] w fun r w' => r = .returned (.int .i64 v) ∧ w = w' := by
  have hst : RpRel b e 63 1 := by
    refine ⟨by omega, by omega, by omega, ?_⟩
    rw [Nat.div_eq_of_lt (show e.toNat < 2 ^ 63 by have : (2 : Nat) ^ 63 = 9223372036854775808 := rfl; omega), Nat.pow_zero]
    decide
  have HST := Lib.hid hst
  clear hst
  go_enter Tryd.func68, Tryd.ntmps68
  go_wp2
  go_loop [5, 6] (fun s5 s6 => ∃ (j : Nat) (o : Int), s6 = .int .i64 ((j : Int) - 1) ∧ s5 = .int .i64 o ∧ RpRel b e j o) (fun _ s6 => (intOf s6 + 1).toNat)
  case atStart => exact ⟨63, 1, rfl, rfl, HST.out⟩
  case round =>
    clear HST
    obtain ⟨j, o, rfl, rfl, hR⟩ := hrel
    have o0 := hR.o0
    have o1 := hR.o1
    have j1 := hR.j1
    cases j with
    | zero =>
      have ho : o = v := by
        rw [hR.hv, ← hv.out]
        unfold pwI
        rw [Nat.pow_zero, Nat.div_one]
      subst ho
      have hz : ((0 : Nat) : Int) - 1 = -1 := by omega
      rw [hz]
      clear hR hz
      go_wp2
      go_ret
      exact ⟨rfl, rfl⟩
    | succ k =>
      have hz : ((k + 1 : Nat) : Int) - 1 = (k : Int) := by omega
      rw [hz]
      clear hz
      have hsq := mulB o0 o1 o0 o1
      have hsb := modB _ hsq.1
      obtain ⟨s, hs⟩ : ∃ s, o * o % 2147483579 = s := ⟨_, rfl⟩
      rw [hs] at hsb
      have hm := mulB hsb.1 hsb.2 hb0 hb1
      obtain ⟨q, hq⟩ : ∃ q : Int, e / (2 : Int) ^ k = q := ⟨_, rfl⟩
      have hq2 : q = ((e.toNat / 2 ^ k : Nat) : Int) := by
        rw [← hq, Int.natCast_ediv, Int.toNat_of_nonneg he0, Int.natCast_pow]; rfl
      have hqb : e.toNat / 2 ^ k < 9223372036854775808 := by
        have := Nat.div_le_self e.toNat (2 ^ k)
        omega
      have hbt := bit_test _ hqb
      rw [← hq2] at hbt
      have c1 : (0 : Int) ≤ (k : Int) := Int.natCast_nonneg _
      have c2 : (k : Int) ≤ 62 := by omega
      by_cases hodd : e.toNat / 2 ^ k % 2 = 1
      · have ht : (Go.bits .and .i64 q 1 == 1) = true := by rw [hbt]; simpa using hodd
        have HF := Lib.hid (hR.step hb0 (o' := s * b % 2147483579) (by rw [if_pos hodd, hs]))
        clear hR hq2 hqb hbt hodd
        go_wp2
        go_round
        case rel => exact ⟨k, _, rfl, rfl, HF.out⟩
        case measure => first | (simp [intOf]; omega) | simp [intOf]
      · have ht : (Go.bits .and .i64 q 1 == 1) = false := by rw [hbt]; simpa using hodd
        have HF := Lib.hid (hR.step hb0 (o' := o * o % 2147483579) (by rw [if_neg hodd]))
        clear hR hq2 hqb hbt hodd
        go_wp2
        go_round
        case rel => exact ⟨k, _, rfl, rfl, HF.out⟩
        case measure => first | (simp [intOf]; omega) | simp [intOf]
theorem rcommit_v (v b c : Int) (hc : Hid (commitI v b = c)) (w : World) (hv0 : 0 ≤ v) (hv1 : v < 1073741789) (hb0 : 0 ≤ b) (hb1 : b < 1073741789) :
    Calls Tryd.prog 49 #[.int .i64 v, .int .i64 b] w fun e w' => e = .returned (.tuple #[.int .i64 c, .int .i64 0]) ∧ w = w' := by
  obtain ⟨x, hx⟩ : ∃ x, pwI 4 v = x := ⟨_, rfl⟩
  obtain ⟨y, hy⟩ : ∃ y, pwI 9 b = y := ⟨_, rfl⟩
  have hxb := pwI_bd 4 v
  have hyb := pwI_bd 9 b
  rw [hx] at hxb
  rw [hy] at hyb
  have hm := mulB hxb.1 hxb.2 hyb.1 hyb.2
  have hcc : x * y % 2147483579 = c := by rw [← hc.out]; unfold commitI; rw [hx, hy]
  have HX := Lib.hid hx
  have HY := Lib.hid hy
  have HCC := Lib.hid hcc
  clear hx hy hc hcc
  go_enter Tryd.func49, Tryd.ntmps49
  go_wp2_with fail
  refine (rpower_v 4 v x _ (by omega) (by omega) (by omega) (by omega) HX).mono ?_
  rintro e w' ⟨rfl, rfl⟩
  go_wp2_with fail
  refine (rpower_v 9 b y _ (by omega) (by omega) (by omega) (by omega) HY).mono ?_
  rintro e w' ⟨rfl, rfl⟩
  go_wp2
  go_ret2
  exact ⟨by rw [← HCC.out]; rfl, rfl⟩
end Go.Proofs.YtgkilaafeconlaaDoor
namespace Go.Proofs.YtgkilaafeconlaaDoor
open Go.RowKit Go.Shelf
set_option linter.unusedVariables false
set_option linter.unusedSimpArgs false
set_option maxRecDepth 100000
def dgB (k : Nat) : UInt8 := UInt8.ofNat (48 + k % 10)
theorem dgB_nat (k : Nat) : (dgB k).toNat = 48 + k % 10 := by unfold dgB; rw [UInt8.toNat_ofNat']; omega
theorem num_small (k : Nat) (h : k < 10) : itoaB (k : Int) = ⟨[dgB k].toArray⟩ := by
  unfold itoaB Lib.itoa
  rw [if_neg (by omega), Int.toNat_natCast, Lib.decDigits, dif_pos h]
  unfold dgB
  rw [Nat.mod_eq_of_lt h]
theorem num_small_neg (k : Nat) (h : k < 10) (h0 : 0 < k) : itoaB (-(k : Int)) = ⟨#[45]⟩ ++ ⟨[dgB k].toArray⟩ := by
  unfold itoaB Lib.itoa
  rw [if_pos (by omega), Int.natAbs_neg, Int.natAbs_natCast, Lib.decDigits, dif_pos h]
  unfold dgB
  rw [Nat.mod_eq_of_lt h]
  rfl
theorem num_big (k : Nat) (h : 10 ≤ k) : itoaB (k : Int) = itoaB ((k / 10 : Nat) : Int) ++ ⟨[dgB k].toArray⟩ := by
  unfold itoaB Lib.itoa
  rw [if_neg (by omega), if_neg (by omega), Int.toNat_natCast, Int.toNat_natCast, Lib.decDigits, dif_neg (by omega)]
  unfold dgB
  apply ByteArray.ext
  simp [ByteArray.data_append]
theorem num_big_neg (k : Nat) (h : 10 ≤ k) : itoaB (-(k : Int)) = itoaB (-((k / 10 : Nat) : Int)) ++ ⟨[dgB k].toArray⟩ := by
  unfold itoaB Lib.itoa
  rw [if_pos (by omega), if_pos (by omega), Int.natAbs_neg, Int.natAbs_natCast, Int.natAbs_neg, Int.natAbs_natCast, Lib.decDigits, dif_neg (by omega)]
  unfold dgB
  apply ByteArray.ext
  simp [ByteArray.data_append]
set_option maxHeartbeats 4000000 in
theorem rnumber_any : ∀ (m : Nat) (n : Int) (w : World), n.natAbs ≤ m → -9223372036854775808 ≤ n → n ≤ 9223372036854775807 → Calls Tryd.prog 32 #[.int .i64 n] w fun e w' => e = .returned (.string (itoaB n)) ∧ Below w.heap.size w w' := by
  intro m
  induction m with
  | zero =>
    intro n w h h1 h2
    obtain rfl : n = 0 := by omega
    have kb := byte_back (w.alloc (.cells #[.int .u8 48] 5)) w.heap.size 48 (by simp [go_sem])
    go_enter Tryd.func32, Tryd.ntmps32
    go_wp2
    go_ret
    exact ⟨by rw [show itoaB 0 = ⟨#[48]⟩ by decide +kernel]; rfl, bal (Below.refl _ _) _⟩
  | succ m ih =>
    intro n w h h1 h2
    by_cases hs : -10 < n ∧ n < 10
    · obtain ⟨g1, g2⟩ := hs
      by_cases h0 : n < 0
      · obtain ⟨k, rfl⟩ : ∃ k : Nat, n = -(k : Int) := ⟨n.natAbs, by omega⟩
        obtain ⟨c, hc⟩ : ∃ c, dgB k = c := ⟨_, rfl⟩
        have hcn : (c.toNat : Int) = 48 + (k : Int) := by rw [← hc, dgB_nat]; omega
        have hu8 : IntKind.u8.wrap (48 + (k : Int)) = (c.toNat : Int) := by rw [hcn, IntKind.wrap_u8']; omega
        have hu8' : IntKind.u8.wrap (48 - -(k : Int)) = (c.toNat : Int) := by rw [show (48 : Int) - -(k : Int) = 48 + (k : Int) by omega]; exact hu8
        have hw : IntKind.i64.wrap (48 - -(k : Int)) = 48 + (k : Int) := by rw [show (48 : Int) - -(k : Int) = 48 + (k : Int) by omega]; exact IntWalk.i64_in _ (by omega)
        have hw' : IntKind.i64.wrap (48 + (k : Int)) = 48 + (k : Int) := IntWalk.i64_in _ (by omega)
        have kb := byte_back (w.alloc (.cells #[.int .u8 c.toNat] 5)) w.heap.size c (by simp [go_sem])
        rw [num_small_neg k (by omega) (by omega), hc]
        clear hc hcn ih
        go_enter Tryd.func32, Tryd.ntmps32
        go_wp2
        go_ret
        exact ⟨rfl, bal (Below.refl _ _) _⟩
      · obtain ⟨k, rfl⟩ : ∃ k : Nat, n = (k : Int) := ⟨n.natAbs, by omega⟩
        obtain ⟨c, hc⟩ : ∃ c, dgB k = c := ⟨_, rfl⟩
        have hcn : (c.toNat : Int) = 48 + (k : Int) := by rw [← hc, dgB_nat]; omega
        have hu8 : IntKind.u8.wrap (48 + (k : Int)) = (c.toNat : Int) := by rw [hcn, IntKind.wrap_u8']; omega
        have hw' : IntKind.i64.wrap (48 + (k : Int)) = 48 + (k : Int) := IntWalk.i64_in _ (by omega)
        have kb := byte_back (w.alloc (.cells #[.int .u8 c.toNat] 5)) w.heap.size c (by simp [go_sem])
        rw [num_small k (by omega), hc]
        clear hc hcn ih
        go_enter Tryd.func32, Tryd.ntmps32
        go_wp2
        go_ret
        exact ⟨rfl, bal (Below.refl _ _) _⟩
    · by_cases h0 : n < 0
      · obtain ⟨k, rfl⟩ : ∃ k : Nat, n = -(k : Int) := ⟨n.natAbs, by omega⟩
        have hk : 10 ≤ k := by omega
        obtain ⟨c, hc⟩ : ∃ c, dgB k = c := ⟨_, rfl⟩
        obtain ⟨r, hr⟩ : ∃ r : Nat, k % 10 = r := ⟨_, rfl⟩
        obtain ⟨q, hq⟩ : ∃ q : Nat, k / 10 = q := ⟨_, rfl⟩
        have hcn : (c.toNat : Int) = 48 + (r : Int) := by rw [← hc, dgB_nat]; omega
        have hu8 : IntKind.u8.wrap (48 + (r : Int)) = (c.toNat : Int) := by rw [hcn, IntKind.wrap_u8']; omega
        have e1' : (k : Int).tmod 10 = (r : Int) := by rw [Int.tmod_eq_emod_of_nonneg (by omega)]; omega
        have e1'' : (k : Int) % 10 = (r : Int) := by omega
        have e2' : (k : Int).tdiv 10 = (q : Int) := by rw [Int.tdiv_eq_ediv_of_nonneg (by omega)]; omega
        have e2'' : (k : Int) / 10 = (q : Int) := by omega
        have e1 : (-(k : Int)).tmod 10 = -(r : Int) := by rw [Int.neg_tmod, e1']
        have e2 : (-(k : Int)).tdiv 10 = -(q : Int) := by rw [Int.neg_tdiv, e2']
        have g : ¬ -10 < -(k : Int) := by omega
        have g0 : -(k : Int) < 0 := by omega
        have IH0 := fun w => ih (-(q : Int)) w (by omega) (by omega) (by omega)
        rw [num_big_neg k hk, hc, hq]
        have hsz := itoaB_size (-(q : Int)) (by omega) (by omega)
        obtain ⟨t, ht⟩ : ∃ t, itoaB (-(q : Int)) = t := ⟨_, rfl⟩
        rw [ht] at hsz IH0 ⊢
        have IH := Lib.hid IH0
        have hr9 : r ≤ 9 := by omega
        have hcat : ¬ 9223372036854775807 < t.size + 1 := by omega
        have hwq : IntKind.i64.wrap (-(q : Int)) = -(q : Int) := IntWalk.i64_in _ (by omega)
        clear IH0
        by_cases hr0 : r = 0
        · subst hr0
          have hc48 : c = 48 := by apply UInt8.toNat_inj.1; show c.toNat = 48; omega
          subst hc48
          have e1 : (-(k : Int)).tmod 10 = 0 := by rw [e1]; rfl
          have e1b : (k : Int).tmod 10 = 0 := e1'
          have e1c : (k : Int) % 10 = 0 := e1''
          have hw48 : IntKind.i64.wrap 48 = 48 := IntWalk.i64_in _ (by omega)
          have hu48 : IntKind.u8.wrap 48 = 48 := by decide
          clear hcn hu8 e1' e1''
          clear hc ih hs h hr hq ht
          go_enter Tryd.func32, Tryd.ntmps32
          go_upto_region 8 with fail
          have bel0 : Below w.heap.size w w.drew := (Below.refl _ _).drew
          refine wp_region_noPanic ?_
          refine wp_region_held_drew (S := fun _ => True) (by kernel_rfl) trivial (fun hHeld => ?_)
          refine wpAnyH_take (i := 0) (v := ?_) rfl (by kernel_rfl) (by kernel_rfl) (by kernel_rfl) (fun _ _ _ h => h) (Or.inl ⟨by kernel_rfl, ?_⟩) (by assumption) ?_
          rotate_left
          · intro w hSw
            (try dsimp only at hSw)
            go_simp
            first | done | with_reducible rfl
          simp only [List.getElem_toArray, List.getElem_cons_zero, List.getElem_cons_succ, Act.put, List.setIfInBounds_toArray, List.set_cons_zero, List.set_cons_succ]
          refine wpAnyH_take (i := 1) (v := ?_) rfl (by kernel_rfl) (by kernel_rfl) (by kernel_rfl) (fun _ _ _ h => h) (Or.inl ⟨by kernel_rfl, ?_⟩) (by assumption) ?_
          rotate_left
          · intro w hSw
            (try dsimp only at hSw)
            go_simp
            first | done | with_reducible rfl
          simp only [List.getElem_toArray, List.getElem_cons_zero, List.getElem_cons_succ, Act.put, List.setIfInBounds_toArray, List.set_cons_zero, List.set_cons_succ]
          refine wpAnyH_take (i := 3) (v := ?_) rfl (by kernel_rfl) (by kernel_rfl) (by kernel_rfl) (fun _ _ _ h => h) (Or.inl ⟨by kernel_rfl, ?_⟩) (by assumption) ?_
          rotate_left
          · intro w hSw
            (try dsimp only at hSw)
            go_simp
            first | done | with_reducible rfl
          simp only [List.getElem_toArray, List.getElem_cons_zero, List.getElem_cons_succ, Act.put, List.setIfInBounds_toArray, List.set_cons_zero, List.set_cons_succ]
          refine wpAnyH_take (i := 4) (v := ?_) rfl (by kernel_rfl) (by kernel_rfl) (by kernel_rfl) (fun _ _ _ h => h) (Or.inl ⟨by kernel_rfl, ?_⟩) (by assumption) ?_
          rotate_left
          · intro w hSw
            (try dsimp only at hSw)
            go_simp
            first | done | with_reducible rfl
          simp only [List.getElem_toArray, List.getElem_cons_zero, List.getElem_cons_succ, Act.put, List.setIfInBounds_toArray, List.set_cons_zero, List.set_cons_succ]
          refine wpAnyH_take (i := 5) (v := ?_) rfl (by kernel_rfl) (by kernel_rfl) (by kernel_rfl) (fun _ _ _ h => h) (Or.inl ⟨by kernel_rfl, ?_⟩) (by assumption) ?_
          rotate_left
          · intro w hSw
            (try dsimp only at hSw)
            go_simp
            first | done | with_reducible rfl
          simp only [List.getElem_toArray, List.getElem_cons_zero, List.getElem_cons_succ, Act.put, List.setIfInBounds_toArray, List.set_cons_zero, List.set_cons_succ]
          refine wpAnyH_ready (rs := [2, 6]) (by kernel_rfl) (by simp) ?_
          refine AllReadyH.cons rfl (fun K hK => ?_) ?_
          · simp only [List.getElem_toArray, List.getElem_cons_zero, List.getElem_cons_succ]
            go_simp
            (with_reducible refine (IH.out w.drew).mono ?_)
            rintro e w_2 ⟨rfl, hB_2⟩
            dsimp only
            have bel_2 := bgo bel0 hB_2
            refine hK.out _ _ trivial (fun hHeld => ?_)
            clear hK K
            try simp only [List.getElem_toArray, List.getElem_cons_zero, List.getElem_cons_succ, Act.put, List.setIfInBounds_toArray, List.set_cons_zero, List.set_cons_succ]
            refine wpAnyH_ready (rs := [6]) (by kernel_rfl) (by simp) ?_
            refine AllReadyH.cons rfl (fun K hK => ?_) ?_
            · simp only [List.getElem_toArray, List.getElem_cons_zero, List.getElem_cons_succ]
              go_simp
              refine hK.out _ _ trivial (fun hHeld => ?_)
              obtain ⟨B_26, hB_26⟩ : ∃ x, x = w_2.heap.size := ⟨_, rfl⟩
              obtain ⟨w_26, hw_26⟩ : ∃ x, x = w_2.alloc (.cells #[.int .u8 48] 5) := ⟨_, rfl⟩
              rw [← hw_26, ← hB_26]
              have bel_26 : Below w.heap.size w w_26 := by rw [hw_26]; exact bal bel_2 _
              have gB_26 : w_26.heap[B_26]? = some (.cells #[.int .u8 48] 5) := by rw [hw_26, hB_26]; exact World.alloc_heap_new w_2 _
              clear hw_26 hB_26
              clear hK K
              try simp only [List.getElem_toArray, List.getElem_cons_zero, List.getElem_cons_succ, Act.put, List.setIfInBounds_toArray, List.set_cons_zero, List.set_cons_succ]
              refine wpAnyH_ready (rs := [7]) (by kernel_rfl) (by simp) ?_
              refine AllReadyH.cons rfl (fun K hK => ?_) ?_
              · simp only [List.getElem_toArray, List.getElem_cons_zero, List.getElem_cons_succ]
                have kb := byte_back w_26 B_26 48 (by rw [Lib.cell_of_heap gB_26]; rfl)
                have kb0 : (convert 114 9 (.slice (some ⟨B_26, 0, none⟩) 1 1)).run Tryd.prog w_26 = .ok (.string ⟨#[48]⟩) w_26 := kb
                go_simp
                clear kb kb0
                refine hK.out _ _ trivial (fun hHeld => ?_)
                clear hK K
                try simp only [List.getElem_toArray, List.getElem_cons_zero, List.getElem_cons_succ, Act.put, List.setIfInBounds_toArray, List.set_cons_zero, List.set_cons_succ]
                refine wpAnyH_take (i := 8) (v := ?_) rfl (by kernel_rfl) (by kernel_rfl) (by kernel_rfl) (fun _ _ _ h => h) (Or.inl ⟨by kernel_rfl, ?_⟩) (by assumption) ?_
                rotate_left
                · intro w hSw
                  (try dsimp only at hSw)
                  go_simp
                  first | done | with_reducible rfl
                simp only [List.getElem_toArray, List.getElem_cons_zero, List.getElem_cons_succ, Act.put, List.setIfInBounds_toArray, List.set_cons_zero, List.set_cons_succ]
                refine wpAnyH_take (i := 9) (v := ?_) rfl (by kernel_rfl) (by kernel_rfl) (by kernel_rfl) (fun _ _ _ h => h) (Or.inl ⟨by kernel_rfl, ?_⟩) (by assumption) ?_
                rotate_left
                · intro w hSw
                  (try dsimp only at hSw)
                  go_simp
                  first | done | with_reducible rfl
                simp only [List.getElem_toArray, List.getElem_cons_zero, List.getElem_cons_succ, Act.put, List.setIfInBounds_toArray, List.set_cons_zero, List.set_cons_succ]
                refine wpAnyH_done (by kernel_rfl) ?_ _
                dsimp only [NoPanic]
                clear hHeld
                go_wp2_with fail
                go_ret
                exact ⟨rfl, bel_26⟩
              exact AllReadyH.nil
            exact AllReadyH.nil
          refine AllReadyH.cons rfl (fun K hK => ?_) ?_
          · simp only [List.getElem_toArray, List.getElem_cons_zero, List.getElem_cons_succ]
            go_simp
            refine hK.out _ _ trivial (fun hHeld => ?_)
            obtain ⟨B_6, hB_6⟩ : ∃ x, x = w.heap.size := ⟨_, rfl⟩
            obtain ⟨w_6, hw_6⟩ : ∃ x, x = (w.alloc (.cells #[.int .u8 48] 5)).drew := ⟨_, rfl⟩
            rw [← hw_6, ← hB_6]
            have bel_6 : Below w.heap.size w w_6 := by rw [hw_6]; exact (bal (Below.refl w.heap.size w) _).drew
            have gB_6 : w_6.heap[B_6]? = some (.cells #[.int .u8 48] 5) := by rw [hw_6, hB_6]; exact World.alloc_heap_new w _
            clear hw_6 hB_6
            clear hK K
            try simp only [List.getElem_toArray, List.getElem_cons_zero, List.getElem_cons_succ, Act.put, List.setIfInBounds_toArray, List.set_cons_zero, List.set_cons_succ]
            refine wpAnyH_ready (rs := [2, 7]) (by kernel_rfl) (by simp) ?_
            refine AllReadyH.cons rfl (fun K hK => ?_) ?_
            · simp only [List.getElem_toArray, List.getElem_cons_zero, List.getElem_cons_succ]
              go_simp
              (with_reducible refine (IH.out w_6).mono ?_)
              rintro e w_62 ⟨rfl, hB_62⟩
              dsimp only
              have bel_62 := bgo bel_6 hB_62
              have gB_62 := (hB_62.block _ (Array.getElem?_eq_some_iff.1 gB_6).1).trans gB_6
              refine hK.out _ _ trivial (fun hHeld => ?_)
              clear hK K
              try simp only [List.getElem_toArray, List.getElem_cons_zero, List.getElem_cons_succ, Act.put, List.setIfInBounds_toArray, List.set_cons_zero, List.set_cons_succ]
              refine wpAnyH_ready (rs := [7]) (by kernel_rfl) (by simp) ?_
              refine AllReadyH.cons rfl (fun K hK => ?_) ?_
              · simp only [List.getElem_toArray, List.getElem_cons_zero, List.getElem_cons_succ]
                have kb := byte_back w_62 B_6 48 (by rw [Lib.cell_of_heap gB_62]; rfl)
                have kb0 : (convert 114 9 (.slice (some ⟨B_6, 0, none⟩) 1 1)).run Tryd.prog w_62 = .ok (.string ⟨#[48]⟩) w_62 := kb
                go_simp
                clear kb kb0
                refine hK.out _ _ trivial (fun hHeld => ?_)
                clear hK K
                try simp only [List.getElem_toArray, List.getElem_cons_zero, List.getElem_cons_succ, Act.put, List.setIfInBounds_toArray, List.set_cons_zero, List.set_cons_succ]
                refine wpAnyH_take (i := 8) (v := ?_) rfl (by kernel_rfl) (by kernel_rfl) (by kernel_rfl) (fun _ _ _ h => h) (Or.inl ⟨by kernel_rfl, ?_⟩) (by assumption) ?_
                rotate_left
                · intro w hSw
                  (try dsimp only at hSw)
                  go_simp
                  first | done | with_reducible rfl
                simp only [List.getElem_toArray, List.getElem_cons_zero, List.getElem_cons_succ, Act.put, List.setIfInBounds_toArray, List.set_cons_zero, List.set_cons_succ]
                refine wpAnyH_take (i := 9) (v := ?_) rfl (by kernel_rfl) (by kernel_rfl) (by kernel_rfl) (fun _ _ _ h => h) (Or.inl ⟨by kernel_rfl, ?_⟩) (by assumption) ?_
                rotate_left
                · intro w hSw
                  (try dsimp only at hSw)
                  go_simp
                  first | done | with_reducible rfl
                simp only [List.getElem_toArray, List.getElem_cons_zero, List.getElem_cons_succ, Act.put, List.setIfInBounds_toArray, List.set_cons_zero, List.set_cons_succ]
                refine wpAnyH_done (by kernel_rfl) ?_ _
                dsimp only [NoPanic]
                clear hHeld
                go_wp2_with fail
                go_ret
                exact ⟨rfl, bel_62⟩
              exact AllReadyH.nil
            refine AllReadyH.cons rfl (fun K hK => ?_) ?_
            · simp only [List.getElem_toArray, List.getElem_cons_zero, List.getElem_cons_succ]
              have kb := byte_back w_6 B_6 48 (by rw [Lib.cell_of_heap gB_6]; rfl)
              have kb0 : (convert 114 9 (.slice (some ⟨B_6, 0, none⟩) 1 1)).run Tryd.prog w_6 = .ok (.string ⟨#[48]⟩) w_6 := kb
              go_simp
              clear kb kb0
              refine hK.out _ _ trivial (fun hHeld => ?_)
              clear hK K
              try simp only [List.getElem_toArray, List.getElem_cons_zero, List.getElem_cons_succ, Act.put, List.setIfInBounds_toArray, List.set_cons_zero, List.set_cons_succ]
              refine wpAnyH_ready (rs := [2]) (by kernel_rfl) (by simp) ?_
              refine AllReadyH.cons rfl (fun K hK => ?_) ?_
              · simp only [List.getElem_toArray, List.getElem_cons_zero, List.getElem_cons_succ]
                go_simp
                (with_reducible refine (IH.out w_6).mono ?_)
                rintro e w_672 ⟨rfl, hB_672⟩
                dsimp only
                have bel_672 := bgo bel_6 hB_672
                have gB_672 := (hB_672.block _ (Array.getElem?_eq_some_iff.1 gB_6).1).trans gB_6
                refine hK.out _ _ trivial (fun hHeld => ?_)
                clear hK K
                try simp only [List.getElem_toArray, List.getElem_cons_zero, List.getElem_cons_succ, Act.put, List.setIfInBounds_toArray, List.set_cons_zero, List.set_cons_succ]
                refine wpAnyH_take (i := 8) (v := ?_) rfl (by kernel_rfl) (by kernel_rfl) (by kernel_rfl) (fun _ _ _ h => h) (Or.inl ⟨by kernel_rfl, ?_⟩) (by assumption) ?_
                rotate_left
                · intro w hSw
                  (try dsimp only at hSw)
                  go_simp
                  first | done | with_reducible rfl
                simp only [List.getElem_toArray, List.getElem_cons_zero, List.getElem_cons_succ, Act.put, List.setIfInBounds_toArray, List.set_cons_zero, List.set_cons_succ]
                refine wpAnyH_take (i := 9) (v := ?_) rfl (by kernel_rfl) (by kernel_rfl) (by kernel_rfl) (fun _ _ _ h => h) (Or.inl ⟨by kernel_rfl, ?_⟩) (by assumption) ?_
                rotate_left
                · intro w hSw
                  (try dsimp only at hSw)
                  go_simp
                  first | done | with_reducible rfl
                simp only [List.getElem_toArray, List.getElem_cons_zero, List.getElem_cons_succ, Act.put, List.setIfInBounds_toArray, List.set_cons_zero, List.set_cons_succ]
                refine wpAnyH_done (by kernel_rfl) ?_ _
                dsimp only [NoPanic]
                clear hHeld
                go_wp2_with fail
                go_ret
                exact ⟨rfl, bel_672⟩
              exact AllReadyH.nil
            exact AllReadyH.nil
          exact AllReadyH.nil
        · have hw9 : IntKind.i64.wrap (48 + (r : Int)) = 48 + (r : Int) := IntWalk.i64_in _ (by omega)
          have hrp : -(r : Int) < 0 := by omega
          clear hcn
          clear hc ih hs h hr hq ht
          go_enter Tryd.func32, Tryd.ntmps32
          go_upto_region 8 with fail
          have bel0 : Below w.heap.size w w.drew := (Below.refl _ _).drew
          refine wp_region_noPanic ?_
          refine wp_region_held_drew (S := fun _ => True) (by kernel_rfl) trivial (fun hHeld => ?_)
          refine wpAnyH_take (i := 0) (v := ?_) rfl (by kernel_rfl) (by kernel_rfl) (by kernel_rfl) (fun _ _ _ h => h) (Or.inl ⟨by kernel_rfl, ?_⟩) (by assumption) ?_
          rotate_left
          · intro w hSw
            (try dsimp only at hSw)
            go_simp
            first | done | with_reducible rfl
          simp only [List.getElem_toArray, List.getElem_cons_zero, List.getElem_cons_succ, Act.put, List.setIfInBounds_toArray, List.set_cons_zero, List.set_cons_succ]
          refine wpAnyH_take (i := 1) (v := ?_) rfl (by kernel_rfl) (by kernel_rfl) (by kernel_rfl) (fun _ _ _ h => h) (Or.inl ⟨by kernel_rfl, ?_⟩) (by assumption) ?_
          rotate_left
          · intro w hSw
            (try dsimp only at hSw)
            go_simp
            first | done | with_reducible rfl
          simp only [List.getElem_toArray, List.getElem_cons_zero, List.getElem_cons_succ, Act.put, List.setIfInBounds_toArray, List.set_cons_zero, List.set_cons_succ]
          refine wpAnyH_take (i := 3) (v := ?_) rfl (by kernel_rfl) (by kernel_rfl) (by kernel_rfl) (fun _ _ _ h => h) (Or.inl ⟨by kernel_rfl, ?_⟩) (by assumption) ?_
          rotate_left
          · intro w hSw
            (try dsimp only at hSw)
            go_simp
            first | done | with_reducible rfl
          simp only [List.getElem_toArray, List.getElem_cons_zero, List.getElem_cons_succ, Act.put, List.setIfInBounds_toArray, List.set_cons_zero, List.set_cons_succ]
          refine wpAnyH_take (i := 4) (v := ?_) rfl (by kernel_rfl) (by kernel_rfl) (by kernel_rfl) (fun _ _ _ h => h) (Or.inl ⟨by kernel_rfl, ?_⟩) (by assumption) ?_
          rotate_left
          · intro w hSw
            (try dsimp only at hSw)
            go_simp
            first | done | with_reducible rfl
          simp only [List.getElem_toArray, List.getElem_cons_zero, List.getElem_cons_succ, Act.put, List.setIfInBounds_toArray, List.set_cons_zero, List.set_cons_succ]
          refine wpAnyH_take (i := 5) (v := ?_) rfl (by kernel_rfl) (by kernel_rfl) (by kernel_rfl) (fun _ _ _ h => h) (Or.inl ⟨by kernel_rfl, ?_⟩) (by assumption) ?_
          rotate_left
          · intro w hSw
            (try dsimp only at hSw)
            go_simp
            first | done | with_reducible rfl
          simp only [List.getElem_toArray, List.getElem_cons_zero, List.getElem_cons_succ, Act.put, List.setIfInBounds_toArray, List.set_cons_zero, List.set_cons_succ]
          refine wpAnyH_ready (rs := [2, 6]) (by kernel_rfl) (by simp) ?_
          refine AllReadyH.cons rfl (fun K hK => ?_) ?_
          · simp only [List.getElem_toArray, List.getElem_cons_zero, List.getElem_cons_succ]
            go_simp
            (with_reducible refine (IH.out w.drew).mono ?_)
            rintro e w_2 ⟨rfl, hB_2⟩
            dsimp only
            have bel_2 := bgo bel0 hB_2
            refine hK.out _ _ trivial (fun hHeld => ?_)
            clear hK K
            try simp only [List.getElem_toArray, List.getElem_cons_zero, List.getElem_cons_succ, Act.put, List.setIfInBounds_toArray, List.set_cons_zero, List.set_cons_succ]
            refine wpAnyH_ready (rs := [6]) (by kernel_rfl) (by simp) ?_
            refine AllReadyH.cons rfl (fun K hK => ?_) ?_
            · simp only [List.getElem_toArray, List.getElem_cons_zero, List.getElem_cons_succ]
              go_simp
              refine hK.out _ _ trivial (fun hHeld => ?_)
              obtain ⟨B_26, hB_26⟩ : ∃ x, x = w_2.heap.size := ⟨_, rfl⟩
              obtain ⟨w_26, hw_26⟩ : ∃ x, x = w_2.alloc (.cells #[.int .u8 c.toNat] 5) := ⟨_, rfl⟩
              rw [← hw_26, ← hB_26]
              have bel_26 : Below w.heap.size w w_26 := by rw [hw_26]; exact bal bel_2 _
              have gB_26 : w_26.heap[B_26]? = some (.cells #[.int .u8 c.toNat] 5) := by rw [hw_26, hB_26]; exact World.alloc_heap_new w_2 _
              clear hw_26 hB_26
              clear hK K
              try simp only [List.getElem_toArray, List.getElem_cons_zero, List.getElem_cons_succ, Act.put, List.setIfInBounds_toArray, List.set_cons_zero, List.set_cons_succ]
              refine wpAnyH_ready (rs := [7]) (by kernel_rfl) (by simp) ?_
              refine AllReadyH.cons rfl (fun K hK => ?_) ?_
              · simp only [List.getElem_toArray, List.getElem_cons_zero, List.getElem_cons_succ]
                have kb := byte_back w_26 B_26 c (by rw [Lib.cell_of_heap gB_26]; rfl)
                go_simp
                clear kb
                refine hK.out _ _ trivial (fun hHeld => ?_)
                clear hK K
                try simp only [List.getElem_toArray, List.getElem_cons_zero, List.getElem_cons_succ, Act.put, List.setIfInBounds_toArray, List.set_cons_zero, List.set_cons_succ]
                refine wpAnyH_take (i := 8) (v := ?_) rfl (by kernel_rfl) (by kernel_rfl) (by kernel_rfl) (fun _ _ _ h => h) (Or.inl ⟨by kernel_rfl, ?_⟩) (by assumption) ?_
                rotate_left
                · intro w hSw
                  (try dsimp only at hSw)
                  go_simp
                  first | done | with_reducible rfl
                simp only [List.getElem_toArray, List.getElem_cons_zero, List.getElem_cons_succ, Act.put, List.setIfInBounds_toArray, List.set_cons_zero, List.set_cons_succ]
                refine wpAnyH_take (i := 9) (v := ?_) rfl (by kernel_rfl) (by kernel_rfl) (by kernel_rfl) (fun _ _ _ h => h) (Or.inl ⟨by kernel_rfl, ?_⟩) (by assumption) ?_
                rotate_left
                · intro w hSw
                  (try dsimp only at hSw)
                  go_simp
                  first | done | with_reducible rfl
                simp only [List.getElem_toArray, List.getElem_cons_zero, List.getElem_cons_succ, Act.put, List.setIfInBounds_toArray, List.set_cons_zero, List.set_cons_succ]
                refine wpAnyH_done (by kernel_rfl) ?_ _
                dsimp only [NoPanic]
                clear hHeld
                go_wp2_with fail
                go_ret
                exact ⟨rfl, bel_26⟩
              exact AllReadyH.nil
            exact AllReadyH.nil
          refine AllReadyH.cons rfl (fun K hK => ?_) ?_
          · simp only [List.getElem_toArray, List.getElem_cons_zero, List.getElem_cons_succ]
            go_simp
            refine hK.out _ _ trivial (fun hHeld => ?_)
            obtain ⟨B_6, hB_6⟩ : ∃ x, x = w.heap.size := ⟨_, rfl⟩
            obtain ⟨w_6, hw_6⟩ : ∃ x, x = (w.alloc (.cells #[.int .u8 c.toNat] 5)).drew := ⟨_, rfl⟩
            rw [← hw_6, ← hB_6]
            have bel_6 : Below w.heap.size w w_6 := by rw [hw_6]; exact (bal (Below.refl w.heap.size w) _).drew
            have gB_6 : w_6.heap[B_6]? = some (.cells #[.int .u8 c.toNat] 5) := by rw [hw_6, hB_6]; exact World.alloc_heap_new w _
            clear hw_6 hB_6
            clear hK K
            try simp only [List.getElem_toArray, List.getElem_cons_zero, List.getElem_cons_succ, Act.put, List.setIfInBounds_toArray, List.set_cons_zero, List.set_cons_succ]
            refine wpAnyH_ready (rs := [2, 7]) (by kernel_rfl) (by simp) ?_
            refine AllReadyH.cons rfl (fun K hK => ?_) ?_
            · simp only [List.getElem_toArray, List.getElem_cons_zero, List.getElem_cons_succ]
              go_simp
              (with_reducible refine (IH.out w_6).mono ?_)
              rintro e w_62 ⟨rfl, hB_62⟩
              dsimp only
              have bel_62 := bgo bel_6 hB_62
              have gB_62 := (hB_62.block _ (Array.getElem?_eq_some_iff.1 gB_6).1).trans gB_6
              refine hK.out _ _ trivial (fun hHeld => ?_)
              clear hK K
              try simp only [List.getElem_toArray, List.getElem_cons_zero, List.getElem_cons_succ, Act.put, List.setIfInBounds_toArray, List.set_cons_zero, List.set_cons_succ]
              refine wpAnyH_ready (rs := [7]) (by kernel_rfl) (by simp) ?_
              refine AllReadyH.cons rfl (fun K hK => ?_) ?_
              · simp only [List.getElem_toArray, List.getElem_cons_zero, List.getElem_cons_succ]
                have kb := byte_back w_62 B_6 c (by rw [Lib.cell_of_heap gB_62]; rfl)
                go_simp
                clear kb
                refine hK.out _ _ trivial (fun hHeld => ?_)
                clear hK K
                try simp only [List.getElem_toArray, List.getElem_cons_zero, List.getElem_cons_succ, Act.put, List.setIfInBounds_toArray, List.set_cons_zero, List.set_cons_succ]
                refine wpAnyH_take (i := 8) (v := ?_) rfl (by kernel_rfl) (by kernel_rfl) (by kernel_rfl) (fun _ _ _ h => h) (Or.inl ⟨by kernel_rfl, ?_⟩) (by assumption) ?_
                rotate_left
                · intro w hSw
                  (try dsimp only at hSw)
                  go_simp
                  first | done | with_reducible rfl
                simp only [List.getElem_toArray, List.getElem_cons_zero, List.getElem_cons_succ, Act.put, List.setIfInBounds_toArray, List.set_cons_zero, List.set_cons_succ]
                refine wpAnyH_take (i := 9) (v := ?_) rfl (by kernel_rfl) (by kernel_rfl) (by kernel_rfl) (fun _ _ _ h => h) (Or.inl ⟨by kernel_rfl, ?_⟩) (by assumption) ?_
                rotate_left
                · intro w hSw
                  (try dsimp only at hSw)
                  go_simp
                  first | done | with_reducible rfl
                simp only [List.getElem_toArray, List.getElem_cons_zero, List.getElem_cons_succ, Act.put, List.setIfInBounds_toArray, List.set_cons_zero, List.set_cons_succ]
                refine wpAnyH_done (by kernel_rfl) ?_ _
                dsimp only [NoPanic]
                clear hHeld
                go_wp2_with fail
                go_ret
                exact ⟨rfl, bel_62⟩
              exact AllReadyH.nil
            refine AllReadyH.cons rfl (fun K hK => ?_) ?_
            · simp only [List.getElem_toArray, List.getElem_cons_zero, List.getElem_cons_succ]
              have kb := byte_back w_6 B_6 c (by rw [Lib.cell_of_heap gB_6]; rfl)
              go_simp
              clear kb
              refine hK.out _ _ trivial (fun hHeld => ?_)
              clear hK K
              try simp only [List.getElem_toArray, List.getElem_cons_zero, List.getElem_cons_succ, Act.put, List.setIfInBounds_toArray, List.set_cons_zero, List.set_cons_succ]
              refine wpAnyH_ready (rs := [2]) (by kernel_rfl) (by simp) ?_
              refine AllReadyH.cons rfl (fun K hK => ?_) ?_
              · simp only [List.getElem_toArray, List.getElem_cons_zero, List.getElem_cons_succ]
                go_simp
                (with_reducible refine (IH.out w_6).mono ?_)
                rintro e w_672 ⟨rfl, hB_672⟩
                dsimp only
                have bel_672 := bgo bel_6 hB_672
                have gB_672 := (hB_672.block _ (Array.getElem?_eq_some_iff.1 gB_6).1).trans gB_6
                refine hK.out _ _ trivial (fun hHeld => ?_)
                clear hK K
                try simp only [List.getElem_toArray, List.getElem_cons_zero, List.getElem_cons_succ, Act.put, List.setIfInBounds_toArray, List.set_cons_zero, List.set_cons_succ]
                refine wpAnyH_take (i := 8) (v := ?_) rfl (by kernel_rfl) (by kernel_rfl) (by kernel_rfl) (fun _ _ _ h => h) (Or.inl ⟨by kernel_rfl, ?_⟩) (by assumption) ?_
                rotate_left
                · intro w hSw
                  (try dsimp only at hSw)
                  go_simp
                  first | done | with_reducible rfl
                simp only [List.getElem_toArray, List.getElem_cons_zero, List.getElem_cons_succ, Act.put, List.setIfInBounds_toArray, List.set_cons_zero, List.set_cons_succ]
                refine wpAnyH_take (i := 9) (v := ?_) rfl (by kernel_rfl) (by kernel_rfl) (by kernel_rfl) (fun _ _ _ h => h) (Or.inl ⟨by kernel_rfl, ?_⟩) (by assumption) ?_
                rotate_left
                · intro w hSw
                  (try dsimp only at hSw)
                  go_simp
                  first | done | with_reducible rfl
                simp only [List.getElem_toArray, List.getElem_cons_zero, List.getElem_cons_succ, Act.put, List.setIfInBounds_toArray, List.set_cons_zero, List.set_cons_succ]
                refine wpAnyH_done (by kernel_rfl) ?_ _
                dsimp only [NoPanic]
                clear hHeld
                go_wp2_with fail
                go_ret
                exact ⟨rfl, bel_672⟩
              exact AllReadyH.nil
            exact AllReadyH.nil
          exact AllReadyH.nil
      · obtain ⟨k, rfl⟩ : ∃ k : Nat, n = (k : Int) := ⟨n.natAbs, by omega⟩
        have hk : 10 ≤ k := by omega
        obtain ⟨c, hc⟩ : ∃ c, dgB k = c := ⟨_, rfl⟩
        obtain ⟨r, hr⟩ : ∃ r : Nat, k % 10 = r := ⟨_, rfl⟩
        obtain ⟨q, hq⟩ : ∃ q : Nat, k / 10 = q := ⟨_, rfl⟩
        have hcn : (c.toNat : Int) = 48 + (r : Int) := by rw [← hc, dgB_nat]; omega
        have hu8 : IntKind.u8.wrap (48 + (r : Int)) = (c.toNat : Int) := by rw [hcn, IntKind.wrap_u8']; omega
        have e1' : (k : Int).tmod 10 = (r : Int) := by rw [Int.tmod_eq_emod_of_nonneg (by omega)]; omega
        have e1'' : (k : Int) % 10 = (r : Int) := by omega
        have e2' : (k : Int).tdiv 10 = (q : Int) := by rw [Int.tdiv_eq_ediv_of_nonneg (by omega)]; omega
        have e2'' : (k : Int) / 10 = (q : Int) := by omega
        have g : ¬ (k : Int) < 10 := by omega
        have g0 : -10 < (k : Int) := by omega
        have IH0 := fun w => ih ((q : Int)) w (by omega) (by omega) (by omega)
        rw [num_big k hk, hc, hq]
        have hsz := itoaB_size ((q : Int)) (by omega) (by omega)
        obtain ⟨t, ht⟩ : ∃ t, itoaB ((q : Int)) = t := ⟨_, rfl⟩
        rw [ht] at hsz IH0 ⊢
        have IH := Lib.hid IH0
        have hr9 : r ≤ 9 := by omega
        have hcat : ¬ 9223372036854775807 < t.size + 1 := by omega
        have hwq : IntKind.i64.wrap ((q : Int)) = (q : Int) := IntWalk.i64_in _ (by omega)
        clear IH0
        have hw9 : IntKind.i64.wrap (48 + (r : Int)) = 48 + (r : Int) := IntWalk.i64_in _ (by omega)
        clear hcn
        clear hc ih hs h hr hq ht
        go_enter Tryd.func32, Tryd.ntmps32
        go_upto_region 8 with fail
        have bel0 : Below w.heap.size w w.drew := (Below.refl _ _).drew
        refine wp_region_noPanic ?_
        refine wp_region_held_drew (S := fun _ => True) (by kernel_rfl) trivial (fun hHeld => ?_)
        refine wpAnyH_take (i := 0) (v := ?_) rfl (by kernel_rfl) (by kernel_rfl) (by kernel_rfl) (fun _ _ _ h => h) (Or.inl ⟨by kernel_rfl, ?_⟩) (by assumption) ?_
        rotate_left
        · intro w hSw
          (try dsimp only at hSw)
          go_simp
          first | done | with_reducible rfl
        simp only [List.getElem_toArray, List.getElem_cons_zero, List.getElem_cons_succ, Act.put, List.setIfInBounds_toArray, List.set_cons_zero, List.set_cons_succ]
        refine wpAnyH_take (i := 1) (v := ?_) rfl (by kernel_rfl) (by kernel_rfl) (by kernel_rfl) (fun _ _ _ h => h) (Or.inl ⟨by kernel_rfl, ?_⟩) (by assumption) ?_
        rotate_left
        · intro w hSw
          (try dsimp only at hSw)
          go_simp
          first | done | with_reducible rfl
        simp only [List.getElem_toArray, List.getElem_cons_zero, List.getElem_cons_succ, Act.put, List.setIfInBounds_toArray, List.set_cons_zero, List.set_cons_succ]
        refine wpAnyH_take (i := 3) (v := ?_) rfl (by kernel_rfl) (by kernel_rfl) (by kernel_rfl) (fun _ _ _ h => h) (Or.inl ⟨by kernel_rfl, ?_⟩) (by assumption) ?_
        rotate_left
        · intro w hSw
          (try dsimp only at hSw)
          go_simp
          first | done | with_reducible rfl
        simp only [List.getElem_toArray, List.getElem_cons_zero, List.getElem_cons_succ, Act.put, List.setIfInBounds_toArray, List.set_cons_zero, List.set_cons_succ]
        refine wpAnyH_take (i := 4) (v := ?_) rfl (by kernel_rfl) (by kernel_rfl) (by kernel_rfl) (fun _ _ _ h => h) (Or.inl ⟨by kernel_rfl, ?_⟩) (by assumption) ?_
        rotate_left
        · intro w hSw
          (try dsimp only at hSw)
          go_simp
          first | done | with_reducible rfl
        simp only [List.getElem_toArray, List.getElem_cons_zero, List.getElem_cons_succ, Act.put, List.setIfInBounds_toArray, List.set_cons_zero, List.set_cons_succ]
        refine wpAnyH_take (i := 5) (v := ?_) rfl (by kernel_rfl) (by kernel_rfl) (by kernel_rfl) (fun _ _ _ h => h) (Or.inl ⟨by kernel_rfl, ?_⟩) (by assumption) ?_
        rotate_left
        · intro w hSw
          (try dsimp only at hSw)
          go_simp
          first | done | with_reducible rfl
        simp only [List.getElem_toArray, List.getElem_cons_zero, List.getElem_cons_succ, Act.put, List.setIfInBounds_toArray, List.set_cons_zero, List.set_cons_succ]
        refine wpAnyH_ready (rs := [2, 6]) (by kernel_rfl) (by simp) ?_
        refine AllReadyH.cons rfl (fun K hK => ?_) ?_
        · simp only [List.getElem_toArray, List.getElem_cons_zero, List.getElem_cons_succ]
          go_simp
          (with_reducible refine (IH.out w.drew).mono ?_)
          rintro e w_2 ⟨rfl, hB_2⟩
          dsimp only
          have bel_2 := bgo bel0 hB_2
          refine hK.out _ _ trivial (fun hHeld => ?_)
          clear hK K
          try simp only [List.getElem_toArray, List.getElem_cons_zero, List.getElem_cons_succ, Act.put, List.setIfInBounds_toArray, List.set_cons_zero, List.set_cons_succ]
          refine wpAnyH_ready (rs := [6]) (by kernel_rfl) (by simp) ?_
          refine AllReadyH.cons rfl (fun K hK => ?_) ?_
          · simp only [List.getElem_toArray, List.getElem_cons_zero, List.getElem_cons_succ]
            go_simp
            refine hK.out _ _ trivial (fun hHeld => ?_)
            obtain ⟨B_26, hB_26⟩ : ∃ x, x = w_2.heap.size := ⟨_, rfl⟩
            obtain ⟨w_26, hw_26⟩ : ∃ x, x = w_2.alloc (.cells #[.int .u8 c.toNat] 5) := ⟨_, rfl⟩
            rw [← hw_26, ← hB_26]
            have bel_26 : Below w.heap.size w w_26 := by rw [hw_26]; exact bal bel_2 _
            have gB_26 : w_26.heap[B_26]? = some (.cells #[.int .u8 c.toNat] 5) := by rw [hw_26, hB_26]; exact World.alloc_heap_new w_2 _
            clear hw_26 hB_26
            clear hK K
            try simp only [List.getElem_toArray, List.getElem_cons_zero, List.getElem_cons_succ, Act.put, List.setIfInBounds_toArray, List.set_cons_zero, List.set_cons_succ]
            refine wpAnyH_ready (rs := [7]) (by kernel_rfl) (by simp) ?_
            refine AllReadyH.cons rfl (fun K hK => ?_) ?_
            · simp only [List.getElem_toArray, List.getElem_cons_zero, List.getElem_cons_succ]
              have kb := byte_back w_26 B_26 c (by rw [Lib.cell_of_heap gB_26]; rfl)
              go_simp
              clear kb
              refine hK.out _ _ trivial (fun hHeld => ?_)
              clear hK K
              try simp only [List.getElem_toArray, List.getElem_cons_zero, List.getElem_cons_succ, Act.put, List.setIfInBounds_toArray, List.set_cons_zero, List.set_cons_succ]
              refine wpAnyH_take (i := 8) (v := ?_) rfl (by kernel_rfl) (by kernel_rfl) (by kernel_rfl) (fun _ _ _ h => h) (Or.inl ⟨by kernel_rfl, ?_⟩) (by assumption) ?_
              rotate_left
              · intro w hSw
                (try dsimp only at hSw)
                go_simp
                first | done | with_reducible rfl
              simp only [List.getElem_toArray, List.getElem_cons_zero, List.getElem_cons_succ, Act.put, List.setIfInBounds_toArray, List.set_cons_zero, List.set_cons_succ]
              refine wpAnyH_take (i := 9) (v := ?_) rfl (by kernel_rfl) (by kernel_rfl) (by kernel_rfl) (fun _ _ _ h => h) (Or.inl ⟨by kernel_rfl, ?_⟩) (by assumption) ?_
              rotate_left
              · intro w hSw
                (try dsimp only at hSw)
                go_simp
                first | done | with_reducible rfl
              simp only [List.getElem_toArray, List.getElem_cons_zero, List.getElem_cons_succ, Act.put, List.setIfInBounds_toArray, List.set_cons_zero, List.set_cons_succ]
              refine wpAnyH_done (by kernel_rfl) ?_ _
              dsimp only [NoPanic]
              clear hHeld
              go_wp2_with fail
              go_ret
              exact ⟨rfl, bel_26⟩
            exact AllReadyH.nil
          exact AllReadyH.nil
        refine AllReadyH.cons rfl (fun K hK => ?_) ?_
        · simp only [List.getElem_toArray, List.getElem_cons_zero, List.getElem_cons_succ]
          go_simp
          refine hK.out _ _ trivial (fun hHeld => ?_)
          obtain ⟨B_6, hB_6⟩ : ∃ x, x = w.heap.size := ⟨_, rfl⟩
          obtain ⟨w_6, hw_6⟩ : ∃ x, x = (w.alloc (.cells #[.int .u8 c.toNat] 5)).drew := ⟨_, rfl⟩
          rw [← hw_6, ← hB_6]
          have bel_6 : Below w.heap.size w w_6 := by rw [hw_6]; exact (bal (Below.refl w.heap.size w) _).drew
          have gB_6 : w_6.heap[B_6]? = some (.cells #[.int .u8 c.toNat] 5) := by rw [hw_6, hB_6]; exact World.alloc_heap_new w _
          clear hw_6 hB_6
          clear hK K
          try simp only [List.getElem_toArray, List.getElem_cons_zero, List.getElem_cons_succ, Act.put, List.setIfInBounds_toArray, List.set_cons_zero, List.set_cons_succ]
          refine wpAnyH_ready (rs := [2, 7]) (by kernel_rfl) (by simp) ?_
          refine AllReadyH.cons rfl (fun K hK => ?_) ?_
          · simp only [List.getElem_toArray, List.getElem_cons_zero, List.getElem_cons_succ]
            go_simp
            (with_reducible refine (IH.out w_6).mono ?_)
            rintro e w_62 ⟨rfl, hB_62⟩
            dsimp only
            have bel_62 := bgo bel_6 hB_62
            have gB_62 := (hB_62.block _ (Array.getElem?_eq_some_iff.1 gB_6).1).trans gB_6
            refine hK.out _ _ trivial (fun hHeld => ?_)
            clear hK K
            try simp only [List.getElem_toArray, List.getElem_cons_zero, List.getElem_cons_succ, Act.put, List.setIfInBounds_toArray, List.set_cons_zero, List.set_cons_succ]
            refine wpAnyH_ready (rs := [7]) (by kernel_rfl) (by simp) ?_
            refine AllReadyH.cons rfl (fun K hK => ?_) ?_
            · simp only [List.getElem_toArray, List.getElem_cons_zero, List.getElem_cons_succ]
              have kb := byte_back w_62 B_6 c (by rw [Lib.cell_of_heap gB_62]; rfl)
              go_simp
              clear kb
              refine hK.out _ _ trivial (fun hHeld => ?_)
              clear hK K
              try simp only [List.getElem_toArray, List.getElem_cons_zero, List.getElem_cons_succ, Act.put, List.setIfInBounds_toArray, List.set_cons_zero, List.set_cons_succ]
              refine wpAnyH_take (i := 8) (v := ?_) rfl (by kernel_rfl) (by kernel_rfl) (by kernel_rfl) (fun _ _ _ h => h) (Or.inl ⟨by kernel_rfl, ?_⟩) (by assumption) ?_
              rotate_left
              · intro w hSw
                (try dsimp only at hSw)
                go_simp
                first | done | with_reducible rfl
              simp only [List.getElem_toArray, List.getElem_cons_zero, List.getElem_cons_succ, Act.put, List.setIfInBounds_toArray, List.set_cons_zero, List.set_cons_succ]
              refine wpAnyH_take (i := 9) (v := ?_) rfl (by kernel_rfl) (by kernel_rfl) (by kernel_rfl) (fun _ _ _ h => h) (Or.inl ⟨by kernel_rfl, ?_⟩) (by assumption) ?_
              rotate_left
              · intro w hSw
                (try dsimp only at hSw)
                go_simp
                first | done | with_reducible rfl
              simp only [List.getElem_toArray, List.getElem_cons_zero, List.getElem_cons_succ, Act.put, List.setIfInBounds_toArray, List.set_cons_zero, List.set_cons_succ]
              refine wpAnyH_done (by kernel_rfl) ?_ _
              dsimp only [NoPanic]
              clear hHeld
              go_wp2_with fail
              go_ret
              exact ⟨rfl, bel_62⟩
            exact AllReadyH.nil
          refine AllReadyH.cons rfl (fun K hK => ?_) ?_
          · simp only [List.getElem_toArray, List.getElem_cons_zero, List.getElem_cons_succ]
            have kb := byte_back w_6 B_6 c (by rw [Lib.cell_of_heap gB_6]; rfl)
            go_simp
            clear kb
            refine hK.out _ _ trivial (fun hHeld => ?_)
            clear hK K
            try simp only [List.getElem_toArray, List.getElem_cons_zero, List.getElem_cons_succ, Act.put, List.setIfInBounds_toArray, List.set_cons_zero, List.set_cons_succ]
            refine wpAnyH_ready (rs := [2]) (by kernel_rfl) (by simp) ?_
            refine AllReadyH.cons rfl (fun K hK => ?_) ?_
            · simp only [List.getElem_toArray, List.getElem_cons_zero, List.getElem_cons_succ]
              go_simp
              (with_reducible refine (IH.out w_6).mono ?_)
              rintro e w_672 ⟨rfl, hB_672⟩
              dsimp only
              have bel_672 := bgo bel_6 hB_672
              have gB_672 := (hB_672.block _ (Array.getElem?_eq_some_iff.1 gB_6).1).trans gB_6
              refine hK.out _ _ trivial (fun hHeld => ?_)
              clear hK K
              try simp only [List.getElem_toArray, List.getElem_cons_zero, List.getElem_cons_succ, Act.put, List.setIfInBounds_toArray, List.set_cons_zero, List.set_cons_succ]
              refine wpAnyH_take (i := 8) (v := ?_) rfl (by kernel_rfl) (by kernel_rfl) (by kernel_rfl) (fun _ _ _ h => h) (Or.inl ⟨by kernel_rfl, ?_⟩) (by assumption) ?_
              rotate_left
              · intro w hSw
                (try dsimp only at hSw)
                go_simp
                first | done | with_reducible rfl
              simp only [List.getElem_toArray, List.getElem_cons_zero, List.getElem_cons_succ, Act.put, List.setIfInBounds_toArray, List.set_cons_zero, List.set_cons_succ]
              refine wpAnyH_take (i := 9) (v := ?_) rfl (by kernel_rfl) (by kernel_rfl) (by kernel_rfl) (fun _ _ _ h => h) (Or.inl ⟨by kernel_rfl, ?_⟩) (by assumption) ?_
              rotate_left
              · intro w hSw
                (try dsimp only at hSw)
                go_simp
                first | done | with_reducible rfl
              simp only [List.getElem_toArray, List.getElem_cons_zero, List.getElem_cons_succ, Act.put, List.setIfInBounds_toArray, List.set_cons_zero, List.set_cons_succ]
              refine wpAnyH_done (by kernel_rfl) ?_ _
              dsimp only [NoPanic]
              clear hHeld
              go_wp2_with fail
              go_ret
              exact ⟨rfl, bel_672⟩
            exact AllReadyH.nil
          exact AllReadyH.nil
        exact AllReadyH.nil
end Go.Proofs.YtgkilaafeconlaaDoor
namespace Go.Proofs.YtgkilaafeconlaaDoor
open Go.RowKit Go.Shelf
set_option linter.unusedVariables false
set_option linter.unusedSimpArgs false
set_option maxRecDepth 100000
theorem eqRow (s r : ByteArray) (c : Int) (w : World) : (Op.equalIn 10000 64 (.agg #[.string s, .int .i64 c, .string r]) (.agg #[.string s, .int .i64 c, .string r])).run Tryd.prog w = .ok true w := by
  have hf : Tryd.prog.fieldsOf 64 = _ := (by kernel_rfl : _ = (match Tryd.prog.underlying 64 with | some (.struct fs) => fs | _ => #[]))
  rw [run_equalIn_struct w 9999 _ _ _ (by kernel_rfl) (by kernel_rfl), hf, Tryd.underlying64]
  have hag : ∀ w, (isAgg 3).run Tryd.prog w = .ok false w := fun _ => by kernel_rfl
  have hag2 : ∀ w, (isAgg 9).run Tryd.prog w = .ok false w := fun _ => by kernel_rfl
  have hi := fun (w : World) (a : Int) => run_equalIn_int (P := Tryd.prog) w 9998 3 .i64 .i64 a a Tryd.underlying3
  have hs := fun (w : World) (a : ByteArray) => run_equalIn_string (P := Tryd.prog) w 9998 9 a a Tryd.underlying9
  simp [Op.eqFields, part, hag, hag2, hi, hs]
attribute [-go_sem] run_equalIn_agg
attribute [local go_sem] eqRow
set_option maxHeartbeats 4000000 in
theorem samerows_eq (A B : Option Addr) (ca cb n : Nat) (l : List RowD) (w : World) (hn : l.length = n) (hA : Sl w w.heap.size 3 A n (rowsV l)) (hB : Sl w w.heap.size 3 B n (rowsV l)) (hl : n ≤ 1000000) :
    Calls Tryd.prog 16 #[.slice A n ca, .slice B n cb] w fun e w' => e = .returned (.bool true) ∧ Below w.heap.size w w' := by
  have hne : ((n : Int) != (n : Int)) = false := by simp
  have HA := Lib.hid hA
  have HB := Lib.hid hB
  have Hn := Lib.hid hn
  clear hA hB hn
  go_enter Tryd.func16, Tryd.ntmps16
  go_wp2
  go_loopw [5] (fun i wr => ∃ k : Nat, k ≤ n ∧ i = .int .i64 k ∧ Below w.heap.size w wr) (fun i _ => n - (intOf i).toNat)
  case atStart => exact ⟨0, by omega, rfl, Below.refl _ _⟩
  case round =>
    obtain ⟨k, hk, rfl, hW⟩ := hrel
    by_cases hlt : k < n
    · obtain ⟨b, off, rfl, hb, hcell⟩ := (HA.out).2 (by omega)
      obtain ⟨b2, off2, rfl, hb2, hcell2⟩ := (HB.out).2 (by omega)
      have hkl : k < l.length := by rw [Hn.out]; exact hlt
      have hget := flat_get rowV 3 (fun _ => rfl) l k hkl
      obtain ⟨x, hx⟩ : ∃ x, l[k] = x := ⟨_, rfl⟩
      rw [hx] at hget
      obtain ⟨xs, xc, xr⟩ := x
      have g0 : wr.cell? ⟨b, off + k * 3, none⟩ = some (.string xs) := (hW.cell (p := ⟨b, off + k * 3, none⟩) hb).trans (hcell _ _ (hget 0 (by decide)))
      have g1 : wr.cell? ⟨b, off + k * 3 + 1, none⟩ = some (.int .i64 xc) := (hW.cell (p := ⟨b, off + k * 3 + 1, none⟩) hb).trans (hcell _ _ (hget 1 (by decide)))
      have g2 : wr.cell? ⟨b, off + k * 3 + 2, none⟩ = some (.string xr) := (hW.cell (p := ⟨b, off + k * 3 + 2, none⟩) hb).trans (hcell _ _ (hget 2 (by decide)))
      have h0 : wr.cell? ⟨b2, off2 + k * 3, none⟩ = some (.string xs) := (hW.cell (p := ⟨b2, off2 + k * 3, none⟩) hb2).trans (hcell2 _ _ (hget 0 (by decide)))
      have h1 : wr.cell? ⟨b2, off2 + k * 3 + 1, none⟩ = some (.int .i64 xc) := (hW.cell (p := ⟨b2, off2 + k * 3 + 1, none⟩) hb2).trans (hcell2 _ _ (hget 1 (by decide)))
      have h2 : wr.cell? ⟨b2, off2 + k * 3 + 2, none⟩ = some (.string xr) := (hW.cell (p := ⟨b2, off2 + k * 3 + 2, none⟩) hb2).trans (hcell2 _ _ (hget 2 (by decide)))
      have hlt' : (k : Int) < (n : Int) := by omega
      clear hcell hcell2 hget hx hkl
      go_wp2
      go_region
      go_wp2
      go_roundw
      case rel => exact ⟨k + 1, by omega, by go_num, hW.drew⟩
      case measure => simp [intOf]; omega
    · obtain rfl : n = k := by omega
      go_wp2
      go_ret
      exact ⟨rfl, hW⟩
set_option maxHeartbeats 4000000 in
theorem same35_eq (p : ByteArray) (m : Int) (A B A' B' : Option Addr) (ca cb ca' cb' n k : Nat) (l : List RowD) (bl : List Int) (root : UInt64) (w : World) (hn : l.length = n) (hk : bl.length = k) (hA : Sl w w.heap.size 3 A n (rowsV l)) (hA' : Sl w w.heap.size 3 A' n (rowsV l)) (hB : Sl w w.heap.size 1 B k (intV bl)) (hB' : Sl w w.heap.size 1 B' k (intV bl)) (hl : n ≤ 1000000) (hkl : k ≤ 1000000) :
    Calls Tryd.prog 17 #[.agg #[.string p, .int .i64 m, .slice A n ca, .slice B k cb, .int .u64 root.toNat], .agg #[.string p, .int .i64 m, .slice A' n ca', .slice B' k cb', .int .u64 root.toNat]] w fun e w' => e = .returned (.bool true) ∧ Below w.heap.size w w' := by
  have hne : ((k : Int) != (k : Int)) = false := by simp
  have hne1 : (p.toList != p.toList) = false := by simp
  have hne2 : (m != m) = false := by simp
  have hne3 : ((root.toNat : Int) != (root.toNat : Int)) = false := by simp
  have HA := Lib.hid hA
  have HB := Lib.hid hB
  have HA' := Lib.hid hA'
  have HB' := Lib.hid hB'
  have Hn := Lib.hid hn
  have Hk := Lib.hid hk
  clear hA hB hA' hB' hn hk
  go_enter Tryd.func17, Tryd.ntmps17
  go_upto_region 1 with fail
  obtain ⟨W, hW⟩ : ∃ W, W = (w.alloc (.cells #[.string p, .int .i64 m, .slice A n ca, .slice B k cb, .int .u64 root.toNat] 43)).alloc (.cells #[.string p, .int .i64 m, .slice A' n ca', .slice B' k cb', .int .u64 root.toNat] 43) := ⟨_, rfl⟩
  rw [← hW]
  obtain ⟨X, hX⟩ : ∃ x, x = w.heap.size := ⟨_, rfl⟩
  have q0 : W.heap[X]? = some (.cells #[.string p, .int .i64 m, .slice A n ca, .slice B k cb, .int .u64 root.toNat] 43 (0, 0)) := by rw [hW, hX]; exact heap_alloc2_old w _ _
  have q1 : W.heap[X + 1]? = some (.cells #[.string p, .int .i64 m, .slice A' n ca', .slice B' k cb', .int .u64 root.toNat] 43 (0, 0)) := by rw [hW, hX]; exact heap_alloc2_new w _ _
  have hBW : Below w.heap.size w W := by rw [hW]; exact bal (bal (Below.refl _ _) _) _
  rw [← hX]
  have Q0 := Lib.hid q0
  have Q1 := Lib.hid q1
  have HX := Lib.hid hX
  have HBW := Lib.hid hBW
  clear hW hX
  have x0 : W.cell? ⟨X, 0, none⟩ = some (.string p) := by rw [Lib.cell_of_heap q0]; rfl
  have x1 : W.cell? ⟨X, 1, none⟩ = some (.int .i64 m) := by rw [Lib.cell_of_heap q0]; rfl
  have x3 : W.cell? ⟨X, 3, none⟩ = some (.slice B k cb) := by rw [Lib.cell_of_heap q0]; rfl
  have x4 : W.cell? ⟨X, 4, none⟩ = some (.int .u64 root.toNat) := by rw [Lib.cell_of_heap q0]; rfl
  have y0 : W.cell? ⟨X + 1, 0, none⟩ = some (.string p) := by rw [Lib.cell_of_heap q1]; rfl
  have y1 : W.cell? ⟨X + 1, 1, none⟩ = some (.int .i64 m) := by rw [Lib.cell_of_heap q1]; rfl
  have y3 : W.cell? ⟨X + 1, 3, none⟩ = some (.slice B' k cb') := by rw [Lib.cell_of_heap q1]; rfl
  have y4 : W.cell? ⟨X + 1, 4, none⟩ = some (.int .u64 root.toNat) := by rw [Lib.cell_of_heap q1]; rfl
  clear q0 q1 hBW
  go_wp2_with fail
  clear x0 x1 x3 x4 y0 y1 y3 y4
  go_loopw [5] (fun i wr => ∃ j : Nat, j ≤ k ∧ i = .int .i64 j ∧ Below W.heap.size W wr) (fun i _ => k - (intOf i).toNat)
  case atStart => exact ⟨0, by omega, rfl, Below.refl _ _⟩
  case round =>
    obtain ⟨j, hj, rfl, hW⟩ := hrel
    have hXl := (Array.getElem?_eq_some_iff.1 Q0.out).1
    have hXl1 := (Array.getElem?_eq_some_iff.1 Q1.out).1
    have q0 := (hW.block _ hXl).trans Q0.out
    have q1 := (hW.block _ hXl1).trans Q1.out
    have x3 : wr.cell? ⟨X, 3, none⟩ = some (.slice B k cb) := by rw [Lib.cell_of_heap q0]; rfl
    by_cases hlt : j < k
    · have hWw : Below w.heap.size w wr := bgo HBW.out hW
      obtain ⟨b, off, rfl, hb, hcell⟩ := (HB.out).2 (by omega)
      obtain ⟨b2, off2, rfl, hb2, hcell2⟩ := (HB'.out).2 (by omega)
      have hjl : j < bl.length := by rw [Hk.out]; exact hlt
      have g0 : wr.cell? ⟨b, off + j, none⟩ = some (.int .i64 (bl.getD j 0)) := (hWw.cell (p := ⟨b, off + j, none⟩) hb).trans (hcell _ _ (intV_get bl j hjl))
      have h0 : wr.cell? ⟨b2, off2 + j, none⟩ = some (.int .i64 (bl.getD j 0)) := (hWw.cell (p := ⟨b2, off2 + j, none⟩) hb2).trans (hcell2 _ _ (intV_get bl j hjl))
      have y3 : wr.cell? ⟨X + 1, 3, none⟩ = some (.slice (some ⟨b2, off2, none⟩) k cb') := by rw [Lib.cell_of_heap q1]; rfl
      obtain ⟨z, hz⟩ : ∃ z, bl.getD j 0 = z := ⟨_, rfl⟩
      rw [hz] at g0 h0
      have hnz : (z != z) = false := by simp
      have hlt' : (j : Int) < (k : Int) := by omega
      clear hcell hcell2 hz hjl q0 q1 hXl hXl1 hWw
      go_wp2
      go_region
      go_wp2
      go_roundw
      case rel => exact ⟨j + 1, by omega, by go_num, hW.drew⟩
      case measure => simp [intOf]; omega
    · obtain rfl : k = j := by omega
      have x2 : wr.cell? ⟨X, 2, none⟩ = some (.slice A n ca) := by rw [Lib.cell_of_heap q0]; rfl
      have y2 : wr.cell? ⟨X + 1, 2, none⟩ = some (.slice A' n ca') := by rw [Lib.cell_of_heap q1]; rfl
      have hWw : Below w.heap.size w wr := bgo HBW.out hW
      have HAw := Lib.hid (HA.out.go hWw)
      have HAw' := Lib.hid (HA'.out.go hWw)
      clear q0 q1 hXl hXl1
      go_wp2_with fail
      refine (samerows_eq A A' ca ca' n l _ Hn.out HAw.out HAw'.out hl).mono ?_
      rintro e w9 ⟨rfl, hB9⟩
      go_wp2_with fail
      go_ret
      exact ⟨rfl, bgo hWw hB9⟩
theorem rleafP_any (label : ByteArray) (c : Int) (reason t : ByteArray) (ht : Hid (leafB label c reason = t)) (hc : -9223372036854775808 ≤ c ∧ c ≤ 9223372036854775807) (hl : label.size ≤ 70368744177000) (hr : reason.size ≤ 70368744177000) (w : World) :
    Calls Tryd.prog 21 #[.string label, .int .i64 c, .string reason] w fun e w' => e = .returned (.string t) ∧ Below w.heap.size w w' := by
  have h1 := rnumber_any (label.size : Int).natAbs (label.size : Int)
  have h2 := rnumber_any c.natAbs c
  obtain ⟨a, ha⟩ : ∃ a, itoaB label.size = a := ⟨_, rfl⟩
  obtain ⟨b, hb⟩ : ∃ b, itoaB c = b := ⟨_, rfl⟩
  have ha1 := itoaB_size label.size (by omega) (by omega)
  have hb1 := itoaB_size c hc.1 hc.2
  rw [ha] at ha1 h1
  rw [hb] at hb1 h2
  have Ht : Hid (a ++ ⟨#[58]⟩ ++ label ++ b ++ ⟨#[32]⟩ ++ reason = t) := Lib.hid (by
    rw [← ht.out, leafB, ha, hb]
    apply ByteArray.ext
    apply Array.toList_inj.1
    simp only [catB, app_data, colon, blank, List.append_assoc, List.append_nil])
  have e1 : (⟨#[58]⟩ : ByteArray).size = 1 := rfl
  have e2 : (⟨#[32]⟩ : ByteArray).size = 1 := rfl
  have c1 : ¬ 9223372036854775807 < a.size + 1 := by omega
  have c2 : ¬ 9223372036854775807 < (a ++ ⟨#[58]⟩).size + label.size := by simp only [app_size, e1]; omega
  have c3 : ¬ 9223372036854775807 < (a ++ ⟨#[58]⟩ ++ label).size + b.size := by simp only [app_size, e1]; omega
  have c4 : ¬ 9223372036854775807 < (a ++ ⟨#[58]⟩ ++ label ++ b).size + 1 := by simp only [app_size, e1]; omega
  have c5 : ¬ 9223372036854775807 < (a ++ ⟨#[58]⟩ ++ label ++ b ++ ⟨#[32]⟩).size + reason.size := by simp only [app_size, e1, e2]; omega
  have H1 := Lib.hid (fun w => h1 w (Nat.le_refl _) (by omega) (by omega))
  have H2 := Lib.hid (fun w => h2 w (Nat.le_refl _) hc.1 hc.2)
  clear h1 h2 ha hb ha1 hb1 ht
  go_enter Tryd.func21, Tryd.ntmps21
  go_wp2_with fail
  (with_reducible refine (H1.out w).mono ?_)
  rintro e w1 ⟨rfl, hB1⟩
  go_wp2_with fail
  (with_reducible refine (H2.out w1).mono ?_)
  rintro e w2 ⟨rfl, hB2⟩
  go_wp2_with fail
  go_ret
  exact ⟨by rw [← Ht.out]; rfl, bgo hB1 hB2⟩
end Go.Proofs.YtgkilaafeconlaaDoor
namespace Go.Proofs.YtgkilaafeconlaaDoor
open Go.RowKit Go.Shelf
set_option linter.unusedVariables false
set_option linter.unusedSimpArgs false
set_option maxRecDepth 100000
set_option maxHeartbeats 8000000 in
theorem rleaves_any (A B : Option Addr) (ca cb n m : Nat) (rows : List RowD) (bl : List Int) (w : World) (hA : Sl w w.heap.size 3 A n (rowsV rows)) (hB : Sl w w.heap.size 1 B m (intV bl))
    (hn : rows.length = n) (hm : bl.length = m) (hnm : n ≤ m) (hnl : n ≤ 1000000) (hml : m ≤ maxLen) (hs : ∀ x ∈ rows, x.l.size ≤ 70368744177000 ∧ x.r.size ≤ 70368744177000 ∧ I64 x.c) (hb : ∀ b ∈ bl, 0 ≤ b ∧ b < 1073741789) :
    Calls Tryd.prog 24 #[.slice A n ca, .slice B m cb] w fun e w' => ∃ C cc, e = .returned (.slice C n cc) ∧ w'.ownsRow w.heap.size 9 1 (.slice C n cc) n (strV (leafK rows bl n)) ∧ Below w.heap.size w w' := by
  have HA := Lib.hid hA
  have HB := Lib.hid hB
  have Hn := Lib.hid hn
  have Hm := Lib.hid hm
  have Hs := Lib.hid hs
  have Hb := Lib.hid hb
  unfold maxLen at hml
  obtain ⟨i0, hi0, hz0, hz1, hz2⟩ := info_parts info_str
  clear hA hB hn hm hs hb
  go_enter Tryd.func24, Tryd.ntmps24
  go_wp2
  go_loopw [5, 6] (fun v q wr => ∃ k : Nat, k ≤ n ∧ q = .int .i64 (k : Int) ∧ wr.ownsRow w.heap.size 9 1 v k (strV (leafK rows bl k)) ∧ Below w.heap.size w wr) (fun _ q _ => n - (intOf q).toNat)
  case atStart => exact ⟨0, Nat.zero_le _, rfl, ⟨rfl, .inl ⟨rfl, rfl⟩⟩, Below.refl _ _⟩
  case round =>
    obtain ⟨k, hk, rfl, hown, hBw⟩ := hrel
    have Hown := Lib.hid hown
    clear hown
    by_cases hlt : k < n
    · have hlt' : (k : Int) < (n : Int) := by omega
      have hkm' : (k : Int) < (m : Int) := by omega
      have hkm : k < m := by omega
      have hkl : k < rows.length := by rw [Hn.out]; exact hlt
      have hkb : k < bl.length := by rw [Hm.out]; omega
      obtain ⟨b1, o1, rfl, hb1, hc1⟩ := HA.out.2 (by omega)
      obtain ⟨b2, o2, rfl, hb2, hc2⟩ := HB.out.2 (by omega)
      obtain ⟨x, hx⟩ : ∃ x, rows[k] = x := ⟨_, rfl⟩
      have hxg : rows.getD k default = x := by rw [List.getD_eq_getElem?_getD, List.getElem?_eq_getElem hkl]; exact hx
      have hget := flat_get rowV 3 (fun _ => rfl) rows k hkl
      rw [hx] at hget
      have hxs := Hs.out x (by rw [← hx]; exact List.getElem_mem hkl)
      obtain ⟨bv, hbv⟩ : ∃ b, bl.getD k 0 = b := ⟨_, rfl⟩
      have hbI : 0 ≤ bv ∧ bv < 1073741789 := by rw [← hbv]; exact Hb.out _ (by simp [List.getD, hkb])
      obtain ⟨xl, xc, xr⟩ := x
      have HY0 : Hid (∀ W, Below w.heap.size w W → W.cell? ⟨b1, o1 + k * 3, none⟩ = some (.string xl)) := Lib.hid fun W h => (h.cell (p := ⟨b1, o1 + k * 3, none⟩) hb1).trans (hc1 _ _ (hget 0 (by decide)))
      have HY1 : Hid (∀ W, Below w.heap.size w W → W.cell? ⟨b1, o1 + k * 3 + 1, none⟩ = some (.int .i64 xc)) := Lib.hid fun W h => (h.cell (p := ⟨b1, o1 + k * 3 + 1, none⟩) hb1).trans (hc1 _ _ (hget 1 (by decide)))
      have HY2 : Hid (∀ W, Below w.heap.size w W → W.cell? ⟨b1, o1 + k * 3 + 2, none⟩ = some (.string xr)) := Lib.hid fun W h => (h.cell (p := ⟨b1, o1 + k * 3 + 2, none⟩) hb1).trans (hc1 _ _ (hget 2 (by decide)))
      have HZ : Hid (∀ W, Below w.heap.size w W → W.cell? ⟨b2, o2 + k, none⟩ = some (.int .i64 bv)) := Lib.hid fun W h => (h.cell (p := ⟨b2, o2 + k, none⟩) hb2).trans (hc2 k _ (by rw [intV_get bl k hkb, hbv]))
      obtain ⟨hs1, hs2, hs3⟩ := hxs
      dsimp only at hs1 hs2 hs3
      obtain ⟨vi, hvi⟩ : ∃ v, xc % 1073741789 = v := ⟨_, rfl⟩
      have hvi1 : 0 ≤ vi ∧ vi < 1073741789 := by omega
      obtain ⟨cx, hcx⟩ : ∃ c, commitI vi bv = c := ⟨_, rfl⟩
      have hcI : -9223372036854775808 ≤ cx ∧ cx ≤ 9223372036854775807 := by
        have h1 := comI_bd vi bv
        unfold comI at h1
        rw [if_pos hbI, hcx] at h1
        exact ⟨by omega, by omega⟩
      obtain ⟨t, ht⟩ : ∃ t, leafB xl cx xr = t := ⟨_, rfl⟩
      have Hlf : Hid (leafK rows bl (k + 1) = leafK rows bl k ++ [t]) := Lib.hid (by rw [leafK_snoc, hxg, hbv, leafAt]; unfold comI; dsimp only; rw [hvi, if_pos hbI, hcx, ht])
      have Hcx := Lib.hid hcx
      have Ht := Lib.hid ht
      have Hvi := Lib.hid hvi
      have hBd := hBw.drew
      clear hcx ht hvi hx hxg hget hc1 hc2 hbv hkl hkb
      go_upto_region 5 with fail
      refine wp_region_noPanic ?_
      refine wp_region_held_drew (S := fun W => W.cell? ⟨b1, o1 + k * 3 + 1, none⟩ = some (.int .i64 xc) ∧ W.cell? ⟨b2, o2 + k, none⟩ = some (.int .i64 bv)) (by kernel_rfl) ⟨HY1.out _ hBd, HZ.out _ hBd⟩ (fun hHeld => ?_)
      refine wpAnyH_take (i := 0) (v := ?_) rfl (by kernel_rfl) (by kernel_rfl) (by kernel_rfl) (fun _ _ _ h => h) (Or.inl ⟨by kernel_rfl, ?_⟩) (by assumption) ?_
      rotate_left
      · intro w hSw
        (try dsimp only at hSw)
        go_simp
        first | done | with_reducible rfl
      simp only [List.getElem_toArray, List.getElem_cons_zero, List.getElem_cons_succ, Act.put, List.setIfInBounds_toArray, List.set_cons_zero, List.set_cons_succ]
      refine wpAnyH_take (i := 1) (v := ?_) rfl (by kernel_rfl) (by kernel_rfl) (by kernel_rfl) (fun _ _ _ h => h) (Or.inl ⟨by kernel_rfl, ?_⟩) (by assumption) ?_
      rotate_left
      · intro w hSw
        (try dsimp only at hSw)
        go_simp
        first | done | with_reducible rfl
      simp only [List.getElem_toArray, List.getElem_cons_zero, List.getElem_cons_succ, Act.put, List.setIfInBounds_toArray, List.set_cons_zero, List.set_cons_succ]
      refine wpAnyH_take (i := 2) (v := ?_) rfl (by kernel_rfl) (by kernel_rfl) (by kernel_rfl) (fun _ _ _ h => h) (Or.inl ⟨by kernel_rfl, ?_⟩) (by assumption) ?_
      rotate_left
      · intro w hSw
        (try dsimp only at hSw)
        go_simp
        first | done | with_reducible rfl
      simp only [List.getElem_toArray, List.getElem_cons_zero, List.getElem_cons_succ, Act.put, List.setIfInBounds_toArray, List.set_cons_zero, List.set_cons_succ]
      refine wpAnyH_take (i := 3) (v := ?_) rfl (by kernel_rfl) (by kernel_rfl) (by kernel_rfl) (fun _ _ _ h => h) (Or.inl ⟨by kernel_rfl, ?_⟩) (by assumption) ?_
      rotate_left
      · intro w hSw
        (try dsimp only at hSw)
        go_simp
        first | done | with_reducible rfl
      simp only [List.getElem_toArray, List.getElem_cons_zero, List.getElem_cons_succ, Act.put, List.setIfInBounds_toArray, List.set_cons_zero, List.set_cons_succ]
      refine wpAnyH_take (i := 4) (v := ?_) rfl (by kernel_rfl) (by kernel_rfl) (by kernel_rfl) (fun _ _ _ h => h) (Or.inl ⟨by kernel_rfl, ?_⟩) (by assumption) ?_
      rotate_left
      · intro w hSw
        (try dsimp only at hSw)
        have z := hSw.1
        go_simp
        first | done | with_reducible rfl
      simp only [List.getElem_toArray, List.getElem_cons_zero, List.getElem_cons_succ, Act.put, List.setIfInBounds_toArray, List.set_cons_zero, List.set_cons_succ]
      refine wpAnyH_take (i := 6) (v := ?_) rfl (by kernel_rfl) (by kernel_rfl) (by kernel_rfl) (fun _ _ _ h => h) (Or.inl ⟨by kernel_rfl, ?_⟩) (by assumption) ?_
      rotate_left
      · intro w hSw
        (try dsimp only at hSw)
        go_simp
        first | done | with_reducible rfl
      simp only [List.getElem_toArray, List.getElem_cons_zero, List.getElem_cons_succ, Act.put, List.setIfInBounds_toArray, List.set_cons_zero, List.set_cons_succ]
      refine wpAnyH_take (i := 7) (v := ?_) rfl (by kernel_rfl) (by kernel_rfl) (by kernel_rfl) (fun _ _ _ h => h) (Or.inl ⟨by kernel_rfl, ?_⟩) (by assumption) ?_
      rotate_left
      · intro w hSw
        (try dsimp only at hSw)
        go_simp
        first | done | with_reducible rfl
      simp only [List.getElem_toArray, List.getElem_cons_zero, List.getElem_cons_succ, Act.put, List.setIfInBounds_toArray, List.set_cons_zero, List.set_cons_succ]
      refine wpAnyH_take (i := 8) (v := ?_) rfl (by kernel_rfl) (by kernel_rfl) (by kernel_rfl) (fun _ _ _ h => h) (Or.inl ⟨by kernel_rfl, ?_⟩) (by assumption) ?_
      rotate_left
      · intro w hSw
        (try dsimp only at hSw)
        go_simp
        first | done | with_reducible rfl
      simp only [List.getElem_toArray, List.getElem_cons_zero, List.getElem_cons_succ, Act.put, List.setIfInBounds_toArray, List.set_cons_zero, List.set_cons_succ]
      refine wpAnyH_take (i := 9) (v := ?_) rfl (by kernel_rfl) (by kernel_rfl) (by kernel_rfl) (fun _ _ _ h => h) (Or.inl ⟨by kernel_rfl, ?_⟩) (by assumption) ?_
      rotate_left
      · intro w hSw
        (try dsimp only at hSw)
        have z := hSw.2
        go_simp
        first | done | with_reducible rfl
      simp only [List.getElem_toArray, List.getElem_cons_zero, List.getElem_cons_succ, Act.put, List.setIfInBounds_toArray, List.set_cons_zero, List.set_cons_succ]
      refine wpAnyH_ready (rs := [5]) (by kernel_rfl) (by simp) ?_
      refine AllReadyH.cons rfl (fun K hK => ?_) AllReadyH.nil
      simp only [List.getElem_toArray, List.getElem_cons_zero, List.getElem_cons_succ]
      go_simp
      (with_reducible refine (pvalue_any xc vi Hvi wr.drew).mono ?_)
      rintro e w1 ⟨rfl, hB1⟩
      dsimp only
      have hBw1 := bgo hBd hB1
      refine hK.out _ _ ⟨HY1.out _ hBw1, HZ.out _ hBw1⟩ (fun hHeld => ?_)
      clear hK K
      try simp only [List.getElem_toArray, List.getElem_cons_zero, List.getElem_cons_succ, Act.put, List.setIfInBounds_toArray, List.set_cons_zero, List.set_cons_succ]
      refine wpAnyH_ready (rs := [10]) (by kernel_rfl) (by simp) ?_
      refine AllReadyH.cons rfl (fun K hK => ?_) AllReadyH.nil
      simp only [List.getElem_toArray, List.getElem_cons_zero, List.getElem_cons_succ]
      go_simp
      (with_reducible refine (rcommit_v vi bv cx Hcx w1 hvi1.1 hvi1.2 hbI.1 hbI.2).mono ?_)
      rintro e w1b ⟨rfl, hw1b⟩
      obtain rfl := hw1b
      dsimp only
      refine hK.out _ _ ⟨HY1.out _ hBw1, HZ.out _ hBw1⟩ (fun hHeld => ?_)
      clear hK K
      try simp only [List.getElem_toArray, List.getElem_cons_zero, List.getElem_cons_succ, Act.put, List.setIfInBounds_toArray, List.set_cons_zero, List.set_cons_succ]
      refine wpAnyH_take (i := 11) (v := ?_) rfl (by kernel_rfl) (by kernel_rfl) (by kernel_rfl) (fun _ _ _ h => h) (Or.inl ⟨by kernel_rfl, ?_⟩) (by assumption) ?_
      rotate_left
      · intro w hSw
        (try dsimp only at hSw)
        go_simp
        first | done | with_reducible rfl
      simp only [List.getElem_toArray, List.getElem_cons_zero, List.getElem_cons_succ, Act.put, List.setIfInBounds_toArray, List.set_cons_zero, List.set_cons_succ]
      refine wpAnyH_take (i := 12) (v := ?_) rfl (by kernel_rfl) (by kernel_rfl) (by kernel_rfl) (fun _ _ _ h => h) (Or.inl ⟨by kernel_rfl, ?_⟩) (by assumption) ?_
      rotate_left
      · intro w hSw
        (try dsimp only at hSw)
        go_simp
        first | done | with_reducible rfl
      simp only [List.getElem_toArray, List.getElem_cons_zero, List.getElem_cons_succ, Act.put, List.setIfInBounds_toArray, List.set_cons_zero, List.set_cons_succ]
      refine wpAnyH_take (i := 13) (v := ?_) rfl (by kernel_rfl) (by kernel_rfl) (by kernel_rfl) (fun _ _ _ h => h) (Or.inl ⟨by kernel_rfl, ?_⟩) (by assumption) ?_
      rotate_left
      · intro w hSw
        (try dsimp only at hSw)
        go_simp
        first | done | with_reducible rfl
      simp only [List.getElem_toArray, List.getElem_cons_zero, List.getElem_cons_succ, Act.put, List.setIfInBounds_toArray, List.set_cons_zero, List.set_cons_succ]
      refine wpAnyH_take (i := 14) (v := ?_) rfl (by kernel_rfl) (by kernel_rfl) (by kernel_rfl) (fun _ _ _ h => h) (Or.inl ⟨by kernel_rfl, ?_⟩) (by assumption) ?_
      rotate_left
      · intro w hSw
        (try dsimp only at hSw)
        go_simp
        first | done | with_reducible rfl
      simp only [List.getElem_toArray, List.getElem_cons_zero, List.getElem_cons_succ, Act.put, List.setIfInBounds_toArray, List.set_cons_zero, List.set_cons_succ]
      refine wpAnyH_take (i := 15) (v := ?_) rfl (by kernel_rfl) (by kernel_rfl) (by kernel_rfl) (fun _ _ _ h => h) (Or.inl ⟨by kernel_rfl, ?_⟩) (by assumption) ?_
      rotate_left
      · intro w hSw
        (try dsimp only at hSw)
        go_simp
        first | done | with_reducible rfl
      simp only [List.getElem_toArray, List.getElem_cons_zero, List.getElem_cons_succ, Act.put, List.setIfInBounds_toArray, List.set_cons_zero, List.set_cons_succ]
      refine wpAnyH_done (by kernel_rfl) ?_ _
      dsimp only [NoPanic]
      clear hHeld
      have hBd1 := hBw1.drew
      have HO1 := Lib.hid (own_below Hown.out (bgo (Below.refl wr.heap.size wr).drew hB1))
      go_upto_region 6 with fail
      refine wp_region_noPanic ?_
      refine wp_region_held_drew (S := fun W => W.cell? ⟨b1, o1 + k * 3, none⟩ = some (.string xl) ∧ W.cell? ⟨b1, o1 + k * 3 + 2, none⟩ = some (.string xr)) (by kernel_rfl) ⟨HY0.out _ hBd1, HY2.out _ hBd1⟩ (fun hHeld => ?_)
      refine wpAnyH_take (i := 0) (v := ?_) rfl (by kernel_rfl) (by kernel_rfl) (by kernel_rfl) (fun _ _ _ h => h) (Or.inl ⟨by kernel_rfl, ?_⟩) (by assumption) ?_
      rotate_left
      · intro w hSw
        (try dsimp only at hSw)
        go_simp
        first | done | with_reducible rfl
      simp only [List.getElem_toArray, List.getElem_cons_zero, List.getElem_cons_succ, Act.put, List.setIfInBounds_toArray, List.set_cons_zero, List.set_cons_succ]
      refine wpAnyH_take (i := 1) (v := ?_) rfl (by kernel_rfl) (by kernel_rfl) (by kernel_rfl) (fun _ _ _ h => h) (Or.inl ⟨by kernel_rfl, ?_⟩) (by assumption) ?_
      rotate_left
      · intro w hSw
        (try dsimp only at hSw)
        go_simp
        first | done | with_reducible rfl
      simp only [List.getElem_toArray, List.getElem_cons_zero, List.getElem_cons_succ, Act.put, List.setIfInBounds_toArray, List.set_cons_zero, List.set_cons_succ]
      refine wpAnyH_take (i := 2) (v := ?_) rfl (by kernel_rfl) (by kernel_rfl) (by kernel_rfl) (fun _ _ _ h => h) (Or.inl ⟨by kernel_rfl, ?_⟩) (by assumption) ?_
      rotate_left
      · intro w hSw
        (try dsimp only at hSw)
        go_simp
        first | done | with_reducible rfl
      simp only [List.getElem_toArray, List.getElem_cons_zero, List.getElem_cons_succ, Act.put, List.setIfInBounds_toArray, List.set_cons_zero, List.set_cons_succ]
      refine wpAnyH_take (i := 3) (v := ?_) rfl (by kernel_rfl) (by kernel_rfl) (by kernel_rfl) (fun _ _ _ h => h) (Or.inl ⟨by kernel_rfl, ?_⟩) (by assumption) ?_
      rotate_left
      · intro w hSw
        (try dsimp only at hSw)
        go_simp
        first | done | with_reducible rfl
      simp only [List.getElem_toArray, List.getElem_cons_zero, List.getElem_cons_succ, Act.put, List.setIfInBounds_toArray, List.set_cons_zero, List.set_cons_succ]
      refine wpAnyH_take (i := 4) (v := ?_) rfl (by kernel_rfl) (by kernel_rfl) (by kernel_rfl) (fun _ _ _ h => h) (Or.inl ⟨by kernel_rfl, ?_⟩) (by assumption) ?_
      rotate_left
      · intro w hSw
        (try dsimp only at hSw)
        go_simp
        first | done | with_reducible rfl
      simp only [List.getElem_toArray, List.getElem_cons_zero, List.getElem_cons_succ, Act.put, List.setIfInBounds_toArray, List.set_cons_zero, List.set_cons_succ]
      refine wpAnyH_take (i := 5) (v := ?_) rfl (by kernel_rfl) (by kernel_rfl) (by kernel_rfl) (fun _ _ _ h => h) (Or.inl ⟨by kernel_rfl, ?_⟩) (by assumption) ?_
      rotate_left
      · intro w hSw
        (try dsimp only at hSw)
        have z := hSw.1
        go_simp
        first | done | with_reducible rfl
      simp only [List.getElem_toArray, List.getElem_cons_zero, List.getElem_cons_succ, Act.put, List.setIfInBounds_toArray, List.set_cons_zero, List.set_cons_succ]
      refine wpAnyH_take (i := 6) (v := ?_) rfl (by kernel_rfl) (by kernel_rfl) (by kernel_rfl) (fun _ _ _ h => h) (Or.inl ⟨by kernel_rfl, ?_⟩) (by assumption) ?_
      rotate_left
      · intro w hSw
        (try dsimp only at hSw)
        go_simp
        first | done | with_reducible rfl
      simp only [List.getElem_toArray, List.getElem_cons_zero, List.getElem_cons_succ, Act.put, List.setIfInBounds_toArray, List.set_cons_zero, List.set_cons_succ]
      refine wpAnyH_take (i := 7) (v := ?_) rfl (by kernel_rfl) (by kernel_rfl) (by kernel_rfl) (fun _ _ _ h => h) (Or.inl ⟨by kernel_rfl, ?_⟩) (by assumption) ?_
      rotate_left
      · intro w hSw
        (try dsimp only at hSw)
        go_simp
        first | done | with_reducible rfl
      simp only [List.getElem_toArray, List.getElem_cons_zero, List.getElem_cons_succ, Act.put, List.setIfInBounds_toArray, List.set_cons_zero, List.set_cons_succ]
      refine wpAnyH_take (i := 8) (v := ?_) rfl (by kernel_rfl) (by kernel_rfl) (by kernel_rfl) (fun _ _ _ h => h) (Or.inl ⟨by kernel_rfl, ?_⟩) (by assumption) ?_
      rotate_left
      · intro w hSw
        (try dsimp only at hSw)
        go_simp
        first | done | with_reducible rfl
      simp only [List.getElem_toArray, List.getElem_cons_zero, List.getElem_cons_succ, Act.put, List.setIfInBounds_toArray, List.set_cons_zero, List.set_cons_succ]
      refine wpAnyH_take (i := 9) (v := ?_) rfl (by kernel_rfl) (by kernel_rfl) (by kernel_rfl) (fun _ _ _ h => h) (Or.inl ⟨by kernel_rfl, ?_⟩) (by assumption) ?_
      rotate_left
      · intro w hSw
        (try dsimp only at hSw)
        go_simp
        first | done | with_reducible rfl
      simp only [List.getElem_toArray, List.getElem_cons_zero, List.getElem_cons_succ, Act.put, List.setIfInBounds_toArray, List.set_cons_zero, List.set_cons_succ]
      refine wpAnyH_take (i := 10) (v := ?_) rfl (by kernel_rfl) (by kernel_rfl) (by kernel_rfl) (fun _ _ _ h => h) (Or.inl ⟨by kernel_rfl, ?_⟩) (by assumption) ?_
      rotate_left
      · intro w hSw
        (try dsimp only at hSw)
        go_simp
        first | done | with_reducible rfl
      simp only [List.getElem_toArray, List.getElem_cons_zero, List.getElem_cons_succ, Act.put, List.setIfInBounds_toArray, List.set_cons_zero, List.set_cons_succ]
      refine wpAnyH_take (i := 11) (v := ?_) rfl (by kernel_rfl) (by kernel_rfl) (by kernel_rfl) (fun _ _ _ h => h) (Or.inl ⟨by kernel_rfl, ?_⟩) (by assumption) ?_
      rotate_left
      · intro w hSw
        (try dsimp only at hSw)
        have z := hSw.2
        go_simp
        first | done | with_reducible rfl
      simp only [List.getElem_toArray, List.getElem_cons_zero, List.getElem_cons_succ, Act.put, List.setIfInBounds_toArray, List.set_cons_zero, List.set_cons_succ]
      refine wpAnyH_ready (rs := [12]) (by kernel_rfl) (by simp) ?_
      refine AllReadyH.cons rfl (fun K hK => ?_) ?_
      · simp only [List.getElem_toArray, List.getElem_cons_zero, List.getElem_cons_succ]
        go_simp
        (with_reducible refine (rleafP_any xl cx xr t Ht hcI hs1 hs2 w1.drew).mono ?_)
        rintro e w2 ⟨rfl, hB2⟩
        dsimp only
        have hBw2 := bgo hBd1 hB2
        have HO2 := Lib.hid (own_below HO1.out (bgo (Below.refl w1.heap.size w1).drew hB2))
        refine hK.out _ _ ⟨HY0.out _ hBw2, HY2.out _ hBw2⟩ (fun hHeld => ?_)
        clear hK K
        try simp only [List.getElem_toArray, List.getElem_cons_zero, List.getElem_cons_succ, Act.put, List.setIfInBounds_toArray, List.set_cons_zero, List.set_cons_succ]
        refine wpAnyH_ready (rs := [13]) (by kernel_rfl) (by simp) ?_
        refine AllReadyH.cons rfl (fun K hK => ?_) ?_
        · simp only [List.getElem_toArray, List.getElem_cons_zero, List.getElem_cons_succ]
          go_simp
          obtain ⟨w3, hw3⟩ : ∃ x, x = w2.alloc (.cells #[.string t] 9) := ⟨_, rfl⟩
          obtain ⟨nb, hnb⟩ : ∃ x, x = w2.heap.size := ⟨_, rfl⟩
          rw [← hw3, ← hnb]
          have hBw3 : Below w.heap.size w w3 := by rw [hw3]; exact bal hBw2 _
          have own3 : w3.ownsRow w.heap.size 9 1 u5 k (strV (leafK rows bl k)) := by rw [hw3]; exact HO2.out.alloc _
          have src3 : Src w3 1 (.slice (some ⟨nb, 0, none⟩) 1 1) 1 [.string t] := by rw [hw3, hnb]; exact block_src w2 [.string t] _ _ 1 1 1 rfl
          clear hw3 hnb
          refine hK.out _ _ ⟨HY0.out _ hBw3, HY2.out _ hBw3⟩ (fun hHeld => ?_)
          clear hK K
          try simp only [List.getElem_toArray, List.getElem_cons_zero, List.getElem_cons_succ, Act.put, List.setIfInBounds_toArray, List.set_cons_zero, List.set_cons_succ]
          refine wpAnyH_ready (rs := [14]) (by kernel_rfl) (by simp) ?_
          refine AllReadyH.cons rfl (fun K hK => ?_) ?_
          · refine step_src (w0 := w) (by rfl) _ _ 70 (by rfl) 9 i0 (.string ⟨#[]⟩) 1 16 Tryd.underlying70 hi0 hz0 hz1 hz2 (by rfl) (by decide) u5 k (strV (leafK rows bl k)) (by rfl) own3 hBw3 (.slice (some ⟨nb, 0, none⟩) 1 1) 1 [.string t] (by rfl) src3 (by simp [Value.oneCell']) (by unfold maxLen; omega) (by omega) ?_
            intro v4 w4 hown4 hB4 _
            have HO4 := Lib.hid hown4
            refine hK.out _ _ ⟨HY0.out _ hB4, HY2.out _ hB4⟩ (fun hHeld => ?_)
            clear hK K
            try simp only [List.getElem_toArray, List.getElem_cons_zero, List.getElem_cons_succ, Act.put, List.setIfInBounds_toArray, List.set_cons_zero, List.set_cons_succ]
            refine wpAnyH_take (i := 15) (v := ?_) rfl (by kernel_rfl) (by kernel_rfl) (by kernel_rfl) (fun _ _ _ h => h) (Or.inl ⟨by kernel_rfl, ?_⟩) (by assumption) ?_
            rotate_left
            · intro w hSw
              (try dsimp only at hSw)
              go_simp
              first | done | with_reducible rfl
            simp only [List.getElem_toArray, List.getElem_cons_zero, List.getElem_cons_succ, Act.put, List.setIfInBounds_toArray, List.set_cons_zero, List.set_cons_succ]
            refine wpAnyH_done (by kernel_rfl) ?_ _
            dsimp only [NoPanic]
            clear hHeld
            go_wp2_with fail
            go_roundw
            case rel => exact ⟨k + 1, by omega, by go_num, by rw [Hlf.out, strV_snoc']; exact HO4.out, hB4⟩
            case measure => simp [intOf]; omega
          exact AllReadyH.nil
        exact AllReadyH.nil
      exact AllReadyH.nil
    · obtain rfl : k = n := by omega
      obtain ⟨C, cc, hv, _⟩ := own_slice Hown.out
      subst hv
      go_wp2
      go_ret
      exact ⟨_, _, rfl, Hown.out, hBw⟩
end Go.Proofs.YtgkilaafeconlaaDoor
