/- The walks of MerkleHalves and MerkleChange. -/
import Derived.Test.YtdkjbdohnpaiaaaMkLawA
namespace Go.Proofs.Ytdkjbdohnpaiaaa
open Go.RowKit Go.Shelf
set_option linter.unusedVariables false
theorem strV_take (ss : List ByteArray) (k : Nat) : (strV ss).take (k * 1) = strV (ss.take k) := by rw [Nat.mul_one]; exact (List.map_take ..).symm
theorem strV_drop (ss : List ByteArray) (k : Nat) : (strV ss).drop (k * 1) = strV (ss.drop k) := by rw [Nat.mul_one]; exact (List.map_drop ..).symm
theorem strV_set (ss : List ByteArray) (k : Nat) (x : ByteArray) : (strV ss).set k (.string x) = strV (ss.set k x) := (List.map_set ..).symm
theorem u8_mod6 (u : UInt8) : ∃ j : Nat, ((u.toNat : Int) % (6 : Int)) = (j : Int) ∧ j ≤ 5 := ⟨u.toNat % 6, by omega, by omega⟩
theorem two_le (j : Nat) (h : j ≤ 5) : 1 ≤ 2 ^ j ∧ 2 ^ j ≤ 32 := ⟨Nat.one_le_two_pow, Nat.pow_le_pow_right (by omega) h⟩
set_option maxRecDepth 100000 in
set_option maxHeartbeats 1000000 in
theorem merkleHalves_walk (A : Option Addr) (c : Nat) (ss : List ByteArray) (k : Int) (w : World) (hA : Sl w w.heap.size 1 A ss.length (strV ss)) (hlc : ss.length ≤ c ∧ c ≤ maxLen) (hs : ∀ s ∈ ss, s.size ≤ maxLen) (hk : (Lit.int .u8 k).wf = true) :
    Calls Try.prog 8 #[.slice A ss.length c, .int .u8 k] w fun e w' => e = .returned (.bool true) ∧ Below w.heap.size w w' := by
  obtain ⟨u, rfl⟩ := u8_of_wf hk
  obtain ⟨hl, hcm⟩ := hlc
  unfold maxLen at hcm
  have HA := Lib.hid hA
  clear hA hs hk
  have hu0 : (0 : Int) ≤ (u.toNat : Int) := Int.natCast_nonneg _
  have hu1 : (u.toNat : Int) ≤ 255 := by have := u.toNat_lt; omega
  obtain ⟨q, hq, hq5⟩ := u8_mod6 u
  go_enter Try.func8, Try.ntmps8
  go_wp2_with fail
  refine (head_any _).mono ?_
  rintro e w1 ⟨rfl, hB1⟩
  go_wp2
  go_loop [6, 7] (fun kk i => ∃ j m : Nat, j ≤ q ∧ m = 2 ^ j ∧ m ≤ 32 ∧ 1 ≤ m ∧ i = .int .i64 (j : Int) ∧ kk = .int .i64 (m : Int)) (fun _ i => q - (intOf i).toNat)
  case atStart => exact ⟨0, 1, by omega, rfl, by omega, by omega, rfl, rfl⟩
  case round =>
    obtain ⟨j, m, hj, hm, hm32, hm1, rfl, rfl⟩ := hrel
    have Hm := Lib.hid hm
    clear hm
    by_cases hlt : j < q
    · go_wp2
      go_round
      case rel => exact ⟨j + 1, 2 * m, by omega, by rw [Hm.out, Nat.pow_succ]; omega, by have := (two_le (j + 1) (by omega)).2; rw [Nat.pow_succ] at this; have := Hm.out; omega, by omega, by go_num, by go_num⟩
      case measure => simp [intOf]; omega
    · obtain rfl : j = q := by omega
      by_cases hsm : smallB ss = true
      · have Hs := Lib.hid (small_lens hsm)
        have h80 : ss.length ≤ 80 := Hs.out.1
        by_cases hle : ss.length ≤ m
        · have hd1 : decide ((ss.length : Int) ≤ (m : Int)) = true := decide_eq_true (by omega)
          go_wp2_with fail
          refine (small_any _ _ _ _ (HA.out.go hB1)).mono ?_
          rintro e w' ⟨rfl, rfl⟩
          go_wp2_with fail
          go_ret
          exact ⟨rfl, hB1⟩
        · have hd1 : decide ((ss.length : Int) ≤ (m : Int)) = false := decide_eq_false (by omega)
          by_cases hgt : ss.length ≤ 2 * m
          · have hd2 : decide ((2 : Int) * (m : Int) < (ss.length : Int)) = false := decide_eq_false (by omega)
            have hroot := halves_root ss j hq5 (by rw [← Hm.out]; omega) (by rw [← Hm.out]; omega)
            rw [← Hm.out] at hroot
            obtain ⟨b, off, rfl, hb, hcell⟩ := (HA.out).2 (by omega)
            clear hcell
            have hS1 : Sl w w.heap.size 1 (some ⟨b, off, none⟩) m (strV (ss.take m)) := by rw [← strV_take]; exact HA.out.take m (by omega)
            have hS2 : Sl w w.heap.size 1 (some ⟨b, off + m, none⟩) (ss.length - m) (strV (ss.drop m)) := by rw [← strV_drop]; have := HA.out.drop m (by omega); rwa [Nat.mul_one m] at this ⊢
            have hl1 : (ss.take m).length = m := by rw [List.length_take]; omega
            have hl2 : (ss.drop m).length = ss.length - m := List.length_drop
            have e1 : checkE m = 0 := checkE_ok _ (by omega) (by omega)
            have e2 : checkE (ss.length - m) = 0 := checkE_ok _ (by omega) (by omega)
            have e3 : checkE ss.length = 0 := checkE_ok _ (by omega) (by omega)
            have z1 : ∀ s ∈ ss.take m, s.size ≤ 140737488355328 := fun s h => Hs.out.2 s (List.mem_of_mem_take h)
            have z2 : ∀ s ∈ ss.drop m, s.size ≤ 140737488355328 := fun s h => Hs.out.2 s (List.mem_of_mem_drop h)
            obtain ⟨r1, hr1⟩ : ∃ r, rootV (ss.take m) = r := ⟨_, rfl⟩
            obtain ⟨r2, hr2⟩ : ∃ r, rootV (ss.drop m) = r := ⟨_, rfl⟩
            rw [hr1, hr2] at hroot
            have F := Lib.hid (And.intro hS1 (And.intro hS2 (And.intro hl1 (And.intro hl2 (And.intro e1 (And.intro e2 (And.intro e3 (And.intro z1 (And.intro z2 (And.intro hr1 (And.intro hr2 hroot)))))))))))
            clear hS1 hS2 hl1 hl2 e1 e2 e3 z1 z2 hr1 hr2 hroot
            have hcm2 : ¬ (c = m) := by omega
            go_wp2_with fail
            refine (small_any _ _ _ _ (HA.out.go hB1)).mono ?_
            rintro e w' ⟨rfl, rfl⟩
            go_wp2_with fail
            obtain ⟨hS1, hS2, hl1, hl2, e1, e2, e3, z1, z2, hr1, hr2, hroot⟩ := F.out
            refine (root_at _ _ m (ss.take m) r1 0 w1 hl1 hr1 e1 (hS1.go hB1) z1 (by omega)).mono ?_
            rintro e w2 ⟨rfl, hB2⟩
            have hB2' := bgo hB1 hB2
            clear hB1 hB2 hS1 hS2 hl1 hl2 e1 e2 e3 z1 z2 hr1 hr2 hroot
            go_wp2_with fail
            obtain ⟨hS1, hS2, hl1, hl2, e1, e2, e3, z1, z2, hr1, hr2, hroot⟩ := F.out
            refine (root_at _ _ (ss.length - m) (ss.drop m) r2 0 w2 hl2 hr2 e2 (hS2.go hB2') z2 (by omega)).mono ?_
            rintro e w3 ⟨rfl, hB3⟩
            have hB3' := bgo hB2' hB3
            clear hB2' hB3 hS1 hS2 hl1 hl2 e1 e2 e3 z1 z2 hr1 hr2 hroot
            go_wp2_with fail
            obtain ⟨hS1, hS2, hl1, hl2, e1, e2, e3, z1, z2, hr1, hr2, hroot⟩ := F.out
            refine (root_at _ _ ss.length ss (Dig.pair r1 r2) 0 w3 rfl hroot e3 (HA.out.go hB3') Hs.out.2 (by omega)).mono ?_
            rintro e w4 ⟨rfl, hB4⟩
            have hB4' := bgo hB3' hB4
            clear hB3' hB4 hS1 hS2 hl1 hl2 e1 e2 e3 z1 z2 hr1 hr2 hroot
            go_wp2_with fail
            refine (pair_any _ _ _).mono ?_
            rintro e w5 ⟨rfl, hB5⟩
            have hB5' := bgo hB4' hB5
            clear hB4' hB5
            go_wp2_with fail
            go_ret
            exact ⟨rfl, hB5'⟩
          · have hd2 : decide ((2 : Int) * (m : Int) < (ss.length : Int)) = true := decide_eq_true (by omega)
            go_wp2_with fail
            refine (small_any _ _ _ _ (HA.out.go hB1)).mono ?_
            rintro e w' ⟨rfl, rfl⟩
            go_wp2_with fail
            go_ret
            exact ⟨rfl, hB1⟩
      · have hsm' : smallB ss = false := by simpa using hsm
        clear hsm
        go_wp2_with fail
        refine (small_any _ _ _ _ (HA.out.go hB1)).mono ?_
        rintro e w' ⟨rfl, rfl⟩
        go_wp2_with fail
        go_ret
        exact ⟨rfl, hB1⟩
set_option maxRecDepth 100000 in
set_option maxHeartbeats 1000000 in
theorem merkleChange_walk (A : Option Addr) (c : Nat) (ss : List ByteArray) (k : Int) (x : ByteArray) (w : World) (hA : Sl w w.heap.size 1 A ss.length (strV ss)) (hlc : ss.length ≤ c ∧ c ≤ maxLen) (hs : ∀ s ∈ ss, s.size ≤ maxLen) (hk : (Lit.int .u8 k).wf = true) (hx : x.size ≤ maxLen) :
    Calls Try.prog 9 #[.slice A ss.length c, .int .u8 k, .string x] w fun e w' => e = .returned (.bool true) ∧ Below w.heap.size w w' := by
  obtain ⟨i0, hj0, hz0, hz1, hz2⟩ := info_parts info_string
  obtain ⟨u, rfl⟩ := u8_of_wf hk
  have hl : ss.length ≤ maxLen := Nat.le_trans hlc.1 hlc.2
  have HA := Lib.hid hA
  clear hA hs hk hlc
  unfold maxLen at hx
  have hu0 : (0 : Int) ≤ (u.toNat : Int) := Int.natCast_nonneg _
  have hu1 : (u.toNat : Int) ≤ 255 := by have := u.toNat_lt; omega
  by_cases hsm : smallB ss = true
  · have Hs := Lib.hid (small_lens hsm)
    have h80 : ss.length ≤ 80 := Hs.out.1
    by_cases h0 : ss.length = 0
    · have hd0 : ((ss.length : Int) == 0) = true := by simp [h0]
      clear h0
      go_enter Try.func9, Try.ntmps9
      go_wp2_with fail
      refine (head_any _).mono ?_
      rintro e w1 ⟨rfl, hB1⟩
      go_wp2_with fail
      refine (small_any _ _ _ _ (HA.out.go hB1)).mono ?_
      rintro e w' ⟨rfl, rfl⟩
      go_wp2_with fail
      go_ret
      exact ⟨rfl, hB1⟩
    · have hd0 : ((ss.length : Int) == 0) = false := beq_eq_false_iff_ne.2 (by omega)
      have hpos : 0 < ss.length := by omega
      clear h0
      by_cases hx60 : x.size ≤ 60
      · have hd1 : decide ((60 : Int) < (x.size : Int)) = false := decide_eq_false (by omega)
        obtain ⟨j, hj, hjn⟩ := u8_mod u ss.length hpos
        have hji : (j : Int) < (ss.length : Int) := by omega
        have hv := change_verify ss j x (by omega) hjn
        have hp2 := change_path ss j x (by omega) hjn
        have hL := pathL_len ss j (by omega) hjn
        have e0 := checkE_ok ss.length hpos (by omega)
        have e1 := pathE_ok ss.length j (by omega) hjn
        have l2 : (ss.set j x).length = ss.length := List.length_set
        have z2 : ∀ s ∈ ss.set j x, s.size ≤ 140737488355328 := fun s h => by
          rcases List.mem_or_eq_of_mem_set h with h | h
          · exact Hs.out.2 s h
          · rw [h]; omega
        obtain ⟨r, hr⟩ : ∃ r, rootV (ss.set j x) = r := ⟨_, rfl⟩
        obtain ⟨p, hp⟩ : ∃ p, pathL ss (j : Int) = p := ⟨_, rfl⟩
        rw [hr, hp] at hv
        rw [hp] at hL hp2
        have F := Lib.hid (And.intro hv (And.intro hp2 (And.intro e0 (And.intro e1 (And.intro l2 (And.intro z2 (And.intro hr hp)))))))
        clear hv hp2 e0 e1 l2 z2 hr hp
        go_enter Try.func9, Try.ntmps9
        go_wp2_with fail
        refine (head_any _).mono ?_
        rintro e w1 ⟨rfl, hB1⟩
        go_wp2_with fail
        refine (small_any _ _ _ _ (HA.out.go hB1)).mono ?_
        rintro e w' ⟨rfl, rfl⟩
        obtain ⟨b, off, rfl, hb, hcell⟩ := (HA.out.go hB1).2 hpos
        have hnews : ∀ (j : Nat) (u : Value), (strV ss)[j]? = some u → (w1.alloc (.cells #[] 9)).cell? ((⟨b, off, none⟩ : Addr).add j) = some u := fun j u hu => by
          rw [Addr.add_lit]
          exact (World.cell?_of_block (Below.heap_alloc _ _ _ hb)).trans (hcell j u hu)
        have hone : ∀ u ∈ strV ss, u.oneCell' = true := by
          intro u hu
          obtain ⟨x, _, rfl⟩ := List.mem_map.1 hu
          rfl
        have hown0 : (w1.alloc (.cells #[] 9)).ownsRow w1.heap.size 9 1 (.slice (some ⟨w1.heap.size, 0, none⟩) 0 0) 0 [] := ⟨rfl, .inr ⟨w1.heap.size, 0, #[], rfl, Nat.le_refl _, World.alloc_heap_new w1 _, Nat.le_refl _, Nat.zero_le _, rfl, rfl⟩⟩
        have hlen : (strV ss).length = ss.length * 1 := by simp [strV]
        have G := Lib.hid (And.intro hnews (And.intro hone (And.intro hown0 hlen)))
        clear hcell hnews hone hown0 hlen
        go_wp2_with (at_builtin; refine wpList_append_own _ rfl _ _ 22 rfl w1.heap.size 9 i0 (.string ⟨#[]⟩) 1 16 Try.underlying22 hj0 hz0 hz1 hz2 rfl (by decide) _ _ _ rfl G.out.2.2.1 ⟨b, off, none⟩ ss.length c (strV ss) rfl G.out.2.2.2 G.out.1 G.out.2.1 ?c3 ?c4 ?c5 ?_)
        case c3 => unfold maxLen; omega
        case c4 => omega
        case c5 => simp
        intro v' w2 hown2 hg2 _
        have hB2 : Below w1.heap.size w1 w2 := ((Below.refl _ _).alloc (Nat.le_refl _) _).grown hg2 (by simp) (fun k hk => by cases hk; exact Nat.le_refl _)
        have hB2' := bgo hB1 hB2
        obtain ⟨g, cap, hv'⟩ : ∃ g cap, v' = .slice (some ⟨g, 0, none⟩) ss.length cap := by
          obtain ⟨n', hn'⟩ : ∃ n', ss.length = n' + 1 := ⟨ss.length - 1, by omega⟩
          rw [hn'] at hown2 ⊢
          exact ownsRow_succ hown2
        subst hv'
        have hg := hown2.lt g rfl
        have hc2 : w2.cell? ⟨g, j, none⟩ = some (.string ss[j]) := (hown2.cellAt j (by omega)).trans (by simp [strV, hjn])
        have hf2 : w2.frozen? ⟨g, j, none⟩ = false := hown2.frozenAt j
        have Hown2 := Lib.hid hown2
        clear hown2 hg2 hB2
        go_wp2_with fail
        have hown3 := (Hown2.out.stored j (.string x)).1
        rw [strV_set] at hown3
        have hB3' : Below w.heap.size w (w2.setCell ⟨g, j, none⟩ (.string x)) := hB2'.setCell (by have := hB1.size; show w.heap.size ≤ g; omega) _
        obtain ⟨w3, hw3⟩ : ∃ w3, w3 = w2.setCell ⟨g, j, none⟩ (.string x) := ⟨_, rfl⟩
        rw [← hw3] at hown3 hB3' ⊢
        obtain ⟨B', cap', hvv, hSl⟩ := own_slice hown3
        injection hvv with hv1 hv2 hv3
        subst hv1 hv3
        clear hown3 hw3 hc2 hf2 hB2'
        obtain ⟨hv, hp2, e0, e1, l2, z2, hr, hp⟩ := F.out
        refine (path_at _ c ss.length ss (j : Int) p 0 w3 rfl hp e1 (HA.out.go hB3') Hs.out.2 (by omega)).mono ?_
        rintro e w4 ⟨B4, cap4, rfl, hS4, hB4⟩
        have hB4' := bgo hB3' hB4
        have hSl4 := hSl.go hB4
        clear hB4 hB3' hSl hv hp2 e0 e1 l2 z2 hr hp
        go_wp2_with fail
        obtain ⟨hv, hp2, e0, e1, l2, z2, hr, hp⟩ := F.out
        refine (path_at _ _ ss.length (ss.set j x) (j : Int) p 0 w4 l2 hp2 e1 hSl4 z2 (by omega)).mono ?_
        rintro e w5 ⟨B5, cap5, rfl, hS5, hB5⟩
        have hB5' := bgo hB4' hB5
        have hSl5 := hSl4.go hB5
        have hS45 := hS4.go hB5
        clear hB5 hB4' hSl4 hS4 hv hp2 e0 e1 l2 z2 hr hp
        go_wp2_with fail
        obtain ⟨hv, hp2, e0, e1, l2, z2, hr, hp⟩ := F.out
        refine (root_at _ _ ss.length (ss.set j x) r 0 w5 l2 hr e0 hSl5 z2 (by omega)).mono ?_
        rintro e w6 ⟨rfl, hB6⟩
        have hB6' := bgo hB5' hB6
        have hS6 := hS45.go hB6
        have hS56 := hS5.go hB6
        clear hB6 hB5' hSl5 hS45 hS5 hv hp2 e0 e1 l2 z2 hr hp
        go_wp2_with fail
        refine (same_at _ _ _ _ p.length p.length p p true w6 rfl rfl (by simp) hS6 hS56 (by omega) (by omega)).mono ?_
        rintro e w7 ⟨rfl, hB7⟩
        have hB7' := bgo hB6' hB7
        have hS7 := hS6.go hB7
        clear hB7 hB6' hS6 hS56
        go_wp2_with fail
        refine (verify_at _ _ p.length r (ss.length : Int) (j : Int) x p true w7 rfl F.out.1 hS7 (by omega)).mono ?_
        rintro e w8 ⟨rfl, hB8⟩
        have hB8' := bgo hB7' hB8
        clear hB8 hB7' hS7
        go_wp2_with fail
        go_ret
        exact ⟨rfl, hB8'⟩
      · have hd1 : decide ((60 : Int) < (x.size : Int)) = true := decide_eq_true (by omega)
        go_enter Try.func9, Try.ntmps9
        go_wp2_with fail
        refine (head_any _).mono ?_
        rintro e w1 ⟨rfl, hB1⟩
        go_wp2_with fail
        refine (small_any _ _ _ _ (HA.out.go hB1)).mono ?_
        rintro e w' ⟨rfl, rfl⟩
        go_wp2_with fail
        go_ret
        exact ⟨rfl, hB1⟩
  · have hsm' : smallB ss = false := by simpa using hsm
    clear hsm
    go_enter Try.func9, Try.ntmps9
    go_wp2_with fail
    refine (head_any _).mono ?_
    rintro e w1 ⟨rfl, hB1⟩
    go_wp2_with fail
    refine (small_any _ _ _ _ (HA.out.go hB1)).mono ?_
    rintro e w' ⟨rfl, rfl⟩
    go_wp2_with fail
    go_ret
    exact ⟨rfl, hB1⟩
end Go.Proofs.Ytdkjbdohnpaiaaa
