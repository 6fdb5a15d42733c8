/- The walk of RangeproofLengths. -/
import Derived.Test.YthebahahpkficaaDoorRpLawS
import Derived.Test.YthebahahpkficaaDoorApp2
namespace Go.Proofs.YthebahahpkficaaDoor
open Go.RowKit
set_option linter.unusedVariables false
theorem base_low {w : World} {base base' : Nat} {e : TypeId} {size : Nat} {v : Value} {n : Nat} {xs : List Value} (h : w.ownsRow base e size v n xs) (hb : base' ≤ base) : w.ownsRow base' e size v n xs := by
  refine ⟨h.1, ?_⟩
  rcases h.2 with h0 | ⟨g, cap, cur, hv, h1, h2⟩
  · exact .inl h0
  · exact .inr ⟨g, cap, cur, hv, Nat.le_trans hb h1, h2⟩
theorem bpsC_one : ∀ (l : List BP), ∀ u ∈ bpsC l, u.oneCell' = true
  | [], u, h => by cases h
  | p :: l, u, h => by
    rw [bpsC, List.mem_append] at h
    rcases h with h | h
    · simp [bpC] at h
      rcases h with rfl | rfl | rfl | rfl | rfl | rfl | rfl <;> rfl
    · exact bpsC_one l u h
theorem sl_src {W : World} {B size n b off c : Nat} {xs : List Value} (h : Sl W B size (some ⟨b, off, none⟩) n xs) (hn : 0 < n) : Src W size (.slice (some ⟨b, off, none⟩) n c) n xs := by
  obtain ⟨b', off', e, hb, hc⟩ := h.2 hn
  injection e with e
  injection e with e1 e2 e3
  subst e1 e2
  exact .inr ⟨_, _, rfl, h.1, fun j u hu => by rw [Addr.add_lit]; exact hc j u hu⟩
theorem bpsC_take : ∀ (l : List BP) (k : Nat), (bpsC l).take (k * 7) = bpsC (l.take k)
  | [], k => by simp [bpsC]
  | p :: l, 0 => by simp [bpsC]
  | p :: l, k + 1 => by
    rw [bpsC, List.take_succ_cons, bpsC, show (k + 1) * 7 = (bpC p).length + k * 7 by rw [bpC_len]; omega, List.take_append, Nat.add_sub_cancel_left, bpsC_take l k, List.take_of_length_le (Nat.le_add_right _ _)]
theorem cAt_take (l : List BP) (k j : Nat) (h : j < k) : cAt (l.take k) j = cAt l j := by
  unfold cAt
  simp [List.getD, h]
theorem verify_take (value : Nat) (seed : List UInt8) (blind : Int) (h0 : 0 ≤ blind) (h1 : blind < 1073741789) (n k : Nat) (hk : 1 ≤ k) (hkn : k ≤ n) (hn : n ≤ 28) :
    verifyB (prodI (cAt (proveL value seed blind n)) k) k ((proveL value seed blind n).take k) = true := by
  have hl : ((proveL value seed blind n).take k).length = k := by rw [List.length_take, proveL_len]; omega
  unfold verifyB
  rw [hl, prodI_congr _ _ k (fun j hj => cAt_take _ k j hj)]
  have ha : ((proveL value seed blind n).take k).all validB = true := by
    rw [List.all_eq_true]
    intro p hp
    have hp' := List.mem_of_mem_take hp
    unfold proveL at hp'
    obtain ⟨j, _, rfl⟩ := List.mem_map.1 hp'
    exact valid_at value seed blind h0 h1 n j
  rw [ha]
  simp
  omega
set_option maxHeartbeats 8000000 in
set_option maxRecDepth 100000 in
theorem rangeproofLengths_walk (value blind bits : Int) (seed : ByteArray) (cut : Int) (w : World) (h0 : (Lit.int .u32 value).wf = true) (h1 : (Lit.int .u32 blind).wf = true) (h2 : (Lit.int .u8 bits).wf = true) (h3 : seed.size ≤ maxLen) (h4 : (Lit.int .u8 cut).wf = true) (hT : Tabs w) :
    Calls Tryd.prog 6 #[.int .u32 value, .int .u32 blind, .int .u8 bits, .string seed, .int .u8 cut] w fun e w' => e = .returned (.bool true) ∧ Below w.heap.size w w' := by
  replace h0 := u32_b h0
  replace h1 := u32_b h1
  replace h2 := u8_b h2
  replace h4 := u8_b h4
  unfold maxLen at h3
  have HT := Lib.hid hT
  clear hT
  by_cases hs : seed.size ≤ 60
  · obtain ⟨n, hn⟩ : ∃ n : Nat, bits % 28 + 1 = (n : Int) := ⟨(bits % 28 + 1).toNat, by omega⟩
    have hn1 : 1 ≤ n := by omega
    have hn2 : n ≤ 28 := by omega
    obtain ⟨E, hE, hEb, hsh⟩ := two_pow n hn2
    have HE := Lib.hid hE
    clear hE
    obtain ⟨x, hx⟩ : ∃ x, value % E = x := ⟨_, rfl⟩
    have hxb : 0 ≤ x ∧ x < E := ⟨by rw [← hx]; exact Int.emod_nonneg _ (by omega), by rw [← hx]; exact Int.emod_lt_of_pos _ (by omega)⟩
    obtain ⟨r, hr⟩ : ∃ r, blind % 1073741789 = r := ⟨_, rfl⟩
    have hrb : 0 ≤ r ∧ r < 1073741789 := by omega
    obtain ⟨k, hk⟩ : ∃ k : Nat, cut % (n : Int) + 1 = (k : Int) := by
      have := Int.emod_nonneg cut (show (n : Int) ≠ 0 by omega)
      exact ⟨(cut % (n : Int) + 1).toNat, by omega⟩
    have hkb : 1 ≤ k ∧ k ≤ n := by
      have := Int.emod_nonneg cut (show (n : Int) ≠ 0 by omega)
      have := Int.emod_lt_of_pos cut (show (0 : Int) < (n : Int) by omega)
      omega
    obtain ⟨l, hl⟩ : ∃ l, proveL x.toNat seed.data.toList r n = l := ⟨_, rfl⟩
    obtain ⟨c, hc⟩ : ∃ c, commitI x r = c := ⟨_, rfl⟩
    have hll : l.length = n := by rw [← hl]; exact proveL_len _ _ _ _
    obtain ⟨pk, hpk⟩ : ∃ pk, prodI (cAt l) k = pk := ⟨_, rfl⟩
    have hv1 : verifyB pk k (l.take k) = true := by rw [← hpk, ← hl]; exact verify_take _ _ _ hrb.1 hrb.2 n k hkb.1 hkb.2 hn2
    obtain ⟨p0, hp0⟩ : ∃ p0, l.getD 0 zeroBP = p0 := ⟨_, rfl⟩
    have hv2 : verifyB c n (l ++ [p0]) = false := verify_len c n _ (by rw [List.length_append, hll]; show ((n + 1 : Nat) : Int) ≠ (n : Int); omega)
    have hv3 : verifyB c n (l.take (n - 1)) = false := verify_len c n _ (by rw [List.length_take, hll]; omega)
    have HEL : Hid (∀ j, j < n → elB (cAt l j) = true) := Lib.hid (fun j hj => by rw [← hl]; exact prove_el _ _ _ hrb.1 hrb.2 _ _ hj)
    have HX := Lib.hid (show x < ((2 ^ n : Nat) : Int) by rw [← HE.out]; exact hxb.2)
    have HL := Lib.hid hl
    have HLL := Lib.hid hll
    have HC := Lib.hid hc
    have HPK := Lib.hid hpk
    have HV1 := Lib.hid hv1
    have HV2 := Lib.hid hv2
    have HV3 := Lib.hid hv3
    have HP0 := Lib.hid hp0
    have H1 := Lib.hid (bpsC_one l)
    have hnz : (E == 0) = false := beq_eq_false_iff_ne.2 (by omega)
    have hnz2 : ((n : Int) == 0) = false := beq_eq_false_iff_ne.2 (by omega)
    have hne : ((n : Int) != (n : Int)) = false := by simp
    clear hl hll hc hpk hv1 hv2 hv3 hp0
    obtain ⟨k0, hk0, hy0, hy1, hy2⟩ := info_parts info_bp
    go_enter Tryd.func6, Tryd.ntmps6
    go_wp2_with fail
    refine (head_any _ HT.out).mono ?_
    rintro e w1 ⟨rfl, hB1⟩
    go_wp2_with fail
    refine (prove_at x r (n : Int) n seed l HL rfl _ (HT.out.go hB1) hn1 hn2 hxb.1 HX.out hrb.1 hrb.2 hs).mono ?_
    rintro e w2 ⟨A, cap, rfl, hcap, hcm, hS, hB⟩
    have hB2 := bgo hB1 hB
    have HS := Lib.hid hS
    clear hB1 hB hS
    go_wp2_with fail
    refine (commit_at x r c HC _ (HT.out.go hB2).2 hxb.1 (by omega) hrb.1 hrb.2).mono ?_
    rintro e wz ⟨rfl, hB⟩
    have hBz := bgo hB2 hB
    have HSz := Lib.hid (HS.out.go hB)
    clear hB2 hB HS
    obtain ⟨b1, o1, rfl, hb1⟩ := sl_addr HSz.out (by omega)
    go_wp2_with fail
    go_loopw [20, 21] (fun p i wr => ∃ j : Nat, j ≤ k ∧ i = .int .i64 (j : Int) ∧ p = .int .i64 (prodI (cAt l) j) ∧ Below wz.heap.size wz wr) (fun _ i _ => k - (intOf i).toNat)
    case atStart => exact ⟨0, by omega, rfl, rfl, Below.refl _ _⟩
    case round =>
      obtain ⟨j, hj, rfl, rfl, hB⟩ := hrel
      have hpb := prodI_bd (cAt l) j
      obtain ⟨pr, hpr⟩ : ∃ pr, prodI (cAt l) j = pr := ⟨_, rfl⟩
      rw [hpr] at hpb ⊢
      by_cases hlt : j < k
      · have hd : decide ((j : Int) < (k : Int)) = true := by simp; omega
        have c1 := com_cell (A := none) (HSz.out.go hB) HLL.out j (by omega)
        have e1 := HEL.out j (by omega)
        obtain ⟨x1, hx1⟩ : ∃ x1, cAt l j = x1 := ⟨_, rfl⟩
        rw [hx1] at c1 e1
        obtain ⟨xn, hxn, hxn1, _⟩ := elB_get e1
        have hx1b : 0 ≤ x1 ∧ x1 < 2147483579 := by have : xn < 2147483579 := hxn1; omega
        obtain ⟨F, hF, hFb, hshF⟩ := two_pow j (by omega)
        obtain ⟨z, hz⟩ : ∃ z, pwI x1 F = z := ⟨_, rfl⟩
        have hzb := pwI_bd x1 F
        rw [hz] at hzb
        have hmul := mulB hpb.1 hpb.2 hzb.1 hzb.2
        have HN : Hid (prodI (cAt l) (j + 1) = pr * z % 2147483579) := Lib.hid (by rw [prodI, hpr, hx1, ← hF, hz])
        have HZ := Lib.hid hz
        have i1 : (0 : Int) ≤ (j : Int) := Int.natCast_nonneg _
        have i2 : (j : Int) < (n : Int) := by omega
        have hl1d : b1 < wr.drew.heap.size := Nat.lt_of_lt_of_le hb1 hB.size
        have c1d : wr.drew.cell? ⟨b1, o1 + j * 7, none⟩ = some (.int .i64 x1) := c1
        have hwr : IntKind.i64.wrap (pr * z) = pr * z := IntWalk.i64_in _ (by omega)
        have htm : (pr * z).tmod 2147483579 = pr * z % 2147483579 := Int.tmod_eq_emod_of_nonneg hmul.1
        clear e1 hx1 hF hz hpr hxn hxn1
        go_wp2_with fail
        go_region_held3 (fun w' => w'.cell? ⟨b1, o1 + j * 7, none⟩ = some (.int .i64 x1))
          (go_keep)
          (first
            | (go_at_call 18; (with_reducible refine (power_v x1 F z wr.drew (by omega) (by omega) (by omega) (by omega) HZ).mono ?_); rintro e wp ⟨rfl, hbp⟩; have k1 := (hbp.cell (p := ⟨b1, o1 + j * 7, none⟩) hl1d).trans c1d))
        have hBp : Below wz.heap.size wz wp := bgo hB (below_undrew hbp)
        clear hbp k1 c1 c1d hwr htm hshF
        go_wp2
        go_roundw
        case rel => exact ⟨j + 1, by omega, by go_num, by rw [HN.out], hBp⟩
        case measure => simp [intOf]; omega
      · obtain rfl : j = k := by omega
        have hd : decide ((j : Int) < (j : Int)) = false := by simp
        obtain rfl : pr = pk := hpr.symm.trans HPK.out
        obtain ⟨w3, rfl⟩ : ∃ w3 : World, w3 = wr := ⟨_, rfl⟩
        have HS3 := Lib.hid (HSz.out.go hB)
        have hB3 := bgo hBz hB
        have hbs : b1 < w3.heap.size := Nat.lt_of_lt_of_le hb1 hB.size
        obtain ⟨b', o', e', _, hcells⟩ := first_cells HS3.out HLL.out (by omega)
        injection e' with e'
        injection e' with e1 e2 e3
        subst e1 e2
        rw [HP0.out] at hcells
        obtain ⟨x0, x1, x2, x3, x4, x5, x6⟩ := p0
        simp only [] at hcells
        obtain ⟨m0, m1, m2, m3, m4, m5, m6⟩ := hcells
        clear hpr
        have i2 : (0 : Int) < (n : Int) := by omega
        have i3 : 0 < n := by omega
        go_upto_region 16 with fail
        have hsrc : Src w3.drew 7 (.slice (some ⟨b1, o1, none⟩) n cap) n (bpsC l) := sl_src HS3.out (by omega)
        have ownA : (w3.drew.alloc (.cells #[] 25)).ownsRow w3.heap.size 25 7 (.slice (some ⟨w3.heap.size, 0, none⟩) 0 0) 0 [] := own_empty w3.drew _ _ 7 rfl
        have belD : Below w3.heap.size w3 w3.drew := (Below.refl _ _).drew
        have ownC : ((w3.drew.alloc (.cells #[.int .i64 x0, .int .i64 x1, .int .i64 x2, .int .i64 x3, .int .i64 x4, .int .i64 x5, .int .i64 x6] 25)).alloc (.cells #[] 25)).ownsRow w3.heap.size 25 7 (.slice (some ⟨w3.heap.size + 1, 0, none⟩) 0 0) 0 [] := by
          have h := own_empty (w3.drew.alloc (.cells #[.int .i64 x0, .int .i64 x1, .int .i64 x2, .int .i64 x3, .int .i64 x4, .int .i64 x5, .int .i64 x6] 25)) 25 25 7 rfl
          have e : (w3.drew.alloc (.cells #[.int .i64 x0, .int .i64 x1, .int .i64 x2, .int .i64 x3, .int .i64 x4, .int .i64 x5, .int .i64 x6] 25)).heap.size = w3.heap.size + 1 := by simp
          rw [e] at h
          exact base_low h (by omega)
        have srcB : Src ((w3.drew.alloc (.cells #[] 25)).alloc (.cells #[.int .i64 x0, .int .i64 x1, .int .i64 x2, .int .i64 x3, .int .i64 x4, .int .i64 x5, .int .i64 x6] 25)) 7 (.slice (some ⟨w3.heap.size + 1, 0, none⟩) 1 1) 1 [.int .i64 x0, .int .i64 x1, .int .i64 x2, .int .i64 x3, .int .i64 x4, .int .i64 x5, .int .i64 x6] := by
          have h := block_src (w3.drew.alloc (.cells #[] 25)) [.int .i64 x0, .int .i64 x1, .int .i64 x2, .int .i64 x3, .int .i64 x4, .int .i64 x5, .int .i64 x6] 25 (0, 0) 1 1 7 rfl
          have e : (w3.drew.alloc (.cells #[] 25)).heap.size = w3.heap.size + 1 := by simp
          rw [e] at h
          exact h
        have srcC : Src ((w3.drew.alloc (.cells #[.int .i64 x0, .int .i64 x1, .int .i64 x2, .int .i64 x3, .int .i64 x4, .int .i64 x5, .int .i64 x6] 25)).alloc (.cells #[] 25)) 7 (.slice (some ⟨w3.heap.size, 0, none⟩) 1 1) 1 [.int .i64 x0, .int .i64 x1, .int .i64 x2, .int .i64 x3, .int .i64 x4, .int .i64 x5, .int .i64 x6] := (block_src w3.drew [.int .i64 x0, .int .i64 x1, .int .i64 x2, .int .i64 x3, .int .i64 x4, .int .i64 x5, .int .i64 x6] 25 (0, 0) 1 1 7 rfl).al _
        have G := Lib.hid (And.intro ownA (And.intro hsrc belD))
        have GC := Lib.hid (And.intro ownC (And.intro srcB srcC))
        clear hsrc ownA belD ownC srcB srcC
        go_cut [22] (fun s22 wx => ∃ A cap, s22 = .slice A (n + 1) cap ∧ Sl wx wx.heap.size 7 A (n + 1) (bpsC (l ++ [⟨x0, x1, x2, x3, x4, x5, x6⟩])) ∧ Below w3.heap.size w3 wx)
        case first =>
          go_region_held3 (fun w' => w'.cell? ⟨b1, o1, none⟩ = some (.int .i64 x0) ∧ w'.cell? ⟨b1, o1 + 1, none⟩ = some (.int .i64 x1) ∧ w'.cell? ⟨b1, o1 + 2, none⟩ = some (.int .i64 x2) ∧ w'.cell? ⟨b1, o1 + 3, none⟩ = some (.int .i64 x3) ∧ w'.cell? ⟨b1, o1 + 4, none⟩ = some (.int .i64 x4) ∧ w'.cell? ⟨b1, o1 + 5, none⟩ = some (.int .i64 x5) ∧ w'.cell? ⟨b1, o1 + 6, none⟩ = some (.int .i64 x6))
            (go_keep)
            (first
              | (refine step_src (w0 := w3) (by rfl) _ _ 22 (by rfl) 25 k0 (.agg #[.int .i64 0, .int .i64 0, .int .i64 0, .int .i64 0, .int .i64 0, .int .i64 0, .int .i64 0]) 7 56 Tryd.underlying22 hk0 hy0 hy1 hy2 (by rfl) (by decide) (.slice (some ⟨w3.heap.size, 0, none⟩) 0 0) 0 [] (by rfl) G.out.1 (bal G.out.2.2 _) (.slice (some ⟨b1, o1, none⟩) n cap) n (bpsC l) (by rfl) (G.out.2.1.al _) H1.out (by unfold maxLen; omega) (by omega) ?_; intro v4 w4 hown4 hB4 hk4; rw [Nat.zero_add, List.nil_append] at hown4; have q0 : w4.cell? ⟨b1, o1, none⟩ = some (.int .i64 x0) := (hB4.cell (p := ⟨b1, o1, none⟩) hbs).trans m0; have q1 : w4.cell? ⟨b1, o1 + 1, none⟩ = some (.int .i64 x1) := (hB4.cell (p := ⟨b1, o1 + 1, none⟩) hbs).trans m1; have q2 : w4.cell? ⟨b1, o1 + 2, none⟩ = some (.int .i64 x2) := (hB4.cell (p := ⟨b1, o1 + 2, none⟩) hbs).trans m2; have q3 : w4.cell? ⟨b1, o1 + 3, none⟩ = some (.int .i64 x3) := (hB4.cell (p := ⟨b1, o1 + 3, none⟩) hbs).trans m3; have q4 : w4.cell? ⟨b1, o1 + 4, none⟩ = some (.int .i64 x4) := (hB4.cell (p := ⟨b1, o1 + 4, none⟩) hbs).trans m4; have q5 : w4.cell? ⟨b1, o1 + 5, none⟩ = some (.int .i64 x5) := (hB4.cell (p := ⟨b1, o1 + 5, none⟩) hbs).trans m5; have q6 : w4.cell? ⟨b1, o1 + 6, none⟩ = some (.int .i64 x6) := (hB4.cell (p := ⟨b1, o1 + 6, none⟩) hbs).trans m6)
              | (refine step_src (w0 := w3) (by rfl) _ _ 22 (by rfl) 25 k0 (.agg #[.int .i64 0, .int .i64 0, .int .i64 0, .int .i64 0, .int .i64 0, .int .i64 0, .int .i64 0]) 7 56 Tryd.underlying22 hk0 hy0 hy1 hy2 (by rfl) (by decide) (.slice (some ⟨w3.heap.size, 0, none⟩) 0 0) 0 [] (by rfl) (G.out.1.alloc _) (bal (bal G.out.2.2 _) _) (.slice (some ⟨b1, o1, none⟩) n cap) n (bpsC l) (by rfl) ((G.out.2.1.al _).al _) H1.out (by unfold maxLen; omega) (by omega) ?_; intro v4 w4 hown4 hB4 hk4; rw [Nat.zero_add, List.nil_append] at hown4; have q0 : w4.cell? ⟨b1, o1, none⟩ = some (.int .i64 x0) := (hB4.cell (p := ⟨b1, o1, none⟩) hbs).trans m0; have q1 : w4.cell? ⟨b1, o1 + 1, none⟩ = some (.int .i64 x1) := (hB4.cell (p := ⟨b1, o1 + 1, none⟩) hbs).trans m1; have q2 : w4.cell? ⟨b1, o1 + 2, none⟩ = some (.int .i64 x2) := (hB4.cell (p := ⟨b1, o1 + 2, none⟩) hbs).trans m2; have q3 : w4.cell? ⟨b1, o1 + 3, none⟩ = some (.int .i64 x3) := (hB4.cell (p := ⟨b1, o1 + 3, none⟩) hbs).trans m3; have q4 : w4.cell? ⟨b1, o1 + 4, none⟩ = some (.int .i64 x4) := (hB4.cell (p := ⟨b1, o1 + 4, none⟩) hbs).trans m4; have q5 : w4.cell? ⟨b1, o1 + 5, none⟩ = some (.int .i64 x5) := (hB4.cell (p := ⟨b1, o1 + 5, none⟩) hbs).trans m5; have q6 : w4.cell? ⟨b1, o1 + 6, none⟩ = some (.int .i64 x6) := (hB4.cell (p := ⟨b1, o1 + 6, none⟩) hbs).trans m6)
              | (refine step_src (w0 := w3) (by rfl) _ _ 22 (by rfl) 25 k0 (.agg #[.int .i64 0, .int .i64 0, .int .i64 0, .int .i64 0, .int .i64 0, .int .i64 0, .int .i64 0]) 7 56 Tryd.underlying22 hk0 hy0 hy1 hy2 (by rfl) (by decide) (.slice (some ⟨w3.heap.size + 1, 0, none⟩) 0 0) 0 [] (by rfl) GC.out.1 (bal (bal G.out.2.2 _) _) (.slice (some ⟨b1, o1, none⟩) n cap) n (bpsC l) (by rfl) ((G.out.2.1.al _).al _) H1.out (by unfold maxLen; omega) (by omega) ?_; intro v4 w4 hown4 hB4 hk4; rw [Nat.zero_add, List.nil_append] at hown4; have q0 : w4.cell? ⟨b1, o1, none⟩ = some (.int .i64 x0) := (hB4.cell (p := ⟨b1, o1, none⟩) hbs).trans m0; have q1 : w4.cell? ⟨b1, o1 + 1, none⟩ = some (.int .i64 x1) := (hB4.cell (p := ⟨b1, o1 + 1, none⟩) hbs).trans m1; have q2 : w4.cell? ⟨b1, o1 + 2, none⟩ = some (.int .i64 x2) := (hB4.cell (p := ⟨b1, o1 + 2, none⟩) hbs).trans m2; have q3 : w4.cell? ⟨b1, o1 + 3, none⟩ = some (.int .i64 x3) := (hB4.cell (p := ⟨b1, o1 + 3, none⟩) hbs).trans m3; have q4 : w4.cell? ⟨b1, o1 + 4, none⟩ = some (.int .i64 x4) := (hB4.cell (p := ⟨b1, o1 + 4, none⟩) hbs).trans m4; have q5 : w4.cell? ⟨b1, o1 + 5, none⟩ = some (.int .i64 x5) := (hB4.cell (p := ⟨b1, o1 + 5, none⟩) hbs).trans m5; have q6 : w4.cell? ⟨b1, o1 + 6, none⟩ = some (.int .i64 x6) := (hB4.cell (p := ⟨b1, o1 + 6, none⟩) hbs).trans m6)
              | (refine step_src (w0 := w3) (by rfl) _ _ 22 (by rfl) 25 k0 (.agg #[.int .i64 0, .int .i64 0, .int .i64 0, .int .i64 0, .int .i64 0, .int .i64 0, .int .i64 0]) 7 56 Tryd.underlying22 hk0 hy0 hy1 hy2 (by rfl) (by decide) v4 n (bpsC l) (by rfl) (hown4.alloc _) (bal hB4 _) (.slice (some ⟨w4.heap.size, 0, none⟩) 1 1) 1 [.int .i64 x0, .int .i64 x1, .int .i64 x2, .int .i64 x3, .int .i64 x4, .int .i64 x5, .int .i64 x6] (by rfl) (block_src w4 [.int .i64 x0, .int .i64 x1, .int .i64 x2, .int .i64 x3, .int .i64 x4, .int .i64 x5, .int .i64 x6] _ _ 1 1 7 rfl) (by simp [Value.oneCell']) (by unfold maxLen; omega) (by omega) ?_; intro v5 w5 hown5 hB5 hk5; have t0 : w5.cell? ⟨b1, o1, none⟩ = some (.int .i64 x0) := (hB5.cell (p := ⟨b1, o1, none⟩) hbs).trans m0; have t1 : w5.cell? ⟨b1, o1 + 1, none⟩ = some (.int .i64 x1) := (hB5.cell (p := ⟨b1, o1 + 1, none⟩) hbs).trans m1; have t2 : w5.cell? ⟨b1, o1 + 2, none⟩ = some (.int .i64 x2) := (hB5.cell (p := ⟨b1, o1 + 2, none⟩) hbs).trans m2; have t3 : w5.cell? ⟨b1, o1 + 3, none⟩ = some (.int .i64 x3) := (hB5.cell (p := ⟨b1, o1 + 3, none⟩) hbs).trans m3; have t4 : w5.cell? ⟨b1, o1 + 4, none⟩ = some (.int .i64 x4) := (hB5.cell (p := ⟨b1, o1 + 4, none⟩) hbs).trans m4; have t5 : w5.cell? ⟨b1, o1 + 5, none⟩ = some (.int .i64 x5) := (hB5.cell (p := ⟨b1, o1 + 5, none⟩) hbs).trans m5; have t6 : w5.cell? ⟨b1, o1 + 6, none⟩ = some (.int .i64 x6) := (hB5.cell (p := ⟨b1, o1 + 6, none⟩) hbs).trans m6)
              | (refine step_src (w0 := w3) (by rfl) _ _ 22 (by rfl) 25 k0 (.agg #[.int .i64 0, .int .i64 0, .int .i64 0, .int .i64 0, .int .i64 0, .int .i64 0, .int .i64 0]) 7 56 Tryd.underlying22 hk0 hy0 hy1 hy2 (by rfl) (by decide) v4 n (bpsC l) (by rfl) hown4 hB4 (.slice (some ⟨w3.heap.size + 1, 0, none⟩) 1 1) 1 [.int .i64 x0, .int .i64 x1, .int .i64 x2, .int .i64 x3, .int .i64 x4, .int .i64 x5, .int .i64 x6] (by rfl) (Src.kept GC.out.2.1 hk4 (by simp [Value.ownBlock])) (by simp [Value.oneCell']) (by unfold maxLen; omega) (by omega) ?_; intro v5 w5 hown5 hB5 hk5; have t0 : w5.cell? ⟨b1, o1, none⟩ = some (.int .i64 x0) := (hB5.cell (p := ⟨b1, o1, none⟩) hbs).trans m0; have t1 : w5.cell? ⟨b1, o1 + 1, none⟩ = some (.int .i64 x1) := (hB5.cell (p := ⟨b1, o1 + 1, none⟩) hbs).trans m1; have t2 : w5.cell? ⟨b1, o1 + 2, none⟩ = some (.int .i64 x2) := (hB5.cell (p := ⟨b1, o1 + 2, none⟩) hbs).trans m2; have t3 : w5.cell? ⟨b1, o1 + 3, none⟩ = some (.int .i64 x3) := (hB5.cell (p := ⟨b1, o1 + 3, none⟩) hbs).trans m3; have t4 : w5.cell? ⟨b1, o1 + 4, none⟩ = some (.int .i64 x4) := (hB5.cell (p := ⟨b1, o1 + 4, none⟩) hbs).trans m4; have t5 : w5.cell? ⟨b1, o1 + 5, none⟩ = some (.int .i64 x5) := (hB5.cell (p := ⟨b1, o1 + 5, none⟩) hbs).trans m5; have t6 : w5.cell? ⟨b1, o1 + 6, none⟩ = some (.int .i64 x6) := (hB5.cell (p := ⟨b1, o1 + 6, none⟩) hbs).trans m6)
              | (refine step_src (w0 := w3) (by rfl) _ _ 22 (by rfl) 25 k0 (.agg #[.int .i64 0, .int .i64 0, .int .i64 0, .int .i64 0, .int .i64 0, .int .i64 0, .int .i64 0]) 7 56 Tryd.underlying22 hk0 hy0 hy1 hy2 (by rfl) (by decide) v4 n (bpsC l) (by rfl) hown4 hB4 (.slice (some ⟨w3.heap.size, 0, none⟩) 1 1) 1 [.int .i64 x0, .int .i64 x1, .int .i64 x2, .int .i64 x3, .int .i64 x4, .int .i64 x5, .int .i64 x6] (by rfl) (Src.kept GC.out.2.2 hk4 (by simp [Value.ownBlock])) (by simp [Value.oneCell']) (by unfold maxLen; omega) (by omega) ?_; intro v5 w5 hown5 hB5 hk5; have t0 : w5.cell? ⟨b1, o1, none⟩ = some (.int .i64 x0) := (hB5.cell (p := ⟨b1, o1, none⟩) hbs).trans m0; have t1 : w5.cell? ⟨b1, o1 + 1, none⟩ = some (.int .i64 x1) := (hB5.cell (p := ⟨b1, o1 + 1, none⟩) hbs).trans m1; have t2 : w5.cell? ⟨b1, o1 + 2, none⟩ = some (.int .i64 x2) := (hB5.cell (p := ⟨b1, o1 + 2, none⟩) hbs).trans m2; have t3 : w5.cell? ⟨b1, o1 + 3, none⟩ = some (.int .i64 x3) := (hB5.cell (p := ⟨b1, o1 + 3, none⟩) hbs).trans m3; have t4 : w5.cell? ⟨b1, o1 + 4, none⟩ = some (.int .i64 x4) := (hB5.cell (p := ⟨b1, o1 + 4, none⟩) hbs).trans m4; have t5 : w5.cell? ⟨b1, o1 + 5, none⟩ = some (.int .i64 x5) := (hB5.cell (p := ⟨b1, o1 + 5, none⟩) hbs).trans m5; have t6 : w5.cell? ⟨b1, o1 + 6, none⟩ = some (.int .i64 x6) := (hB5.cell (p := ⟨b1, o1 + 6, none⟩) hbs).trans m6))
          all_goals
            go_wp2_with fail
            go_meet
            obtain ⟨A5, cap5, hv5, _, _, hS5⟩ := own_sl hown5
            rw [bpsC_snoc]
            exact ⟨A5, cap5, hv5, hS5, hB5⟩
        case rest =>
          obtain ⟨A6, cap6, rfl, hS6, hB6⟩ := hcut
          have hBw := bgo hB3 hB6
          have HS6 := Lib.hid hS6
          have HS7 := Lib.hid (HS3.out.go hB6)
          have HT1 : Hid ((l.take j).length = j) := Lib.hid (by rw [List.length_take, HLL.out]; omega)
          have HT2 : Hid ((l ++ [(⟨x0, x1, x2, x3, x4, x5, x6⟩ : BP)]).length = n + 1) := Lib.hid (by rw [List.length_append, HLL.out]; rfl)
          have HT3 : Hid ((l.take (n - 1)).length = n - 1) := Lib.hid (by rw [List.length_take, HLL.out]; omega)
          have j1 : (0 : Int) ≤ (j : Int) := Int.natCast_nonneg _
          have j2 : (j : Int) ≤ (cap : Int) := by omega
          have j3 : j ≤ cap := by omega
          have j4 : (n : Int) - 1 ≤ (cap : Int) := by omega
          have j5 : (0 : Int) ≤ (n : Int) - 1 := by omega
          have j6 : ((n : Int) - 1).toNat = n - 1 := by omega
          clear m0 m1 m2 m3 m4 m5 m6 hS6
          go_wp2_with fail
          refine (verify_at pr (j : Int) j (l.take j) (some ⟨b1, o1, none⟩) _ true HT1 HV1 _ (HT.out.go hBw).1 (by rw [← bpsC_take]; exact HS7.out.take j (by omega)) (by unfold maxLen; omega)).mono ?_
          rintro e w8 ⟨rfl, hB8⟩
          have HS8 := Lib.hid (HS7.out.go hB8)
          have HS8' := Lib.hid (HS6.out.go hB8)
          have hBw8 := bgo hBw hB8
          clear hB8 hBw HS7 HS6
          go_wp2_with fail
          refine (verify_at c (n : Int) (n + 1) _ A6 cap6 false HT2 HV2 _ (HT.out.go hBw8).1 HS8'.out (by unfold maxLen; omega)).mono ?_
          rintro e w9 ⟨rfl, hB9⟩
          have HS9 := Lib.hid (HS8.out.go hB9)
          have hBw9 := bgo hBw8 hB9
          clear hB9 hBw8 HS8 HS8'
          go_wp2_with fail
          refine (verify_at c (n : Int) (n - 1) (l.take (n - 1)) (some ⟨b1, o1, none⟩) _ false HT3 HV3 _ (HT.out.go hBw9).1 (by rw [← bpsC_take]; exact HS9.out.take (n - 1) (by omega)) (by unfold maxLen; omega)).mono ?_
          rintro e wa ⟨rfl, hBa⟩
          go_wp2
          go_ret
          exact ⟨rfl, bgo hBw9 hBa⟩
  · have hd : decide ((60 : Int) < (seed.size : Int)) = true := by simp; omega
    go_enter Tryd.func6, Tryd.ntmps6
    go_wp2_with fail
    refine (head_any _ HT.out).mono ?_
    rintro e w1 ⟨rfl, hB1⟩
    go_wp2
    go_ret
    exact ⟨rfl, hB1⟩
end Go.Proofs.YthebahahpkficaaDoor

