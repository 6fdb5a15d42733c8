/- The walk of RangeproofSums. -/
import Derived.Test.YthebahahpkficaaDoorRpLawB
namespace Go.Proofs.YthebahahpkficaaDoor
open Go.RowKit
set_option linter.unusedVariables false
/-- The commitments of a proof as powers. -/
theorem prove_c (value : Nat) (seed : List UInt8) (blind : Int) (h0 : 0 ≤ blind) (h1 : blind < 1073741789) (n : Nat) (hn : 0 < n) :
    ∃ bl : Nat → Nat, (∀ j, j < n → cAt (proveL value seed blind n) j = ((4 ^ (value / 2 ^ j % 2) * 9 ^ bl j % Grp.P : Nat) : Int)) ∧ ((sum2 bl n : Nat) : Int) % 1073741789 = blind := by
  obtain ⟨bl, hbl⟩ : ∃ bl : Nat → Nat, ∀ j, blindAt seed blind n j = (bl j : Int) := ⟨fun j => (blindAt seed blind n j).toNat, fun j => (Int.toNat_of_nonneg (blindAt_bd seed blind h0 h1 n j).1).symm⟩
  refine ⟨bl, ?_, ?_⟩
  · intro j hj
    unfold cAt
    rw [proveL_at _ _ _ _ _ hj]
    unfold proofAt
    rw [bitP_c _ (Nat.mod_lt _ (by decide)), hbl, commitI_nat]
  · obtain ⟨s, hs, hr⟩ := sum2_rest seed blind n bl (by rw [← hbl]; rfl) (fun j hj => by rw [← hbl]; unfold blindAt; rw [if_neg (by omega)]) n hn
    rw [hs, hr]
    omega
theorem sum_law (x y : Nat) (seed other : List UInt8) (u v : Int) (hu0 : 0 ≤ u) (hu1 : u < 1073741789) (hv0 : 0 ≤ v) (hv1 : v < 1073741789) (n : Nat) (hn : 0 < n) (hx : x < 2 ^ n) (hy : y < 2 ^ n) :
    prodI (fun j => cAt (proveL x seed u n) j * cAt (proveL y other v n) j % 2147483579) n = commitI ((x : Int) + (y : Int)) ((u + v) % 1073741789) := by
  obtain ⟨b1, h1, s1⟩ := prove_c x seed u hu0 hu1 n hn
  obtain ⟨b2, h2, s2⟩ := prove_c y other v hv0 hv1 n hn
  have hc : ∀ j, j < n → cAt (proveL x seed u n) j * cAt (proveL y other v n) j % 2147483579 = ((4 ^ (x / 2 ^ j % 2 + y / 2 ^ j % 2) * 9 ^ (b1 j + b2 j) % Grp.P : Nat) : Int) := by
    intro j hj
    rw [h1 j hj, h2 j hj, mulI_nat, ← Nat.mul_mod, Nat.mul_mul_mul_comm, ← Nat.pow_add, ← Nat.pow_add]
  rw [prodI_congr _ _ n hc, prod_pow, sum2_add, sum2_add, sum2_bits, sum2_bits, Nat.mod_eq_of_lt hx, Nat.mod_eq_of_lt hy]
  obtain ⟨r, hr⟩ : ∃ r : Nat, (u + v) % 1073741789 = (r : Int) := ⟨((u + v) % 1073741789).toNat, by omega⟩
  rw [hr, ← Int.natCast_add, commitI_nat]
  congr 1
  refine Grp.mc rfl ?_
  rw [Grp.el_9.red, Grp.el_9.red r]
  have : (sum2 b1 n + sum2 b2 n) % Grp.Q = r % Grp.Q := by
    show (sum2 b1 n + sum2 b2 n) % 1073741789 = r % 1073741789
    omega
  rw [this]
theorem prove_el (value : Nat) (seed : List UInt8) (blind : Int) (h0 : 0 ≤ blind) (h1 : blind < 1073741789) (n j : Nat) (hj : j < n) : elB (cAt (proveL value seed blind n) j) = true := by
  unfold cAt
  rw [proveL_at _ _ _ _ _ hj]
  exact (own_valid h0 h1 rfl).1 |> fun h => by unfold rightB at h; simp only [Bool.and_eq_true] at h; exact h.1.1
theorem add_v (a b v : Int) (hv : Hid (a * b % 2147483579 = v)) (ha : Hid (elB a = true)) (hb : Hid (elB b = true)) (w : World) : Calls Tryd.prog 20 #[.int .i64 a, .int .i64 b] w fun e w' => e = .returned (.tuple #[.int .i64 v, .int .i64 0]) ∧ Below w.heap.size w w' := by
  rw [← hv.out]
  exact add_ok a b ha hb w
/-- The cell of a commitment in a slice of bit proofs. -/
theorem com_cell {W : World} {A : Option Addr} {n : Nat} {l : List BP} {B b off : Nat} (h : Sl W B 7 (some ⟨b, off, none⟩) n (bpsC l)) (hl : l.length = n) (j : Nat) (hj : j < n) : W.cell? ⟨b, off + j * 7, none⟩ = some (.int .i64 (cAt l j)) := by
  obtain ⟨b', off', e, hb, hc⟩ := h.2 (by omega)
  injection e with e
  injection e with e1 e2 e3
  subst e1 e2
  refine hc (j * 7) _ ?_
  have := bpsC_get l j 0 (by omega) (by omega)
  rw [Nat.add_zero] at this
  rw [this]
  rfl
theorem sl_addr {W : World} {A : Option Addr} {n B size : Nat} {xs : List Value} (h : Sl W B size A n xs) (hn : 0 < n) : ∃ b off, A = some ⟨b, off, none⟩ ∧ b < B := by
  obtain ⟨b, off, e, hb, _⟩ := h.2 hn
  exact ⟨b, off, e, hb⟩
set_option maxHeartbeats 8000000 in
set_option maxRecDepth 100000 in
theorem rangeproofSums_walk (a r b s bits : Int) (seed other : ByteArray) (w : World) (h0 : (Lit.int .u32 a).wf = true) (h1 : (Lit.int .u32 r).wf = true) (h2 : (Lit.int .u32 b).wf = true) (h3 : (Lit.int .u32 s).wf = true) (h4 : (Lit.int .u8 bits).wf = true) (h5 : seed.size ≤ maxLen) (h6 : other.size ≤ maxLen) (hT : Tabs w) :
    Calls Tryd.prog 8 #[.int .u32 a, .int .u32 r, .int .u32 b, .int .u32 s, .int .u8 bits, .string seed, .string other] w fun e w' => e = .returned (.bool true) ∧ Below w.heap.size w w' := by
  replace h0 := u32_b h0
  replace h1 := u32_b h1
  replace h2 := u32_b h2
  replace h3 := u32_b h3
  replace h4 := u8_b h4
  unfold maxLen at h5 h6
  have HT := Lib.hid hT
  clear hT
  by_cases hs : seed.size ≤ 60
  · by_cases hs2 : other.size ≤ 60
    · obtain ⟨n, hn⟩ : ∃ n : Nat, bits % 28 + 1 = (n : Int) := ⟨(bits % 28 + 1).toNat, by omega⟩
      have hn1 : 1 ≤ n := by omega
      have hn2 : n ≤ 28 := by omega
      obtain ⟨E, hE, hEb, hsh⟩ := two_pow n hn2
      have HE := Lib.hid hE
      clear hE
      obtain ⟨x, hx⟩ : ∃ x, a % E = x := ⟨_, rfl⟩
      obtain ⟨y, hy⟩ : ∃ y, b % E = y := ⟨_, rfl⟩
      have hxb : 0 ≤ x ∧ x < E := ⟨by rw [← hx]; exact Int.emod_nonneg _ (by omega), by rw [← hx]; exact Int.emod_lt_of_pos _ (by omega)⟩
      have hyb : 0 ≤ y ∧ y < E := ⟨by rw [← hy]; exact Int.emod_nonneg _ (by omega), by rw [← hy]; exact Int.emod_lt_of_pos _ (by omega)⟩
      obtain ⟨u, hu⟩ : ∃ u, r % 1073741789 = u := ⟨_, rfl⟩
      obtain ⟨v, hv⟩ : ∃ v, s % 1073741789 = v := ⟨_, rfl⟩
      have hub : 0 ≤ u ∧ u < 1073741789 := by omega
      have hvb : 0 ≤ v ∧ v < 1073741789 := by omega
      obtain ⟨l, hl⟩ : ∃ l, proveL x.toNat seed.data.toList u n = l := ⟨_, rfl⟩
      obtain ⟨m, hm⟩ : ∃ m, proveL y.toNat other.data.toList v n = m := ⟨_, rfl⟩
      obtain ⟨q, hq⟩ : ∃ q, (u + v) % 1073741789 = q := ⟨_, rfl⟩
      have hqb : 0 ≤ q ∧ q < 1073741789 := by omega
      obtain ⟨g, hg⟩ : ∃ g : Nat → Int, (fun j => cAt l j * cAt m j % 2147483579) = g := ⟨_, rfl⟩
      have hlaw : prodI g n = commitI (x + y) q := by
        have := sum_law x.toNat y.toNat seed.data.toList other.data.toList u v hub.1 hub.2 hvb.1 hvb.2 n (by omega) (lt_pow hxb.1 HE.out hxb.2) (lt_pow hyb.1 HE.out hyb.2)
        rw [hl, hm, hg, Int.toNat_of_nonneg hxb.1, Int.toNat_of_nonneg hyb.1, hq] at this
        exact this
      have HEL : Hid (∀ j, j < n → elB (cAt l j) = true ∧ elB (cAt m j) = true) := Lib.hid (fun j hj => ⟨by rw [← hl]; exact prove_el _ _ _ hub.1 hub.2 _ _ hj, by rw [← hm]; exact prove_el _ _ _ hvb.1 hvb.2 _ _ hj⟩)
      have HLL : Hid (l.length = n ∧ m.length = n) := Lib.hid ⟨by rw [← hl]; exact proveL_len _ _ _ _, by rw [← hm]; exact proveL_len _ _ _ _⟩
      have HX := Lib.hid (show x < ((2 ^ n : Nat) : Int) by rw [← HE.out]; exact hxb.2)
      have HY := Lib.hid (show y < ((2 ^ n : Nat) : Int) by rw [← HE.out]; exact hyb.2)
      have HL := Lib.hid hl
      have HM := Lib.hid hm
      have HG := Lib.hid hg
      have HLAW := Lib.hid hlaw
      have hnz : (E == 0) = false := beq_eq_false_iff_ne.2 (by omega)
      have hta : a.tmod E = x := by rw [Int.tmod_eq_emod_of_nonneg (by omega)]; exact hx
      have htb : b.tmod E = y := by rw [Int.tmod_eq_emod_of_nonneg (by omega)]; exact hy
      have hwa : IntKind.i64.wrap a = a := IntWalk.i64_in _ (by omega)
      have hwb : IntKind.i64.wrap b = b := IntWalk.i64_in _ (by omega)
      have hne : ((n : Int) != (n : Int)) = false := by simp
      have hE0 : E ≠ 0 := by omega
      clear hl hm hg hlaw
      go_enter Tryd.func8, Tryd.ntmps8
      go_wp2_with fail
      refine (head_any _ HT.out).mono ?_
      rintro e w1 ⟨rfl, hB1⟩
      go_wp2_with fail
      go_region_held3 (fun w' => True) (trivial) (fail)
      clear hta htb hwa hwb
      go_wp2_with fail
      refine (prove_at x u (n : Int) n seed l HL rfl _ (HT.out.go hB1.drew) hn1 hn2 hxb.1 HX.out hub.1 hub.2 hs).mono ?_
      rintro e w2 ⟨A, cap, rfl, _, _, hS, hB⟩
      have hB2 := bgo hB1.drew hB
      have HS := Lib.hid hS
      clear hB1 hB hS
      go_wp2_with fail
      refine (prove_at y v (n : Int) n other m HM rfl _ (HT.out.go hB2) hn1 hn2 hyb.1 HY.out hvb.1 hvb.2 hs2).mono ?_
      rintro e w3 ⟨A', cap', rfl, _, _, hS', hB⟩
      have hB3 := bgo hB2 hB
      have HS3 := Lib.hid (HS.out.go hB)
      have HS3' := Lib.hid hS'
      clear hB2 hB hS' HS
      obtain ⟨b1, o1, rfl, hb1⟩ := sl_addr HS3.out (by omega)
      obtain ⟨b2, o2, rfl, hb2⟩ := sl_addr HS3'.out (by omega)
      go_wp2_with fail
      go_loopw [25, 26] (fun p i wr => ∃ j : Nat, j ≤ n ∧ i = .int .i64 (j : Int) ∧ p = .int .i64 (prodI g j) ∧ Below w3.heap.size w3 wr) (fun _ i _ => n - (intOf i).toNat)
      case atStart => exact ⟨0, by omega, rfl, rfl, Below.refl _ _⟩
      case round =>
        obtain ⟨j, hj, rfl, rfl, hB⟩ := hrel
        have hpb := prodI_bd g j
        obtain ⟨pr, hpr⟩ : ∃ pr, prodI g j = pr := ⟨_, rfl⟩
        rw [hpr] at hpb ⊢
        by_cases hlt : j < n
        · have hd : decide ((j : Int) < (n : Int)) = true := by simp; omega
          have c1 := com_cell (A := none) (HS3.out.go hB) HLL.out.1 j hlt
          have c2 := com_cell (A := none) (HS3'.out.go hB) HLL.out.2 j hlt
          obtain ⟨e1, e2⟩ := HEL.out j hlt
          obtain ⟨x1, hx1⟩ : ∃ x1, cAt l j = x1 := ⟨_, rfl⟩
          obtain ⟨x2, hx2⟩ : ∃ x2, cAt m j = x2 := ⟨_, rfl⟩
          rw [hx1] at c1 e1
          rw [hx2] at c2 e2
          obtain ⟨gj, hgj⟩ : ∃ gj, x1 * x2 % 2147483579 = gj := ⟨_, rfl⟩
          have hgb : 0 ≤ gj ∧ gj < 2147483579 := by rw [← hgj]; omega
          have hgg : g j = gj := by rw [← HG.out, ← hgj, ← hx1, ← hx2]
          obtain ⟨F, hF, hFb, hshF⟩ := two_pow j (by omega)
          obtain ⟨z, hz⟩ : ∃ z, pwI gj F = z := ⟨_, rfl⟩
          have hzb := pwI_bd gj F
          rw [hz] at hzb
          have hmul := mulB hpb.1 hpb.2 hzb.1 hzb.2
          have HN : Hid (prodI g (j + 1) = pr * z % 2147483579) := Lib.hid (by rw [prodI, hpr, hgg, ← hF, hz])
          have E1 := Lib.hid e1
          have E2 := Lib.hid e2
          have HGJ := Lib.hid hgj
          have HZ := Lib.hid hz
          have i1 : (0 : Int) ≤ (j : Int) := Int.natCast_nonneg _
          have i2 : (j : Int) < (n : Int) := by omega
          have hl1 : b1 < wr.heap.size := Nat.lt_of_lt_of_le hb1 hB.size
          have hl2 : b2 < wr.heap.size := Nat.lt_of_lt_of_le hb2 hB.size
          have c1d : wr.drew.cell? ⟨b1, o1 + j * 7, none⟩ = some (.int .i64 x1) := c1
          have c2d : wr.drew.cell? ⟨b2, o2 + j * 7, none⟩ = some (.int .i64 x2) := c2
          have hl1d : b1 < wr.drew.heap.size := hl1
          have hl2d : b2 < wr.drew.heap.size := hl2
          clear e1 e2 hx1 hx2 hgj hgg hF hz hpr
          go_wp2_with fail
          go_region_held3 (fun w' => w'.cell? ⟨b1, o1 + j * 7, none⟩ = some (.int .i64 x1) ∧ w'.cell? ⟨b2, o2 + j * 7, none⟩ = some (.int .i64 x2))
            (go_keep)
            (first
              | (go_at_call 20; (with_reducible refine (add_v x1 x2 gj HGJ E1 E2 wr.drew).mono ?_); rintro e wp ⟨rfl, hbp⟩; have k1 := (hbp.cell (p := ⟨b1, o1 + j * 7, none⟩) hl1d).trans c1d; have k2 := (hbp.cell (p := ⟨b2, o2 + j * 7, none⟩) hl2d).trans c2d))
          have hBp : Below w3.heap.size w3 wp := bgo hB (below_undrew hbp)
          clear hbp k1 k2 c1 c2 c1d c2d
          go_wp2_with fail
          refine (power_v gj F z _ (by omega) (by omega) (by omega) (by omega) HZ).mono ?_
          rintro e wq ⟨rfl, hbq⟩
          go_wp2
          go_roundw
          case rel => exact ⟨j + 1, by omega, by go_num, by rw [HN.out], bgo hBp hbq⟩
          case measure => simp [intOf]; omega
        · obtain rfl : j = n := by omega
          have hd : decide ((j : Int) < (j : Int)) = false := by simp
          have hcm : commitI (x + y) q = pr := by rw [← HLAW.out]; exact hpr
          have HC := Lib.hid hcm
          clear hpr hcm
          go_wp2_with fail
          refine (commit_at (x + y) q pr HC _ (HT.out.go (bgo hB3 hB)).2 (by omega) (by omega) hqb.1 hqb.2).mono ?_
          rintro e w9 ⟨rfl, hB9⟩
          go_wp2
          go_ret
          exact ⟨by simp, bgo hB3 (bgo hB hB9)⟩
    · have hd : decide ((60 : Int) < (seed.size : Int)) = false := by simp; omega
      have hd2 : decide ((60 : Int) < (other.size : Int)) = true := by simp; omega
      go_enter Tryd.func8, Tryd.ntmps8
      go_wp2_with fail
      refine (head_any _ HT.out).mono ?_
      rintro e w1 ⟨rfl, hB1⟩
      go_wp2
      go_ret
      exact ⟨rfl, hB1⟩
  · have hd : decide ((60 : Int) < (seed.size : Int)) = true := by simp; omega
    go_enter Tryd.func8, Tryd.ntmps8
    go_wp2_with fail
    refine (head_any _ HT.out).mono ?_
    rintro e w1 ⟨rfl, hB1⟩
    go_wp2
    go_ret
    exact ⟨rfl, hB1⟩
end Go.Proofs.YthebahahpkficaaDoor
