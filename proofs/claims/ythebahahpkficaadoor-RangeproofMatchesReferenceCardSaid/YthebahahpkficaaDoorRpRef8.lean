/- The walk of the reference package 27: Prove where it answers a proof. -/
import Derived.Test.YthebahahpkficaaDoorRpRef7
import Derived.Test.YthebahahpkficaaDoorApp
namespace Go.Proofs.YthebahahpkficaaDoor
open Go.RowKit
set_option linter.unusedVariables false
set_option maxHeartbeats 8000000 in
set_option maxRecDepth 100000 in
theorem rprove_ok (v blind : Int) (n : Nat) (seed : ByteArray) (w : World) (hn1 : 1 ≤ n) (hn2 : n ≤ 28) (hv0 : 0 ≤ v) (hv1 : v < ((2 ^ n : Nat) : Int)) (hb0 : 0 ≤ blind) (hb1 : blind < 1073741789) (hs : seed.size ≤ 60) :
    Calls Tryd.prog 11 #[.int .i64 v, .int .i64 blind, .int .i64 (n : Int), .string seed] w (ProveEnd w n (proveL v.toNat seed.data.toList blind n)) := by
  obtain ⟨E, hE⟩ : ∃ E : Int, ((2 ^ n : Nat) : Int) = E := ⟨_, rfl⟩
  rw [hE] at hv1
  have hEb : 0 ≤ E ∧ E ≤ 268435456 := by
    have h28 : 2 ^ n ≤ 268435456 := (Nat.pow_le_pow_right (by omega) (by omega) : 2 ^ n ≤ 2 ^ 28)
    rw [← hE]
    exact ⟨Int.natCast_nonneg _, Int.ofNat_le.2 h28⟩
  have hnb : inFB blind = true := by unfold inFB; simp; omega
  have hd1 : decide (v < 0) = false := by simp; omega
  have hd2 : decide (E ≤ v) = false := by simp; omega
  have HE := Lib.hid hE
  have HN := Lib.hid hnb
  clear hE hnb
  obtain ⟨k0, hk0, hy0, hy1, hy2⟩ := info_parts info_bp
  go_enter Tryd.func11, Tryd.ntmps11
  go_wp2_with fail
  refine (rnumber_v blind true HN _).mono ?_
  rintro e w' ⟨rfl, rfl⟩
  go_wp2_with fail
  refine (power2_at n E HE (by omega) _).mono ?_
  rintro e w' ⟨rfl, rfl⟩
  clear hd1 hd2
  go_wp2
  go_loopw [10, 11] (fun rs i wr => ∃ (j : Nat) (x : Int), (1 ≤ j ∧ j ≤ n) ∧ i = .int .i64 (j : Int) ∧ rs = .int .i64 x ∧ Hid (restI seed.data.toList blind j = x) ∧ Below w.heap.size w wr) (fun _ i _ => n - (intOf i).toNat)
  case atStart => exact ⟨1, blind, by omega, rfl, rfl, Lib.hid rfl, Below.refl _ _⟩
  case round =>
    obtain ⟨j, x, hj, rfl, rfl, HX, hB⟩ := hrel
    obtain ⟨wo, rfl⟩ : ∃ wo : World, wo = wr := ⟨_, rfl⟩
    have hxb := restI_bd seed.data.toList blind hb0 hb1 j
    rw [HX.out] at hxb
    by_cases hlt : j < n
    · obtain ⟨F, hF⟩ : ∃ F : Int, ((2 ^ j : Nat) : Int) = F := ⟨_, rfl⟩
      have hFb : 0 ≤ F ∧ F ≤ 268435456 := by
        have h28 : 2 ^ j ≤ 268435456 := (Nat.pow_le_pow_right (by omega) (by omega) : 2 ^ j ≤ 2 ^ 28)
        rw [← hF]
        exact ⟨Int.natCast_nonneg _, Int.ofNat_le.2 h28⟩
      obtain ⟨y, hy⟩ : ∃ y, rndI seed.data.toList (j : Int) 0 = y := ⟨_, rfl⟩
      have hyb := rndI_bd seed.data.toList (j : Int) 0
      rw [hy] at hyb
      have hmul : 0 ≤ F * y ∧ F * y ≤ 288230376151711744 := by
        refine ⟨Int.mul_nonneg hFb.1 hyb.1, ?_⟩
        have : F * y ≤ 268435456 * 1073741824 := Int.mul_le_mul hFb.2 (by omega) hyb.1 (by omega)
        omega
      have hre : restI seed.data.toList blind (j + 1) = (x + 1073741789 - F * y % 1073741789) % 1073741789 := by
        rw [restI, if_neg (by omega), HX.out, hy, hF, Int.mul_comm y F]
        omega
      have HRE := Lib.hid hre
      have HF := Lib.hid hF
      have HY := Lib.hid hy
      have b1 : (0 : Int) ≤ (j : Int) := Int.natCast_nonneg _
      have b2 : (j : Int) < (n : Int) := by omega
      clear hre hF hy
      go_wp2_with fail
      refine (power2_at j F HF (by omega) _).mono ?_
      rintro e w' ⟨rfl, rfl⟩
      go_wp2_with fail
      refine (rrandom_v seed (j : Int) 0 y HY _ (by omega) b1 (by omega) (by omega) (by omega)).mono ?_
      rintro e w2 ⟨rfl, hb2⟩
      have hB2 := bgo hB hb2
      clear hb2 hB
      go_wp2
      go_roundw
      case rel => exact ⟨j + 1, _, by omega, by go_num, rfl, HRE, hB2⟩
      case measure => simp [intOf]; omega
    · obtain rfl : j = n := by omega
      go_wp2
      go_loopw [12, 13] (fun s i wr => ∃ q : Nat, q ≤ j ∧ i = .int .i64 (q : Int) ∧ Hid (wr.ownsRow w.heap.size 25 7 s q (bpsC ((proveL v.toNat seed.data.toList blind j).take q))) ∧ Below w.heap.size w wr) (fun _ i _ => j - (intOf i).toNat)
      case atStart => exact ⟨0, by omega, rfl, Lib.hid ⟨rfl, .inl ⟨rfl, rfl⟩⟩, hB⟩
      case round =>
        clear hB
        obtain ⟨q, hq', rfl, HO, hBq⟩ := hrel
        by_cases hq : q < j
        · have hTK := take_prove v.toNat seed.data.toList blind j q hq
          obtain ⟨pp, hpp0⟩ : ∃ pp, proofAt v.toNat seed.data.toList blind j q = pp := ⟨_, rfl⟩
          rw [hpp0] at hTK
          have HTK := Lib.hid hTK
          obtain ⟨xb, hxb'⟩ : ∃ x, blindAt seed.data.toList blind j q = x := ⟨_, rfl⟩
          obtain ⟨xk, hxk⟩ : ∃ x, rndI seed.data.toList (q : Int) 1 = x := ⟨_, rfl⟩
          obtain ⟨xe, hxe⟩ : ∃ x, rndI seed.data.toList (q : Int) 2 = x := ⟨_, rfl⟩
          obtain ⟨xz, hxz⟩ : ∃ x, rndI seed.data.toList (q : Int) 3 = x := ⟨_, rfl⟩
          have xbb : 0 ≤ xb ∧ xb < 1073741789 := by rw [← hxb']; exact blindAt_bd _ _ hb0 hb1 _ _
          obtain ⟨F, hF⟩ : ∃ F : Int, ((2 ^ q : Nat) : Int) = F := ⟨_, rfl⟩
          have hFb : 0 < F ∧ F ≤ 268435456 := by
            have h28 : 2 ^ q ≤ 268435456 := (Nat.pow_le_pow_right (by omega) (by omega) : 2 ^ q ≤ 2 ^ 28)
            have hp : 0 < 2 ^ q := Nat.two_pow_pos q
            rw [← hF]
            exact ⟨Int.ofNat_lt.2 hp, Int.ofNat_le.2 h28⟩
          obtain ⟨bt, hbt⟩ : ∃ bt : Nat, v.toNat / 2 ^ q % 2 = bt := ⟨_, rfl⟩
          obtain ⟨d, hd⟩ : ∃ d : Int, v / F = d := ⟨_, rfl⟩
          have hdn : d = ((v.toNat / 2 ^ q : Nat) : Int) := by
            rw [← hd, ← hF, Int.natCast_ediv, Int.toNat_of_nonneg hv0]
          have hdb : 0 ≤ d ∧ d ≤ v := by
            have hle := Nat.div_le_self v.toNat (2 ^ q)
            generalize v.toNat / 2 ^ q = m at hdn hle
            omega
          have hdbt : d % 2 = (bt : Int) := by
            generalize v.toNat / 2 ^ q = m at hdn hbt
            omega
          have hpp : bitP bt xb xk xe xz = pp := by rw [← hpp0]; unfold proofAt; rw [hbt, hxb', hxk, hxe, hxz]
          have hF0 : F ≠ 0 := by omega
          have hF1 : (F == 0) = false := by simp; omega
          have htd : v.tdiv F = d := by rw [Int.tdiv_eq_ediv_of_nonneg hv0]; exact hd
          have HF := Lib.hid hF
          have HK := Lib.hid hxk
          have HXE := Lib.hid hxe
          have HXZ := Lib.hid hxz
          have HXB := Lib.hid hxb'
          have c1 : (0 : Int) ≤ (q : Int) := Int.natCast_nonneg _
          have c2 : (q : Int) < (j : Int) := by omega
          have hml : q + 1 ≤ maxLen := by unfold maxLen; omega
          have hmb : (q + 1) * 56 ≤ 140737488355328 := by omega
          have hbt2 : bt = 0 ∨ bt = 1 := by omega
          clear hTK hpp0 hxb' hxk hxe hxz hF hdn hbt
          have HPP := Lib.hid hpp
          clear hpp
          by_cases hq0 : q = 0
          · subst hq0
            have hxx : xb = x := by rw [← HXB.out, ← HX.out]; unfold blindAt; rw [if_pos rfl]
            subst hxx
            have HK : Hid (rndI seed.data.toList 0 1 = xk) := HK
            have HXE : Hid (rndI seed.data.toList 0 2 = xe) := HXE
            have HXZ : Hid (rndI seed.data.toList 0 3 = xz) := HXZ
            rcases hbt2 with rfl | rfl
            · have HPP : Hid (bit0P xb xk xe xz = pp) := HPP
              go_wp2_with fail
              refine (power2_at 0 F HF (by omega) _).mono ?_
              rintro e w' ⟨rfl, rfl⟩
              go_wp2_with fail
              refine (rbit_0 xb xk xe xz seed 0 pp HPP HK HXE HXZ _ (by omega) (by omega) (by omega) xbb.1 xbb.2).mono ?_
              rintro e w5 ⟨rfl, hb5⟩
              have hB5 := bgo hBq hb5
              have HO5 : Hid (w5.ownsRow w.heap.size 25 7 u12 0 (bpsC ((proveL v.toNat seed.data.toList blind j).take 0))) := Lib.hid (own_below HO.out hb5)
              clear hb5 hd hdbt htd hF0 hF1
              try unfold bpVal
              go_wp2_with (at_builtin; refine app_one rfl _ _ 22 rfl 25 k0 (.agg #[.int .i64 0, .int .i64 0, .int .i64 0, .int .i64 0, .int .i64 0, .int .i64 0, .int .i64 0]) 7 56 Tryd.underlying22 hk0 hy0 hy1 hy2 rfl (by decide) _ 0 _ rfl HO5.out hB5 (bpC pp) _ _ rfl rfl (by simp [bpC, Value.oneCell']) hml hmb ?_; intro v8 w8 hown8 hB8 _)
              have HO8 := Lib.hid hown8
              clear hown8
              go_wp2
              go_roundw
              case rel => exact ⟨0 + 1, by omega, by go_num, by rw [HTK.out, bpsC_snoc]; exact HO8.out, hB8⟩
              case measure => simp [intOf]; omega
            · have HPP : Hid (bit1P xb xk xe xz = pp) := HPP
              go_wp2_with fail
              refine (power2_at 0 F HF (by omega) _).mono ?_
              rintro e w' ⟨rfl, rfl⟩
              go_wp2_with fail
              refine (rbit_1 xb xk xe xz seed 0 pp HPP HK HXE HXZ _ (by omega) (by omega) (by omega) xbb.1 xbb.2).mono ?_
              rintro e w5 ⟨rfl, hb5⟩
              have hB5 := bgo hBq hb5
              have HO5 : Hid (w5.ownsRow w.heap.size 25 7 u12 0 (bpsC ((proveL v.toNat seed.data.toList blind j).take 0))) := Lib.hid (own_below HO.out hb5)
              clear hb5 hd hdbt htd hF0 hF1
              try unfold bpVal
              go_wp2_with (at_builtin; refine app_one rfl _ _ 22 rfl 25 k0 (.agg #[.int .i64 0, .int .i64 0, .int .i64 0, .int .i64 0, .int .i64 0, .int .i64 0, .int .i64 0]) 7 56 Tryd.underlying22 hk0 hy0 hy1 hy2 rfl (by decide) _ 0 _ rfl HO5.out hB5 (bpC pp) _ _ rfl rfl (by simp [bpC, Value.oneCell']) hml hmb ?_; intro v8 w8 hown8 hB8 _)
              have HO8 := Lib.hid hown8
              clear hown8
              go_wp2
              go_roundw
              case rel => exact ⟨0 + 1, by omega, by go_num, by rw [HTK.out, bpsC_snoc]; exact HO8.out, hB8⟩
              case measure => simp [intOf]; omega
          · have hxr : rndI seed.data.toList (q : Int) 0 = xb := by rw [← HXB.out]; unfold blindAt; rw [if_neg hq0]
            have HXR := Lib.hid hxr
            have hdq : decide ((0 : Int) < (q : Int)) = true := by simp; omega
            have hqp : (0 : Int) < (q : Int) := by omega
            clear hxr hq0
            rcases hbt2 with rfl | rfl
            · have HPP : Hid (bit0P xb xk xe xz = pp) := HPP
              go_wp2_with fail
              refine (rrandom_v seed (q : Int) 0 xb HXR _ (by omega) c1 (by omega) (by omega) (by omega)).mono ?_
              rintro e w3 ⟨rfl, hb3⟩
              have hB3 := bgo hBq hb3
              have HO3 := Lib.hid (own_below HO.out hb3)
              clear hb3
              go_wp2_with fail
              refine (power2_at q F HF (by omega) _).mono ?_
              rintro e w' ⟨rfl, rfl⟩
              go_wp2_with fail
              refine (rbit_0 xb xk xe xz seed (q : Int) pp HPP HK HXE HXZ _ (by omega) (by omega) (by omega) xbb.1 xbb.2).mono ?_
              rintro e w5 ⟨rfl, hb5⟩
              have hB5 := bgo hB3 hb5
              have HO5 : Hid (w5.ownsRow w.heap.size 25 7 u12 q (bpsC ((proveL v.toNat seed.data.toList blind j).take q))) := Lib.hid (own_below HO3.out hb5)
              clear hb5 hd hdbt htd hF0 hF1
              try unfold bpVal
              go_wp2_with (at_builtin; refine app_one rfl _ _ 22 rfl 25 k0 (.agg #[.int .i64 0, .int .i64 0, .int .i64 0, .int .i64 0, .int .i64 0, .int .i64 0, .int .i64 0]) 7 56 Tryd.underlying22 hk0 hy0 hy1 hy2 rfl (by decide) _ q _ rfl HO5.out hB5 (bpC pp) _ _ rfl rfl (by simp [bpC, Value.oneCell']) hml hmb ?_; intro v8 w8 hown8 hB8 _)
              have HO8 := Lib.hid hown8
              clear hown8
              go_wp2
              go_roundw
              case rel => exact ⟨q + 1, by omega, by go_num, by rw [HTK.out, bpsC_snoc]; exact HO8.out, hB8⟩
              case measure => simp [intOf]; omega
            · have HPP : Hid (bit1P xb xk xe xz = pp) := HPP
              go_wp2_with fail
              refine (rrandom_v seed (q : Int) 0 xb HXR _ (by omega) c1 (by omega) (by omega) (by omega)).mono ?_
              rintro e w3 ⟨rfl, hb3⟩
              have hB3 := bgo hBq hb3
              have HO3 := Lib.hid (own_below HO.out hb3)
              clear hb3
              go_wp2_with fail
              refine (power2_at q F HF (by omega) _).mono ?_
              rintro e w' ⟨rfl, rfl⟩
              go_wp2_with fail
              refine (rbit_1 xb xk xe xz seed (q : Int) pp HPP HK HXE HXZ _ (by omega) (by omega) (by omega) xbb.1 xbb.2).mono ?_
              rintro e w5 ⟨rfl, hb5⟩
              have hB5 := bgo hB3 hb5
              have HO5 : Hid (w5.ownsRow w.heap.size 25 7 u12 q (bpsC ((proveL v.toNat seed.data.toList blind j).take q))) := Lib.hid (own_below HO3.out hb5)
              clear hb5 hd hdbt htd hF0 hF1
              try unfold bpVal
              go_wp2_with (at_builtin; refine app_one rfl _ _ 22 rfl 25 k0 (.agg #[.int .i64 0, .int .i64 0, .int .i64 0, .int .i64 0, .int .i64 0, .int .i64 0, .int .i64 0]) 7 56 Tryd.underlying22 hk0 hy0 hy1 hy2 rfl (by decide) _ q _ rfl HO5.out hB5 (bpC pp) _ _ rfl rfl (by simp [bpC, Value.oneCell']) hml hmb ?_; intro v8 w8 hown8 hB8 _)
              have HO8 := Lib.hid hown8
              clear hown8
              go_wp2
              go_roundw
              case rel => exact ⟨q + 1, by omega, by go_num, by rw [HTK.out, bpsC_snoc]; exact HO8.out, hB8⟩
              case measure => simp [intOf]; omega
        · obtain rfl : q = j := by omega
          have HO' : Hid (wr.ownsRow w.heap.size 25 7 u12 q (bpsC (proveL v.toNat seed.data.toList blind q))) := Lib.hid (by
            have := HO.out
            rwa [List.take_of_length_le (by rw [proveL_len]; exact Nat.le_refl _)] at this)
          obtain ⟨A9, cap9, hv9, hS9⟩ := own_sl HO'.out
          subst hv9
          have HS9 := Lib.hid hS9
          clear HO HO' hS9
          go_wp2
          go_ret2
          exact ⟨A9, cap9, rfl, HS9.out.1, HS9.out.2.1, HS9.out.2.2, hBq⟩
end Go.Proofs.YthebahahpkficaaDoor
