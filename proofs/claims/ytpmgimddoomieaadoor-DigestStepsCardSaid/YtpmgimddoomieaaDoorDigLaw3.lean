/- The walks of DigestMatchesReference, DigestTexts and DigestSteps. -/
import Derived.Test.YtpmgimddoomieaaDoorDigLaws
import Derived.Test.YtpmgimddoomieaaDoorDigMath2
namespace Go.Proofs.YtpmgimddoomieaaDoor
open Go.RowKit
set_option linter.unusedVariables false
set_option maxHeartbeats 2000000 in
theorem digestMatchesReference_walk (a : ByteArray) (x0 y0 : Int) (t : ByteArray) (w : World) (ha : a.size ≤ maxLen) (hx : (Lit.int .u64 x0).wf = true) (hy : (Lit.int .u64 y0).wf = true) (ht : t.size ≤ maxLen) (hT : Tab w) :
    Calls Tryd.prog 3 #[.string a, .int .u64 x0, .int .u64 y0, .string t] w fun e w' => e = .returned (.bool true) ∧ Below w.heap.size w w' := by
  unfold maxLen at ha ht
  obtain ⟨m, hm, hma, hmk, hmo⟩ := min_k 2000 2000 rfl a.size
  obtain ⟨n, hn, hna, hnk, hno⟩ := min_k 40 40 rfl t.size
  obtain ⟨x, rfl⟩ := u64_of_wf hx
  obtain ⟨y, rfl⟩ := u64_of_wf hy
  go_enter Tryd.func3, Tryd.ntmps3
  go_wp2_with fail
  refine (head_any _ hT).mono ?_
  rintro e w1 ⟨rfl, hb1⟩
  go_wp2_with fail
  refine (parse_any _ _ (hT.below hb1)).mono ?_
  rintro e w' ⟨rfl, rfl⟩
  go_wp2_with fail
  refine (rparse_any _ _).mono ?_
  rintro e w' ⟨rfl, rfl⟩
  go_wp2_with fail
  refine (sum_any _ _ (by rw [ext_size]; unfold maxLen; omega)).mono ?_
  rintro e w' ⟨rfl, rfl⟩
  go_wp2_with fail
  refine (rsum_any _ _ (by rw [ext_size]; unfold maxLen; omega)).mono ?_
  rintro e w' ⟨rfl, rfl⟩
  go_wp2_with fail
  refine (pair_any _ _ _).mono ?_
  rintro e w2 ⟨rfl, hb2⟩
  go_wp2_with fail
  refine (rpair_any _ _ _).mono ?_
  rintro e w3 ⟨rfl, hb3⟩
  have hb := bt (bt hb1 hb2) hb3
  go_wp2_with fail
  refine (text_any _ _ (hT.below hb)).mono ?_
  rintro e w4 ⟨rfl, hb4⟩
  go_wp2_with fail
  refine (rtext_any _ _).mono ?_
  rintro e w' ⟨rfl, rfl⟩
  go_wp2_with fail
  go_ret
  exact ⟨rfl, bt hb hb4⟩
set_option maxHeartbeats 2000000 in
theorem digestTexts_walk (x0 y0 : Int) (t : ByteArray) (w : World) (hx : (Lit.int .u64 x0).wf = true) (hy : (Lit.int .u64 y0).wf = true) (ht : t.size ≤ maxLen) (hT : Tab w) :
    Calls Tryd.prog 7 #[.int .u64 x0, .int .u64 y0, .string t] w fun e w' => e = .returned (.bool true) ∧ Below w.heap.size w w' := by
  unfold maxLen at ht
  obtain ⟨n, hn, hna, hnk, hno⟩ := min_k 40 40 rfl t.size
  obtain ⟨x, rfl⟩ := u64_of_wf hx
  obtain ⟨y, rfl⟩ := u64_of_wf hy
  have hl : (Dig.text x).length = 16 := rfl
  have hpv : Dig.pv (Dig.text x) = x := by unfold Dig.pv; rw [Dig.parse_text]; rfl
  have hpe : Dig.pe (Dig.text x) = 0 := by unfold Dig.pe; rw [Dig.parse_text]; rfl
  have hls := Dig.less_text x y
  have heq := Dig.eq_text x y
  go_enter Tryd.func7, Tryd.ntmps7
  go_wp2_with fail
  refine (head_any _ hT).mono ?_
  rintro e w1 ⟨rfl, hb1⟩
  go_wp2_with fail
  refine (text_any _ _ (hT.below hb1)).mono ?_
  rintro e w2 ⟨rfl, hb2⟩
  have hb := bt hb1 hb2
  go_wp2_with fail
  refine (text_any _ _ (hT.below hb)).mono ?_
  rintro e w3 ⟨rfl, hb3⟩
  have hb' := bt hb hb3
  go_wp2_with fail
  refine (parse_any _ _ (hT.below hb')).mono ?_
  rintro e w' ⟨rfl, rfl⟩
  go_wp2_with fail
  cases hp : Dig.parse (t.data.toList.take n) with
  | none =>
    have hq := Lib.hid hp
    clear hp
    refine (parse_at _ 0 12 (by rw [ext_data]; unfold Dig.pv; rw [hq.out]; rfl) (by rw [ext_data]; unfold Dig.pe; rw [hq.out]; rfl) _ (hT.below hb')).mono ?_
    rintro e w' ⟨rfl, rfl⟩
    go_wp2_with fail
    go_ret
    exact ⟨rfl, hb'⟩
  | some d =>
    have hq := Lib.hid hp
    clear hp
    have htx := Dig.text_parse _ _ hq.out
    have hto : (t.extract 0 n).toList = t.data.toList.take n := by rw [ByteArray.toList_eq, ext_data]
    refine (parse_at _ d.toNat 0 (by rw [ext_data]; unfold Dig.pv; rw [hq.out]; rfl) (by rw [ext_data]; unfold Dig.pe; rw [hq.out]; rfl) _ (hT.below hb')).mono ?_
    rintro e w' ⟨rfl, rfl⟩
    go_wp2_with fail
    refine (text_any _ _ (hT.below hb')).mono ?_
    rintro e w4 ⟨rfl, hb4⟩
    go_wp2_with fail
    go_ret
    exact ⟨rfl, bt hb' hb4⟩
set_option maxHeartbeats 2000000 in
theorem digestSteps_walk (a : ByteArray) (x : Int) (w : World) (ha : a.size ≤ maxLen) (hx : (Lit.int .i64 x).wf = true) (hT : Tab w) :
    Calls Tryd.prog 8 #[.string a, .int .i64 x] w fun e w' => e = .returned (.bool true) ∧ Below w.heap.size w w' := by
  unfold maxLen at ha
  obtain ⟨m, hm, hma, hmk, hmo⟩ := min_k 2000 2000 rfl a.size
  go_enter Tryd.func8, Tryd.ntmps8
  go_wp2_with fail
  refine (head_any _ hT).mono ?_
  rintro e w1 ⟨rfl, hb1⟩
  go_wp2_with fail
  obtain ⟨b, hbe⟩ : ∃ b, b = a.extract 0 m := ⟨_, rfl⟩
  rw [← hbe]
  have hsz : b.size = m := by rw [hbe, ext_size]; omega
  have Hsz := Lib.hid hsz
  clear hbe
  refine (pick_any _ _ _ hx (by omega) (by omega)).mono ?_
  rintro e w' ⟨rfl, rfl⟩
  have hp := pickF_lt x (m + 1) (by omega)
  obtain ⟨k, hk⟩ : ∃ k : Nat, pickF x (m + 1) = (k : Int) := ⟨(pickF x (m + 1)).toNat, by omega⟩
  rw [hk]
  rw [hk] at hp
  clear hk
  go_wp2_with fail
  refine (rstate_any _ _ (by rw [ext_size]; unfold maxLen; omega)).mono ?_
  rintro e w' ⟨rfl, rfl⟩
  rw [ext_data]
  go_wp2_with fail
  go_loop [7, 8] (fun v i => ∃ j : Nat, k ≤ j ∧ j ≤ m ∧ i = .int .i64 j ∧ v = .int .u64 (Dig.state (b.data.toList.take j)).toNat) (fun _ i => m - (intOf i).toNat)
  case atStart => exact ⟨k, Nat.le_refl _, by omega, rfl, rfl⟩
  case round =>
    obtain ⟨j, hkj, hj, rfl, rfl⟩ := hrel
    by_cases hlt : j < m
    · have hjb : j < b.size := by omega
      have HS := Lib.hid (take_snoc b j hjb)
      go_wp2
      simp only [u64_of_u8, u64_xor_uu, u64_mul_feed, u64_shr_32]
      go_round
      case rel => exact ⟨j + 1, by omega, by omega, by go_num, by rw [HS.out]; unfold Dig.state; rw [List.foldl_append]; rfl⟩
      case measure => simp [intOf]; omega
    · have hE : b.data.toList.take j = b.data.toList := List.take_of_length_le (by simp; omega)
      rw [hE]
      clear hE
      go_wp2_with fail
      refine (sum_any _ _ (by unfold maxLen; omega)).mono ?_
      rintro e w' ⟨rfl, rfl⟩
      have hl : b.data.toList.length = m := by rw [← hsz]; simp
      have hsum : Dig.sum b.data.toList = Dig.finish (Dig.state b.data.toList) (UInt64.ofNat m) := by unfold Dig.sum; rw [hl]
      rw [hsum, u64_xor_un _ m (by omega)]
      simp only [u64_xor_uu, u64_shr_31, u64_mul_first, u64_shr_27, u64_mul_second, u64_shr_33]
      have hfin := beq_self_eq_true (((Dig.finish (Dig.state b.data.toList) (UInt64.ofNat m)).toNat : Int))
      unfold Dig.finish Dig.stepC Dig.stepB Dig.stepA at hfin ⊢
      go_wp2_with fail
      go_ret
      exact ⟨rfl, hb1⟩
end Go.Proofs.YtpmgimddoomieaaDoor
