/- The walks of the reference package of digest. -/
import Derived.Test.YthgkjcofmkkdcaaDoorDigWalks
import Derived.Test.YthgkjcofmkkdcaaDoorBase
namespace Go.Proofs.YthgkjcofmkkdcaaDoor
open Go.RowKit
theorem u64_quo_k (a : UInt64) (k : Nat) (hk : k < 64) : IntKind.u64.wrap ((a.toNat : Int).tdiv ((2 ^ k : Nat) : Int)) = ((a >>> UInt64.ofNat k).toNat : Int) := by
  rw [← u64_shr_k a k hk, Int.tdiv_eq_ediv_of_nonneg (by omega), IntKind.wrap_u64]
  have h1 := a.toNat_lt
  have h2 : (a.toNat : Int) / ((2 ^ k : Nat) : Int) ≤ a.toNat := Int.ediv_le_self _ (by omega)
  have h3 : 0 ≤ (a.toNat : Int) / ((2 ^ k : Nat) : Int) := Int.ediv_nonneg (by omega) (Int.natCast_nonneg _)
  exact Int.emod_eq_of_lt h3 (by omega)
theorem u64_quo_32 (a : UInt64) : IntKind.u64.wrap ((a.toNat : Int).tdiv (4294967296 : Int)) = ((a >>> 32).toNat : Int) := u64_quo_k a 32 (by decide)
theorem u64_quo_31 (a : UInt64) : IntKind.u64.wrap ((a.toNat : Int).tdiv (2147483648 : Int)) = ((a >>> 31).toNat : Int) := u64_quo_k a 31 (by decide)
theorem u64_quo_27 (a : UInt64) : IntKind.u64.wrap ((a.toNat : Int).tdiv (134217728 : Int)) = ((a >>> 27).toNat : Int) := u64_quo_k a 27 (by decide)
theorem u64_quo_33 (a : UInt64) : IntKind.u64.wrap ((a.toNat : Int).tdiv (8589934592 : Int)) = ((a >>> 33).toNat : Int) := u64_quo_k a 33 (by decide)
set_option maxHeartbeats 400000 in
theorem rstate_any (s : ByteArray) (w : World) (hs : s.size ≤ maxLen) : Calls Tryd.prog 73 #[.string s] w fun e w' => e = .returned (.int .u64 (Dig.state s.data.toList).toNat) ∧ w = w' := by
  unfold maxLen at hs
  go_enter Tryd.func73, Tryd.ntmps73
  go_wp2
  go_loop [3, 4] (fun v i => ∃ k : Nat, k ≤ s.size ∧ i = .int .i64 k ∧ v = .int .u64 ((s.data.toList.take k).foldl Dig.feed Dig.init).toNat) (fun _ i => s.size - (intOf i).toNat)
  case atStart => exact ⟨0, Nat.zero_le _, rfl, rfl⟩
  case round =>
    obtain ⟨k, hk, rfl, rfl⟩ := hrel
    by_cases hlt : k < s.size
    · have HS := Lib.hid (take_snoc s k hlt)
      go_wp2
      simp only [u64_of_u8, u64_xor_uu, u64_mul_feed, u64_quo_32]
      go_round
      case rel => exact ⟨k + 1, by omega, by go_num, by rw [HS.out, List.foldl_append]; rfl⟩
      case measure => simp [intOf]; omega
    · have hE : s.data.toList.take k = s.data.toList := List.take_of_length_le (by simp; omega)
      have HE := Lib.hid hE
      clear hE
      go_wp2
      go_ret
      simp only [HE.out]
      exact ⟨rfl, trivial⟩
theorem rfinish_any (s : UInt64) (n : Nat) (hn : n ≤ maxLen) (w : World) : Calls Tryd.prog 72 #[.int .u64 s.toNat, .int .i64 n] w fun e w' => e = .returned (.int .u64 (Dig.finish s (UInt64.ofNat n)).toNat) ∧ w = w' := by
  unfold maxLen at hn
  go_enter Tryd.func72, Tryd.ntmps72
  go_wp2
  go_ret
  simp only [u64_xor_un _ n (by omega), u64_xor_uu, u64_mul_first, u64_quo_31, u64_mul_second, u64_quo_27, u64_quo_33]
  exact ⟨rfl, trivial⟩
theorem rsum_any (s : ByteArray) (w : World) (hs : s.size ≤ maxLen) : Calls Tryd.prog 54 #[.string s] w fun e w' => e = .returned (.int .u64 (Dig.sum s.data.toList).toNat) ∧ w = w' := by
  go_enter Tryd.func54, Tryd.ntmps54
  go_wp2_with fail
  refine (rstate_any _ _ hs).mono ?_
  rintro e w' ⟨rfl, rfl⟩
  go_wp2_with fail
  refine (rfinish_any _ _ hs _).mono ?_
  rintro e w' ⟨rfl, rfl⟩
  go_wp2_with fail
  go_ret
  refine ⟨?_, rfl⟩
  unfold Dig.sum
  rw [show s.data.toList.length = s.size by simp]
  rfl
end Go.Proofs.YthgkjcofmkkdcaaDoor
