/- The walks of package digest: what Sum, Pair, Text and Parse and their helpers compute, for every argument. -/
import Derived.Test.YtgkilaafeconlaaDoorProg
import Derived.Test.YtgkilaafeconlaaDoorDigMath
import Derived.WalkKit
import Derived.WalkLawsBesides
import Derived.WalkSpells
import Derived.Outline
import Derived.Lib.Hide
import Derived.Laws.BitsAllLaws
namespace Go.Proofs.YtgkilaafeconlaaDoor
open Go.RowKit

theorem u64_xor_uu (a b : UInt64) : bits .xor .u64 (a.toNat : Int) (b.toNat : Int) = ((a ^^^ b).toNat : Int) := by
  rw [u64_xor_nat _ _ a.toNat_lt b.toNat_lt, UInt64.toNat_xor]
theorem u64_mul_k (a : UInt64) (c : Nat) : IntKind.u64.wrap ((a.toNat : Int) * (c : Int)) = ((a * UInt64.ofNat c).toNat : Int) := by
  rw [IntKind.wrap_u64, UInt64.toNat_mul, UInt64.toNat_ofNat', Int.natCast_emod, Int.natCast_mul, Int.natCast_emod]
  show (a.toNat : Int) * (c : Int) % 18446744073709551616 = (a.toNat : Int) * ((c : Int) % 18446744073709551616) % 18446744073709551616
  rw [Int.mul_emod, Int.mul_emod (a.toNat : Int) ((c : Int) % _), Int.emod_emod]
theorem u64_mul_feed (a : UInt64) : IntKind.u64.wrap ((a.toNat : Int) * (1099511628211 : Int)) = ((a * 1099511628211).toNat : Int) := u64_mul_k a 1099511628211
theorem u64_mul_first (a : UInt64) : IntKind.u64.wrap ((a.toNat : Int) * (13787848793156543929 : Int)) = ((a * 13787848793156543929).toNat : Int) := u64_mul_k a 13787848793156543929
theorem u64_mul_second (a : UInt64) : IntKind.u64.wrap ((a.toNat : Int) * (10723151780598845931 : Int)) = ((a * 10723151780598845931).toNat : Int) := u64_mul_k a 10723151780598845931
theorem u64_shr_k (a : UInt64) (k : Nat) (hk : k < 64) : (a.toNat : Int) / ((2 ^ k : Nat) : Int) = ((a >>> UInt64.ofNat k).toNat : Int) := by
  rw [UInt64.toNat_shiftRight, Nat.shiftRight_eq_div_pow, UInt64.toNat_ofNat', Nat.mod_eq_of_lt (a := k) (by omega), Nat.mod_eq_of_lt hk]; rfl
theorem u64_shr_32 (a : UInt64) : (a.toNat : Int) / (4294967296 : Int) = ((a >>> 32).toNat : Int) := u64_shr_k a 32 (by decide)
theorem u64_shr_31 (a : UInt64) : (a.toNat : Int) / (2147483648 : Int) = ((a >>> 31).toNat : Int) := u64_shr_k a 31 (by decide)
theorem u64_shr_27 (a : UInt64) : (a.toNat : Int) / (134217728 : Int) = ((a >>> 27).toNat : Int) := u64_shr_k a 27 (by decide)
theorem u64_shr_33 (a : UInt64) : (a.toNat : Int) / (8589934592 : Int) = ((a >>> 33).toNat : Int) := u64_shr_k a 33 (by decide)
theorem u64_of_u8 (b : UInt8) : IntKind.u64.wrap (b.toNat : Int) = (b.toUInt64.toNat : Int) := by
  rw [IntKind.wrap_u64, UInt8.toNat_toUInt64]; have := b.toNat_lt; omega
theorem u64_of_nat (n : Nat) : IntKind.u64.wrap (n : Int) = ((UInt64.ofNat n).toNat : Int) := by
  rw [IntKind.wrap_u64, UInt64.toNat_ofNat']; omega

theorem u64_xor_un (a : UInt64) (n : Nat) (h : n < 18446744073709551616) : bits .xor .u64 (a.toNat : Int) (n : Int) = ((a ^^^ UInt64.ofNat n).toNat : Int) := by
  rw [← u64_xor_uu, UInt64.toNat_ofNat', Nat.mod_eq_of_lt h]
theorem feed_any (s : UInt64) (b : UInt8) (w : World) : Calls Tryd.prog 59 #[.int .u64 s.toNat, .int .u8 b.toNat] w fun e w' => e = .returned (.int .u64 (Dig.feed s b).toNat) ∧ w = w' := by
  go_enter Tryd.func59, Tryd.ntmps59
  go_wp2
  go_ret
  simp only [u64_of_u8, u64_xor_uu, u64_mul_feed, u64_shr_32]
  exact ⟨rfl, trivial⟩
theorem first_any (s : UInt64) (w : World) : Calls Tryd.prog 60 #[.int .u64 s.toNat] w fun e w' => e = .returned (.int .u64 (Dig.stepA s).toNat) ∧ w = w' := by
  go_enter Tryd.func60, Tryd.ntmps60
  go_wp2
  go_ret
  simp only [u64_shr_31, u64_xor_uu, u64_mul_first]
  exact ⟨rfl, trivial⟩
theorem second_any (s : UInt64) (w : World) : Calls Tryd.prog 61 #[.int .u64 s.toNat] w fun e w' => e = .returned (.int .u64 (Dig.stepB s).toNat) ∧ w = w' := by
  go_enter Tryd.func61, Tryd.ntmps61
  go_wp2
  go_ret
  simp only [u64_shr_27, u64_xor_uu, u64_mul_second]
  exact ⟨rfl, trivial⟩
theorem take_snoc (s : ByteArray) (k : Nat) (h : k < s.size) : s.data.toList.take (k + 1) = s.data.toList.take k ++ [s[k]] := by
  rw [List.take_succ_eq_append_getElem (by simpa using h)]; rfl
set_option maxHeartbeats 400000 in
theorem sum_any (s : ByteArray) (w : World) (hs : s.size ≤ maxLen) : Calls Tryd.prog 37 #[.string s] w fun e w' => e = .returned (.int .u64 (Dig.sum s.data.toList).toNat) ∧ w = w' := by
  unfold maxLen at hs
  go_enter Tryd.func37, Tryd.ntmps37
  go_wp2
  go_loop [3, 8] (fun v i => ∃ k : Nat, k ≤ s.size ∧ i = .int .i64 k ∧ v = .int .u64 ((s.data.toList.take k).foldl Dig.feed Dig.init).toNat) (fun _ i => s.size - (intOf i).toNat)
  case atStart => exact ⟨0, Nat.zero_le _, rfl, rfl⟩
  case round =>
    obtain ⟨k, hk, rfl, rfl⟩ := hrel
    by_cases hlt : k < s.size
    · have HS := Lib.hid (take_snoc s k hlt)
      go_wp2_with (go_at_call 59; refine (feed_any _ _ _).mono ?_; rintro e w' ⟨rfl, rfl⟩)
      go_round
      case rel => exact ⟨k + 1, by omega, by go_num, by rw [HS.out, List.foldl_append]; rfl⟩
      case measure => simp [intOf]; omega
    · have hE : s.data.toList.take k = s.data.toList := List.take_of_length_le (by simp; omega)
      have HE := Lib.hid hE
      clear hE
      go_wp2_with fail
      rw [u64_xor_un _ s.size (by omega)]
      refine (first_any _ _).mono ?_
      rintro e w' ⟨rfl, rfl⟩
      go_wp2_with fail
      refine (second_any _ _).mono ?_
      rintro e w' ⟨rfl, rfl⟩
      go_wp2_with fail
      go_ret
      simp only [u64_shr_33, u64_xor_uu, HE.out]
      exact ⟨rfl, trivial⟩
end Go.Proofs.YtgkilaafeconlaaDoor
