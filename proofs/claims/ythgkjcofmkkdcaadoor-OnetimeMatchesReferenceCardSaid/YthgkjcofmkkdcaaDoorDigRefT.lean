/- The walk of the reference package of digest: Text. -/
import Derived.Test.YthgkjcofmkkdcaaDoorDigRef
import Derived.Test.YthgkjcofmkkdcaaDoorDigW3
import Derived.Test.YthgkjcofmkkdcaaDoorKit
namespace Go.Proofs.YthgkjcofmkkdcaaDoor
open Go.RowKit
def hexS : ByteArray := ⟨#[48, 49, 50, 51, 52, 53, 54, 55, 56, 57, 97, 98, 99, 100, 101, 102]⟩
theorem hexS_at (m : Nat) (h : m < 16) : (⟨#[48, 49, 50, 51, 52, 53, 54, 55, 56, 57, 97, 98, 99, 100, 101, 102]⟩ : ByteArray).extract m (m + 1) = ⟨[Dig.hexd m].toArray⟩ := by
  rcases lt16 m h with rfl | rfl | rfl | rfl | rfl | rfl | rfl | rfl | rfl | rfl | rfl | rfl | rfl | rfl | rfl | rfl <;> decide +kernel
set_option maxHeartbeats 1000000 in
theorem rtext_any (d : UInt64) (w : World) : Calls Tryd.prog 53 #[.int .u64 d.toNat] w fun e w' => e = .returned (.string ⟨(Dig.text d).toArray⟩) ∧ w = w' := by
  go_enter Tryd.func53, Tryd.ntmps53
  go_wp2
  go_loop [0, 3, 4] (fun x s i => ∃ k x0 : Nat, k ≤ 16 ∧ i = .int .i64 k ∧ x = .int .u64 x0 ∧ x0 = d.toNat / 16 ^ k ∧ s = .string ⟨(Dig.ttail d k).toArray⟩) (fun _ _ i => 16 - (intOf i).toNat)
  case atStart => exact ⟨0, _, by omega, rfl, rfl, by simp, rfl⟩
  case round =>
    obtain ⟨k, x0, hk, rfl, rfl, hx, rfl⟩ := hrel
    have hx0 : x0 < 18446744073709551616 := by rw [hx]; exact Nat.lt_of_le_of_lt (Nat.div_le_self _ _) d.toNat_lt
    have Hx := Lib.hid hx
    clear hx
    by_cases hlt : k < 16
    · have hl := Dig.ttail_len d k
      obtain ⟨m, hm⟩ : ∃ m : Nat, m = x0 % 16 := ⟨_, rfl⟩
      have hm16 : m < 16 := by omega
      have hc : (x0 : Int) % 16 = (m : Int) := by omega
      have Hm := Lib.hid hm
      clear hm
      have hxs := hexS_at m hm16
      go_wp2
      go_round
      case rel => exact ⟨k + 1, x0 / 16, by omega, by go_num, by go_num, by rw [Hx.out, Nat.div_div_eq_div_mul, Nat.pow_succ], by rw [cons_bytes, Hm.out, Hx.out]; rfl⟩
      case measure => simp [intOf]; omega
    · obtain rfl : k = 16 := by omega
      rw [Dig.ttail_16]
      go_wp2
      go_ret
      exact ⟨rfl, rfl⟩
end Go.Proofs.YthgkjcofmkkdcaaDoor
