/- The walks of the reference package of digest. -/
import Derived.Test.YtpmgimddoomieaaDoorDigW4
namespace Go.Proofs.YtpmgimddoomieaaDoor
open Go.RowKit
theorem u64_quo_k (a : UInt64) (k : Nat) (hk : k < 64) : IntKind.u64.wrap ((a.toNat : Int).tdiv ((2 ^ k : Nat) : Int)) = ((a >>> UInt64.ofNat k).toNat : Int) := by
  rw [← u64_shr_k a k hk, Int.tdiv_eq_ediv_of_nonneg (by omega), IntKind.wrap_u64]
  have h1 := a.toNat_lt
  have h2 : (a.toNat : Int) / ((2 ^ k : Nat) : Int) ≤ a.toNat := Int.ediv_le_self _ (by omega)
  have h3 : 0 ≤ (a.toNat : Int) / ((2 ^ k : Nat) : Int) := Int.ediv_nonneg (by omega) (Int.natCast_nonneg _)
  exact Int.emod_eq_of_lt h3 (by omega)
theorem u64_quo_32 (a : UInt64) : IntKind.u64.wrap ((a.toNat : Int).tdiv (4294967296 : Int)) = ((a >>> 32).toNat : Int) := u64_quo_k a 32 (by decide)
theorem u64_quo_31 (a : UInt64) : IntKind.u64.wrap ((a.toNat : Int).tdiv (2147483648 : Int)) = ((a >>> 31).toNat : Int) := u64_quo_k a 31 (by decide)
theorem u64_quo_27 (a : UInt64) : IntKind.u64.wrap ((a.toNat : Int).tdiv (134217728 : Int)) = ((a >>> 27).toNat : Int) := u64_quo_k a 27 (by decide)
theorem u64_quo_33 (a : UInt64) : IntKind.u64.wrap ((a.toNat : Int).tdiv (8589934592 : Int)) = ((a >>> 33).toNat : Int) := u64_quo_k a 33 (by decide)
set_option maxHeartbeats 400000 in
theorem rstate_any (s : ByteArray) (w : World) (hs : s.size ≤ maxLen) : Calls Tryd.prog 19 #[.string s] w fun e w' => e = .returned (.int .u64 (Dig.state s.data.toList).toNat) ∧ w = w' := by
  unfold maxLen at hs
  go_enter Tryd.func19, Tryd.ntmps19
  go_wp2
  go_loop [3, 4] (fun v i => ∃ k : Nat, k ≤ s.size ∧ i = .int .i64 k ∧ v = .int .u64 ((s.data.toList.take k).foldl Dig.feed Dig.init).toNat) (fun _ i => s.size - (intOf i).toNat)
  case atStart => exact ⟨0, Nat.zero_le _, rfl, rfl⟩
  case round =>
    obtain ⟨k, hk, rfl, rfl⟩ := hrel
    by_cases hlt : k < s.size
    · have HS := Lib.hid (take_snoc s k hlt)
      go_wp2
      simp only [u64_of_u8, u64_xor_uu, u64_mul_feed, u64_quo_32]
      go_round
      case rel => exact ⟨k + 1, by omega, by go_num, by rw [HS.out, List.foldl_append]; rfl⟩
      case measure => simp [intOf]; omega
    · have hE : s.data.toList.take k = s.data.toList := List.take_of_length_le (by simp; omega)
      have HE := Lib.hid hE
      clear hE
      go_wp2
      go_ret
      simp only [HE.out]
      exact ⟨rfl, trivial⟩
theorem rfinish_any (s : UInt64) (n : Nat) (hn : n ≤ maxLen) (w : World) : Calls Tryd.prog 23 #[.int .u64 s.toNat, .int .i64 n] w fun e w' => e = .returned (.int .u64 (Dig.finish s (UInt64.ofNat n)).toNat) ∧ w = w' := by
  unfold maxLen at hn
  go_enter Tryd.func23, Tryd.ntmps23
  go_wp2
  go_ret
  simp only [u64_xor_un _ n (by omega), u64_xor_uu, u64_mul_first, u64_quo_31, u64_mul_second, u64_quo_27, u64_quo_33]
  exact ⟨rfl, trivial⟩
theorem rsum_any (s : ByteArray) (w : World) (hs : s.size ≤ maxLen) : Calls Tryd.prog 13 #[.string s] w fun e w' => e = .returned (.int .u64 (Dig.sum s.data.toList).toNat) ∧ w = w' := by
  go_enter Tryd.func13, Tryd.ntmps13
  go_wp2_with fail
  refine (rstate_any _ _ hs).mono ?_
  rintro e w' ⟨rfl, rfl⟩
  go_wp2_with fail
  refine (rfinish_any _ _ hs _).mono ?_
  rintro e w' ⟨rfl, rfl⟩
  go_wp2_with fail
  go_ret
  refine ⟨?_, rfl⟩
  unfold Dig.sum
  rw [show s.data.toList.length = s.size by simp]
  rfl
theorem cons_bytes (c : UInt8) (l : List UInt8) : ((⟨[c].toArray⟩ : ByteArray) ++ ⟨l.toArray⟩) = ⟨(c :: l).toArray⟩ := by
  apply ByteArray.ext; simp [ByteArray.data_append]
theorem byte_back (W : World) (B : Nat) (c : UInt8) (h : W.cell? ⟨B, 0, none⟩ = some (.int .u8 c.toNat)) : (convert 33 9 (.slice (some ⟨B, 0, none⟩) 1 1)).run Tryd.prog W = .ok (.string ⟨[c].toArray⟩) W := by
  refine run_convert_bytes_back (P := Tryd.prog) W 33 9 5 ⟨B, 0, none⟩ 1 [c] Tryd.underlying33 Tryd.underlying5 Tryd.underlying9 ?_
  intro j hj
  obtain rfl : j = 0 := by simpa using hj
  exact h
set_option maxHeartbeats 1000000 in
theorem reight_any (d : UInt64) (w : World) : Calls Tryd.prog 25 #[.int .u64 d.toNat] w fun e w' => e = .returned (.string ⟨(Dig.be8 d).toArray⟩) ∧ Below w.heap.size w w' := by
  go_enter Tryd.func25, Tryd.ntmps25
  go_wp2
  go_loopw [0, 3, 4] (fun x s i wr => ∃ k x0 : Nat, k ≤ 8 ∧ i = .int .i64 k ∧ x = .int .u64 x0 ∧ x0 = d.toNat / 256 ^ k ∧ s = .string ⟨(Dig.btail d k).toArray⟩ ∧ Below w.heap.size w wr) (fun _ _ i _ => 8 - (intOf i).toNat)
  case atStart => exact ⟨0, _, by omega, rfl, rfl, by simp, rfl, Below.refl _ _⟩
  case round =>
    obtain ⟨k, x0, hk, rfl, rfl, hx, rfl, hB⟩ := hrel
    have hx0 : x0 < 18446744073709551616 := by rw [hx]; exact Nat.lt_of_le_of_lt (Nat.div_le_self _ _) d.toNat_lt
    have Hx := Lib.hid hx
    clear hx
    by_cases hlt : k < 8
    · have hl := Dig.btail_len d k
      have hc : (x0 : Int) % 256 = ((Dig.byte d k).toNat : Int) := by rw [Dig.byte_toNat, Hx.out]; omega
      have hcv := byte_back (wr.alloc (.cells #[.int .u8 (Dig.byte d k).toNat] 5)) wr.heap.size (Dig.byte d k) (by simp [go_sem])
      go_wp2
      go_roundw
      case rel => exact ⟨k + 1, x0 / 256, by omega, by go_num, by go_num, by rw [Hx.out, Nat.div_div_eq_div_mul, Nat.pow_succ], by rw [cons_bytes]; rfl, hB.alloc hB.size _⟩
      case measure => simp [intOf]; omega
    · obtain rfl : k = 8 := by omega
      rw [Dig.btail_8]
      go_wp2
      go_ret
      exact ⟨rfl, hB⟩
set_option maxHeartbeats 1000000 in
theorem rpair_any (a b : UInt64) (w : World) : Calls Tryd.prog 15 #[.int .u64 a.toNat, .int .u64 b.toNat] w fun e w' => e = .returned (.int .u64 (Dig.pair a b).toNat) ∧ Below w.heap.size w w' := by
  go_enter Tryd.func15, Tryd.ntmps15
  go_wp2_with fail
  refine (reight_any _ _).mono ?_
  rintro e w1 ⟨rfl, hb1⟩
  have hl := be8_len a
  have hl' := be8_len b
  go_wp2_with fail
  refine (reight_any _ _).mono ?_
  rintro e w2 ⟨rfl, hb2⟩
  go_wp2_with fail
  refine (rsum_any _ _ (pair_size a b)).mono ?_
  rintro e w' ⟨rfl, rfl⟩
  go_wp2_with fail
  go_ret
  exact ⟨rfl, bt hb1 hb2⟩
def hexS : ByteArray := ⟨#[48, 49, 50, 51, 52, 53, 54, 55, 56, 57, 97, 98, 99, 100, 101, 102]⟩
theorem hexS_at (m : Nat) (h : m < 16) : (⟨#[48, 49, 50, 51, 52, 53, 54, 55, 56, 57, 97, 98, 99, 100, 101, 102]⟩ : ByteArray).extract m (m + 1) = ⟨[Dig.hexd m].toArray⟩ := by
  rcases lt16 m h with rfl | rfl | rfl | rfl | rfl | rfl | rfl | rfl | rfl | rfl | rfl | rfl | rfl | rfl | rfl | rfl <;> decide +kernel
set_option maxHeartbeats 1000000 in
theorem rtext_any (d : UInt64) (w : World) : Calls Tryd.prog 17 #[.int .u64 d.toNat] w fun e w' => e = .returned (.string ⟨(Dig.text d).toArray⟩) ∧ w = w' := by
  go_enter Tryd.func17, Tryd.ntmps17
  go_wp2
  go_loop [0, 3, 4] (fun x s i => ∃ k x0 : Nat, k ≤ 16 ∧ i = .int .i64 k ∧ x = .int .u64 x0 ∧ x0 = d.toNat / 16 ^ k ∧ s = .string ⟨(Dig.ttail d k).toArray⟩) (fun _ _ i => 16 - (intOf i).toNat)
  case atStart => exact ⟨0, _, by omega, rfl, rfl, by simp, rfl⟩
  case round =>
    obtain ⟨k, x0, hk, rfl, rfl, hx, rfl⟩ := hrel
    have hx0 : x0 < 18446744073709551616 := by rw [hx]; exact Nat.lt_of_le_of_lt (Nat.div_le_self _ _) d.toNat_lt
    have Hx := Lib.hid hx
    clear hx
    by_cases hlt : k < 16
    · have hl := Dig.ttail_len d k
      obtain ⟨m, hm⟩ : ∃ m : Nat, m = x0 % 16 := ⟨_, rfl⟩
      have hm16 : m < 16 := by omega
      have hc : (x0 : Int) % 16 = (m : Int) := by omega
      have Hm := Lib.hid hm
      clear hm
      have hxs := hexS_at m hm16
      go_wp2
      go_round
      case rel => exact ⟨k + 1, x0 / 16, by omega, by go_num, by go_num, by rw [Hx.out, Nat.div_div_eq_div_mul, Nat.pow_succ], by rw [cons_bytes, Hm.out, Hx.out]; rfl⟩
      case measure => simp [intOf]; omega
    · obtain rfl : k = 16 := by omega
      rw [Dig.ttail_16]
      go_wp2
      go_ret
      exact ⟨rfl, rfl⟩
theorem unhex_digit (c : UInt8) (h1 : 48 ≤ c.toNat) (h2 : c.toNat ≤ 57) : Dig.unhex c = some (c.toNat - 48) := by
  unfold Dig.unhex
  rw [if_pos ⟨UInt8.le_iff_toNat_le.2 h1, UInt8.le_iff_toNat_le.2 h2⟩]
theorem unhex_letter (c : UInt8) (h1 : 97 ≤ c.toNat) (h2 : c.toNat ≤ 102) : Dig.unhex c = some (c.toNat - 87) := by
  unfold Dig.unhex
  rw [if_neg (fun h => by have := UInt8.le_iff_toNat_le.1 h.2; simp at this; omega), if_pos ⟨UInt8.le_iff_toNat_le.2 h1, UInt8.le_iff_toNat_le.2 h2⟩]
theorem unhexI_neg (c : UInt8) (h : c.toNat < 48 ∨ 57 < c.toNat ∧ c.toNat < 97 ∨ 102 < c.toNat) : Dig.unhexI c < 0 := by
  unfold Dig.unhexI Dig.unhex
  rw [if_neg (fun h' => by have h1 := UInt8.le_iff_toNat_le.1 h'.2; have h2 := UInt8.le_iff_toNat_le.1 h'.1; simp at h1 h2; omega), if_neg (fun h' => by have h1 := UInt8.le_iff_toNat_le.1 h'.2; have h2 := UInt8.le_iff_toNat_le.1 h'.1; simp at h1 h2; omega)]
  decide
theorem u64_add16 (e : UInt64) (v : Nat) (x : Int) (hx : x = v) : IntKind.u64.wrap (IntKind.u64.wrap ((e.toNat : Int) * 16) + x) = ((e * 16 + UInt64.ofNat v).toNat : Int) := by
  subst hx
  rw [UInt64.toNat_add, UInt64.toNat_mul, UInt64.toNat_ofNat', IntKind.wrap_u64, IntKind.wrap_u64]
  have h16 : (16 : UInt64).toNat = 16 := rfl
  rw [h16]
  omega
set_option maxHeartbeats 2000000 in
theorem rparse_any (s : ByteArray) (w : World) : Calls Tryd.prog 11 #[.string s] w fun e w' => e = .returned (.tuple #[.int .u64 (Dig.pv s.data.toList).toNat, .int .i64 (Dig.pe s.data.toList)]) ∧ w = w' := by
  by_cases hs : s.size = 16
  · have hs1 : ((s.size : Int) != 16) = false := by simp [hs]
    go_enter Tryd.func11, Tryd.ntmps11
    go_wp2
    have Hs := Lib.hid hs
    have hs2 : 16 ≤ s.size := by omega
    have hs3 : s.size ≤ 16 := by omega
    clear hs hs1
    go_loop [4, 5] (fun d i => ∃ (k : Nat) (e : UInt64), k ≤ 16 ∧ i = .int .i64 k ∧ d = .int .u64 e.toNat ∧ Dig.parseL (s.data.toList.take k) 0 = some e) (fun _ i => 16 - (intOf i).toNat)
    case atStart => exact ⟨0, 0, Nat.zero_le _, rfl, rfl, rfl⟩
    case round =>
      obtain ⟨k, e, hk, rfl, rfl, hp⟩ := hrel
      have Hp := Lib.hid hp
      clear hp
      by_cases hlt : k < 16
      · go_wp2
        all_goals have hsz : k < s.size := by assumption
        · have h1 : (48 : Int) ≤ s[k].toNat := by assumption
          have h2 : (s[k].toNat : Int) ≤ 57 := by assumption
          have hu := unhex_digit s[k] (by omega) (by omega)
          go_round
          case rel => exact ⟨k + 1, e * 16 + UInt64.ofNat (s[k].toNat - 48), by omega, by go_num, by rw [u64_add16 e (s[k].toNat - 48) _ (by omega)], by rw [take_snoc s k hsz, Dig.parseL_append, Hp.out]; simp only [hu]⟩
          case measure => simp [intOf]; omega
        · have h1 : (97 : Int) ≤ s[k].toNat := by assumption
          have h2 : (s[k].toNat : Int) ≤ 102 := by assumption
          have hu := unhex_letter s[k] (by omega) (by omega)
          go_round
          case rel => exact ⟨k + 1, e * 16 + UInt64.ofNat (s[k].toNat - 87), by omega, by go_num, by rw [u64_add16 e (s[k].toNat - 87) _ (by omega)], by rw [take_snoc s k hsz, Dig.parseL_append, Hp.out]; simp only [hu]⟩
          case measure => simp [intOf]; omega
        all_goals
          go_ret2
          have hnone : Dig.parse s.data.toList = none := parse_none s k hsz Hs.out e Hp.out (unhexI_neg s[k] (by omega))
          have h2 : Dig.pv s.data.toList = 0 := by unfold Dig.pv; rw [hnone]; rfl
          have h3 : Dig.pe s.data.toList = 12 := by unfold Dig.pe; rw [hnone]; rfl
          rw [h2, h3]
          exact ⟨rfl, rfl⟩
      · have hE : s.data.toList.take k = s.data.toList := List.take_of_length_le (by simp; omega)
        have HE := Lib.hid hE
        clear hE
        go_wp2
        go_ret2
        have h1 : Dig.parse s.data.toList = some e := by
          unfold Dig.parse; rw [if_pos (by simpa using Hs.out), ← HE.out]; exact Hp.out
        have h2 : Dig.pv s.data.toList = e := by unfold Dig.pv; rw [h1]; rfl
        have h3 : Dig.pe s.data.toList = 0 := by unfold Dig.pe; rw [h1]; rfl
        rw [h2, h3]
        exact ⟨rfl, rfl⟩
  · have hs1 : ((s.size : Int) != 16) = true := by simp; omega
    go_enter Tryd.func11, Tryd.ntmps11
    go_wp2
    go_ret2
    have h1 : Dig.parse s.data.toList = none := by
      unfold Dig.parse; rw [if_neg]; simpa using hs
    have h2 : Dig.pv s.data.toList = 0 := by unfold Dig.pv; rw [h1]; rfl
    have h3 : Dig.pe s.data.toList = 12 := by unfold Dig.pe; rw [h1]; rfl
    rw [h2, h3]
    exact ⟨rfl, rfl⟩
end Go.Proofs.YtpmgimddoomieaaDoor
