/- The walk of DigestPairByte. -/
import Derived.Test.YtpmgimddoomieaaDoorDigLaws
import Derived.Test.YtpmgimddoomieaaDoorDigMath3
namespace Go.Proofs.YtpmgimddoomieaaDoor
open Go.RowKit
set_option linter.unusedVariables false
theorem snoc_bytes (l : List UInt8) (j : Nat) (hj : j < l.length) (p : List UInt8) : ((⟨(p ++ l.take j).toArray⟩ : ByteArray) ++ ⟨[l[j]].toArray⟩) = ⟨(p ++ l.take (j + 1)).toArray⟩ := by
  apply ByteArray.ext
  rw [List.take_succ_eq_append_getElem hj]
  simp [ByteArray.data_append]
theorem be8_get (d : UInt64) (j : Nat) (hj : j < (Dig.be8 d).length) : (Dig.be8 d)[j] = Dig.byte d (7 - j) := by
  rcases Dig.lt8 j hj with rfl | rfl | rfl | rfl | rfl | rfl | rfl | rfl <;> rfl
theorem shr_byte (d : UInt64) (p : Nat) : (d.toNat : Int) / 2 ^ (8 * p) % 256 = ((Dig.byte d p).toNat : Int) := by
  rw [Dig.byte_toNat]
  have : (256 : Nat) ^ p = 2 ^ (8 * p) := by rw [Nat.pow_mul]
  rw [this]
  simp
theorem snoc8 (d : UInt64) (p : Nat) (hp : p < 8) (q : List UInt8) : ((⟨(q ++ (Dig.be8 d).take (8 - (p + 1))).toArray⟩ : ByteArray) ++ ⟨[Dig.byte d p].toArray⟩) = ⟨(q ++ (Dig.be8 d).take (8 - p)).toArray⟩ := by
  have h1 : 8 - (p + 1) < (Dig.be8 d).length := by show _ < 8; omega
  have h2 := snoc_bytes (Dig.be8 d) (8 - (p + 1)) h1 q
  rw [be8_get d (8 - (p + 1)) h1, show 7 - (8 - (p + 1)) = p by omega, show 8 - (p + 1) + 1 = 8 - p by omega] at h2
  exact h2
theorem set_form (a : UInt64) (c : UInt8) (k : Nat) (hk : k < 8) : bits .or .u64 (bits .andNot .u64 (a.toNat : Int) (IntKind.u64.wrap (255 * 2 ^ (8 * k)))) (IntKind.u64.wrap (IntKind.u64.wrap (c.toNat : Int) * 2 ^ (8 * k))) = bits .or .u64 (bits .andNot .u64 (a.toNat : Int) ((255 * 2 ^ (8 * k) : Nat) : Int)) ((c.toNat * 2 ^ (8 * k) : Nat) : Int) := by
  have hc := c.toNat_lt
  have e1 : IntKind.u64.wrap (255 * 2 ^ (8 * k)) = ((255 * 2 ^ (8 * k) : Nat) : Int) := by
    rcases Dig.lt8 k hk with rfl | rfl | rfl | rfl | rfl | rfl | rfl | rfl <;> rfl
  have e0 : IntKind.u64.wrap (c.toNat : Int) = (c.toNat : Int) := by rw [IntKind.wrap_u64]; omega
  have e2 : IntKind.u64.wrap ((c.toNat : Int) * 2 ^ (8 * k)) = ((c.toNat * 2 ^ (8 * k) : Nat) : Int) := by
    rw [IntKind.wrap_u64]
    rcases Dig.lt8 k hk with rfl | rfl | rfl | rfl | rfl | rfl | rfl | rfl <;> simp <;> omega
  rw [e1, e0, e2]
set_option maxHeartbeats 4000000 in
theorem digestPairByte_walk (x0 y0 ix c0 : Int) (w : World) (hx : (Lit.int .u64 x0).wf = true) (hy : (Lit.int .u64 y0).wf = true) (hix : (Lit.int .i64 ix).wf = true) (hc : (Lit.int .u8 c0).wf = true) (hT : Tab w) :
    Calls Tryd.prog 5 #[.int .u64 x0, .int .u64 y0, .int .i64 ix, .int .u8 c0] w fun e w' => e = .returned (.bool true) ∧ Below w.heap.size w w' := by
  obtain ⟨a, rfl⟩ := u64_of_wf hx
  obtain ⟨b, rfl⟩ := u64_of_wf hy
  obtain ⟨c, rfl⟩ := u8_of_wf hc
  go_enter Tryd.func5, Tryd.ntmps5
  go_wp2_with fail
  refine (head_any _ hT).mono ?_
  rintro e w1 ⟨rfl, hb1⟩
  go_wp2_with fail
  refine (pick_any _ _ _ hix (by omega) (by omega)).mono ?_
  rintro e w' ⟨rfl, rfl⟩
  have hp := pickF_lt ix 8 (by omega)
  obtain ⟨k, hk⟩ : ∃ k : Nat, pickF ix 8 = (k : Int) := ⟨(pickF ix 8).toNat, by omega⟩
  rw [hk]
  rw [hk] at hp
  clear hk
  have hk8 : k < 8 := by omega
  obtain ⟨x, hx1, hx2⟩ := Dig.setbyte a c k hk8
  have hx3 := set_form a c k hk8
  rw [hx1] at hx3
  have hq := Dig.pair_one a x b k hk8 hx2
  have Hq1 := Lib.hid (show (((Dig.pair a b).toNat : Int) == ((Dig.pair x b).toNat : Int)) = ((a.toNat : Int) == (x.toNat : Int)) by rw [Dig.beq_uu, Dig.beq_uu, decide_eq_decide]; exact hq.1)
  have Hq2 := Lib.hid (show (((Dig.pair b a).toNat : Int) == ((Dig.pair b x).toNat : Int)) = ((a.toNat : Int) == (x.toNat : Int)) by rw [Dig.beq_uu, Dig.beq_uu, decide_eq_decide]; exact hq.2)
  clear hx2 hx1 hq
  go_wp2_with fail
  go_loopw [13, 14] (fun s i wr => ∃ n : Nat, n ≤ 8 ∧ i = .int .i64 ((n : Int) - 1) ∧ s = .string ⟨([1] ++ (Dig.be8 a).take (8 - n)).toArray⟩ ∧ Below w.heap.size w wr) (fun _ i _ => (intOf i + 1).toNat)
  case atStart => exact ⟨8, by omega, rfl, rfl, hb1⟩
  case round =>
    obtain ⟨n, hn, rfl, rfl, hB⟩ := hrel
    cases n with
    | succ p =>
      rw [show (((p + 1 : Nat) : Int) - 1) = (p : Int) by omega]
      have hp8 : p < 8 := by omega
      have hc := shr_byte a p
      have hl : (([1] : List UInt8) ++ (Dig.be8 a).take (8 - (p + 1))).length ≤ 17 := by simp [be8_len]; omega
      have hcv := byte_back (wr.alloc (.cells #[.int .u8 (Dig.byte a p).toNat] 5)) wr.heap.size (Dig.byte a p) (by simp [go_sem])
      have HS := Lib.hid (snoc8 a p hp8 [1])
      obtain ⟨L, hL⟩ : ∃ L, L = ([1] : List UInt8) ++ (Dig.be8 a).take (8 - (p + 1)) := ⟨_, rfl⟩
      rw [← hL] at hl HS ⊢
      clear hL
      go_wp2
      go_roundw
      case rel => exact ⟨p, by omega, rfl, by rw [HS.out], hB.alloc hB.size _⟩
      case measure => simp [intOf]
    | zero =>
      rw [show (((0 : Nat) : Int) - 1) = -1 by rfl, show 8 - 0 = 8 by rfl, List.take_of_length_le (show (Dig.be8 a).length ≤ 8 from Nat.le_refl _)]
      go_wp2_with fail
      go_loopw [13, 15] (fun s i wr => ∃ n : Nat, n ≤ 8 ∧ i = .int .i64 ((n : Int) - 1) ∧ s = .string ⟨(([1] ++ Dig.be8 a) ++ (Dig.be8 b).take (8 - n)).toArray⟩ ∧ Below w.heap.size w wr) (fun _ i _ => (intOf i + 1).toNat)
      case atStart => exact ⟨8, by omega, rfl, by simp, hB⟩
      case round =>
        obtain ⟨n, hn, rfl, rfl, hB⟩ := hrel
        cases n with
        | succ p =>
          rw [show (((p + 1 : Nat) : Int) - 1) = (p : Int) by omega]
          have hp8 : p < 8 := by omega
          have hc := shr_byte b p
          have hl : ((([1] ++ Dig.be8 a) : List UInt8) ++ (Dig.be8 b).take (8 - (p + 1))).length ≤ 17 := by simp [be8_len]; omega
          have hcv := byte_back (wr.alloc (.cells #[.int .u8 (Dig.byte b p).toNat] 5)) wr.heap.size (Dig.byte b p) (by simp [go_sem])
          have HS := Lib.hid (snoc8 b p hp8 ([1] ++ Dig.be8 a))
          obtain ⟨L, hL⟩ : ∃ L, L = (([1] ++ Dig.be8 a) : List UInt8) ++ (Dig.be8 b).take (8 - (p + 1)) := ⟨_, rfl⟩
          rw [← hL] at hl HS ⊢
          clear hL
          go_wp2
          go_roundw
          case rel => exact ⟨p, by omega, rfl, by rw [HS.out], hB.alloc hB.size _⟩
          case measure => simp [intOf]
        | zero =>
          rw [show (((0 : Nat) : Int) - 1) = -1 by rfl, show 8 - 0 = 8 by rfl, List.take_of_length_le (show (Dig.be8 b).length ≤ 8 from Nat.le_refl _)]
          go_wp2_with fail
          refine (pair_any _ _ _).mono ?_
          rintro e w2 ⟨rfl, hb2⟩
          have hB2 := bt hB hb2
          go_wp2_with fail
          refine (pair_any _ _ _).mono ?_
          rintro e w3 ⟨rfl, hb3⟩
          have hB3 := bt hB2 hb3
          go_wp2_with fail
          refine (pair_any _ _ _).mono ?_
          rintro e w4 ⟨rfl, hb4⟩
          have hB4 := bt hB3 hb4
          go_wp2_with fail
          refine (pair_any _ _ _).mono ?_
          rintro e w5 ⟨rfl, hb5⟩
          have hB5 := bt hB4 hb5
          go_wp2_with fail
          refine (sum_at _ (Dig.pair a b).toNat ?_ ?_ _).mono ?_
          · simp [maxLen, ByteArray.size, be8_len]
          · simp [Dig.pair]
          rintro e w' ⟨rfl, rfl⟩
          have q1 := Hq1.out
          have q2 := Hq2.out
          go_wp2_with fail
          go_ret
          exact ⟨rfl, hB5⟩
end Go.Proofs.YtpmgimddoomieaaDoor
