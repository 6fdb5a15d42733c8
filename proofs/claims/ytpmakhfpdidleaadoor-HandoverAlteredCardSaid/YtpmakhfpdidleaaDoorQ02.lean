/- The walks of package digest, second part: bytes and Pair. Small facts that several walks use. Plain facts on texts of digests. Plain facts on single bytes of digests. Plain Merkle trees: rows, roots, paths, sides; the laws of layer 24. The walks of package merkle, first part: leafText, nodeText, check. Two laws for a range over a function whose iterator hands memory on: the record of the loop is named, the invariants are the caller's own. -/
import Derived.Test.YtpmakhfpdidleaaDoorQ01
import Derived.Handy
import Derived.BigQuiet
import Derived.Deep.QuietTactic
import Derived.OpenShut
import GoSem.Op.String
import Derived.Laws.BitsAllLaws
import Derived.RangeFuncSeq
import Derived.RangeFuncRecord
import Derived.RangeFuncIn
import Derived.OrdersIn
import Derived.RangeFuncCalls
namespace Go.Proofs.YtpmakhfpdidleaaDoor
open Go.RowKit
def bytesV (d : UInt64) : Array Value := ((Dig.be8 d).map fun b => Value.int .u8 b.toNat).toArray
theorem byteV0 (d : UInt64) : (d.toNat : Int) % 256 = ((Dig.byte d 0).toNat : Int) := by rw [Dig.byte_toNat]; omega
theorem byteV1 (d : UInt64) : (d.toNat : Int) / 256 % 256 = ((Dig.byte d 1).toNat : Int) := by rw [Dig.byte_toNat]; omega
theorem byteV2 (d : UInt64) : (d.toNat : Int) / 256 / 256 % 256 = ((Dig.byte d 2).toNat : Int) := by rw [Dig.byte_toNat]; omega
theorem byteV3 (d : UInt64) : (d.toNat : Int) / 256 / 256 / 256 % 256 = ((Dig.byte d 3).toNat : Int) := by rw [Dig.byte_toNat]; omega
theorem byteV4 (d : UInt64) : (d.toNat : Int) / 256 / 256 / 256 / 256 % 256 = ((Dig.byte d 4).toNat : Int) := by rw [Dig.byte_toNat]; omega
theorem byteV5 (d : UInt64) : (d.toNat : Int) / 256 / 256 / 256 / 256 / 256 % 256 = ((Dig.byte d 5).toNat : Int) := by rw [Dig.byte_toNat]; omega
theorem byteV6 (d : UInt64) : (d.toNat : Int) / 256 / 256 / 256 / 256 / 256 / 256 % 256 = ((Dig.byte d 6).toNat : Int) := by rw [Dig.byte_toNat]; omega
theorem byteV7 (d : UInt64) : (d.toNat : Int) / 256 / 256 / 256 / 256 / 256 / 256 / 256 % 256 = ((Dig.byte d 7).toNat : Int) := by rw [Dig.byte_toNat]; omega
set_option maxHeartbeats 1000000 in
theorem bytes_any (d : UInt64) (w : World) : Calls Tryd.prog 96 #[.int .u64 d.toNat] w fun e w' => e = .returned (.agg #[.int .u8 (Dig.byte d 7).toNat, .int .u8 (Dig.byte d 6).toNat, .int .u8 (Dig.byte d 5).toNat, .int .u8 (Dig.byte d 4).toNat, .int .u8 (Dig.byte d 3).toNat, .int .u8 (Dig.byte d 2).toNat, .int .u8 (Dig.byte d 1).toNat, .int .u8 (Dig.byte d 0).toNat]) ∧ Below w.heap.size w w' := by
  go_enter Tryd.func96, Tryd.ntmps96
  go_wp2
  go_rounds 9
  simp only [byteV0, byteV1, byteV2, byteV3, byteV4, byteV5, byteV6, byteV7]
  exact bodyPost_ret (v := .agg #[.int .u8 (Dig.byte d 7).toNat, .int .u8 (Dig.byte d 6).toNat, .int .u8 (Dig.byte d 5).toNat, .int .u8 (Dig.byte d 4).toNat, .int .u8 (Dig.byte d 3).toNat, .int .u8 (Dig.byte d 2).toNat, .int .u8 (Dig.byte d 1).toNat, .int .u8 (Dig.byte d 0).toNat]) (by simp [results, Tryd.results96, go_sem]) rfl ⟨rfl, ((Below.refl _ _).alloc (Nat.le_refl _) _).alloc (by simp) _⟩
theorem be8_back (W : World) (B : Nat) (d : UInt64) (h0 : W.cell? ⟨B, 0, none⟩ = some (.int .u8 (Dig.byte d 7).toNat)) (h1 : W.cell? ⟨B, 1, none⟩ = some (.int .u8 (Dig.byte d 6).toNat)) (h2 : W.cell? ⟨B, 2, none⟩ = some (.int .u8 (Dig.byte d 5).toNat)) (h3 : W.cell? ⟨B, 3, none⟩ = some (.int .u8 (Dig.byte d 4).toNat)) (h4 : W.cell? ⟨B, 4, none⟩ = some (.int .u8 (Dig.byte d 3).toNat)) (h5 : W.cell? ⟨B, 5, none⟩ = some (.int .u8 (Dig.byte d 2).toNat)) (h6 : W.cell? ⟨B, 6, none⟩ = some (.int .u8 (Dig.byte d 1).toNat)) (h7 : W.cell? ⟨B, 7, none⟩ = some (.int .u8 (Dig.byte d 0).toNat)) :
    (convert 97 9 (.slice (some ⟨B, 0, none⟩) 8 8)).run Tryd.prog W = .ok (.string ⟨(Dig.be8 d).toArray⟩) W := by
  refine run_convert_bytes_back (P := Tryd.prog) W 97 9 5 ⟨B, 0, none⟩ 8 (Dig.be8 d) Tryd.underlying97 Tryd.underlying5 Tryd.underlying9 ?_
  intro j hj
  have hj : j < 8 := hj
  match j, hj with
  | 0, _ => exact h0
  | 1, _ => exact h1
  | 2, _ => exact h2
  | 3, _ => exact h3
  | 4, _ => exact h4
  | 5, _ => exact h5
  | 6, _ => exact h6
  | 7, _ => exact h7
theorem be8_len (d : UInt64) : (Dig.be8 d).length = 8 := rfl
attribute [local go_sem] be8_len
theorem pair_size (a b : UInt64) : ((⟨#[1]⟩ : ByteArray) ++ ⟨(Dig.be8 a).toArray⟩ ++ ⟨(Dig.be8 b).toArray⟩).size ≤ maxLen := by
  simp [be8_len, maxLen, ByteArray.size]
theorem pair_eq (a b : UInt64) : Dig.sum ((⟨#[1]⟩ : ByteArray) ++ ⟨(Dig.be8 a).toArray⟩ ++ ⟨(Dig.be8 b).toArray⟩).data.toList = Dig.pair a b := by
  simp [Dig.pair, ByteArray.data_append]
set_option maxHeartbeats 1000000 in
theorem pair_any (a b : UInt64) (w : World) : Calls Tryd.prog 86 #[.int .u64 a.toNat, .int .u64 b.toNat] w fun e w' => e = .returned (.int .u64 (Dig.pair a b).toNat) ∧ Below w.heap.size w w' := by
  go_enter Tryd.func86, Tryd.ntmps86
  go_wp2_with fail
  refine (bytes_any _ _).mono ?_
  rintro e w1 ⟨rfl, hb1⟩
  go_wp2_with fail
  refine (bytes_any _ _).mono ?_
  rintro e w2 ⟨rfl, hb2⟩
  go_wp2_with fail
  have k1 := fun n => be8_back (((w2.alloc (.cells #[.int .u8 (Dig.byte a 7).toNat, .int .u8 (Dig.byte a 6).toNat, .int .u8 (Dig.byte a 5).toNat, .int .u8 (Dig.byte a 4).toNat, .int .u8 (Dig.byte a 3).toNat, .int .u8 (Dig.byte a 2).toNat, .int .u8 (Dig.byte a 1).toNat, .int .u8 (Dig.byte a 0).toNat] 147)).alloc (.cells #[.int .u8 (Dig.byte b 7).toNat, .int .u8 (Dig.byte b 6).toNat, .int .u8 (Dig.byte b 5).toNat, .int .u8 (Dig.byte b 4).toNat, .int .u8 (Dig.byte b 3).toNat, .int .u8 (Dig.byte b 2).toNat, .int .u8 (Dig.byte b 1).toNat, .int .u8 (Dig.byte b 0).toNat] 147)).drewN n) w2.heap.size a (by simp [go_sem]) (by simp [go_sem]) (by simp [go_sem]) (by simp [go_sem]) (by simp [go_sem]) (by simp [go_sem]) (by simp [go_sem]) (by simp [go_sem])
  have k2 := fun n => be8_back (((w2.alloc (.cells #[.int .u8 (Dig.byte a 7).toNat, .int .u8 (Dig.byte a 6).toNat, .int .u8 (Dig.byte a 5).toNat, .int .u8 (Dig.byte a 4).toNat, .int .u8 (Dig.byte a 3).toNat, .int .u8 (Dig.byte a 2).toNat, .int .u8 (Dig.byte a 1).toNat, .int .u8 (Dig.byte a 0).toNat] 147)).alloc (.cells #[.int .u8 (Dig.byte b 7).toNat, .int .u8 (Dig.byte b 6).toNat, .int .u8 (Dig.byte b 5).toNat, .int .u8 (Dig.byte b 4).toNat, .int .u8 (Dig.byte b 3).toNat, .int .u8 (Dig.byte b 2).toNat, .int .u8 (Dig.byte b 1).toNat, .int .u8 (Dig.byte b 0).toNat] 147)).drewN n) (w2.heap.size + 1) b (by simp [go_sem]) (by simp [go_sem]) (by simp [go_sem]) (by simp [go_sem]) (by simp [go_sem]) (by simp [go_sem]) (by simp [go_sem]) (by simp [go_sem])
  go_quiet ((go_at_call 65; exact quiet_left (sum_any _ _ (pair_size a b))))
  go_wp2
  go_ret
  rw [pair_eq]
  refine ⟨rfl, below_drewN (Below.alloc (Below.alloc (hb1.trans (hb2.mono hb1.size)) ?_ _) ?_ _) _⟩
  · have := hb1.size; have := hb2.size; omega
  · have := hb1.size; have := hb2.size; simp; omega
end Go.Proofs.YtpmakhfpdidleaaDoor
namespace Go.Proofs.YtpmakhfpdidleaaDoor
open Go.RowKit
end Go.Proofs.YtpmakhfpdidleaaDoor
namespace Go.Dig
def ntail (n : Nat) : Nat → List UInt8
  | 0 => []
  | k + 1 => hexd (n / 16 ^ k % 16) :: ntail n k
theorem ttail_ntail (d : UInt64) (k : Nat) : ttail d k = ntail d.toNat k := by
  induction k with
  | zero => rfl
  | succ k ih => simp [ttail, ntail, ih, dig]
theorem ntail_mod (n k : Nat) : ∀ j, j ≤ k → ntail (n % 16 ^ k) j = ntail n j := by
  intro j
  induction j with
  | zero => intro _; rfl
  | succ j ih =>
    intro h
    simp only [ntail]
    rw [ih (by omega)]
    congr 2
    obtain ⟨e, rfl⟩ : ∃ e, k = j + 1 + e := ⟨k - (j + 1), by omega⟩
    have : 16 ^ (j + 1 + e) = 16 ^ j * 16 * 16 ^ e := by rw [Nat.pow_add, Nat.pow_succ]
    rw [this, Nat.mul_assoc]
    rw [Nat.mod_mul_right_div_self]
    rw [Nat.mod_mul_right_mod]
theorem unhex_hexd (v : Nat) (h : v < 16) : unhex (hexd v) = some v := by
  have : ∀ v : Fin 16, unhex (hexd v.val) = some v.val := by decide
  exact this ⟨v, h⟩
theorem hexd_unhex (c : UInt8) (v : Nat) (h : unhex c = some v) : hexd v = c := by
  have : ∀ n : Fin 256, (match unhex (UInt8.ofNat n.val) with
    | none => true
    | some v => decide (hexd v = UInt8.ofNat n.val)) = true := by decide +kernel
  have h2 := this ⟨c.toNat, c.toNat_lt⟩
  simp only [UInt8.ofNat_toNat] at h2
  rw [h] at h2
  simpa using h2
theorem parseL_ntail (n k : Nat) (e : UInt64) : parseL (ntail n k) e = some (e * UInt64.ofNat (16 ^ k) + UInt64.ofNat (n % 16 ^ k)) := by
  induction k generalizing e with
  | zero => simp [ntail, parseL, Nat.mod_one]
  | succ k ih =>
    simp only [ntail, parseL]
    rw [unhex_hexd _ (Nat.mod_lt _ (by decide))]
    simp only []
    rw [ih]
    congr 1
    have h1 : n % 16 ^ (k + 1) = n / 16 ^ k % 16 * 16 ^ k + n % 16 ^ k := by
      rw [Nat.pow_succ, Nat.mod_mul, Nat.add_comm, Nat.mul_comm]
    rw [h1, UInt64.ofNat_add, UInt64.ofNat_mul, Nat.pow_succ, UInt64.ofNat_mul, UInt64.add_mul, ← UInt64.add_assoc, UInt64.mul_assoc]
    congr 2
    rw [UInt64.mul_comm (UInt64.ofNat (16 ^ k))]
    rfl
theorem parse_text (d : UInt64) : parse (text d) = some d := by
  unfold parse
  rw [if_pos (show (text d).length = 16 from rfl), ← ttail_16, ttail_ntail, parseL_ntail]
  simp only [UInt64.zero_mul, UInt64.zero_add]
  rw [Nat.mod_eq_of_lt d.toNat_lt, UInt64.ofNat_toNat]
theorem parseL_inv (l : List UInt8) (e d : UInt64) (h : parseL l e = some d) : ∃ N, N < 16 ^ l.length ∧ ntail N l.length = l ∧ d = e * UInt64.ofNat (16 ^ l.length) + UInt64.ofNat N := by
  induction l generalizing e with
  | nil => exact ⟨0, by simp, rfl, by simp [parseL] at h; simp [h]⟩
  | cons c l ih =>
    simp only [parseL] at h
    cases hu : unhex c with
    | none => rw [hu] at h; simp at h
    | some v =>
      rw [hu] at h
      simp only [] at h
      obtain ⟨N, h1, h2, h3⟩ := ih _ h
      have hv := unhex_lt c v hu
      have hp : 0 < 16 ^ l.length := Nat.pow_pos (by decide)
      refine ⟨v * 16 ^ l.length + N, ?_, ?_, ?_⟩
      · rw [List.length_cons, Nat.pow_succ]
        have : v * 16 ^ l.length ≤ 15 * 16 ^ l.length := Nat.mul_le_mul_right _ (by omega)
        omega
      · simp only [List.length_cons, ntail]
        congr 1
        · rw [Nat.mul_comm, Nat.mul_add_div hp, Nat.div_eq_of_lt h1, Nat.add_zero, Nat.mod_eq_of_lt hv]
          exact hexd_unhex c v hu
        · rw [← ntail_mod _ l.length _ (Nat.le_refl _), Nat.mul_comm, Nat.mul_add_mod, Nat.mod_eq_of_lt h1]
          exact h2
      · rw [h3, List.length_cons, Nat.pow_succ, UInt64.ofNat_mul, UInt64.ofNat_add, UInt64.ofNat_mul, UInt64.add_mul, ← UInt64.add_assoc, UInt64.mul_assoc]
        congr 2
        rw [UInt64.mul_comm (UInt64.ofNat (16 ^ l.length))]
        rfl
theorem text_parse (l : List UInt8) (d : UInt64) (h : parse l = some d) : text d = l := by
  unfold parse at h
  split at h
  · rename_i hl
    obtain ⟨N, h1, h2, h3⟩ := parseL_inv l 0 d h
    rw [hl] at h1 h2
    rw [← ttail_16, ttail_ntail, ← h2]
    congr 1
    rw [h3, UInt64.zero_mul, UInt64.zero_add, UInt64.toNat_ofNat', Nat.mod_eq_of_lt h1]
  · cases h
theorem text_inj (a b : UInt64) (h : text a = text b) : a = b := by
  have := parse_text a
  rw [h, parse_text] at this
  exact (Option.some.inj this).symm
theorem hexd_lt (i j : Nat) (hi : i < 16) (hj : j < 16) : decide (hexd i < hexd j) = decide (i < j) ∧ (hexd i == hexd j) = decide (i = j) := by
  have : ∀ i j : Fin 16, decide (hexd i.val < hexd j.val) = decide (i.val < j.val) ∧ (hexd i.val == hexd j.val) = decide (i.val = j.val) := by decide +kernel
  exact this ⟨i, hi⟩ ⟨j, hj⟩
theorem less_ntail (a b k : Nat) : Op.bytesLess (ntail a k) (ntail b k) = decide (a % 16 ^ k < b % 16 ^ k) := by
  induction k with
  | zero => simp [ntail, Op.bytesLess, Nat.mod_one]
  | succ k ih =>
    have hp : 0 < 16 ^ k := Nat.pow_pos (by decide)
    have ha : a % 16 ^ (k + 1) = 16 ^ k * (a / 16 ^ k % 16) + a % 16 ^ k := by rw [Nat.pow_succ, Nat.mod_mul, Nat.add_comm]
    have hb : b % 16 ^ (k + 1) = 16 ^ k * (b / 16 ^ k % 16) + b % 16 ^ k := by rw [Nat.pow_succ, Nat.mod_mul, Nat.add_comm]
    have h1 := hexd_lt (a / 16 ^ k % 16) (b / 16 ^ k % 16) (Nat.mod_lt _ (by decide)) (Nat.mod_lt _ (by decide))
    have la : a % 16 ^ k < 16 ^ k := Nat.mod_lt _ hp
    have lb : b % 16 ^ k < 16 ^ k := Nat.mod_lt _ hp
    simp only [ntail, Op.bytesLess]
    rw [h1.1, h1.2, ih, ha, hb]
    generalize a / 16 ^ k % 16 = x
    generalize b / 16 ^ k % 16 = y
    generalize a % 16 ^ k = u at la ⊢
    generalize b % 16 ^ k = v at lb ⊢
    generalize 16 ^ k = p at hp la lb
    rw [Bool.eq_iff_iff]
    simp only [Bool.or_eq_true, Bool.and_eq_true, decide_eq_true_iff]
    constructor
    · rintro (h | ⟨rfl, h⟩)
      · have : p * (x + 1) ≤ p * y := Nat.mul_le_mul_left _ h
        rw [Nat.mul_add] at this; omega
      · omega
    · intro h
      rcases Nat.lt_trichotomy x y with h2 | rfl | h2
      · exact .inl h2
      · exact .inr ⟨rfl, by omega⟩
      · have : p * (y + 1) ≤ p * x := Nat.mul_le_mul_left _ h2
        rw [Nat.mul_add] at this; omega
theorem less_text (a b : UInt64) : Op.bytesLess (text a) (text b) = decide ((a.toNat : Int) < (b.toNat : Int)) := by
  rw [← ttail_16, ← ttail_16, ttail_ntail, ttail_ntail, less_ntail, Nat.mod_eq_of_lt a.toNat_lt, Nat.mod_eq_of_lt b.toNat_lt, decide_eq_decide]
  omega
theorem eq_text (a b : UInt64) : (text a == text b) = ((a.toNat : Int) == (b.toNat : Int)) := by
  rw [beq_uu, Bool.eq_iff_iff, beq_iff_eq, decide_eq_true_iff]
  exact ⟨text_inj a b, fun h => by rw [h]⟩
end Go.Dig
namespace Go.Dig
theorem byte_ext (a x : UInt64) (h : ∀ i, i < 8 → byte x i = byte a i) : x = a := by
  have e : ∀ u : UInt64, u.toNat = (byte u 0).toNat + 256 * (byte u 1).toNat + 65536 * (byte u 2).toNat + 16777216 * (byte u 3).toNat + 4294967296 * (byte u 4).toNat + 1099511627776 * (byte u 5).toNat + 281474976710656 * (byte u 6).toNat + 72057594037927936 * (byte u 7).toNat := by
    intro u
    simp only [byte_toNat]
    have := u.toNat_lt
    omega
  apply UInt64.toNat_inj.1
  rw [e x, e a, h 0 (by decide), h 1 (by decide), h 2 (by decide), h 3 (by decide), h 4 (by decide), h 5 (by decide), h 6 (by decide), h 7 (by decide)]
theorem byte_of_bits (x a : UInt64) (i : Nat) (h : ∀ j, j < 8 → x.toNat.testBit (8 * i + j) = a.toNat.testBit (8 * i + j)) : byte x i = byte a i := by
  apply UInt8.toNat_inj.1
  rw [byte_toNat, byte_toNat]
  apply Nat.eq_of_testBit_eq
  intro j
  have e : ∀ n : Nat, (n / 256 ^ i % 256).testBit j = (decide (j < 8) && n.testBit (8 * i + j)) := by
    intro n
    rw [show 256 ^ i = 2 ^ (8 * i) by rw [Nat.pow_mul], show (256 : Nat) = 2 ^ 8 from rfl, Nat.testBit_mod_two_pow, Nat.testBit_div_two_pow, Nat.add_comm]
  rw [e, e]
  by_cases hj : j < 8
  · simp [hj, h j hj]
  · simp [hj]
theorem setbyte (a : UInt64) (c : UInt8) (k : Nat) (hk : k < 8) : ∃ x : UInt64, bits .or .u64 (bits .andNot .u64 (a.toNat : Int) ((255 * 2 ^ (8 * k) : Nat) : Int)) ((c.toNat * 2 ^ (8 * k) : Nat) : Int) = (x.toNat : Int) ∧ ∀ i, i ≠ k → byte x i = byte a i := by
  have hp : 2 ^ (8 * k) ≤ 2 ^ 56 := Nat.pow_le_pow_right (by decide) (by omega)
  have hc := c.toNat_lt
  have h1 : 255 * 2 ^ (8 * k) < 18446744073709551616 := Nat.lt_of_le_of_lt (Nat.mul_le_mul_left _ hp) (by decide)
  have h2 : c.toNat * 2 ^ (8 * k) < 18446744073709551616 := Nat.lt_of_le_of_lt (Nat.mul_le_mul (show c.toNat ≤ 255 by omega) hp) (by decide)
  have h3 : a.toNat &&& (18446744073709551615 - 255 * 2 ^ (8 * k)) < 18446744073709551616 := Nat.lt_of_le_of_lt Nat.and_le_left a.toNat_lt
  rw [u64_andNot_nat _ _ a.toNat_lt h1, u64_or_nat _ _ h3 h2]
  have h4 : (a.toNat &&& (18446744073709551615 - 255 * 2 ^ (8 * k))) ||| c.toNat * 2 ^ (8 * k) < 2 ^ 64 := Nat.or_lt_two_pow h3 h2
  refine ⟨UInt64.ofNat ((a.toNat &&& (18446744073709551615 - 255 * 2 ^ (8 * k))) ||| c.toNat * 2 ^ (8 * k)), ?_, ?_⟩
  · rw [UInt64.toNat_ofNat', Nat.mod_eq_of_lt h4]
  · intro i hi
    apply byte_of_bits
    intro j hj
    rw [UInt64.toNat_ofNat', Nat.mod_eq_of_lt h4, Nat.testBit_or, Nat.testBit_and]
    have h5 : 18446744073709551615 - 255 * 2 ^ (8 * k) = 2 ^ 64 - (255 * 2 ^ (8 * k) + 1) := by omega
    rw [h5, Nat.testBit_two_pow_sub_succ h1, Nat.testBit_mul_two_pow, Nat.testBit_mul_two_pow]
    have hlt : ∀ n, n < 256 → (decide (8 * k ≤ 8 * i + j) && n.testBit (8 * i + j - 8 * k)) = false := by
      intro n hn
      by_cases hle : 8 * k ≤ 8 * i + j
      · have : n.testBit (8 * i + j - 8 * k) = false := by
          apply Nat.testBit_lt_two_pow
          exact Nat.lt_of_lt_of_le hn (show 2 ^ 8 ≤ _ from Nat.pow_le_pow_right (by decide) (by omega))
        simp [this]
      · simp [hle]
    rw [hlt 255 (by decide), hlt _ hc]
    by_cases hb : 8 * i + j < 64
    · simp [hb]
    · have : a.toNat.testBit (8 * i + j) = false := Nat.testBit_lt_two_pow (Nat.lt_of_lt_of_le a.toNat_lt (show 2 ^ 64 ≤ _ from Nat.pow_le_pow_right (by decide) (by omega)))
      simp [hb, this]
theorem lt8 (k : Nat) (hk : k < 8) : k = 0 ∨ k = 1 ∨ k = 2 ∨ k = 3 ∨ k = 4 ∨ k = 5 ∨ k = 6 ∨ k = 7 := by omega
theorem pair_one (a x b : UInt64) (k : Nat) (hk : k < 8) (h : ∀ i, i ≠ k → byte x i = byte a i) : (pair a b = pair x b ↔ a = x) ∧ (pair b a = pair b x ↔ a = x) := by
  have key : byte a k = byte x k ↔ a = x := by
    constructor
    · intro hh
      refine (byte_ext a x fun i hi => ?_).symm
      by_cases e : i = k
      · subst e; exact hh.symm
      · exact h i e
    · rintro rfl; rfl
  have hx1 : 1 :: (be8 x ++ be8 b) = ((1 :: (be8 a ++ be8 b)).take (8 - k) ++ byte x k :: (1 :: (be8 a ++ be8 b)).drop (8 - k + 1)) ++ [] := by
    rcases lt8 k hk with rfl | rfl | rfl | rfl | rfl | rfl | rfl | rfl <;> simp [be8, h]
  have hx2 : 1 :: (be8 b ++ be8 x) = ((1 :: (be8 b ++ be8 a)).take (16 - k) ++ byte x k :: (1 :: (be8 b ++ be8 a)).drop (16 - k + 1)) ++ [] := by
    rcases lt8 k hk with rfl | rfl | rfl | rfl | rfl | rfl | rfl | rfl <;> simp [be8, h]
  have hl1 : (1 :: (be8 a ++ be8 b)).length = 17 := rfl
  have hl2 : (1 :: (be8 b ++ be8 a)).length = 17 := rfl
  have g1 : ∀ p : 8 - k < (1 :: (be8 a ++ be8 b)).length, (1 :: (be8 a ++ be8 b))[8 - k] = byte a k := by
    intro p
    rcases lt8 k hk with rfl | rfl | rfl | rfl | rfl | rfl | rfl | rfl <;> rfl
  have g2 : ∀ p : 16 - k < (1 :: (be8 b ++ be8 a)).length, (1 :: (be8 b ++ be8 a))[16 - k] = byte a k := by
    intro p
    rcases lt8 k hk with rfl | rfl | rfl | rfl | rfl | rfl | rfl | rfl <;> rfl
  constructor
  · unfold pair
    have t := sum_one (1 :: (be8 a ++ be8 b)) [] (8 - k) (by rw [hl1]; omega) (byte x k)
    rw [← hx1, List.append_nil, g1 (by rw [hl1]; omega)] at t
    exact t.trans key
  · unfold pair
    have t := sum_one (1 :: (be8 b ++ be8 a)) [] (16 - k) (by rw [hl2]; omega) (byte x k)
    rw [← hx2, List.append_nil, g2 (by rw [hl2]; omega)] at t
    exact t.trans key
end Go.Dig
namespace Go.Mk
open Go.Dig
def leafD (s : List UInt8) : UInt64 := sum (0 :: s)
def nodeT (a b : UInt64) : List UInt8 := 1 :: (be8 a ++ be8 b)
theorem pair_node (a b : UInt64) : sum (nodeT a b) = pair a b := rfl
def nextRow : List UInt64 → List UInt64
  | a :: b :: r => pair a b :: nextRow r
  | l => l
theorem nextRow_length : ∀ l : List UInt64, (nextRow l).length = (l.length + 1) / 2
  | [] => rfl
  | [a] => by simp [nextRow]
  | a :: b :: r => by
    have := nextRow_length r
    simp only [nextRow, List.length_cons, this]
    omega
theorem nextRow_get : ∀ (l : List UInt64) (i : Nat), (nextRow l).getD i 0 = if 2 * i + 1 < l.length then pair (l.getD (2 * i) 0) (l.getD (2 * i + 1) 0) else l.getD (2 * i) 0
  | [], i => by simp [nextRow]
  | [a], i => by
    cases i with
    | zero => rfl
    | succ i => simp [nextRow]
  | a :: b :: r, 0 => by simp [nextRow]
  | a :: b :: r, i + 1 => by
    have := nextRow_get r i
    simp only [nextRow, List.getD_cons_succ, this, List.length_cons]
    rw [show 2 * (i + 1) = 2 * i + 2 by omega]
    simp only [List.getD_cons_succ]
    by_cases h : 2 * i + 1 < r.length
    · rw [if_pos h, if_pos (by omega)]
    · rw [if_neg h, if_neg (by omega)]
/-- The k-th row. -/
def rowN (l : List UInt64) : Nat → List UInt64
  | 0 => l
  | k + 1 => nextRow (rowN l k)
/-- The steps from a row of some size to the last one. -/
def steps : Nat → Nat → Nat
  | 0, _ => 0
  | f + 1, n => if n ≤ 1 then 0 else steps f ((n + 1) / 2) + 1
def rootF : Nat → List UInt64 → UInt64
  | 0, r => r.getD 0 0
  | f + 1, r => if r.length ≤ 1 then r.getD 0 0 else rootF f (nextRow r)
def stepOf (r : List UInt64) (i : Nat) : List (UInt64 × Bool) :=
  if i % 2 = 1 then [(r.getD (i - 1) 0, true)] else if i + 1 < r.length then [(r.getD (i + 1) 0, false)] else []
def pathF : Nat → List UInt64 → Nat → List (UInt64 × Bool)
  | 0, _, _ => []
  | f + 1, r, i => if r.length ≤ 1 then [] else stepOf r i ++ pathF f (nextRow r) (i / 2)
def sideOf (n i : Nat) : List Bool := if i % 2 = 1 ∨ i + 1 < n then [decide (i % 2 = 1)] else []
def sidesF : Nat → Nat → Nat → List Bool
  | 0, _, _ => []
  | f + 1, n, i => if n ≤ 1 then [] else sideOf n i ++ sidesF f ((n + 1) / 2) (i / 2)
def up (d : UInt64) (p : UInt64 × Bool) : UInt64 := if p.2 then pair p.1 d else pair d p.1
def climbD (d : UInt64) (l : List (UInt64 × Bool)) : UInt64 := l.foldl up d
def upT (d : UInt64) (p : UInt64 × Bool) : List UInt8 := if p.2 then nodeT p.1 d else nodeT d p.1
theorem sum_upT (d : UInt64) (p : UInt64 × Bool) : sum (upT d p) = up d p := by unfold upT up; split <;> rfl
def climbT : UInt64 → List (UInt64 × Bool) → List (List UInt8)
  | _, [] => []
  | d, p :: l => upT d p :: climbT (up d p) l
theorem path_sides : ∀ (f : Nat) (r : List UInt64) (i : Nat), (pathF f r i).map (·.2) = sidesF f r.length i
  | 0, _, _ => rfl
  | f + 1, r, i => by
    simp only [pathF, sidesF]
    by_cases h : r.length ≤ 1
    · rw [if_pos h, if_pos h]; rfl
    · rw [if_neg h, if_neg h, List.map_append, path_sides f, nextRow_length]
      congr 1
      unfold stepOf sideOf
      by_cases h1 : i % 2 = 1
      · simp [h1]
      · by_cases h2 : i + 1 < r.length
        · simp [h1, h2]
        · simp [h1, h2]
theorem climb_path : ∀ (f : Nat) (r : List UInt64) (i : Nat), i < r.length → r.length ≤ 2 ^ f → climbD (r.getD i 0) (pathF f r i) = rootF f r
  | 0, r, i, hi, hl => by
    have : i = 0 := by simp at hl; omega
    subst this; rfl
  | f + 1, r, i, hi, hl => by
    simp only [pathF, rootF]
    by_cases h : r.length ≤ 1
    · rw [if_pos h, if_pos h]
      have : i = 0 := by omega
      subst this; rfl
    · rw [if_neg h, if_neg h]
      have hn : (nextRow r).length = (r.length + 1) / 2 := nextRow_length r
      have hp : 2 ^ (f + 1) = 2 * 2 ^ f := by rw [Nat.pow_succ]; omega
      rw [← climb_path f (nextRow r) (i / 2) (by omega) (by omega)]
      unfold climbD
      rw [List.foldl_append]
      congr 1
      rw [nextRow_get]
      unfold stepOf up
      by_cases h1 : i % 2 = 1
      · rw [if_pos h1, if_pos (by omega)]
        simp only [List.foldl_cons, List.foldl_nil, if_true]
        rw [show 2 * (i / 2) = i - 1 by omega, show i - 1 + 1 = i by omega]
      · by_cases h2 : i + 1 < r.length
        · rw [if_neg h1, if_pos h2, if_pos (by omega)]
          simp only [List.foldl_cons, List.foldl_nil]
          rw [show 2 * (i / 2) = i by omega]
          rfl
        · rw [if_neg h1, if_neg h2, if_neg (by omega)]
          rw [show 2 * (i / 2) = i by omega]
          rfl
theorem getD_get (l : List UInt64) (i : Nat) (h : i < l.length) : l.getD i 0 = l[i] := by simp [List.getD, h]
theorem take_pair (r : List UInt64) (q : Nat) (h : 2 * q + 1 < r.length) : (nextRow r).take (q + 1) = (nextRow r).take q ++ [pair (r.getD (2 * q) 0) (r.getD (2 * q + 1) 0)] := by
  have hl : q < (nextRow r).length := by rw [nextRow_length]; omega
  rw [List.take_succ_eq_append_getElem hl]
  have := nextRow_get r q
  rw [if_pos h, getD_get _ _ hl] at this
  rw [this]
theorem take_odd (r : List UInt64) (h : r.length % 2 = 1) : nextRow r = (nextRow r).take (r.length / 2) ++ [r.getD (r.length - 1) 0] := by
  have hl : r.length / 2 < (nextRow r).length := by rw [nextRow_length]; omega
  have h2 : (nextRow r).take (r.length / 2 + 1) = nextRow r := List.take_of_length_le (by rw [nextRow_length]; omega)
  rw [List.take_succ_eq_append_getElem hl] at h2
  have := nextRow_get r (r.length / 2)
  rw [if_neg (by omega), getD_get _ _ hl, show 2 * (r.length / 2) = r.length - 1 by omega] at this
  rw [this] at h2
  exact h2.symm
theorem take_even (r : List UInt64) (h : r.length % 2 = 0) : (nextRow r).take (r.length / 2) = nextRow r := List.take_of_length_le (by rw [nextRow_length]; omega)
theorem rowN_succ (l : List UInt64) (k : Nat) : rowN l (k + 1) = rowN (nextRow l) k := by
  induction k with
  | zero => rfl
  | succ k ih => rw [rowN, ih]; rfl
theorem root_row : ∀ (k f : Nat) (l : List UInt64), k ≤ f → (rowN l k).length ≤ 1 → (∀ j, j < k → 1 < (rowN l j).length) → rootF f l = (rowN l k).getD 0 0
  | 0, f, l, _, h, _ => by
    cases f with
    | zero => rfl
    | succ f => simp only [rootF]; rw [if_pos (show l.length ≤ 1 from h)]; rfl
  | k + 1, 0, l, hk, _, _ => by omega
  | k + 1, f + 1, l, hk, h, hj => by
    simp only [rootF]
    rw [if_neg (by have := hj 0 (by omega); simp only [rowN] at this; omega), rowN_succ]
    exact root_row k f (nextRow l) (by omega) (by rw [← rowN_succ]; exact h) (fun j hj' => by rw [← rowN_succ]; exact hj (j + 1) (by omega))
def pathTo (l : List UInt64) (i : Nat) : Nat → List (UInt64 × Bool)
  | 0 => []
  | k + 1 => pathTo l i k ++ stepOf (rowN l k) (i / 2 ^ k)
theorem pathTo_succ (l : List UInt64) (i k : Nat) : pathTo l i (k + 1) = stepOf l i ++ pathTo (nextRow l) (i / 2) k := by
  induction k with
  | zero => simp [pathTo, rowN]
  | succ k ih =>
    rw [pathTo, ih, pathTo, rowN_succ, List.append_assoc, Nat.pow_succ, Nat.mul_comm, Nat.div_div_eq_div_mul]
theorem path_row : ∀ (k f : Nat) (l : List UInt64) (i : Nat), k ≤ f → (rowN l k).length ≤ 1 → (∀ j, j < k → 1 < (rowN l j).length) → i < l.length → pathF f l i = pathTo l i (k + 1)
  | 0, f, l, i, _, h, _, hi => by
    have h1 : i = 0 := by simp only [rowN] at h; omega
    have h2 : l.length = 1 := by simp only [rowN] at h; omega
    subst h1
    have : stepOf l 0 = [] := by unfold stepOf; simp [h2]
    simp only [pathTo, rowN, Nat.zero_div, this, List.append_nil]
    cases f with
    | zero => rfl
    | succ f => simp only [pathF]; rw [if_pos (by omega)]
  | k + 1, 0, l, i, hk, _, _, _ => by omega
  | k + 1, f + 1, l, i, hk, h, hj, hi => by
    simp only [pathF]
    have h0 : 1 < l.length := hj 0 (by omega)
    rw [if_neg (by omega), pathTo_succ]
    congr 1
    exact path_row k f (nextRow l) (i / 2) (by omega) (by rw [← rowN_succ]; exact h) (fun j hj' => by rw [← rowN_succ]; exact hj (j + 1) (by omega)) (by rw [nextRow_length]; omega)
theorem rowN_len (l : List UInt64) (f : Nat) (hl : l.length ≤ 2 ^ f) (k : Nat) (hk : k ≤ f) : (rowN l k).length ≤ 2 ^ (f - k) := by
  induction k with
  | zero => simpa [rowN] using hl
  | succ k ih =>
    have h1 := ih (by omega)
    rw [rowN, nextRow_length]
    have : 2 ^ (f - k) = 2 * 2 ^ (f - (k + 1)) := by rw [show f - k = f - (k + 1) + 1 by omega, Nat.pow_succ]; omega
    omega
theorem rowN_lt (l : List UInt64) (i : Nat) (hi : i < l.length) (k : Nat) : i / 2 ^ k < (rowN l k).length := by
  induction k with
  | zero => simpa [rowN] using hi
  | succ k ih =>
    rw [rowN, nextRow_length, Nat.pow_succ, ← Nat.div_div_eq_div_mul]
    omega
end Go.Mk
namespace Go.Proofs.YtpmakhfpdidleaaDoor
open Go.RowKit
set_option linter.unusedVariables false
theorem leafText_any (s : ByteArray) (w : World) (hs : s.size ≤ 9223372036854775806) : Calls Tryd.prog 85 #[.string s] w fun e w' => e = .returned (.string ⟨(0 :: s.data.toList).toArray⟩) ∧ w = w' := by
  have h1 : ¬ (9223372036854775807 < 1 + s.size) := by omega
  go_enter Tryd.func85, Tryd.ntmps85
  go_wp2
  go_ret
  refine ⟨?_, rfl⟩
  have e : (⟨#[0]⟩ : ByteArray) ++ s = ⟨(0 :: s.data.toList).toArray⟩ := by apply ByteArray.ext; simp [ByteArray.data_append]
  rw [e]
  rfl
theorem node_back (W : World) (B : Nat) (a b : UInt64) (h0 : W.cell? ⟨B, 0, none⟩ = some (.int .u8 1)) (h1 : W.cell? ⟨B, 1, none⟩ = some (.int .u8 (Dig.byte a 7).toNat)) (h2 : W.cell? ⟨B, 2, none⟩ = some (.int .u8 (Dig.byte a 6).toNat)) (h3 : W.cell? ⟨B, 3, none⟩ = some (.int .u8 (Dig.byte a 5).toNat)) (h4 : W.cell? ⟨B, 4, none⟩ = some (.int .u8 (Dig.byte a 4).toNat)) (h5 : W.cell? ⟨B, 5, none⟩ = some (.int .u8 (Dig.byte a 3).toNat)) (h6 : W.cell? ⟨B, 6, none⟩ = some (.int .u8 (Dig.byte a 2).toNat)) (h7 : W.cell? ⟨B, 7, none⟩ = some (.int .u8 (Dig.byte a 1).toNat)) (h8 : W.cell? ⟨B, 8, none⟩ = some (.int .u8 (Dig.byte a 0).toNat)) (h9 : W.cell? ⟨B, 9, none⟩ = some (.int .u8 (Dig.byte b 7).toNat)) (h10 : W.cell? ⟨B, 10, none⟩ = some (.int .u8 (Dig.byte b 6).toNat)) (h11 : W.cell? ⟨B, 11, none⟩ = some (.int .u8 (Dig.byte b 5).toNat)) (h12 : W.cell? ⟨B, 12, none⟩ = some (.int .u8 (Dig.byte b 4).toNat)) (h13 : W.cell? ⟨B, 13, none⟩ = some (.int .u8 (Dig.byte b 3).toNat)) (h14 : W.cell? ⟨B, 14, none⟩ = some (.int .u8 (Dig.byte b 2).toNat)) (h15 : W.cell? ⟨B, 15, none⟩ = some (.int .u8 (Dig.byte b 1).toNat)) (h16 : W.cell? ⟨B, 16, none⟩ = some (.int .u8 (Dig.byte b 0).toNat)) :
    (convert 97 9 (.slice (some ⟨B, 0, none⟩) 17 17)).run Tryd.prog W = .ok (.string ⟨(Mk.nodeT a b).toArray⟩) W := by
  refine run_convert_bytes_back (P := Tryd.prog) W 97 9 5 ⟨B, 0, none⟩ 17 (Mk.nodeT a b) Tryd.underlying97 Tryd.underlying5 Tryd.underlying9 ?_
  intro j hj
  have hj : j < 17 := hj
  rcases (show j = 0 ∨ j = 1 ∨ j = 2 ∨ j = 3 ∨ j = 4 ∨ j = 5 ∨ j = 6 ∨ j = 7 ∨ j = 8 ∨ j = 9 ∨ j = 10 ∨ j = 11 ∨ j = 12 ∨ j = 13 ∨ j = 14 ∨ j = 15 ∨ j = 16 by omega) with rfl | rfl | rfl | rfl | rfl | rfl | rfl | rfl | rfl | rfl | rfl | rfl | rfl | rfl | rfl | rfl | rfl
  · exact h0
  · exact h1
  · exact h2
  · exact h3
  · exact h4
  · exact h5
  · exact h6
  · exact h7
  · exact h8
  · exact h9
  · exact h10
  · exact h11
  · exact h12
  · exact h13
  · exact h14
  · exact h15
  · exact h16
theorem byteD1 (d : UInt64) : (d.toNat : Int) / (256 : Int) % 256 = ((Dig.byte d 1).toNat : Int) := by rw [Dig.byte_toNat]; omega
theorem byteD2 (d : UInt64) : (d.toNat : Int) / (65536 : Int) % 256 = ((Dig.byte d 2).toNat : Int) := by rw [Dig.byte_toNat]; omega
theorem byteD3 (d : UInt64) : (d.toNat : Int) / (16777216 : Int) % 256 = ((Dig.byte d 3).toNat : Int) := by rw [Dig.byte_toNat]; omega
theorem byteD4 (d : UInt64) : (d.toNat : Int) / (4294967296 : Int) % 256 = ((Dig.byte d 4).toNat : Int) := by rw [Dig.byte_toNat]; omega
theorem byteD5 (d : UInt64) : (d.toNat : Int) / (1099511627776 : Int) % 256 = ((Dig.byte d 5).toNat : Int) := by rw [Dig.byte_toNat]; omega
theorem byteD6 (d : UInt64) : (d.toNat : Int) / (281474976710656 : Int) % 256 = ((Dig.byte d 6).toNat : Int) := by rw [Dig.byte_toNat]; omega
theorem byteD7 (d : UInt64) : (d.toNat : Int) / (72057594037927936 : Int) % 256 = ((Dig.byte d 7).toNat : Int) := by rw [Dig.byte_toNat]; omega
set_option maxHeartbeats 2000000 in
theorem nodeText_any (a b : UInt64) (w : World) : Calls Tryd.prog 89 #[.int .u64 a.toNat, .int .u64 b.toNat] w fun e w' => e = .returned (.string ⟨(Mk.nodeT a b).toArray⟩) ∧ Below w.heap.size w w' := by
  have k := node_back (w.alloc (.cells #[.int .u8 1, .int .u8 (Dig.byte a 7).toNat, .int .u8 (Dig.byte a 6).toNat, .int .u8 (Dig.byte a 5).toNat, .int .u8 (Dig.byte a 4).toNat, .int .u8 (Dig.byte a 3).toNat, .int .u8 (Dig.byte a 2).toNat, .int .u8 (Dig.byte a 1).toNat, .int .u8 (Dig.byte a 0).toNat, .int .u8 (Dig.byte b 7).toNat, .int .u8 (Dig.byte b 6).toNat, .int .u8 (Dig.byte b 5).toNat, .int .u8 (Dig.byte b 4).toNat, .int .u8 (Dig.byte b 3).toNat, .int .u8 (Dig.byte b 2).toNat, .int .u8 (Dig.byte b 1).toNat, .int .u8 (Dig.byte b 0).toNat] 149)) w.heap.size a b (by simp [go_sem]) (by simp [go_sem]) (by simp [go_sem]) (by simp [go_sem]) (by simp [go_sem]) (by simp [go_sem]) (by simp [go_sem]) (by simp [go_sem]) (by simp [go_sem]) (by simp [go_sem]) (by simp [go_sem]) (by simp [go_sem]) (by simp [go_sem]) (by simp [go_sem]) (by simp [go_sem]) (by simp [go_sem]) (by simp [go_sem])
  have ha0 := byteV0 a
  have hb0 := byteV0 b
  have ha1 := byteD1 a
  have hb1 := byteD1 b
  have ha2 := byteD2 a
  have hb2 := byteD2 b
  have ha3 := byteD3 a
  have hb3 := byteD3 b
  have ha4 := byteD4 a
  have hb4 := byteD4 b
  have ha5 := byteD5 a
  have hb5 := byteD5 b
  have ha6 := byteD6 a
  have hb6 := byteD6 b
  have ha7 := byteD7 a
  have hb7 := byteD7 b
  go_enter Tryd.func89, Tryd.ntmps89
  go_wp2
  go_rounds 9
  go_ret
  exact ⟨rfl, (Below.refl _ _).alloc (Nat.le_refl _) _⟩
def checkE (n : Nat) : Int := if n = 0 then 1 else if 1024 < n then 2 else 0
theorem check_any (A : Option Addr) (n c : Nat) (w : World) (hn : n ≤ maxLen) : Calls Tryd.prog 67 #[.slice A n c] w fun e w' => e = .returned (.int .i64 (checkE n)) ∧ w = w' := by
  unfold maxLen at hn
  by_cases h0 : n = 0
  · have h1 : ((n : Int) == 0) = true := by simp [h0]
    have h2 : checkE n = 1 := by unfold checkE; rw [if_pos h0]
    rw [h2]
    go_enter Tryd.func67, Tryd.ntmps67
    go_wp2
    go_ret
    exact ⟨rfl, rfl⟩
  · have h1 : ((n : Int) == 0) = false := by simp; omega
    by_cases h3 : 1024 < n
    · have h2 : checkE n = 2 := by unfold checkE; rw [if_neg h0, if_pos h3]
      rw [h2]
      go_enter Tryd.func67, Tryd.ntmps67
      go_wp2
      go_ret
      exact ⟨rfl, rfl⟩
    · have h2 : checkE n = 0 := by unfold checkE; rw [if_neg h0, if_neg h3]
      rw [h2]
      go_enter Tryd.func67, Tryd.ntmps67
      go_wp2
      go_ret
      exact ⟨rfl, rfl⟩
end Go.Proofs.YtpmakhfpdidleaaDoor
namespace Go.Rng
variable {F : Fence} {n : Nat} {P : Program}
/-- The record of a loop in its states. -/
def busyOf (r : Loop) : Obj := .loop { r with state := .busy, pending := none }
def readyOf (r : Loop) : Obj := .loop { r with state := .ready, pending := none }
def doneOf (r : Loop) (c : Code) : Obj := .loop { r with state := .done, pending := some c }
def overOf (r : Loop) (c : Option Code) : Obj := .loop { r with state := .exhausted, pending := c }
/-- How the body of a round may be left: the record is busy, and what yield hands back is what R takes. -/
def roundEnd (l : Nat) (r : Loop) (R : Ending → World → Prop) : Exit → Act → World → Prop
  | .normal, _, W => W.heap[l]? = some (busyOf r) ∧ R (.returned (.bool true)) (W.putObj l (readyOf r))
  | .ret, _, W => W.heap[l]? = some (busyOf r) ∧ R (.returned (.bool false)) (W.putObj l (doneOf r .ret))
  | .exit id, _, W => W.heap[l]? = some (busyOf r) ∧ R (.returned (.bool false)) (W.putObj l (doneOf r (.exit id)))
  | .goto t, _, W => W.heap[l]? = some (busyOf r) ∧ R (.returned (.bool false)) (W.putObj l (doneOf r (.goto t)))
  | .panic _, _, _ => False
  | .outgrown, _, _ => False
/-- One call of yield. -/
theorem yield_at {l : Nat} {r : Loop} {args : Array Value} {W : World} {R : Ending → World → Prop} {assign body : Code} {tmps : Array Value} (hl : W.heap[l]? = some (readyOf r)) (ha : r.assign = assign) (hb : r.body = body)
    (ht : (r.params.zip args).foldl (fun t (p, v) => t.setIfInBounds p v) r.tmps = tmps) (hs : args.size = r.params.size) (hF : F.fn r.fn)
    (h : assign.wpIn (F.inRound l) n P (Exit.then (fun a₁ W₁ => W₁.heap[l]? = some (readyOf r) ∧ body.wpIn (F.inRound l) n P (roundEnd l r R) a₁ (W₁.putObj l (busyOf r))) (fun _ _ _ => False))
      { tmps := tmps, defers := [] } W) : YieldAt F n P l args W R := by
  subst ha hb ht
  refine ⟨r.fn, _, r.assign, r.body, run_yield (r := { r with state := .ready, pending := none }) hl hs, roundIn_of_wpIn hF (wpIn_mono h ?_)⟩
  intro e a W1 h1
  cases e with
  | normal =>
    refine ⟨W1.putObj l (busyOf r), run_beginRound (r := { r with state := .ready, pending := none }) h1.1 rfl, wpIn_mono h1.2 ?_⟩
    intro e2 a2 W2 h2
    cases e2 with
    | normal => exact ⟨_, _, run_endRound (r := { r with state := .busy, pending := none }) none h2.1, h2.2⟩
    | ret => exact ⟨_, _, run_endRound (r := { r with state := .busy, pending := none }) (some .ret) h2.1, h2.2⟩
    | exit id => exact ⟨_, _, run_endRound (r := { r with state := .busy, pending := none }) (some (.exit id)) h2.1, h2.2⟩
    | goto t => exact ⟨_, _, run_endRound (r := { r with state := .busy, pending := none }) (some (.goto t)) h2.1, h2.2⟩
    | panic c => exact h2.elim
    | outgrown => exact h2.elim
  | ret => exact h1
  | exit id => exact h1
  | goto t => exact h1
  | panic c => exact h1
  | outgrown => exact h1
/-- What the iterator's call must come to. -/
def callEnd (F : Fence) (n : Nat) (P : Program) (l : Nat) (r : Loop) (Q : Exit → Act → World → Prop) (a : Act) (e : Ending) (W : World) : Prop :=
  ∃ v, e = .returned v ∧ ((W.heap[l]? = some (readyOf r) ∧ Q .normal a (W.putObj l (overOf r none))) ∨
    ∃ c, W.heap[l]? = some (doneOf r c) ∧ c.wpIn F n P Q a (W.putObj l (overOf r (some c))))
/-- The statement: the record is laid, the iterator is called. -/
theorem range_any {g : Operand} {ps : Array Tmp} {assign body : Code} {Q : Exit → Act → World → Prop} {a : Act} {w : World} (hro : F.round = none) (h1 : 1 ≤ n)
    {gf : Nat} {lb : Array Value} (hg : a.eval g = .func (.func gf) #[] lb) (hFg : F.fn gf) (eg : ∀ args w, (callFunc gf args).run P w = .ok (.enter gf args) w)
    (h : ∀ (r : Loop), F.fn r.fn → r.assign = assign → r.body = body → r.tmps = a.tmps → r.params = ps →
      CallsIn F (n - 1) P gf (#[.func (.yield (w.heap.size + 1)) #[] #[]] ++ lb) ((w.alloc (.deferred (some []))).alloc (readyOf r))
        (callEnd F n P (w.heap.size + 1) r Q { tmps := a.tmps, defers := { target := .collected w.heap.size, args := #[] } :: a.defers })) :
    (Code.rangeFunc g ps assign body).wpIn F n P Q a w := by
  refine wpIn_rangeFunc ?_
  intro fn hfn
  rw [hro]
  obtain ⟨r, hr⟩ : ∃ r : Loop, r = { state := .ready, pending := none, fn := fn, tmps := a.tmps, params := ps, assign := assign, body := body, defers := w.heap.size } := ⟨_, rfl⟩
  have hrr : readyOf r = .loop r := by rw [hr]; rfl
  refine ⟨w.heap.size + 1, [{ target := .collected w.heap.size, args := #[] }], (w.alloc (.deferred (some []))).alloc (readyOf r), { target := .fn (.func gf) lb, args := #[.func (.yield (w.heap.size + 1)) #[] #[]] }, (w.alloc (.deferred (some []))).alloc (readyOf r), gf,
    #[.func (.yield (w.heap.size + 1)) #[] #[]] ++ lb, (w.alloc (.deferred (some []))).alloc (readyOf r), ?_, ?_, ?_, ?_, fun _ => h1, ?_⟩
  · rw [hrr, hr]; exact run_enterLoop_outer _ _ _ _ _
  · simp only [resolve, hg]
    simp [go_sem]
  · intro f' hf'
    simp [Target.leads] at hf'
    subst hf'
    exact hFg
  · simp [invoke, go_sem, eg]
  · refine (h r (by rw [hr]; exact hfn) (by rw [hr]) (by rw [hr]) (by rw [hr]) (by rw [hr])).mono ?_
    rintro e W ⟨v, rfl, (⟨hl, hq⟩ | ⟨c, hl, hq⟩)⟩
    · exact ⟨none, _, run_endLoop (r := { r with state := .ready, pending := none }) hl (by simp), hq⟩
    · exact ⟨some c, _, run_endLoop (r := { r with state := .done, pending := some c }) hl (by simp), hq⟩
def noDefer (ops : Array Oper) : Bool := ops.all fun o => match o.op with
  | .defer _ => false
  | _ => true
theorem op_in {l : Nat} {o : Oper} (h : ∀ c, o.op ≠ .defer c) {a : Act} {w : World} {K K' : Act → World → Prop} {Q : Exit → Act → World → Prop} (hK : ∀ a w, K a w → K' a w) (hh : o.wpIn Fence.wide n P a w K Q) : o.wpIn (Fence.wide.inRound l) n P a w K' Q := by
  have h2 := Oper.wpIn_mono hK hh
  unfold Oper.wpIn at h2 ⊢
  refine ⟨fun f _ => trivial, ?_⟩
  have h3 := h2.2
  rw [Oper.semAt_eq _ _ _ h] at h3 ⊢
  generalize (execOp a.eval o).run P w = r at h3 ⊢
  cases r with
  | ok x w' =>
    cases x <;> exact h3
  | halt e w' => cases e <;> exact h3
theorem any_in {l : Nat} {md : Region.Mode} {ops : Array Oper} {Q : Exit → Act → World → Prop} (hd : noDefer ops = true) : ∀ (fuel : Nat) (listed : Array Bool) (a : Act) (w : World),
    wpAnyIn Fence.wide n P md ops Q fuel listed a w → wpAnyIn (Fence.wide.inRound l) n P md ops Q fuel listed a w
  | 0, _, _, _, h => h
  | fuel + 1, listed, a, w, h => by
    refine ⟨h.1, fun i hi => ?_⟩
    have hi2 := h.2 i hi
    unfold wpOpIn at hi2 ⊢
    cases ho : ops[i]? with
    | none => rw [ho] at hi2; exact any_in hd fuel _ _ _ hi2
    | some o =>
      rw [ho] at hi2
      simp only [] at hi2 ⊢
      have hnd : ∀ c, o.op ≠ .defer c := by
        intro c hc
        obtain ⟨hlt, hoe⟩ := Array.getElem?_eq_some_iff.1 ho
        have := Array.all_eq_true.1 hd i hlt
        rw [hoe, hc] at this
        cases this
      split
      · rename_i hw
        rw [if_pos hw] at hi2
        exact op_in hnd (fun a w => any_in hd fuel _ a w) hi2
      · rename_i hw
        rw [if_neg hw] at hi2
        exact ⟨fun f _ => trivial, any_in hd fuel _ _ _ hi2.2⟩
/-- A region that draws its order, in a round: as in the wide fence. -/
theorem region_in {l id : Nat} {ops : Array Oper} {Q : Exit → Act → World → Prop} {a : Act} {w : World} (hm : P.follows .mixedOrders = true) (hd : noDefer ops = true)
    (h : wpAnyIn Fence.wide n P .any ops Q ops.size (Array.replicate ops.size false) a w.drew) : (Code.region id ops true).wpIn (Fence.wide.inRound l) n P Q a w :=
  wpIn_region_any hm (any_in hd _ _ _ _ h)
end Go.Rng
