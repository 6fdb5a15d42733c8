/- The walks of package onetime: secret, digitsOf. -/
import Derived.Test.YthgkjcofmkkdcaaDoorOnW1
import Derived.Test.YthgkjcofmkkdcaaDoorBld
namespace Go.Proofs.YthgkjcofmkkdcaaDoor
open Go.RowKit Go.Shelf
set_option linter.unusedVariables false
theorem i64_and_15 (x : Int) : bits .and .i64 x (15 : Int) = x % 16 := by
  have h2 : (BitVec.ofInt 64 (15 : Int)).toNat = 15 := by decide
  show IntKind.i64.wrap ((BitVec.ofInt 64 x &&& BitVec.ofInt 64 15).toNat : Int) = _
  rw [BitVec.toNat_and, h2, nat_mask4, BitVec.toNat_ofInt]
  rw [IntWalk.i64_in _ (by omega)]
  omega
theorem i64_mod16 (x : Int) : IntKind.i64.wrap x % 16 = x % 16 := by
  simp only [IntKind.wrap_i64]
  omega
theorem secret_data (seed t1 t2 : ByteArray) : ((⟨#[3]⟩ : ByteArray) ++ t1 ++ ⟨#[32]⟩ ++ t2 ++ ⟨#[32]⟩ ++ seed).data.toList = 3 :: (t1.data.toList ++ 32 :: (t2.data.toList ++ 32 :: seed.data.toList)) := by
  simp only [app_data]
  simp
theorem secret_any (seed : ByteArray) (i k : Int) (w : World) (hT : PTab w) (hs : seed.size ≤ 100) (hi : -9223372036854775808 ≤ i ∧ i ≤ 9223372036854775807) (hk : -9223372036854775808 ≤ k ∧ k ≤ 9223372036854775807) :
    Calls Tryd.prog 42 #[.string seed, .int .i64 i, .int .i64 k] w fun e w' => e = .returned (.int .u64 (On.secret seed.data.toList i k).toNat) ∧ Below w.heap.size w w' := by
  obtain ⟨t1, ht1⟩ : ∃ t, itoaB i = t := ⟨_, rfl⟩
  obtain ⟨t2, ht2⟩ : ∃ t, itoaB k = t := ⟨_, rfl⟩
  have s1 := itoaB_size i hi.1 hi.2
  have s2 := itoaB_size k hk.1 hk.2
  rw [ht1] at s1
  rw [ht2] at s2
  have hv : Hid (Dig.sum ((⟨#[3]⟩ : ByteArray) ++ t1 ++ ⟨#[32]⟩ ++ t2 ++ ⟨#[32]⟩ ++ seed).data.toList = On.secret seed.data.toList i k) := by
    refine Lib.hid ?_
    rw [secret_data, ← ht1, ← ht2]
    rfl
  have H1 := Lib.hid ht1
  have H2 := Lib.hid ht2
  clear ht1 ht2
  have q1 : ((⟨#[3]⟩ : ByteArray) ++ t1).size ≤ 22 := by rw [app_size]; show 1 + _ ≤ _; omega
  have q2 : ((⟨#[3]⟩ : ByteArray) ++ t1 ++ ⟨#[32]⟩).size ≤ 23 := by rw [app_size]; show _ + 1 ≤ _; omega
  have q3 : ((⟨#[3]⟩ : ByteArray) ++ t1 ++ ⟨#[32]⟩ ++ t2).size ≤ 44 := by rw [app_size]; omega
  have q4 : ((⟨#[3]⟩ : ByteArray) ++ t1 ++ ⟨#[32]⟩ ++ t2 ++ ⟨#[32]⟩).size ≤ 45 := by rw [app_size]; show _ + 1 ≤ _; omega
  have q5 : ((⟨#[3]⟩ : ByteArray) ++ t1 ++ ⟨#[32]⟩ ++ t2 ++ ⟨#[32]⟩ ++ seed).size ≤ maxLen := by rw [app_size]; unfold maxLen; omega
  go_enter Tryd.func42, Tryd.ntmps42
  go_wp2_with fail
  refine (itoa_any i hi.1 hi.2 t1 H1 _ hT).mono ?_
  rintro e w1 ⟨rfl, hB1⟩
  have hT1 := hT.go hB1
  go_wp2_with fail
  refine (itoa_any k hk.1 hk.2 t2 H2 _ hT1).mono ?_
  rintro e w2 ⟨rfl, hB2⟩
  go_wp2_with fail
  refine (sum_at _ _ _ hv q5).mono ?_
  rintro e w3 ⟨rfl, rfl⟩
  go_wp2_with fail
  go_ret
  exact ⟨rfl, bgo hB1 hB2⟩
end Go.Proofs.YthgkjcofmkkdcaaDoor
