/- Small facts that several walks use. -/
import Derived.Test.YtdkjbdohnpaiaaaDigW2
import Derived.OpenShut
namespace Go.Proofs.Ytdkjbdohnpaiaaa
open Go.RowKit
theorem cons_bytes (c : UInt8) (l : List UInt8) : ((⟨[c].toArray⟩ : ByteArray) ++ ⟨l.toArray⟩) = ⟨(c :: l).toArray⟩ := by
  apply ByteArray.ext; simp [ByteArray.data_append]
theorem byte_back (W : World) (B : Nat) (c : UInt8) (h : W.cell? ⟨B, 0, none⟩ = some (.int .u8 c.toNat)) : (convert 71 9 (.slice (some ⟨B, 0, none⟩) 1 1)).run Try.prog W = .ok (.string ⟨[c].toArray⟩) W := by
  refine run_convert_bytes_back (P := Try.prog) W 71 9 5 ⟨B, 0, none⟩ 1 [c] Try.underlying71 Try.underlying5 Try.underlying9 ?_
  intro j hj
  obtain rfl : j = 0 := by simpa using hj
  exact h
theorem u64_of_wf {a : Int} (h : (Lit.int .u64 a).wf = true) : ∃ u : UInt64, a = u.toNat := by
  have h1 : 0 ≤ a ∧ a < 18446744073709551616 := by
    have := bounds_u64 h; omega
  exact ⟨UInt64.ofNat a.toNat, by rw [UInt64.toNat_ofNat']; omega⟩
theorem u8_of_wf {a : Int} (h : (Lit.int .u8 a).wf = true) : ∃ u : UInt8, a = u.toNat := by
  have h1 : 0 ≤ a ∧ a < 256 := by
    have := bounds_u8 h; omega
  exact ⟨UInt8.ofNat a.toNat, by rw [UInt8.toNat_ofNat']; omega⟩
theorem min_k (k : Int) (K : Nat) (hK : k = K) (n : Nat) : ∃ m : Nat, (if k < (n : Int) then k else (n : Int)) = (m : Int) ∧ m ≤ n ∧ m ≤ K ∧ (m = n ∨ m = K) := by
  subst hK
  by_cases h : (K : Int) < (n : Int)
  · exact ⟨K, by rw [if_pos h], by omega, by omega, .inr rfl⟩
  · exact ⟨n, by rw [if_neg h], by omega, by omega, .inl rfl⟩
theorem ext_size (a : ByteArray) (i j : Nat) : (a.extract i j).size = min j a.size - i := ByteArray.size_extract
theorem ext_data (a : ByteArray) (m : Nat) : (a.extract 0 m).data.toList = a.data.toList.take m := by
  simp [ByteArray.data_extract]
theorem app_data (a b : ByteArray) : (a ++ b).data.toList = a.data.toList ++ b.data.toList := by
  simp [ByteArray.data_append]
theorem app_size (a b : ByteArray) : (a ++ b).size = a.size + b.size := ByteArray.size_append
theorem min_n (a b : Nat) : ∃ m : Nat, (if b < a then (b : Int) else (a : Int)) = (m : Int) ∧ m ≤ a ∧ m ≤ b := by
  by_cases h : b < a
  · exact ⟨b, by rw [if_pos h], by omega, by omega⟩
  · exact ⟨a, by rw [if_neg h], by omega, by omega⟩
end Go.Proofs.Ytdkjbdohnpaiaaa
