/- The walks of package digest, second part: bytes and Pair. -/
import Derived.Test.YtgkilaafeconlaaDoorDigWalks
import Derived.Test.YtgkilaafeconlaaDoorBase
import Derived.Handy
import Derived.BigQuiet
import Derived.Deep.QuietTactic
namespace Go.Proofs.YtgkilaafeconlaaDoor
open Go.RowKit
def bytesV (d : UInt64) : Array Value := ((Dig.be8 d).map fun b => Value.int .u8 b.toNat).toArray
theorem byteV0 (d : UInt64) : (d.toNat : Int) % 256 = ((Dig.byte d 0).toNat : Int) := by rw [Dig.byte_toNat]; omega
theorem byteV1 (d : UInt64) : (d.toNat : Int) / 256 % 256 = ((Dig.byte d 1).toNat : Int) := by rw [Dig.byte_toNat]; omega
theorem byteV2 (d : UInt64) : (d.toNat : Int) / 256 / 256 % 256 = ((Dig.byte d 2).toNat : Int) := by rw [Dig.byte_toNat]; omega
theorem byteV3 (d : UInt64) : (d.toNat : Int) / 256 / 256 / 256 % 256 = ((Dig.byte d 3).toNat : Int) := by rw [Dig.byte_toNat]; omega
theorem byteV4 (d : UInt64) : (d.toNat : Int) / 256 / 256 / 256 / 256 % 256 = ((Dig.byte d 4).toNat : Int) := by rw [Dig.byte_toNat]; omega
theorem byteV5 (d : UInt64) : (d.toNat : Int) / 256 / 256 / 256 / 256 / 256 % 256 = ((Dig.byte d 5).toNat : Int) := by rw [Dig.byte_toNat]; omega
theorem byteV6 (d : UInt64) : (d.toNat : Int) / 256 / 256 / 256 / 256 / 256 / 256 % 256 = ((Dig.byte d 6).toNat : Int) := by rw [Dig.byte_toNat]; omega
theorem byteV7 (d : UInt64) : (d.toNat : Int) / 256 / 256 / 256 / 256 / 256 / 256 / 256 % 256 = ((Dig.byte d 7).toNat : Int) := by rw [Dig.byte_toNat]; omega
set_option maxHeartbeats 1000000 in
theorem bytes_any (d : UInt64) (w : World) : Calls Tryd.prog 95 #[.int .u64 d.toNat] w fun e w' => e = .returned (.agg #[.int .u8 (Dig.byte d 7).toNat, .int .u8 (Dig.byte d 6).toNat, .int .u8 (Dig.byte d 5).toNat, .int .u8 (Dig.byte d 4).toNat, .int .u8 (Dig.byte d 3).toNat, .int .u8 (Dig.byte d 2).toNat, .int .u8 (Dig.byte d 1).toNat, .int .u8 (Dig.byte d 0).toNat]) ∧ Below w.heap.size w w' := by
  go_enter Tryd.func95, Tryd.ntmps95
  go_wp2
  go_rounds 9
  simp only [byteV0, byteV1, byteV2, byteV3, byteV4, byteV5, byteV6, byteV7]
  exact bodyPost_ret (v := .agg #[.int .u8 (Dig.byte d 7).toNat, .int .u8 (Dig.byte d 6).toNat, .int .u8 (Dig.byte d 5).toNat, .int .u8 (Dig.byte d 4).toNat, .int .u8 (Dig.byte d 3).toNat, .int .u8 (Dig.byte d 2).toNat, .int .u8 (Dig.byte d 1).toNat, .int .u8 (Dig.byte d 0).toNat]) (by simp [results, Tryd.results95, go_sem]) rfl ⟨rfl, ((Below.refl _ _).alloc (Nat.le_refl _) _).alloc (by simp) _⟩
theorem be8_back (W : World) (B : Nat) (d : UInt64) (h0 : W.cell? ⟨B, 0, none⟩ = some (.int .u8 (Dig.byte d 7).toNat)) (h1 : W.cell? ⟨B, 1, none⟩ = some (.int .u8 (Dig.byte d 6).toNat)) (h2 : W.cell? ⟨B, 2, none⟩ = some (.int .u8 (Dig.byte d 5).toNat)) (h3 : W.cell? ⟨B, 3, none⟩ = some (.int .u8 (Dig.byte d 4).toNat)) (h4 : W.cell? ⟨B, 4, none⟩ = some (.int .u8 (Dig.byte d 3).toNat)) (h5 : W.cell? ⟨B, 5, none⟩ = some (.int .u8 (Dig.byte d 2).toNat)) (h6 : W.cell? ⟨B, 6, none⟩ = some (.int .u8 (Dig.byte d 1).toNat)) (h7 : W.cell? ⟨B, 7, none⟩ = some (.int .u8 (Dig.byte d 0).toNat)) :
    (convert 114 9 (.slice (some ⟨B, 0, none⟩) 8 8)).run Tryd.prog W = .ok (.string ⟨(Dig.be8 d).toArray⟩) W := by
  refine run_convert_bytes_back (P := Tryd.prog) W 114 9 5 ⟨B, 0, none⟩ 8 (Dig.be8 d) Tryd.underlying114 Tryd.underlying5 Tryd.underlying9 ?_
  intro j hj
  have hj : j < 8 := hj
  match j, hj with
  | 0, _ => exact h0
  | 1, _ => exact h1
  | 2, _ => exact h2
  | 3, _ => exact h3
  | 4, _ => exact h4
  | 5, _ => exact h5
  | 6, _ => exact h6
  | 7, _ => exact h7
theorem be8_len (d : UInt64) : (Dig.be8 d).length = 8 := rfl
attribute [local go_sem] be8_len
theorem pair_size (a b : UInt64) : ((⟨#[1]⟩ : ByteArray) ++ ⟨(Dig.be8 a).toArray⟩ ++ ⟨(Dig.be8 b).toArray⟩).size ≤ maxLen := by
  simp [be8_len, maxLen, ByteArray.size]
theorem pair_eq (a b : UInt64) : Dig.sum ((⟨#[1]⟩ : ByteArray) ++ ⟨(Dig.be8 a).toArray⟩ ++ ⟨(Dig.be8 b).toArray⟩).data.toList = Dig.pair a b := by
  simp [Dig.pair, ByteArray.data_append]
set_option maxHeartbeats 1000000 in
theorem pair_any (a b : UInt64) (w : World) : Calls Tryd.prog 79 #[.int .u64 a.toNat, .int .u64 b.toNat] w fun e w' => e = .returned (.int .u64 (Dig.pair a b).toNat) ∧ Below w.heap.size w w' := by
  go_enter Tryd.func79, Tryd.ntmps79
  go_wp2_with fail
  refine (bytes_any _ _).mono ?_
  rintro e w1 ⟨rfl, hb1⟩
  go_wp2_with fail
  refine (bytes_any _ _).mono ?_
  rintro e w2 ⟨rfl, hb2⟩
  go_wp2_with fail
  have k1 := fun n => be8_back (((w2.alloc (.cells #[.int .u8 (Dig.byte a 7).toNat, .int .u8 (Dig.byte a 6).toNat, .int .u8 (Dig.byte a 5).toNat, .int .u8 (Dig.byte a 4).toNat, .int .u8 (Dig.byte a 3).toNat, .int .u8 (Dig.byte a 2).toNat, .int .u8 (Dig.byte a 1).toNat, .int .u8 (Dig.byte a 0).toNat] 152)).alloc (.cells #[.int .u8 (Dig.byte b 7).toNat, .int .u8 (Dig.byte b 6).toNat, .int .u8 (Dig.byte b 5).toNat, .int .u8 (Dig.byte b 4).toNat, .int .u8 (Dig.byte b 3).toNat, .int .u8 (Dig.byte b 2).toNat, .int .u8 (Dig.byte b 1).toNat, .int .u8 (Dig.byte b 0).toNat] 152)).drewN n) w2.heap.size a (by simp [go_sem]) (by simp [go_sem]) (by simp [go_sem]) (by simp [go_sem]) (by simp [go_sem]) (by simp [go_sem]) (by simp [go_sem]) (by simp [go_sem])
  have k2 := fun n => be8_back (((w2.alloc (.cells #[.int .u8 (Dig.byte a 7).toNat, .int .u8 (Dig.byte a 6).toNat, .int .u8 (Dig.byte a 5).toNat, .int .u8 (Dig.byte a 4).toNat, .int .u8 (Dig.byte a 3).toNat, .int .u8 (Dig.byte a 2).toNat, .int .u8 (Dig.byte a 1).toNat, .int .u8 (Dig.byte a 0).toNat] 152)).alloc (.cells #[.int .u8 (Dig.byte b 7).toNat, .int .u8 (Dig.byte b 6).toNat, .int .u8 (Dig.byte b 5).toNat, .int .u8 (Dig.byte b 4).toNat, .int .u8 (Dig.byte b 3).toNat, .int .u8 (Dig.byte b 2).toNat, .int .u8 (Dig.byte b 1).toNat, .int .u8 (Dig.byte b 0).toNat] 152)).drewN n) (w2.heap.size + 1) b (by simp [go_sem]) (by simp [go_sem]) (by simp [go_sem]) (by simp [go_sem]) (by simp [go_sem]) (by simp [go_sem]) (by simp [go_sem]) (by simp [go_sem])
  go_quiet ((go_at_call 37; exact quiet_left (sum_any _ _ (pair_size a b))))
  go_wp2
  go_ret
  rw [pair_eq]
  refine ⟨rfl, below_drewN (Below.alloc (Below.alloc (hb1.trans (hb2.mono hb1.size)) ?_ _) ?_ _) _⟩
  · have := hb1.size; have := hb2.size; omega
  · have := hb1.size; have := hb2.size; simp; omega
end Go.Proofs.YtgkilaafeconlaaDoor
