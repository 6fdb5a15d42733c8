/- The walks of package merkle, first part: leafText, nodeText, check. -/
import Derived.Test.YtgkilaafeconlaaDoorKit
import Derived.Test.YtgkilaafeconlaaDoorMkMath
namespace Go.Proofs.YtgkilaafeconlaaDoor
open Go.RowKit
set_option linter.unusedVariables false
theorem leafText_any (s : ByteArray) (w : World) (hs : s.size ≤ 9223372036854775806) : Calls Tryd.prog 78 #[.string s] w fun e w' => e = .returned (.string ⟨(0 :: s.data.toList).toArray⟩) ∧ w = w' := by
  have h1 : ¬ (9223372036854775807 < 1 + s.size) := by omega
  go_enter Tryd.func78, Tryd.ntmps78
  go_wp2
  go_ret
  refine ⟨?_, rfl⟩
  have e : (⟨#[0]⟩ : ByteArray) ++ s = ⟨(0 :: s.data.toList).toArray⟩ := by apply ByteArray.ext; simp [ByteArray.data_append]
  rw [e]
  rfl
theorem node_back (W : World) (B : Nat) (a b : UInt64) (h0 : W.cell? ⟨B, 0, none⟩ = some (.int .u8 1)) (h1 : W.cell? ⟨B, 1, none⟩ = some (.int .u8 (Dig.byte a 7).toNat)) (h2 : W.cell? ⟨B, 2, none⟩ = some (.int .u8 (Dig.byte a 6).toNat)) (h3 : W.cell? ⟨B, 3, none⟩ = some (.int .u8 (Dig.byte a 5).toNat)) (h4 : W.cell? ⟨B, 4, none⟩ = some (.int .u8 (Dig.byte a 4).toNat)) (h5 : W.cell? ⟨B, 5, none⟩ = some (.int .u8 (Dig.byte a 3).toNat)) (h6 : W.cell? ⟨B, 6, none⟩ = some (.int .u8 (Dig.byte a 2).toNat)) (h7 : W.cell? ⟨B, 7, none⟩ = some (.int .u8 (Dig.byte a 1).toNat)) (h8 : W.cell? ⟨B, 8, none⟩ = some (.int .u8 (Dig.byte a 0).toNat)) (h9 : W.cell? ⟨B, 9, none⟩ = some (.int .u8 (Dig.byte b 7).toNat)) (h10 : W.cell? ⟨B, 10, none⟩ = some (.int .u8 (Dig.byte b 6).toNat)) (h11 : W.cell? ⟨B, 11, none⟩ = some (.int .u8 (Dig.byte b 5).toNat)) (h12 : W.cell? ⟨B, 12, none⟩ = some (.int .u8 (Dig.byte b 4).toNat)) (h13 : W.cell? ⟨B, 13, none⟩ = some (.int .u8 (Dig.byte b 3).toNat)) (h14 : W.cell? ⟨B, 14, none⟩ = some (.int .u8 (Dig.byte b 2).toNat)) (h15 : W.cell? ⟨B, 15, none⟩ = some (.int .u8 (Dig.byte b 1).toNat)) (h16 : W.cell? ⟨B, 16, none⟩ = some (.int .u8 (Dig.byte b 0).toNat)) :
    (convert 114 9 (.slice (some ⟨B, 0, none⟩) 17 17)).run Tryd.prog W = .ok (.string ⟨(Mk.nodeT a b).toArray⟩) W := by
  refine run_convert_bytes_back (P := Tryd.prog) W 114 9 5 ⟨B, 0, none⟩ 17 (Mk.nodeT a b) Tryd.underlying114 Tryd.underlying5 Tryd.underlying9 ?_
  intro j hj
  have hj : j < 17 := hj
  rcases (show j = 0 ∨ j = 1 ∨ j = 2 ∨ j = 3 ∨ j = 4 ∨ j = 5 ∨ j = 6 ∨ j = 7 ∨ j = 8 ∨ j = 9 ∨ j = 10 ∨ j = 11 ∨ j = 12 ∨ j = 13 ∨ j = 14 ∨ j = 15 ∨ j = 16 by omega) with rfl | rfl | rfl | rfl | rfl | rfl | rfl | rfl | rfl | rfl | rfl | rfl | rfl | rfl | rfl | rfl | rfl
  · exact h0
  · exact h1
  · exact h2
  · exact h3
  · exact h4
  · exact h5
  · exact h6
  · exact h7
  · exact h8
  · exact h9
  · exact h10
  · exact h11
  · exact h12
  · exact h13
  · exact h14
  · exact h15
  · exact h16
theorem byteD1 (d : UInt64) : (d.toNat : Int) / (256 : Int) % 256 = ((Dig.byte d 1).toNat : Int) := by rw [Dig.byte_toNat]; omega
theorem byteD2 (d : UInt64) : (d.toNat : Int) / (65536 : Int) % 256 = ((Dig.byte d 2).toNat : Int) := by rw [Dig.byte_toNat]; omega
theorem byteD3 (d : UInt64) : (d.toNat : Int) / (16777216 : Int) % 256 = ((Dig.byte d 3).toNat : Int) := by rw [Dig.byte_toNat]; omega
theorem byteD4 (d : UInt64) : (d.toNat : Int) / (4294967296 : Int) % 256 = ((Dig.byte d 4).toNat : Int) := by rw [Dig.byte_toNat]; omega
theorem byteD5 (d : UInt64) : (d.toNat : Int) / (1099511627776 : Int) % 256 = ((Dig.byte d 5).toNat : Int) := by rw [Dig.byte_toNat]; omega
theorem byteD6 (d : UInt64) : (d.toNat : Int) / (281474976710656 : Int) % 256 = ((Dig.byte d 6).toNat : Int) := by rw [Dig.byte_toNat]; omega
theorem byteD7 (d : UInt64) : (d.toNat : Int) / (72057594037927936 : Int) % 256 = ((Dig.byte d 7).toNat : Int) := by rw [Dig.byte_toNat]; omega
def checkE (n : Nat) : Int := if n = 0 then 1 else if 1024 < n then 2 else 0
theorem check_any (A : Option Addr) (n c : Nat) (w : World) (hn : n ≤ maxLen) : Calls Tryd.prog 63 #[.slice A n c] w fun e w' => e = .returned (.int .i64 (checkE n)) ∧ w = w' := by
  unfold maxLen at hn
  by_cases h0 : n = 0
  · have h1 : ((n : Int) == 0) = true := by simp [h0]
    have h2 : checkE n = 1 := by unfold checkE; rw [if_pos h0]
    rw [h2]
    go_enter Tryd.func63, Tryd.ntmps63
    go_wp2
    go_ret
    exact ⟨rfl, rfl⟩
  · have h1 : ((n : Int) == 0) = false := by simp; omega
    by_cases h3 : 1024 < n
    · have h2 : checkE n = 2 := by unfold checkE; rw [if_neg h0, if_pos h3]
      rw [h2]
      go_enter Tryd.func63, Tryd.ntmps63
      go_wp2
      go_ret
      exact ⟨rfl, rfl⟩
    · have h2 : checkE n = 0 := by unfold checkE; rw [if_neg h0, if_neg h3]
      rw [h2]
      go_enter Tryd.func63, Tryd.ntmps63
      go_wp2
      go_ret
      exact ⟨rfl, rfl⟩
end Go.Proofs.YtgkilaafeconlaaDoor
