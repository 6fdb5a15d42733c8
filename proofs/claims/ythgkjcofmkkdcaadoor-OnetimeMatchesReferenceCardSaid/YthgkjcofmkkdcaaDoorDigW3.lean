/- The walks of package digest, third part: Text. -/
import Derived.Test.YthgkjcofmkkdcaaDoorDigW2
namespace Go.Proofs.YthgkjcofmkkdcaaDoor
open Go.RowKit
/-- The table of the hexadecimal digits lies in the world. -/
def hexCells : Array Value := #[.int .u8 48, .int .u8 49, .int .u8 50, .int .u8 51, .int .u8 52, .int .u8 53, .int .u8 54, .int .u8 55, .int .u8 56, .int .u8 57, .int .u8 97, .int .u8 98, .int .u8 99, .int .u8 100, .int .u8 101, .int .u8 102]
def Tab (w : World) : Prop := ∃ t fr, w.heap[0]? = some (.cells hexCells t fr)
theorem lt16 (j : Nat) (h : j < 16) : j = 0 ∨ j = 1 ∨ j = 2 ∨ j = 3 ∨ j = 4 ∨ j = 5 ∨ j = 6 ∨ j = 7 ∨ j = 8 ∨ j = 9 ∨ j = 10 ∨ j = 11 ∨ j = 12 ∨ j = 13 ∨ j = 14 ∨ j = 15 := by omega
theorem hexCells_at (n : Nat) (h : n < 16) : hexCells[n]? = some (.int .u8 (Dig.hexd n).toNat) := by
  rcases lt16 n h with rfl | rfl | rfl | rfl | rfl | rfl | rfl | rfl | rfl | rfl | rfl | rfl | rfl | rfl | rfl | rfl <;> rfl
theorem Tab.cell {w : World} (h : Tab w) (n : Nat) : w.cell? ⟨0, n % 16, none⟩ = some (.int .u8 (Dig.hexd (n % 16)).toNat) := by
  obtain ⟨t, fr, h⟩ := h
  simp only [World.cell?, h]
  exact hexCells_at (n % 16) (by omega)
theorem Tab.size {w : World} (h : Tab w) : 0 < w.heap.size := by
  obtain ⟨t, fr, h⟩ := h
  exact (Array.getElem?_eq_some_iff.1 h).1
theorem Tab.below {w w' : World} (h : Tab w) (hb : Below w.heap.size w w') : Tab w' := by
  obtain ⟨t, fr, h'⟩ := h
  exact ⟨t, fr, (hb.block _ (Array.getElem?_eq_some_iff.1 h').1).trans h'⟩
theorem u64_and_15 (x : Int) : bits .and .u64 x (15 : Int) = x % 16 := by
  have h2 : (BitVec.ofInt 64 (15 : Int)).toNat = 15 := by decide
  show IntKind.u64.wrap ((BitVec.ofInt 64 x &&& BitVec.ofInt 64 15).toNat : Int) = _
  rw [BitVec.toNat_and, h2, nat_mask4, IntKind.wrap_u64, BitVec.toNat_ofInt]
  omega
theorem text_back (W : World) (B : Nat) (d : UInt64) (h0 : W.cell? ⟨B, 0, none⟩ = some (.int .u8 (Dig.dig d 15).toNat)) (h1 : W.cell? ⟨B, 1, none⟩ = some (.int .u8 (Dig.dig d 14).toNat)) (h2 : W.cell? ⟨B, 2, none⟩ = some (.int .u8 (Dig.dig d 13).toNat)) (h3 : W.cell? ⟨B, 3, none⟩ = some (.int .u8 (Dig.dig d 12).toNat)) (h4 : W.cell? ⟨B, 4, none⟩ = some (.int .u8 (Dig.dig d 11).toNat)) (h5 : W.cell? ⟨B, 5, none⟩ = some (.int .u8 (Dig.dig d 10).toNat)) (h6 : W.cell? ⟨B, 6, none⟩ = some (.int .u8 (Dig.dig d 9).toNat)) (h7 : W.cell? ⟨B, 7, none⟩ = some (.int .u8 (Dig.dig d 8).toNat)) (h8 : W.cell? ⟨B, 8, none⟩ = some (.int .u8 (Dig.dig d 7).toNat)) (h9 : W.cell? ⟨B, 9, none⟩ = some (.int .u8 (Dig.dig d 6).toNat)) (h10 : W.cell? ⟨B, 10, none⟩ = some (.int .u8 (Dig.dig d 5).toNat)) (h11 : W.cell? ⟨B, 11, none⟩ = some (.int .u8 (Dig.dig d 4).toNat)) (h12 : W.cell? ⟨B, 12, none⟩ = some (.int .u8 (Dig.dig d 3).toNat)) (h13 : W.cell? ⟨B, 13, none⟩ = some (.int .u8 (Dig.dig d 2).toNat)) (h14 : W.cell? ⟨B, 14, none⟩ = some (.int .u8 (Dig.dig d 1).toNat)) (h15 : W.cell? ⟨B, 15, none⟩ = some (.int .u8 (Dig.dig d 0).toNat)) :
    (convert 55 9 (.slice (some ⟨B, 0, none⟩) 16 16)).run Tryd.prog W = .ok (.string ⟨(Dig.text d).toArray⟩) W := by
  refine run_convert_bytes_back (P := Tryd.prog) W 55 9 5 ⟨B, 0, none⟩ 16 (Dig.text d) Tryd.underlying55 Tryd.underlying5 Tryd.underlying9 ?_
  intro j hj
  have hj : j < 16 := hj
  rcases (show j = 0 ∨ j = 1 ∨ j = 2 ∨ j = 3 ∨ j = 4 ∨ j = 5 ∨ j = 6 ∨ j = 7 ∨ j = 8 ∨ j = 9 ∨ j = 10 ∨ j = 11 ∨ j = 12 ∨ j = 13 ∨ j = 14 ∨ j = 15 by omega) with rfl | rfl | rfl | rfl | rfl | rfl | rfl | rfl | rfl | rfl | rfl | rfl | rfl | rfl | rfl | rfl
  · exact h0
  · exact h1
  · exact h2
  · exact h3
  · exact h4
  · exact h5
  · exact h6
  · exact h7
  · exact h8
  · exact h9
  · exact h10
  · exact h11
  · exact h12
  · exact h13
  · exact h14
  · exact h15
theorem dig_0 (d : UInt64) : Dig.hexd (d.toNat % 16) = Dig.dig d 0 := by unfold Dig.dig; exact congrArg Dig.hexd (by omega)
theorem dig_1 (d : UInt64) : Dig.hexd (d.toNat / 16 % 16) = Dig.dig d 1 := by unfold Dig.dig; exact congrArg Dig.hexd (by omega)
theorem dig_2 (d : UInt64) : Dig.hexd (d.toNat / 16 / 16 % 16) = Dig.dig d 2 := by unfold Dig.dig; exact congrArg Dig.hexd (by omega)
theorem dig_3 (d : UInt64) : Dig.hexd (d.toNat / 16 / 16 / 16 % 16) = Dig.dig d 3 := by unfold Dig.dig; exact congrArg Dig.hexd (by omega)
theorem dig_4 (d : UInt64) : Dig.hexd (d.toNat / 16 / 16 / 16 / 16 % 16) = Dig.dig d 4 := by unfold Dig.dig; exact congrArg Dig.hexd (by omega)
theorem dig_5 (d : UInt64) : Dig.hexd (d.toNat / 16 / 16 / 16 / 16 / 16 % 16) = Dig.dig d 5 := by unfold Dig.dig; exact congrArg Dig.hexd (by omega)
theorem dig_6 (d : UInt64) : Dig.hexd (d.toNat / 16 / 16 / 16 / 16 / 16 / 16 % 16) = Dig.dig d 6 := by unfold Dig.dig; exact congrArg Dig.hexd (by omega)
theorem dig_7 (d : UInt64) : Dig.hexd (d.toNat / 16 / 16 / 16 / 16 / 16 / 16 / 16 % 16) = Dig.dig d 7 := by unfold Dig.dig; exact congrArg Dig.hexd (by omega)
theorem dig_8 (d : UInt64) : Dig.hexd (d.toNat / 16 / 16 / 16 / 16 / 16 / 16 / 16 / 16 % 16) = Dig.dig d 8 := by unfold Dig.dig; exact congrArg Dig.hexd (by omega)
theorem dig_9 (d : UInt64) : Dig.hexd (d.toNat / 16 / 16 / 16 / 16 / 16 / 16 / 16 / 16 / 16 % 16) = Dig.dig d 9 := by unfold Dig.dig; exact congrArg Dig.hexd (by omega)
theorem dig_10 (d : UInt64) : Dig.hexd (d.toNat / 16 / 16 / 16 / 16 / 16 / 16 / 16 / 16 / 16 / 16 % 16) = Dig.dig d 10 := by unfold Dig.dig; exact congrArg Dig.hexd (by omega)
theorem dig_11 (d : UInt64) : Dig.hexd (d.toNat / 16 / 16 / 16 / 16 / 16 / 16 / 16 / 16 / 16 / 16 / 16 % 16) = Dig.dig d 11 := by unfold Dig.dig; exact congrArg Dig.hexd (by omega)
theorem dig_12 (d : UInt64) : Dig.hexd (d.toNat / 16 / 16 / 16 / 16 / 16 / 16 / 16 / 16 / 16 / 16 / 16 / 16 % 16) = Dig.dig d 12 := by unfold Dig.dig; exact congrArg Dig.hexd (by omega)
theorem dig_13 (d : UInt64) : Dig.hexd (d.toNat / 16 / 16 / 16 / 16 / 16 / 16 / 16 / 16 / 16 / 16 / 16 / 16 / 16 % 16) = Dig.dig d 13 := by unfold Dig.dig; exact congrArg Dig.hexd (by omega)
theorem dig_14 (d : UInt64) : Dig.hexd (d.toNat / 16 / 16 / 16 / 16 / 16 / 16 / 16 / 16 / 16 / 16 / 16 / 16 / 16 / 16 % 16) = Dig.dig d 14 := by unfold Dig.dig; exact congrArg Dig.hexd (by omega)
theorem dig_15 (d : UInt64) : Dig.hexd (d.toNat / 16 / 16 / 16 / 16 / 16 / 16 / 16 / 16 / 16 / 16 / 16 / 16 / 16 / 16 / 16 % 16) = Dig.dig d 15 := by unfold Dig.dig; exact congrArg Dig.hexd (by omega)
attribute [local go_sem] u64_and_15
set_option maxHeartbeats 2000000 in
theorem text_any (d : UInt64) (w : World) (hT : Tab w) : Calls Tryd.prog 48 #[.int .u64 d.toNat] w fun e w' => e = .returned (.string ⟨(Dig.text d).toArray⟩) ∧ Below w.heap.size w w' := by
  have h0 := hT.size
  have ht : ∀ n : Nat, w.cell? ⟨0, n % 16, none⟩ = some (.int .u8 (Dig.hexd (n % 16)).toNat) := hT.cell
  have hne : ¬ (0 = w.heap.size) := by omega
  have hne' : ¬ (w.heap.size = 0) := by omega
  clear hT
  have k := text_back (w.alloc (.cells #[.int .u8 (Dig.hexd (d.toNat / 16 / 16 / 16 / 16 / 16 / 16 / 16 / 16 / 16 / 16 / 16 / 16 / 16 / 16 / 16 % 16)).toNat, .int .u8 (Dig.hexd (d.toNat / 16 / 16 / 16 / 16 / 16 / 16 / 16 / 16 / 16 / 16 / 16 / 16 / 16 / 16 % 16)).toNat, .int .u8 (Dig.hexd (d.toNat / 16 / 16 / 16 / 16 / 16 / 16 / 16 / 16 / 16 / 16 / 16 / 16 / 16 % 16)).toNat, .int .u8 (Dig.hexd (d.toNat / 16 / 16 / 16 / 16 / 16 / 16 / 16 / 16 / 16 / 16 / 16 / 16 % 16)).toNat, .int .u8 (Dig.hexd (d.toNat / 16 / 16 / 16 / 16 / 16 / 16 / 16 / 16 / 16 / 16 / 16 % 16)).toNat, .int .u8 (Dig.hexd (d.toNat / 16 / 16 / 16 / 16 / 16 / 16 / 16 / 16 / 16 / 16 % 16)).toNat, .int .u8 (Dig.hexd (d.toNat / 16 / 16 / 16 / 16 / 16 / 16 / 16 / 16 / 16 % 16)).toNat, .int .u8 (Dig.hexd (d.toNat / 16 / 16 / 16 / 16 / 16 / 16 / 16 / 16 % 16)).toNat, .int .u8 (Dig.hexd (d.toNat / 16 / 16 / 16 / 16 / 16 / 16 / 16 % 16)).toNat, .int .u8 (Dig.hexd (d.toNat / 16 / 16 / 16 / 16 / 16 / 16 % 16)).toNat, .int .u8 (Dig.hexd (d.toNat / 16 / 16 / 16 / 16 / 16 % 16)).toNat, .int .u8 (Dig.hexd (d.toNat / 16 / 16 / 16 / 16 % 16)).toNat, .int .u8 (Dig.hexd (d.toNat / 16 / 16 / 16 % 16)).toNat, .int .u8 (Dig.hexd (d.toNat / 16 / 16 % 16)).toNat, .int .u8 (Dig.hexd (d.toNat / 16 % 16)).toNat, .int .u8 (Dig.hexd (d.toNat % 16)).toNat] 103)) w.heap.size d (by simp [go_sem, dig_15]) (by simp [go_sem, dig_14]) (by simp [go_sem, dig_13]) (by simp [go_sem, dig_12]) (by simp [go_sem, dig_11]) (by simp [go_sem, dig_10]) (by simp [go_sem, dig_9]) (by simp [go_sem, dig_8]) (by simp [go_sem, dig_7]) (by simp [go_sem, dig_6]) (by simp [go_sem, dig_5]) (by simp [go_sem, dig_4]) (by simp [go_sem, dig_3]) (by simp [go_sem, dig_2]) (by simp [go_sem, dig_1]) (by simp [go_sem, dig_0])
  go_enter Tryd.func48, Tryd.ntmps48
  go_wp2
  go_rounds 17
  go_ret
  exact ⟨rfl, (Below.refl _ _).alloc (Nat.le_refl _) _⟩
end Go.Proofs.YthgkjcofmkkdcaaDoor
