/- The walks of package digest, third part: Text. The walks of package onetime: chain, walk. strings.Builder at this program: copyCheck, WriteString, String (the shelf's walks, turned: the closure of WriteString is not laid here). The walks of package onetime: secret, digitsOf. -/
import Derived.Test.YtpmakhfpdidleaaDoorQ02
import Derived.Test.YtpmakhfpdidleaaDoorQ09
import Derived.Test.YtpmakhfpdidleaaDoorQ01
import Derived.StillTailTactics
import Derived.OwnWalkIn
import Derived.TacticsInMore
import Derived.LoopNIn
import Derived.LoopIn
import Derived.RangeFuncBox
import Derived.RangeFuncLeaves
import Derived.Shelf.Abstract
import Derived.IntWalk
import Derived.Below
import Derived.Lib.Hide
import Derived.Lib.Builder
import Derived.Shelf.Strings.Builder1
import Derived.BigCall
namespace Go.Proofs.YtpmakhfpdidleaaDoor
open Go.RowKit
/-- The table of the hexadecimal digits lies in the world. -/
def hexCells : Array Value := #[.int .u8 48, .int .u8 49, .int .u8 50, .int .u8 51, .int .u8 52, .int .u8 53, .int .u8 54, .int .u8 55, .int .u8 56, .int .u8 57, .int .u8 97, .int .u8 98, .int .u8 99, .int .u8 100, .int .u8 101, .int .u8 102]
def Tab (w : World) : Prop := ∃ t fr, w.heap[1]? = some (.cells hexCells t fr)
theorem lt16 (j : Nat) (h : j < 16) : j = 0 ∨ j = 1 ∨ j = 2 ∨ j = 3 ∨ j = 4 ∨ j = 5 ∨ j = 6 ∨ j = 7 ∨ j = 8 ∨ j = 9 ∨ j = 10 ∨ j = 11 ∨ j = 12 ∨ j = 13 ∨ j = 14 ∨ j = 15 := by omega
theorem hexCells_at (n : Nat) (h : n < 16) : hexCells[n]? = some (.int .u8 (Dig.hexd n).toNat) := by
  rcases lt16 n h with rfl | rfl | rfl | rfl | rfl | rfl | rfl | rfl | rfl | rfl | rfl | rfl | rfl | rfl | rfl | rfl <;> rfl
theorem Tab.cell {w : World} (h : Tab w) (n : Nat) : w.cell? ⟨1, n % 16, none⟩ = some (.int .u8 (Dig.hexd (n % 16)).toNat) := by
  obtain ⟨t, fr, h⟩ := h
  simp only [World.cell?, h]
  exact hexCells_at (n % 16) (by omega)
theorem Tab.size {w : World} (h : Tab w) : 1 < w.heap.size := by
  obtain ⟨t, fr, h⟩ := h
  exact (Array.getElem?_eq_some_iff.1 h).1
theorem Tab.below {w w' : World} (h : Tab w) (hb : Below w.heap.size w w') : Tab w' := by
  obtain ⟨t, fr, h'⟩ := h
  exact ⟨t, fr, (hb.block _ (Array.getElem?_eq_some_iff.1 h').1).trans h'⟩
theorem u64_and_15 (x : Int) : bits .and .u64 x (15 : Int) = x % 16 := by
  have h2 : (BitVec.ofInt 64 (15 : Int)).toNat = 15 := by decide
  show IntKind.u64.wrap ((BitVec.ofInt 64 x &&& BitVec.ofInt 64 15).toNat : Int) = _
  rw [BitVec.toNat_and, h2, nat_mask4, IntKind.wrap_u64, BitVec.toNat_ofInt]
  omega
theorem text_back (W : World) (B : Nat) (d : UInt64) (h0 : W.cell? ⟨B, 0, none⟩ = some (.int .u8 (Dig.dig d 15).toNat)) (h1 : W.cell? ⟨B, 1, none⟩ = some (.int .u8 (Dig.dig d 14).toNat)) (h2 : W.cell? ⟨B, 2, none⟩ = some (.int .u8 (Dig.dig d 13).toNat)) (h3 : W.cell? ⟨B, 3, none⟩ = some (.int .u8 (Dig.dig d 12).toNat)) (h4 : W.cell? ⟨B, 4, none⟩ = some (.int .u8 (Dig.dig d 11).toNat)) (h5 : W.cell? ⟨B, 5, none⟩ = some (.int .u8 (Dig.dig d 10).toNat)) (h6 : W.cell? ⟨B, 6, none⟩ = some (.int .u8 (Dig.dig d 9).toNat)) (h7 : W.cell? ⟨B, 7, none⟩ = some (.int .u8 (Dig.dig d 8).toNat)) (h8 : W.cell? ⟨B, 8, none⟩ = some (.int .u8 (Dig.dig d 7).toNat)) (h9 : W.cell? ⟨B, 9, none⟩ = some (.int .u8 (Dig.dig d 6).toNat)) (h10 : W.cell? ⟨B, 10, none⟩ = some (.int .u8 (Dig.dig d 5).toNat)) (h11 : W.cell? ⟨B, 11, none⟩ = some (.int .u8 (Dig.dig d 4).toNat)) (h12 : W.cell? ⟨B, 12, none⟩ = some (.int .u8 (Dig.dig d 3).toNat)) (h13 : W.cell? ⟨B, 13, none⟩ = some (.int .u8 (Dig.dig d 2).toNat)) (h14 : W.cell? ⟨B, 14, none⟩ = some (.int .u8 (Dig.dig d 1).toNat)) (h15 : W.cell? ⟨B, 15, none⟩ = some (.int .u8 (Dig.dig d 0).toNat)) :
    (convert 97 9 (.slice (some ⟨B, 0, none⟩) 16 16)).run Tryd.prog W = .ok (.string ⟨(Dig.text d).toArray⟩) W := by
  refine run_convert_bytes_back (P := Tryd.prog) W 97 9 5 ⟨B, 0, none⟩ 16 (Dig.text d) Tryd.underlying97 Tryd.underlying5 Tryd.underlying9 ?_
  intro j hj
  have hj : j < 16 := hj
  rcases (show j = 0 ∨ j = 1 ∨ j = 2 ∨ j = 3 ∨ j = 4 ∨ j = 5 ∨ j = 6 ∨ j = 7 ∨ j = 8 ∨ j = 9 ∨ j = 10 ∨ j = 11 ∨ j = 12 ∨ j = 13 ∨ j = 14 ∨ j = 15 by omega) with rfl | rfl | rfl | rfl | rfl | rfl | rfl | rfl | rfl | rfl | rfl | rfl | rfl | rfl | rfl | rfl
  · exact h0
  · exact h1
  · exact h2
  · exact h3
  · exact h4
  · exact h5
  · exact h6
  · exact h7
  · exact h8
  · exact h9
  · exact h10
  · exact h11
  · exact h12
  · exact h13
  · exact h14
  · exact h15
theorem dig_0 (d : UInt64) : Dig.hexd (d.toNat % 16) = Dig.dig d 0 := by unfold Dig.dig; exact congrArg Dig.hexd (by omega)
theorem dig_1 (d : UInt64) : Dig.hexd (d.toNat / 16 % 16) = Dig.dig d 1 := by unfold Dig.dig; exact congrArg Dig.hexd (by omega)
theorem dig_2 (d : UInt64) : Dig.hexd (d.toNat / 16 / 16 % 16) = Dig.dig d 2 := by unfold Dig.dig; exact congrArg Dig.hexd (by omega)
theorem dig_3 (d : UInt64) : Dig.hexd (d.toNat / 16 / 16 / 16 % 16) = Dig.dig d 3 := by unfold Dig.dig; exact congrArg Dig.hexd (by omega)
theorem dig_4 (d : UInt64) : Dig.hexd (d.toNat / 16 / 16 / 16 / 16 % 16) = Dig.dig d 4 := by unfold Dig.dig; exact congrArg Dig.hexd (by omega)
theorem dig_5 (d : UInt64) : Dig.hexd (d.toNat / 16 / 16 / 16 / 16 / 16 % 16) = Dig.dig d 5 := by unfold Dig.dig; exact congrArg Dig.hexd (by omega)
theorem dig_6 (d : UInt64) : Dig.hexd (d.toNat / 16 / 16 / 16 / 16 / 16 / 16 % 16) = Dig.dig d 6 := by unfold Dig.dig; exact congrArg Dig.hexd (by omega)
theorem dig_7 (d : UInt64) : Dig.hexd (d.toNat / 16 / 16 / 16 / 16 / 16 / 16 / 16 % 16) = Dig.dig d 7 := by unfold Dig.dig; exact congrArg Dig.hexd (by omega)
theorem dig_8 (d : UInt64) : Dig.hexd (d.toNat / 16 / 16 / 16 / 16 / 16 / 16 / 16 / 16 % 16) = Dig.dig d 8 := by unfold Dig.dig; exact congrArg Dig.hexd (by omega)
theorem dig_9 (d : UInt64) : Dig.hexd (d.toNat / 16 / 16 / 16 / 16 / 16 / 16 / 16 / 16 / 16 % 16) = Dig.dig d 9 := by unfold Dig.dig; exact congrArg Dig.hexd (by omega)
theorem dig_10 (d : UInt64) : Dig.hexd (d.toNat / 16 / 16 / 16 / 16 / 16 / 16 / 16 / 16 / 16 / 16 % 16) = Dig.dig d 10 := by unfold Dig.dig; exact congrArg Dig.hexd (by omega)
theorem dig_11 (d : UInt64) : Dig.hexd (d.toNat / 16 / 16 / 16 / 16 / 16 / 16 / 16 / 16 / 16 / 16 / 16 % 16) = Dig.dig d 11 := by unfold Dig.dig; exact congrArg Dig.hexd (by omega)
theorem dig_12 (d : UInt64) : Dig.hexd (d.toNat / 16 / 16 / 16 / 16 / 16 / 16 / 16 / 16 / 16 / 16 / 16 / 16 % 16) = Dig.dig d 12 := by unfold Dig.dig; exact congrArg Dig.hexd (by omega)
theorem dig_13 (d : UInt64) : Dig.hexd (d.toNat / 16 / 16 / 16 / 16 / 16 / 16 / 16 / 16 / 16 / 16 / 16 / 16 / 16 % 16) = Dig.dig d 13 := by unfold Dig.dig; exact congrArg Dig.hexd (by omega)
theorem dig_14 (d : UInt64) : Dig.hexd (d.toNat / 16 / 16 / 16 / 16 / 16 / 16 / 16 / 16 / 16 / 16 / 16 / 16 / 16 / 16 % 16) = Dig.dig d 14 := by unfold Dig.dig; exact congrArg Dig.hexd (by omega)
theorem dig_15 (d : UInt64) : Dig.hexd (d.toNat / 16 / 16 / 16 / 16 / 16 / 16 / 16 / 16 / 16 / 16 / 16 / 16 / 16 / 16 / 16 % 16) = Dig.dig d 15 := by unfold Dig.dig; exact congrArg Dig.hexd (by omega)
attribute [local go_sem] u64_and_15
set_option maxHeartbeats 2000000 in
theorem text_any (d : UInt64) (w : World) (hT : Tab w) : Calls Tryd.prog 53 #[.int .u64 d.toNat] w fun e w' => e = .returned (.string ⟨(Dig.text d).toArray⟩) ∧ Below w.heap.size w w' := by
  have h0 := hT.size
  have ht : ∀ n : Nat, w.cell? ⟨1, n % 16, none⟩ = some (.int .u8 (Dig.hexd (n % 16)).toNat) := hT.cell
  have hne : ¬ (1 = w.heap.size) := by omega
  have hne' : ¬ (w.heap.size = 1) := by omega
  clear hT
  have k := text_back (w.alloc (.cells #[.int .u8 (Dig.hexd (d.toNat / 16 / 16 / 16 / 16 / 16 / 16 / 16 / 16 / 16 / 16 / 16 / 16 / 16 / 16 / 16 % 16)).toNat, .int .u8 (Dig.hexd (d.toNat / 16 / 16 / 16 / 16 / 16 / 16 / 16 / 16 / 16 / 16 / 16 / 16 / 16 / 16 % 16)).toNat, .int .u8 (Dig.hexd (d.toNat / 16 / 16 / 16 / 16 / 16 / 16 / 16 / 16 / 16 / 16 / 16 / 16 / 16 % 16)).toNat, .int .u8 (Dig.hexd (d.toNat / 16 / 16 / 16 / 16 / 16 / 16 / 16 / 16 / 16 / 16 / 16 / 16 % 16)).toNat, .int .u8 (Dig.hexd (d.toNat / 16 / 16 / 16 / 16 / 16 / 16 / 16 / 16 / 16 / 16 / 16 % 16)).toNat, .int .u8 (Dig.hexd (d.toNat / 16 / 16 / 16 / 16 / 16 / 16 / 16 / 16 / 16 / 16 % 16)).toNat, .int .u8 (Dig.hexd (d.toNat / 16 / 16 / 16 / 16 / 16 / 16 / 16 / 16 / 16 % 16)).toNat, .int .u8 (Dig.hexd (d.toNat / 16 / 16 / 16 / 16 / 16 / 16 / 16 / 16 % 16)).toNat, .int .u8 (Dig.hexd (d.toNat / 16 / 16 / 16 / 16 / 16 / 16 / 16 % 16)).toNat, .int .u8 (Dig.hexd (d.toNat / 16 / 16 / 16 / 16 / 16 / 16 % 16)).toNat, .int .u8 (Dig.hexd (d.toNat / 16 / 16 / 16 / 16 / 16 % 16)).toNat, .int .u8 (Dig.hexd (d.toNat / 16 / 16 / 16 / 16 % 16)).toNat, .int .u8 (Dig.hexd (d.toNat / 16 / 16 / 16 % 16)).toNat, .int .u8 (Dig.hexd (d.toNat / 16 / 16 % 16)).toNat, .int .u8 (Dig.hexd (d.toNat / 16 % 16)).toNat, .int .u8 (Dig.hexd (d.toNat % 16)).toNat] 121)) w.heap.size d (by simp [go_sem, dig_15]) (by simp [go_sem, dig_14]) (by simp [go_sem, dig_13]) (by simp [go_sem, dig_12]) (by simp [go_sem, dig_11]) (by simp [go_sem, dig_10]) (by simp [go_sem, dig_9]) (by simp [go_sem, dig_8]) (by simp [go_sem, dig_7]) (by simp [go_sem, dig_6]) (by simp [go_sem, dig_5]) (by simp [go_sem, dig_4]) (by simp [go_sem, dig_3]) (by simp [go_sem, dig_2]) (by simp [go_sem, dig_1]) (by simp [go_sem, dig_0])
  go_enter Tryd.func53, Tryd.ntmps53
  go_wp2
  go_rounds 17
  go_ret
  exact ⟨rfl, (Below.refl _ _).alloc (Nat.le_refl _) _⟩
end Go.Proofs.YtpmakhfpdidleaaDoor
namespace Go.Proofs.YtpmakhfpdidleaaDoor
open Go.RowKit Go.Shelf
set_option linter.unusedVariables false
attribute [local go_sem] Oper.semAt_some
def textB (d : UInt64) : ByteArray := ⟨(Dig.text d).toArray⟩
theorem text_b (d : UInt64) (w : World) (hT : Tab w) : Calls Tryd.prog 53 #[.int .u64 d.toNat] w fun e w' => e = .returned (.string (textB d)) ∧ Below w.heap.size w w' := text_any d w hT
theorem textB_size (d : UInt64) : (textB d).size = 16 := rfl
theorem step_eq (d : UInt64) : Dig.sum ((⟨#[2]⟩ : ByteArray) ++ textB d).data.toList = On.step d := by
  rw [app_data]; rfl
theorem step_size (d : UInt64) : ((⟨#[2]⟩ : ByteArray) ++ textB d).size ≤ maxLen := by
  rw [app_size, textB_size]; decide
theorem sum_at (s : ByteArray) (v : UInt64) (w : World) (hv : Hid (Dig.sum s.data.toList = v)) (hs : s.size ≤ maxLen) : Calls Tryd.prog 65 #[.string s] w fun e w' => e = .returned (.int .u64 v.toNat) ∧ w = w' := by
  rw [← hv.out]; exact sum_any s w hs
theorem chain_any (x : UInt64) (n : Int) (w : World) : Calls Tryd.prog 66 #[.int .u64 x.toNat, .int .i64 n] w fun e w' => e = .returned (.func (.func 83) #[] #[.pointer (some ⟨w.heap.size, 0, none⟩), .pointer (some ⟨w.heap.size + 1, 0, none⟩)]) ∧ (w.alloc (.cells #[.int .u64 x.toNat] 29)).alloc (.cells #[.int .i64 n] 3) = w' := by
  go_enter Tryd.func66, Tryd.ntmps66
  go_wp2
  go_ret
  exact ⟨rfl, rfl⟩
/-- What the captured cells hold after k steps. -/
def ChainC (Bf Bs : Nat) (x : UInt64) (N k : Nat) (W : World) : Prop :=
  W.cell? ⟨Bf, 0, none⟩ = some (.int .u64 (On.steps k x).toNat) ∧ W.frozen? ⟨Bf, 0, none⟩ = false ∧ W.cell? ⟨Bs, 0, none⟩ = some (.int .i64 (((N - k : Nat) : Nat) : Int)) ∧ W.frozen? ⟨Bs, 0, none⟩ = false ∧ Tab W ∧ Bf < W.heap.size ∧ Bs < W.heap.size
set_option maxRecDepth 100000 in
set_option maxHeartbeats 4000000 in
theorem chain1_any (l m Bf Bs : Nat) (hBB : Bf ≠ Bs) (W : World) (x : UInt64) (N : Nat) (hN : N < 9223372036854775808) (J J' : Nat → World → Prop)
    (hC : ∀ k W, J k W → ChainC Bf Bs x N k W) (hC' : ∀ k W, J' k W → ChainC Bf Bs x N k W)
    (hY : ∀ k W, k ≤ N → J k W → YieldAt Fence.wide m Tryd.prog l #[.int .u64 (On.steps k x).toNat] W fun r W' => r = .returned (.bool true) ∧ J' k W')
    (hS : ∀ k W W1, k < N → J' k W → Below W.heap.size W W1 → J (k + 1) ((W1.setCell ⟨Bf, 0, none⟩ (.int .u64 (On.steps (k + 1) x).toNat)).setCell ⟨Bs, 0, none⟩ (.int .i64 (((N - (k + 1) : Nat) : Nat) : Int))))
    (hJ : J 0 W) :
    Calls Tryd.prog 83 #[.func (.yield l) #[] #[], .pointer (some ⟨Bf, 0, none⟩), .pointer (some ⟨Bs, 0, none⟩)] W fun r W' => (∃ v, r = .returned v) ∧ J' N W' := by
  have HJ := Lib.hid hJ
  clear hJ
  go_enter Tryd.func83, Tryd.ntmps83
  go_wp2
  go_loopw [] (fun wr => ∃ k : Nat, k ≤ N ∧ J k wr) (fun wr => (intAt wr Bs).toNat)
  case atStart => exact ⟨0, Nat.zero_le _, HJ.out⟩
  case round =>
    obtain ⟨k, hk, hJk⟩ := hrel
    obtain ⟨c1, f1, c2, f2, hT, hb1, hb2⟩ := hC k wr hJk
    obtain ⟨fn, tmps, assign, body, hy, hR⟩ := hY k wr hk hJk
    have HR := Lib.hid hR
    have HJk := Lib.hid hJk
    have HC := Lib.hid c2
    obtain ⟨y, hyy⟩ : ∃ y, y = On.steps k x := ⟨_, rfl⟩
    rw [← hyy] at c1 hy
    have Hyy := Lib.hid hyy
    clear hR hJk c2 f1 f2 hT hb1 hb2 hyy
    refine (wpIn_wide (n := m + 1)).1 ?_
    gi_wp2
    refine HR.out.mono ?_
    rintro r W2 ⟨rfl, hJ2⟩
    obtain ⟨d1, g1, d2, g2, hT2, hb1, hb2⟩ := hC' k W2 hJ2
    rw [← Hyy.out] at d1
    have HJ2 := Lib.hid hJ2
    have HC2 := Lib.hid (hC' k W2 hJ2)
    clear hJ2 hy c1
    by_cases h0 : k < N
    · have hd : decide ((0 : Int) < (((N - k : Nat) : Nat) : Int)) = true := by simp; omega
      have hstep : Hid (Dig.sum ((⟨#[2]⟩ : ByteArray) ++ textB y).data.toList = On.steps (k + 1) x) := Lib.hid (by rw [step_eq, Hyy.out]; rfl)
      gi_wp2
      refine ⟨trivial, callsIn_wide.2 ((text_b y _ hT2).mono ?_)⟩
      rintro e W3 ⟨rfl, hB3⟩
      have hsz := step_size y
      have hz : ¬ (9223372036854775807 < 1 + (textB y).size) := by rw [textB_size]; decide
      gi_wp2
      refine ⟨trivial, callsIn_wide.2 ((sum_at _ _ _ hstep hsz).mono ?_)⟩
      rintro e W4 ⟨rfl, rfl⟩
      have e1 : W3.cell? ⟨Bf, 0, none⟩ = some (.int .u64 y.toNat) := (hB3.cell (p := ⟨Bf, 0, none⟩) hb1).trans d1
      have e2 : W3.frozen? ⟨Bf, 0, none⟩ = false := (hB3.frozen (p := ⟨Bf, 0, none⟩) hb1).trans g1
      have e3 : W3.cell? ⟨Bs, 0, none⟩ = some (.int .i64 (((N - k : Nat) : Nat) : Int)) := (hB3.cell (p := ⟨Bs, 0, none⟩) hb2).trans d2
      have e4 : W3.frozen? ⟨Bs, 0, none⟩ = false := (hB3.frozen (p := ⟨Bs, 0, none⟩) hb2).trans g2
      obtain ⟨z, hz⟩ : ∃ z, z = On.steps (k + 1) x := ⟨_, rfl⟩
      have HS := Lib.hid (hS k W2 W3 h0 HJ2.out hB3)
      rw [← hz] at HS ⊢
      have hne : ¬ (Bf = Bs) := hBB
      have hne' : ¬ (Bs = Bf) := fun e => hBB e.symm
      have hNk : (((N - k : Nat) : Nat) : Int) - 1 = (((N - (k + 1) : Nat) : Nat) : Int) := by omega
      have hlt : (((N - k : Nat) : Nat) : Int) < 9223372036854775808 := by omega
      have hge : (0 : Int) < (((N - k : Nat) : Nat) : Int) := by omega
      clear hT2 d1 g1 d2 g2 hd hz
      generalize hq : (((N - k : Nat) : Nat) : Int) = q at *
      gi_wp2
      go_roundw
      case rel => exact ⟨k + 1, by omega, HS.out⟩
      case measure =>
        have hx := (hC (k + 1) _ HS.out).2.2.1
        unfold intAt
        rw [hx, HC.out]
        simp only []
        omega
    · have hkN : k = N := by omega
      subst hkN
      rw [Nat.sub_self] at d2
      clear HC2 HC
      gi_wp2
      go_end0
      exact ⟨⟨_, rfl⟩, HJ2.out⟩
/-- The loop of walk: the cells and the record, with z in the result's cell. -/
def WalkK (w : World) (l : Nat) (r : Loop) (x : UInt64) (N : Nat) (z : UInt64) (k : Nat) (W : World) : Prop :=
  ChainC (w.heap.size + 1) (w.heap.size + 2) x N k W ∧ W.heap[l]? = some (Rng.readyOf r) ∧ W.heap[w.heap.size + 3]? = some (.deferred (some [])) ∧
    W.cell? ⟨w.heap.size, 0, none⟩ = some (.int .u64 z.toNat) ∧ W.frozen? ⟨w.heap.size, 0, none⟩ = false ∧ Below w.heap.size w W ∧ w.heap.size + 5 ≤ W.heap.size
theorem WalkK.step {w : World} {l : Nat} {r : Loop} {x : UInt64} {N : Nat} {z : UInt64} {k : Nat} {W W1 : World} (hl : l = w.heap.size + 4) (h : WalkK w l r x N z k W) (hT : Tab w) (hB : Below W.heap.size W W1) :
    WalkK w l r x N z (k + 1) ((W1.setCell ⟨w.heap.size + 1, 0, none⟩ (.int .u64 (On.steps (k + 1) x).toNat)).setCell ⟨w.heap.size + 2, 0, none⟩ (.int .i64 (((N - (k + 1) : Nat) : Nat) : Int))) := by
  subst hl
  obtain ⟨⟨c1, f1, c2, f2, hT2, hb1, hb2⟩, h1, h2, h3, h4, h5, h6⟩ := h
  have hs1 := hB.size
  have k1 : W1.cell? ⟨w.heap.size + 1, 0, none⟩ = some (.int .u64 (On.steps k x).toNat) := (hB.cell (p := ⟨w.heap.size + 1, 0, none⟩) hb1).trans c1
  have k2 : W1.cell? ⟨w.heap.size + 2, 0, none⟩ = some (.int .i64 (((N - k : Nat) : Nat) : Int)) := (hB.cell (p := ⟨w.heap.size + 2, 0, none⟩) hb2).trans c2
  have g1 : W1.frozen? ⟨w.heap.size + 1, 0, none⟩ = false := (hB.frozen (p := ⟨w.heap.size + 1, 0, none⟩) hb1).trans f1
  have g2 : W1.frozen? ⟨w.heap.size + 2, 0, none⟩ = false := (hB.frozen (p := ⟨w.heap.size + 2, 0, none⟩) hb2).trans f2
  obtain ⟨Wa, hWa⟩ : ∃ Wa, Wa = W1.setCell ⟨w.heap.size + 1, 0, none⟩ (.int .u64 (On.steps (k + 1) x).toNat) := ⟨_, rfl⟩
  rw [← hWa]
  have ha : ∀ j, j ≠ w.heap.size + 1 → Wa.heap[j]? = W1.heap[j]? := fun j hj => by rw [hWa]; exact Below.heap_setCell _ _ _ _ hj
  have sa : Wa.heap.size = W1.heap.size := by rw [hWa]; simp [World.setCell]
  have hb : ∀ j, j ≠ w.heap.size + 2 → (Wa.setCell ⟨w.heap.size + 2, 0, none⟩ (.int .i64 (((N - (k + 1) : Nat) : Nat) : Int))).heap[j]? = Wa.heap[j]? := fun j hj => Below.heap_setCell _ _ _ _ hj
  have sb : (Wa.setCell ⟨w.heap.size + 2, 0, none⟩ (.int .i64 (((N - (k + 1) : Nat) : Nat) : Int))).heap.size = Wa.heap.size := by simp [World.setCell]
  have hba : ∀ j, j ≠ w.heap.size + 1 → j ≠ w.heap.size + 2 → j < W.heap.size → (Wa.setCell ⟨w.heap.size + 2, 0, none⟩ (.int .i64 (((N - (k + 1) : Nat) : Nat) : Int))).heap[j]? = W.heap[j]? := fun j p q u => (hb j q).trans ((ha j p).trans (hB.block j u))
  have hBel : Below w.heap.size w (Wa.setCell ⟨w.heap.size + 2, 0, none⟩ (.int .i64 (((N - (k + 1) : Nat) : Nat) : Int))) := by
    rw [hWa]
    exact ((h5.trans (hB.mono h5.size)).setCell (by simp) _).setCell (by simp) _
  refine ⟨⟨?_, ?_, ?_, ?_, hT.below hBel, by omega, by omega⟩, ?_, ?_, ?_, ?_, hBel, by omega⟩
  · rw [World.cell?_of_block (hb _ (by simp)), hWa]; exact World.cell?_setCell_same' _ _ _ (by rw [k1]; rfl)
  · rw [World.frozen?_of_block (hb _ (by simp)), hWa, World.frozen?_setCell]; exact g1
  · exact World.cell?_setCell_same' _ _ _ (by rw [World.cell?_of_block (ha _ (by simp)), k2]; rfl)
  · rw [World.frozen?_setCell, World.frozen?_of_block (ha _ (by simp))]; exact g2
  · exact (hba _ (by omega) (by omega) (by omega)).trans h1
  · exact (hba _ (by omega) (by omega) (by omega)).trans h2
  · exact (World.cell?_of_block (hba _ (by simp) (by simp) (by simp; omega))).trans h3
  · exact (World.frozen?_of_block (hba _ (by simp) (by simp) (by simp; omega))).trans h4
set_option maxRecDepth 100000 in
set_option maxHeartbeats 4000000 in
theorem walk_any (x : UInt64) (N : Nat) (hN : N < 9223372036854775808) (w : World) (hT : Tab w) :
    Calls Tryd.prog 44 #[.int .u64 x.toNat, .int .i64 (N : Int)] w fun e w' => e = .returned (.int .u64 (On.steps N x).toNat) ∧ Below w.heap.size w w' := by
  refine (callsIn_wide (n := 4)).1 ?_
  refine callsIn_of_wp_marks Tryd.func44 rfl trivial ?_ rfl
  simp only [Tryd.ntmps44, List.size_toArray, List.length_cons, List.length_nil, Nat.reduceAdd, Nat.reduceSub, Array.replicate_succ, Array.replicate_zero, List.push_toArray, List.append_toArray, List.nil_append, List.cons_append]
  refine wpIn_wide.2 ?_
  go_wp2_with fail
  refine (chain_any _ _ _).mono ?_
  rintro e w' ⟨rfl, rfl⟩
  go_wp2_with fail
  obtain ⟨w1, hw1⟩ : ∃ w1, w1 = ((w.alloc (.cells #[.int .u64 0] 29)).alloc (.cells #[.int .u64 x.toNat] 29)).alloc (.cells #[.int .i64 (N : Int)] 3) := ⟨_, rfl⟩
  rw [← hw1]
  have hsz : w1.heap.size = w.heap.size + 3 := by rw [hw1]; simp
  have hB1 : Below w.heap.size w w1 := by rw [hw1]; exact (((Below.refl _ _).alloc (Nat.le_refl _) _).alloc (by simp) _).alloc (by simp; omega) _
  have hc0 : w1.cell? ⟨w.heap.size, 0, none⟩ = some (.int .u64 (0 : UInt64).toNat) := by rw [hw1]; simp [go_sem]
  have hf0 : w1.frozen? ⟨w.heap.size, 0, none⟩ = false := by rw [hw1]; simp [go_sem]
  have hc1 : w1.cell? ⟨w.heap.size + 1, 0, none⟩ = some (.int .u64 x.toNat) := by rw [hw1]; simp [go_sem]
  have hf1 : w1.frozen? ⟨w.heap.size + 1, 0, none⟩ = false := by rw [hw1]; simp [go_sem]
  have hc2 : w1.cell? ⟨w.heap.size + 2, 0, none⟩ = some (.int .i64 (N : Int)) := by rw [hw1]; simp [go_sem]
  have hf2 : w1.frozen? ⟨w.heap.size + 2, 0, none⟩ = false := by rw [hw1]; simp [go_sem]
  clear hw1
  have Hsz := Lib.hid hsz
  refine (wpIn_wide (n := 3)).1 ?_
  refine Rng.range_any rfl (by omega) (gf := 83) (lb := #[.pointer (some ⟨w.heap.size + 1, 0, none⟩), .pointer (some ⟨w.heap.size + 2, 0, none⟩)]) rfl trivial (enters_of Tryd.func83 (by kernel_rfl) rfl) ?_
  intro r hfn hra hrb hrt hrp
  refine callsIn_wide.2 ?_
  obtain ⟨W2, hW2⟩ : ∃ W2, W2 = (w1.alloc (.deferred (some []))).alloc (Rng.readyOf r) := ⟨_, rfl⟩
  rw [← hW2]
  have hS2 : W2.heap.size = w.heap.size + 5 := by rw [hW2]; simp [hsz]
  have hB2 : Below w1.heap.size w1 W2 := by rw [hW2]; exact ((Below.refl _ _).alloc (Nat.le_refl _) _).alloc (by simp) _
  have hl2 : W2.heap[w.heap.size + 4]? = some (Rng.readyOf r) := by rw [hW2]; have := World.alloc_heap_new (w1.alloc (.deferred (some []))) (Rng.readyOf r); rwa [World.size_alloc, hsz] at this
  have hd2 : W2.heap[w.heap.size + 3]? = some (.deferred (some [])) := by rw [hW2, ← hsz]; exact (Below.heap_alloc _ _ _ (by simp)).trans (World.alloc_heap_new w1 _)
  clear hW2
  have hl1 : w1.heap.size + 1 = w.heap.size + 4 := by omega
  rw [hl1]
  show Calls Tryd.prog 83 #[.func (.yield (w.heap.size + 4)) #[] #[], .pointer (some ⟨w.heap.size + 1, 0, none⟩), .pointer (some ⟨w.heap.size + 2, 0, none⟩)] W2 _
  have hB12 : Below w.heap.size w W2 := hB1.trans (hB2.mono hB1.size)
  refine (chain1_any (w.heap.size + 4) 1 (w.heap.size + 1) (w.heap.size + 2) (by omega) W2 x N hN (fun k W => ∃ z, WalkK w (w.heap.size + 4) r x N z k W) (fun k W => WalkK w (w.heap.size + 4) r x N (On.steps k x) k W) ?hC ?hC' ?hY ?hS ?hJ).mono ?_
  case hC => rintro k W ⟨z, h, _⟩; exact h
  case hC' => rintro k W ⟨h, _⟩; exact h
  case hS => intro k W W1 hk h hB; exact ⟨_, h.step rfl hT hB⟩
  case hJ =>
    have hlt : ∀ j, j < 3 → w.heap.size + j < w1.heap.size := fun j hj => by omega
    refine ⟨0, ⟨(hB2.cell (p := ⟨w.heap.size + 1, 0, none⟩) (hlt 1 (by omega))).trans hc1, (hB2.frozen (p := ⟨w.heap.size + 1, 0, none⟩) (hlt 1 (by omega))).trans hf1, (hB2.cell (p := ⟨w.heap.size + 2, 0, none⟩) (hlt 2 (by omega))).trans hc2, (hB2.frozen (p := ⟨w.heap.size + 2, 0, none⟩) (hlt 2 (by omega))).trans hf2, hT.below hB12, by omega, by omega⟩,
      hl2, hd2, (hB2.cell (p := ⟨w.heap.size, 0, none⟩) (hlt 0 (by omega))).trans hc0, (hB2.frozen (p := ⟨w.heap.size, 0, none⟩) (hlt 0 (by omega))).trans hf0, hB12, by omega⟩
  case hY =>
    rintro k W hk ⟨z, ⟨c1, f1, c2, f2, hT2, hb1, hb2⟩, h1, h2, h3, h4, h5, h6⟩
    refine Rng.yield_at h1 hra hrb (by rw [hrt, hrp]) (by rw [hrp]; rfl) hfn ?_
    obtain ⟨y, hy⟩ : ∃ y, y = On.steps k x := ⟨_, rfl⟩
    rw [← hy]
    obtain ⟨W4, hW4⟩ : ∃ W4, W4 = W.putObj (w.heap.size + 4) (Rng.busyOf r) := ⟨_, rfl⟩
    have h43 : ∀ j, j ≠ w.heap.size + 4 → W4.heap[j]? = W.heap[j]? := fun j hj => by rw [hW4]; exact World.putObj_heap_other hj
    have hl4 : W4.heap[w.heap.size + 4]? = some (Rng.busyOf r) := by rw [hW4]; exact World.putObj_heap_same (by omega)
    have hs4 : w.heap.size + 5 ≤ W4.heap.size := by rw [hW4]; simpa using h6
    have hB4 : Below w.heap.size w W4 := by rw [hW4]; exact below_putObj h5 h5.size (by omega) _
    have k0 : W4.cell? ⟨w.heap.size, 0, none⟩ = some (.int .u64 z.toNat) := (World.cell?_of_block (h43 _ (by simp))).trans h3
    have g0 : W4.frozen? ⟨w.heap.size, 0, none⟩ = false := (World.frozen?_of_block (h43 _ (by simp))).trans h4
    have F := Lib.hid (And.intro h1 (And.intro hl4 (And.intro h2 (And.intro c1 (And.intro f1 (And.intro c2 (And.intro f2 hy)))))))
    have HW4 := Lib.hid hW4
    clear h1 hl4 h2 h3 h4 c1 f1 c2 f2 hT2 hy hl2 hd2 hc0 hf0 hc1 hf1 hc2 hf2 hra hrb hrt hrp hsz hS2 hl1
    gi_wp2
    refine ⟨F.out.1, ?_⟩
    rw [← hW4]
    clear hW4
    gi_wp2
    have h54 : ∀ j, j ≠ w.heap.size → (W4.setCell ⟨w.heap.size, 0, none⟩ (.int .u64 y.toNat)).heap[j]? = W4.heap[j]? := fun j hj => Below.heap_setCell _ _ _ _ hj
    have hs5 : (W4.setCell ⟨w.heap.size, 0, none⟩ (.int .u64 y.toNat)).heap.size = W4.heap.size := by simp [World.setCell]
    have hB5 : Below w.heap.size w ((W4.setCell ⟨w.heap.size, 0, none⟩ (.int .u64 y.toNat)).putObj (w.heap.size + 4) (Rng.readyOf r)) := below_putObj (hB4.setCell (Nat.le_refl _) _) (by omega) (by omega) _
    have hall : ∀ j, j ≠ w.heap.size → j ≠ w.heap.size + 4 → ((W4.setCell ⟨w.heap.size, 0, none⟩ (.int .u64 y.toNat)).putObj (w.heap.size + 4) (Rng.readyOf r)).heap[j]? = W.heap[j]? := fun j p q => (World.putObj_heap_other q).trans ((h54 j p).trans (h43 j q))
    obtain ⟨_, hl4, h2, c1, f1, c2, f2, hy⟩ := F.out
    refine ⟨(h54 _ (by omega)).trans hl4, rfl, ⟨?_, ?_, ?_, ?_, hT.below hB5, by simp; omega, by simp; omega⟩, World.putObj_heap_same (by omega), (hall _ (by omega) (by omega)).trans h2, ?_, ?_, hB5, by simp; omega⟩
    · exact (World.cell?_of_block (hall _ (by simp) (by simp))).trans c1
    · exact (World.frozen?_of_block (hall _ (by simp) (by simp))).trans f1
    · exact (World.cell?_of_block (hall _ (by simp) (by simp))).trans c2
    · exact (World.frozen?_of_block (hall _ (by simp) (by simp))).trans f2
    · rw [World.cell?_of_block (World.putObj_heap_other (by simp)), World.cell?_setCell_same' _ _ _ (by rw [k0]; rfl), hy]
    · rw [World.frozen?_of_block (World.putObj_heap_other (by simp)), World.frozen?_setCell]; exact g0
  rintro r' W3 ⟨⟨v', rfl⟩, ⟨_, h1, h2, h3, h4, h5, h6⟩⟩
  refine ⟨_, rfl, .inl ⟨h1, ?_⟩⟩
  dsimp only
  obtain ⟨y, hy⟩ : ∃ y, y = On.steps N x := ⟨_, rfl⟩
  rw [← hy] at h3
  have Hy := Lib.hid hy
  obtain ⟨W4, hW4⟩ : ∃ W4, W4 = W3.putObj (w.heap.size + 4) (Rng.overOf r none) := ⟨_, rfl⟩
  rw [← hW4]
  have h43 : ∀ j, j ≠ w.heap.size + 4 → W4.heap[j]? = W3.heap[j]? := fun j hj => by rw [hW4]; exact World.putObj_heap_other hj
  have k0 : W4.cell? ⟨w.heap.size, 0, none⟩ = some (.int .u64 y.toNat) := (World.cell?_of_block (h43 _ (by simp))).trans h3
  have hd4 : W4.heap[w1.heap.size]? = some (.deferred (some [])) := by rw [hsz]; exact (h43 _ (by omega)).trans h2
  have hB4 : Below w.heap.size w W4 := by rw [hW4]; exact below_putObj h5 h5.size (by omega) _
  have Hd4 := Lib.hid hd4
  clear hW4 hd4 hsz hS2 hl2 hd2 hc0 hf0 hc1 hf1 hc2 hf2 h1 h2 h3 h4 hra hrb hrt hrp hl1 h43 hy
  gi_wp2
  go_wp2
  refine ⟨by simp, .inl ⟨_, _, rfl, run_takeDeferred Hd4.out, ?_⟩⟩
  refine ⟨_, results_tmp rfl _ _ _, ?_⟩
  rw [← Hy.out]
  exact ⟨rfl, below_putObj hB4 hB4.size (by have := Hsz.out; omega) _⟩
end Go.Proofs.YtpmakhfpdidleaaDoor
namespace Go.Proofs.YtpmakhfpdidleaaDoor
open Go.RowKit Go.Shelf
set_option linter.unusedVariables false
theorem size_builder : (Tryd.prog.info? 99).map (·.size) = some 2 := by kernel_rfl
theorem info_byte : (Tryd.prog.info? 5).map (fun i => (i.zero, i.size, i.bytes)) = some (some (.int .u8 0), 1, 1) := by kernel_rfl
theorem lies_builder : liesAt Tryd.prog Tryd.prog.depth 99 (2 / Tryd.prog.cellsOf 99) 0 99 1 = true := by kernel_rfl
set_option maxHeartbeats 1000000 in
set_option maxRecDepth 100000 in
theorem check_used (b : Nat) (w : World) (h0 : w.cell? ⟨b, 0, none⟩ = some (.pointer (some ⟨b, 0, none⟩))) :
    Calls Tryd.prog 71 #[.pointer (some ⟨b, 0, none⟩)] w fun e w' => e = .returned (.tuple #[]) ∧ w' = w := by
  obtain ⟨j, hj, _⟩ := Option.map_eq_some_iff.1 size_builder
  go_enter Tryd.func71, Tryd.ntmps71
  go_wp2
  rw [Lib.run_neq_ptr_same w _ Tryd.underlying96 hj]
  go_wp2
  go_end0
  exact ⟨rfl, rfl⟩
set_option maxHeartbeats 1000000 in
set_option maxRecDepth 100000 in
theorem check_fresh (b : Nat) (w : World) (h0 : w.cell? ⟨b, 0, none⟩ = some (.pointer none)) (hsh : w.shape? b = some (99, 2)) (hfz : w.frozen? ⟨b, 0, none⟩ = false) :
    Calls Tryd.prog 71 #[.pointer (some ⟨b, 0, none⟩)] w fun e w' => e = .returned (.tuple #[]) ∧ w' = w.setCell ⟨b, 0, none⟩ (.pointer (some ⟨b, 0, none⟩)) := by
  obtain ⟨j, hj, hjs⟩ := Option.map_eq_some_iff.1 size_builder
  go_enter Tryd.func71, Tryd.ntmps71
  go_wp2
  rw [Lib.run_to_unsafe w ⟨b, 0, none⟩ Tryd.underlying96 Tryd.underlying137 hj (by rw [hjs]; decide) hsh (Nat.zero_lt_succ 1)]
  simp only [Result.andThen]
  rw [Oper.upon_value]
  go_wp2
  rw [run_callFunc_extern Tryd.func87 (by kernel_rfl) (by kernel_rfl) (by kernel_rfl) (e := Extern.AbiNoEscape.same) (by kernel_rfl)]
  rw [Lib.run_noEscape]
  simp only [Result.andThen]
  rw [Oper.upon_value]
  go_wp2
  rw [Lib.run_from_unsafe w ⟨b, 0, none⟩ Tryd.underlying137 Tryd.underlying96 hj hsh lies_builder]
  simp only [Result.andThen]
  rw [Oper.upon_value]
  go_wp2
  go_end0
  exact ⟨rfl, rfl⟩
theorem check_any' (B b : Nat) (bs : List Value) (w : World) (h : Lib.IsBuilder 99 5 B b bs w) :
    Calls Tryd.prog 71 #[.pointer (some ⟨b, 0, none⟩)] w fun e w' => e = .returned (.tuple #[]) ∧ (Lib.BuilderAt 99 5 B b (.pointer (some ⟨b, 0, none⟩)) bs w' ∧ Below B w w') := by
  rcases h with h | h
  · refine (check_fresh b w h.cell0 h.shape h.frozen0).mono ?_
    rintro e w' ⟨rfl, rfl⟩
    exact ⟨rfl, h.used _, (Below.refl B w).setCell (p := ⟨b, 0, none⟩) h.1 _⟩
  · refine (check_used b w h.cell0).mono ?_
    rintro e w' ⟨rfl, rfl⟩
    exact ⟨rfl, h, Below.refl B _⟩
set_option maxHeartbeats 2000000 in
set_option maxRecDepth 100000 in
theorem write_at (B b : Nat) (bs : List Value) (s : ByteArray) (w : World) (h : Lib.IsBuilder 99 5 B b bs w) (hlen : bs.length + s.size ≤ 140737488355328) (hBw : B ≤ w.heap.size) :
    Calls Tryd.prog 52 #[.pointer (some ⟨b, 0, none⟩), .string s] w fun e w' => e = .returned (.tuple #[.int .i64 s.size, .nilIface]) ∧ (Lib.BuilderAt 99 5 B b (.pointer (some ⟨b, 0, none⟩)) (bs ++ Lib.strCells s) w' ∧ Below B w w') := by
  obtain ⟨i0, hi, hz0, hz1, hz2⟩ := info_parts info_byte
  go_enter Tryd.func52, Tryd.ntmps52
  go_wp2_with (go_at_call 71; refine (check_any' B b bs _ h).mono ?_)
  rintro e w1 ⟨rfl, h1, hb1⟩
  obtain ⟨hB, v, hbk, hown, hne⟩ := h1
  have c0 : w1.cell? ⟨b, 0, none⟩ = some (.pointer (some ⟨b, 0, none⟩)) := by rw [Lib.cell_of_heap hbk]; rfl
  have c1 : w1.cell? ⟨b, 1, none⟩ = some v := by rw [Lib.cell_of_heap hbk]; rfl
  go_wp2_with (at_builtin; refine Lib.wpList_append_own_string _ rfl _ _ 97 9 rfl B 5 i0 Tryd.underlying97 Tryd.underlying9 hi hz0 hz1 hz2 _ _ _ rfl hown s rfl ?c3 ?c4 ?c5 ?_)
  case c3 => unfold maxLen; omega
  case c4 => omega
  case c5 => have := hb1.size; omega
  intro v' w2 hown' hgrow _
  have hlt : b < w1.heap.size := by
    rcases Nat.lt_or_ge b w1.heap.size with h' | h'
    · exact h'
    · simp [Array.getElem?_eq_none h'] at hbk
  have hb2 : w2.heap[b]? = some (.cells #[.pointer (some ⟨b, 0, none⟩), v] 99 (0, 0)) := by
    rw [hgrow.block b hlt (fun e => hne e.symm)]
    exact hbk
  have d0 : w2.cell? ⟨b, 0, none⟩ = some (.pointer (some ⟨b, 0, none⟩)) := by rw [Lib.cell_of_heap hb2]; rfl
  have d1 : w2.cell? ⟨b, 1, none⟩ = some v := by rw [Lib.cell_of_heap hb2]; rfl
  have f1 : w2.frozen? ⟨b, 1, none⟩ = false := Lib.frozen_of_heap hb2 1
  obtain ⟨ao, n', cap, rfl⟩ : ∃ ao n' cap, v' = .slice ao n' cap := by
    rcases hown'.2 with ⟨hv, _⟩ | ⟨g, cap, cur, hv, _⟩
    · exact ⟨_, _, _, hv⟩
    · exact ⟨_, _, _, hv⟩
  go_wp2
  go_ret2
  refine ⟨rfl, ?_, ?_⟩
  · exact Lib.BuilderAt.put (T := 99) (e := 5) hB hb2 (bs' := bs ++ Lib.strCells s) (by simpa [Lib.strCells_length] using hown') (by decide)
  · exact (hb1.grown hgrow (by have := hb1.size; omega) (fun k hk => (hown.lt k hk).1)).setCell (p := ⟨b, 1, none⟩) hB _
/-- A builder in block b that holds the bytes l; nothing below it is touched by writing. -/
def Bld (b : Nat) (l : List UInt8) (w : World) : Prop := Lib.IsBuilder 99 5 b b (Lib.byteCells l) w
theorem builderAt_go {T e : TypeId} {B b : Nat} {p : Value} {bs : List Value} {w w' : World} (h : Lib.BuilderAt T e B b p bs w) (hb : Below w.heap.size w w') : Lib.BuilderAt T e B b p bs w' := by
  have hlt := h.lt
  obtain ⟨hB, v, h1, h2, h3⟩ := h
  exact ⟨hB, v, (hb.block b hlt).trans h1, own_below h2 hb, h3⟩
theorem Bld.go {b : Nat} {l : List UInt8} {w w' : World} (h : Bld b l w) (hb : Below w.heap.size w w') : Bld b l w' := by
  rcases h with h | h
  · exact .inl (builderAt_go h hb)
  · exact .inr (builderAt_go h hb)
theorem Bld.lt {b : Nat} {l : List UInt8} {w : World} (h : Bld b l w) : b < w.heap.size := by
  rcases h with h | h
  · exact h.lt
  · exact h.lt
theorem Bld.new (w : World) : Bld w.heap.size [] (w.alloc (.cells #[.pointer none, .slice none 0 0] 99)) := Lib.fresh_isBuilder _ _ w
theorem strCells_bytes (l : List UInt8) : Lib.strCells ⟨l.toArray⟩ = Lib.byteCells l := by
  simp [Lib.strCells, Lib.byteCells]
theorem bwrite (b : Nat) (l m : List UInt8) (t : ByteArray) (ht : Hid (t = ⟨m.toArray⟩)) (w : World) (h : Bld b l w) (hlen : l.length + m.length ≤ 140737488355328) :
    Calls Tryd.prog 52 #[.pointer (some ⟨b, 0, none⟩), .string t] w fun e w' => (∃ v, e = .returned v) ∧ Bld b (l ++ m) w' ∧ Below b w w' := by
  have ht := ht.out
  subst ht
  refine (write_at b b _ _ w h (by rw [Lib.byteCells_length]; simpa [ByteArray.size] using hlen) (Nat.le_of_lt h.lt)).mono ?_
  rintro e w' ⟨rfl, h1, h2⟩
  refine ⟨⟨_, rfl⟩, .inr ?_, h2⟩
  rw [Lib.byteCells_append, ← strCells_bytes m]
  exact h1
theorem bstring (b : Nat) (l : List UInt8) (t : ByteArray) (ht : Hid (t = ⟨l.toArray⟩)) (w : World) (h : Bld b l w) :
    Calls Tryd.prog 55 #[.pointer (some ⟨b, 0, none⟩)] w fun e w' => e = .returned (.string t) ∧ Below b w w' := by
  have ht := ht.out
  subst ht
  exact Tryd.Builder_String_any b b l w h (Nat.le_of_lt h.lt)
end Go.Proofs.YtpmakhfpdidleaaDoor
namespace Go.Proofs.YtpmakhfpdidleaaDoor
open Go.RowKit Go.Shelf
set_option linter.unusedVariables false
theorem i64_and_15 (x : Int) : bits .and .i64 x (15 : Int) = x % 16 := by
  have h2 : (BitVec.ofInt 64 (15 : Int)).toNat = 15 := by decide
  show IntKind.i64.wrap ((BitVec.ofInt 64 x &&& BitVec.ofInt 64 15).toNat : Int) = _
  rw [BitVec.toNat_and, h2, nat_mask4, BitVec.toNat_ofInt]
  rw [IntWalk.i64_in _ (by omega)]
  omega
theorem i64_mod16 (x : Int) : IntKind.i64.wrap x % 16 = x % 16 := by
  simp only [IntKind.wrap_i64]
  omega
theorem secret_data (seed t1 t2 : ByteArray) : ((⟨#[3]⟩ : ByteArray) ++ t1 ++ ⟨#[32]⟩ ++ t2 ++ ⟨#[32]⟩ ++ seed).data.toList = 3 :: (t1.data.toList ++ 32 :: (t2.data.toList ++ 32 :: seed.data.toList)) := by
  simp only [app_data]
  simp
theorem secret_any (seed : ByteArray) (i k : Int) (w : World) (hT : PTab w) (hs : seed.size ≤ 100) (hi : -9223372036854775808 ≤ i ∧ i ≤ 9223372036854775807) (hk : -9223372036854775808 ≤ k ∧ k ≤ 9223372036854775807) :
    Calls Tryd.prog 45 #[.string seed, .int .i64 i, .int .i64 k] w fun e w' => e = .returned (.int .u64 (On.secret seed.data.toList i k).toNat) ∧ Below w.heap.size w w' := by
  obtain ⟨t1, ht1⟩ : ∃ t, itoaB i = t := ⟨_, rfl⟩
  obtain ⟨t2, ht2⟩ : ∃ t, itoaB k = t := ⟨_, rfl⟩
  have s1 := itoaB_size i hi.1 hi.2
  have s2 := itoaB_size k hk.1 hk.2
  rw [ht1] at s1
  rw [ht2] at s2
  have hv : Hid (Dig.sum ((⟨#[3]⟩ : ByteArray) ++ t1 ++ ⟨#[32]⟩ ++ t2 ++ ⟨#[32]⟩ ++ seed).data.toList = On.secret seed.data.toList i k) := by
    refine Lib.hid ?_
    rw [secret_data, ← ht1, ← ht2]
    rfl
  have H1 := Lib.hid ht1
  have H2 := Lib.hid ht2
  clear ht1 ht2
  have q1 : ((⟨#[3]⟩ : ByteArray) ++ t1).size ≤ 22 := by rw [app_size]; show 1 + _ ≤ _; omega
  have q2 : ((⟨#[3]⟩ : ByteArray) ++ t1 ++ ⟨#[32]⟩).size ≤ 23 := by rw [app_size]; show _ + 1 ≤ _; omega
  have q3 : ((⟨#[3]⟩ : ByteArray) ++ t1 ++ ⟨#[32]⟩ ++ t2).size ≤ 44 := by rw [app_size]; omega
  have q4 : ((⟨#[3]⟩ : ByteArray) ++ t1 ++ ⟨#[32]⟩ ++ t2 ++ ⟨#[32]⟩).size ≤ 45 := by rw [app_size]; show _ + 1 ≤ _; omega
  have q5 : ((⟨#[3]⟩ : ByteArray) ++ t1 ++ ⟨#[32]⟩ ++ t2 ++ ⟨#[32]⟩ ++ seed).size ≤ maxLen := by rw [app_size]; unfold maxLen; omega
  go_enter Tryd.func45, Tryd.ntmps45
  go_wp2_with fail
  refine (itoa_any i hi.1 hi.2 t1 H1 _ hT).mono ?_
  rintro e w1 ⟨rfl, hB1⟩
  have hT1 := hT.go hB1
  go_wp2_with fail
  refine (itoa_any k hk.1 hk.2 t2 H2 _ hT1).mono ?_
  rintro e w2 ⟨rfl, hB2⟩
  go_wp2_with fail
  refine (sum_at _ _ _ hv q5).mono ?_
  rintro e w3 ⟨rfl, rfl⟩
  go_wp2_with fail
  go_ret
  exact ⟨rfl, bgo hB1 hB2⟩
end Go.Proofs.YtpmakhfpdidleaaDoor
