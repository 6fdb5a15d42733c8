/- The walks of package onetime: chain, walk. strings.Builder at this program: copyCheck, WriteString, String (the shelf's walks, turned: the closure of WriteString is not laid here). The walks of package onetime: secret, digitsOf. The walks of package onetime: leaves, valid, Key. -/
import Derived.Test.YtfjkmhbipkoefaaGreatDoorQ09
import Derived.Test.YtfjkmhbipkoefaaGreatDoorQ03
import Derived.Test.YtfjkmhbipkoefaaGreatDoorQ01
import Derived.StillTailTactics
import Derived.OwnWalkIn
import Derived.TacticsInMore
import Derived.LoopNIn
import Derived.LoopIn
import Derived.RangeFuncBox
import Derived.RangeFuncLeaves
import Derived.Shelf.Abstract
import Derived.IntWalk
import Derived.Below
import Derived.Lib.Hide
import Derived.Lib.Builder
import Derived.Shelf.Strings.Builder1
import Derived.BigCall
import Derived.Test.YtfjkmhbipkoefaaGreatDoorQ05
namespace Go.Proofs.YtfjkmhbipkoefaaGreatDoor
open Go.RowKit Go.Shelf
set_option linter.unusedVariables false
attribute [local go_sem] Oper.semAt_some
def textB (d : UInt64) : ByteArray := ⟨(Dig.text d).toArray⟩
theorem text_b (d : UInt64) (w : World) (hT : Tab w) : Calls Tryz.prog 36 #[.int .u64 d.toNat] w fun e w' => e = .returned (.string (textB d)) ∧ Below w.heap.size w w' := text_any d w hT
theorem textB_size (d : UInt64) : (textB d).size = 16 := rfl
theorem step_eq (d : UInt64) : Dig.sum ((⟨#[2]⟩ : ByteArray) ++ textB d).data.toList = On.step d := by
  rw [app_data]; rfl
theorem step_size (d : UInt64) : ((⟨#[2]⟩ : ByteArray) ++ textB d).size ≤ maxLen := by
  rw [app_size, textB_size]; decide
theorem sum_at (s : ByteArray) (v : UInt64) (w : World) (hv : Hid (Dig.sum s.data.toList = v)) (hs : s.size ≤ maxLen) : Calls Tryz.prog 72 #[.string s] w fun e w' => e = .returned (.int .u64 v.toNat) ∧ w = w' := by
  rw [← hv.out]; exact sum_any s w hs
theorem chain_any (x : UInt64) (n : Int) (w : World) : Calls Tryz.prog 73 #[.int .u64 x.toNat, .int .i64 n] w fun e w' => e = .returned (.func (.func 90) #[] #[.pointer (some ⟨w.heap.size, 0, none⟩), .pointer (some ⟨w.heap.size + 1, 0, none⟩)]) ∧ (w.alloc (.cells #[.int .u64 x.toNat] 25)).alloc (.cells #[.int .i64 n] 3) = w' := by
  go_enter Tryz.func73, Tryz.ntmps73
  go_wp2
  go_ret
  exact ⟨rfl, rfl⟩
/-- What the captured cells hold after k steps. -/
def ChainC (Bf Bs : Nat) (x : UInt64) (N k : Nat) (W : World) : Prop :=
  W.cell? ⟨Bf, 0, none⟩ = some (.int .u64 (On.steps k x).toNat) ∧ W.frozen? ⟨Bf, 0, none⟩ = false ∧ W.cell? ⟨Bs, 0, none⟩ = some (.int .i64 (((N - k : Nat) : Nat) : Int)) ∧ W.frozen? ⟨Bs, 0, none⟩ = false ∧ Tab W ∧ Bf < W.heap.size ∧ Bs < W.heap.size
set_option maxRecDepth 100000 in
set_option maxHeartbeats 4000000 in
theorem chain1_any (l m Bf Bs : Nat) (hBB : Bf ≠ Bs) (W : World) (x : UInt64) (N : Nat) (hN : N < 9223372036854775808) (J J' : Nat → World → Prop)
    (hC : ∀ k W, J k W → ChainC Bf Bs x N k W) (hC' : ∀ k W, J' k W → ChainC Bf Bs x N k W)
    (hY : ∀ k W, k ≤ N → J k W → YieldAt Fence.wide m Tryz.prog l #[.int .u64 (On.steps k x).toNat] W fun r W' => r = .returned (.bool true) ∧ J' k W')
    (hS : ∀ k W W1, k < N → J' k W → Below W.heap.size W W1 → J (k + 1) ((W1.setCell ⟨Bf, 0, none⟩ (.int .u64 (On.steps (k + 1) x).toNat)).setCell ⟨Bs, 0, none⟩ (.int .i64 (((N - (k + 1) : Nat) : Nat) : Int))))
    (hJ : J 0 W) :
    Calls Tryz.prog 90 #[.func (.yield l) #[] #[], .pointer (some ⟨Bf, 0, none⟩), .pointer (some ⟨Bs, 0, none⟩)] W fun r W' => (∃ v, r = .returned v) ∧ J' N W' := by
  have HJ := Lib.hid hJ
  clear hJ
  go_enter Tryz.func90, Tryz.ntmps90
  go_wp2
  go_loopw [] (fun wr => ∃ k : Nat, k ≤ N ∧ J k wr) (fun wr => (intAt wr Bs).toNat)
  case atStart => exact ⟨0, Nat.zero_le _, HJ.out⟩
  case round =>
    obtain ⟨k, hk, hJk⟩ := hrel
    obtain ⟨c1, f1, c2, f2, hT, hb1, hb2⟩ := hC k wr hJk
    obtain ⟨fn, tmps, assign, body, hy, hR⟩ := hY k wr hk hJk
    have HR := Lib.hid hR
    have HJk := Lib.hid hJk
    have HC := Lib.hid c2
    obtain ⟨y, hyy⟩ : ∃ y, y = On.steps k x := ⟨_, rfl⟩
    rw [← hyy] at c1 hy
    have Hyy := Lib.hid hyy
    clear hR hJk c2 f1 f2 hT hb1 hb2 hyy
    refine (wpIn_wide (n := m + 1)).1 ?_
    gi_wp2
    refine HR.out.mono ?_
    rintro r W2 ⟨rfl, hJ2⟩
    obtain ⟨d1, g1, d2, g2, hT2, hb1, hb2⟩ := hC' k W2 hJ2
    rw [← Hyy.out] at d1
    have HJ2 := Lib.hid hJ2
    have HC2 := Lib.hid (hC' k W2 hJ2)
    clear hJ2 hy c1
    by_cases h0 : k < N
    · have hd : decide ((0 : Int) < (((N - k : Nat) : Nat) : Int)) = true := by simp; omega
      have hstep : Hid (Dig.sum ((⟨#[2]⟩ : ByteArray) ++ textB y).data.toList = On.steps (k + 1) x) := Lib.hid (by rw [step_eq, Hyy.out]; rfl)
      gi_wp2
      refine ⟨trivial, callsIn_wide.2 ((text_b y _ hT2).mono ?_)⟩
      rintro e W3 ⟨rfl, hB3⟩
      have hsz := step_size y
      have hz : ¬ (9223372036854775807 < 1 + (textB y).size) := by rw [textB_size]; decide
      gi_wp2
      refine ⟨trivial, callsIn_wide.2 ((sum_at _ _ _ hstep hsz).mono ?_)⟩
      rintro e W4 ⟨rfl, rfl⟩
      have e1 : W3.cell? ⟨Bf, 0, none⟩ = some (.int .u64 y.toNat) := (hB3.cell (p := ⟨Bf, 0, none⟩) hb1).trans d1
      have e2 : W3.frozen? ⟨Bf, 0, none⟩ = false := (hB3.frozen (p := ⟨Bf, 0, none⟩) hb1).trans g1
      have e3 : W3.cell? ⟨Bs, 0, none⟩ = some (.int .i64 (((N - k : Nat) : Nat) : Int)) := (hB3.cell (p := ⟨Bs, 0, none⟩) hb2).trans d2
      have e4 : W3.frozen? ⟨Bs, 0, none⟩ = false := (hB3.frozen (p := ⟨Bs, 0, none⟩) hb2).trans g2
      obtain ⟨z, hz⟩ : ∃ z, z = On.steps (k + 1) x := ⟨_, rfl⟩
      have HS := Lib.hid (hS k W2 W3 h0 HJ2.out hB3)
      rw [← hz] at HS ⊢
      have hne : ¬ (Bf = Bs) := hBB
      have hne' : ¬ (Bs = Bf) := fun e => hBB e.symm
      have hNk : (((N - k : Nat) : Nat) : Int) - 1 = (((N - (k + 1) : Nat) : Nat) : Int) := by omega
      have hlt : (((N - k : Nat) : Nat) : Int) < 9223372036854775808 := by omega
      have hge : (0 : Int) < (((N - k : Nat) : Nat) : Int) := by omega
      clear hT2 d1 g1 d2 g2 hd hz
      generalize hq : (((N - k : Nat) : Nat) : Int) = q at *
      gi_wp2
      go_roundw
      case rel => exact ⟨k + 1, by omega, HS.out⟩
      case measure =>
        have hx := (hC (k + 1) _ HS.out).2.2.1
        unfold intAt
        rw [hx, HC.out]
        simp only []
        omega
    · have hkN : k = N := by omega
      subst hkN
      rw [Nat.sub_self] at d2
      clear HC2 HC
      gi_wp2
      go_end0
      exact ⟨⟨_, rfl⟩, HJ2.out⟩
/-- The loop of walk: the cells and the record, with z in the result's cell. -/
def WalkK (w : World) (l : Nat) (r : Loop) (x : UInt64) (N : Nat) (z : UInt64) (k : Nat) (W : World) : Prop :=
  ChainC (w.heap.size + 1) (w.heap.size + 2) x N k W ∧ W.heap[l]? = some (Rng.readyOf r) ∧ W.heap[w.heap.size + 3]? = some (.deferred (some [])) ∧
    W.cell? ⟨w.heap.size, 0, none⟩ = some (.int .u64 z.toNat) ∧ W.frozen? ⟨w.heap.size, 0, none⟩ = false ∧ Below w.heap.size w W ∧ w.heap.size + 5 ≤ W.heap.size
theorem WalkK.step {w : World} {l : Nat} {r : Loop} {x : UInt64} {N : Nat} {z : UInt64} {k : Nat} {W W1 : World} (hl : l = w.heap.size + 4) (h : WalkK w l r x N z k W) (hT : Tab w) (hB : Below W.heap.size W W1) :
    WalkK w l r x N z (k + 1) ((W1.setCell ⟨w.heap.size + 1, 0, none⟩ (.int .u64 (On.steps (k + 1) x).toNat)).setCell ⟨w.heap.size + 2, 0, none⟩ (.int .i64 (((N - (k + 1) : Nat) : Nat) : Int))) := by
  subst hl
  obtain ⟨⟨c1, f1, c2, f2, hT2, hb1, hb2⟩, h1, h2, h3, h4, h5, h6⟩ := h
  have hs1 := hB.size
  have k1 : W1.cell? ⟨w.heap.size + 1, 0, none⟩ = some (.int .u64 (On.steps k x).toNat) := (hB.cell (p := ⟨w.heap.size + 1, 0, none⟩) hb1).trans c1
  have k2 : W1.cell? ⟨w.heap.size + 2, 0, none⟩ = some (.int .i64 (((N - k : Nat) : Nat) : Int)) := (hB.cell (p := ⟨w.heap.size + 2, 0, none⟩) hb2).trans c2
  have g1 : W1.frozen? ⟨w.heap.size + 1, 0, none⟩ = false := (hB.frozen (p := ⟨w.heap.size + 1, 0, none⟩) hb1).trans f1
  have g2 : W1.frozen? ⟨w.heap.size + 2, 0, none⟩ = false := (hB.frozen (p := ⟨w.heap.size + 2, 0, none⟩) hb2).trans f2
  obtain ⟨Wa, hWa⟩ : ∃ Wa, Wa = W1.setCell ⟨w.heap.size + 1, 0, none⟩ (.int .u64 (On.steps (k + 1) x).toNat) := ⟨_, rfl⟩
  rw [← hWa]
  have ha : ∀ j, j ≠ w.heap.size + 1 → Wa.heap[j]? = W1.heap[j]? := fun j hj => by rw [hWa]; exact Below.heap_setCell _ _ _ _ hj
  have sa : Wa.heap.size = W1.heap.size := by rw [hWa]; simp [World.setCell]
  have hb : ∀ j, j ≠ w.heap.size + 2 → (Wa.setCell ⟨w.heap.size + 2, 0, none⟩ (.int .i64 (((N - (k + 1) : Nat) : Nat) : Int))).heap[j]? = Wa.heap[j]? := fun j hj => Below.heap_setCell _ _ _ _ hj
  have sb : (Wa.setCell ⟨w.heap.size + 2, 0, none⟩ (.int .i64 (((N - (k + 1) : Nat) : Nat) : Int))).heap.size = Wa.heap.size := by simp [World.setCell]
  have hba : ∀ j, j ≠ w.heap.size + 1 → j ≠ w.heap.size + 2 → j < W.heap.size → (Wa.setCell ⟨w.heap.size + 2, 0, none⟩ (.int .i64 (((N - (k + 1) : Nat) : Nat) : Int))).heap[j]? = W.heap[j]? := fun j p q u => (hb j q).trans ((ha j p).trans (hB.block j u))
  have hBel : Below w.heap.size w (Wa.setCell ⟨w.heap.size + 2, 0, none⟩ (.int .i64 (((N - (k + 1) : Nat) : Nat) : Int))) := by
    rw [hWa]
    exact ((h5.trans (hB.mono h5.size)).setCell (by simp) _).setCell (by simp) _
  refine ⟨⟨?_, ?_, ?_, ?_, hT.below hBel, by omega, by omega⟩, ?_, ?_, ?_, ?_, hBel, by omega⟩
  · rw [World.cell?_of_block (hb _ (by simp)), hWa]; exact World.cell?_setCell_same' _ _ _ (by rw [k1]; rfl)
  · rw [World.frozen?_of_block (hb _ (by simp)), hWa, World.frozen?_setCell]; exact g1
  · exact World.cell?_setCell_same' _ _ _ (by rw [World.cell?_of_block (ha _ (by simp)), k2]; rfl)
  · rw [World.frozen?_setCell, World.frozen?_of_block (ha _ (by simp))]; exact g2
  · exact (hba _ (by omega) (by omega) (by omega)).trans h1
  · exact (hba _ (by omega) (by omega) (by omega)).trans h2
  · exact (World.cell?_of_block (hba _ (by simp) (by simp) (by simp; omega))).trans h3
  · exact (World.frozen?_of_block (hba _ (by simp) (by simp) (by simp; omega))).trans h4
set_option maxRecDepth 100000 in
set_option maxHeartbeats 4000000 in
theorem walk_any (x : UInt64) (N : Nat) (hN : N < 9223372036854775808) (w : World) (hT : Tab w) :
    Calls Tryz.prog 49 #[.int .u64 x.toNat, .int .i64 (N : Int)] w fun e w' => e = .returned (.int .u64 (On.steps N x).toNat) ∧ Below w.heap.size w w' := by
  refine (callsIn_wide (n := 4)).1 ?_
  refine callsIn_of_wp_marks Tryz.func49 rfl trivial ?_ rfl
  simp only [Tryz.ntmps49, List.size_toArray, List.length_cons, List.length_nil, Nat.reduceAdd, Nat.reduceSub, Array.replicate_succ, Array.replicate_zero, List.push_toArray, List.append_toArray, List.nil_append, List.cons_append]
  refine wpIn_wide.2 ?_
  go_wp2_with fail
  refine (chain_any _ _ _).mono ?_
  rintro e w' ⟨rfl, rfl⟩
  go_wp2_with fail
  obtain ⟨w1, hw1⟩ : ∃ w1, w1 = ((w.alloc (.cells #[.int .u64 0] 25)).alloc (.cells #[.int .u64 x.toNat] 25)).alloc (.cells #[.int .i64 (N : Int)] 3) := ⟨_, rfl⟩
  rw [← hw1]
  have hsz : w1.heap.size = w.heap.size + 3 := by rw [hw1]; simp
  have hB1 : Below w.heap.size w w1 := by rw [hw1]; exact (((Below.refl _ _).alloc (Nat.le_refl _) _).alloc (by simp) _).alloc (by simp; omega) _
  have hc0 : w1.cell? ⟨w.heap.size, 0, none⟩ = some (.int .u64 (0 : UInt64).toNat) := by rw [hw1]; simp [go_sem]
  have hf0 : w1.frozen? ⟨w.heap.size, 0, none⟩ = false := by rw [hw1]; simp [go_sem]
  have hc1 : w1.cell? ⟨w.heap.size + 1, 0, none⟩ = some (.int .u64 x.toNat) := by rw [hw1]; simp [go_sem]
  have hf1 : w1.frozen? ⟨w.heap.size + 1, 0, none⟩ = false := by rw [hw1]; simp [go_sem]
  have hc2 : w1.cell? ⟨w.heap.size + 2, 0, none⟩ = some (.int .i64 (N : Int)) := by rw [hw1]; simp [go_sem]
  have hf2 : w1.frozen? ⟨w.heap.size + 2, 0, none⟩ = false := by rw [hw1]; simp [go_sem]
  clear hw1
  have Hsz := Lib.hid hsz
  refine (wpIn_wide (n := 3)).1 ?_
  refine Rng.range_any rfl (by omega) (gf := 90) (lb := #[.pointer (some ⟨w.heap.size + 1, 0, none⟩), .pointer (some ⟨w.heap.size + 2, 0, none⟩)]) rfl trivial (enters_of Tryz.func90 (by kernel_rfl) rfl) ?_
  intro r hfn hra hrb hrt hrp
  refine callsIn_wide.2 ?_
  obtain ⟨W2, hW2⟩ : ∃ W2, W2 = (w1.alloc (.deferred (some []))).alloc (Rng.readyOf r) := ⟨_, rfl⟩
  rw [← hW2]
  have hS2 : W2.heap.size = w.heap.size + 5 := by rw [hW2]; simp [hsz]
  have hB2 : Below w1.heap.size w1 W2 := by rw [hW2]; exact ((Below.refl _ _).alloc (Nat.le_refl _) _).alloc (by simp) _
  have hl2 : W2.heap[w.heap.size + 4]? = some (Rng.readyOf r) := by rw [hW2]; have := World.alloc_heap_new (w1.alloc (.deferred (some []))) (Rng.readyOf r); rwa [World.size_alloc, hsz] at this
  have hd2 : W2.heap[w.heap.size + 3]? = some (.deferred (some [])) := by rw [hW2, ← hsz]; exact (Below.heap_alloc _ _ _ (by simp)).trans (World.alloc_heap_new w1 _)
  clear hW2
  have hl1 : w1.heap.size + 1 = w.heap.size + 4 := by omega
  rw [hl1]
  show Calls Tryz.prog 90 #[.func (.yield (w.heap.size + 4)) #[] #[], .pointer (some ⟨w.heap.size + 1, 0, none⟩), .pointer (some ⟨w.heap.size + 2, 0, none⟩)] W2 _
  have hB12 : Below w.heap.size w W2 := hB1.trans (hB2.mono hB1.size)
  refine (chain1_any (w.heap.size + 4) 1 (w.heap.size + 1) (w.heap.size + 2) (by omega) W2 x N hN (fun k W => ∃ z, WalkK w (w.heap.size + 4) r x N z k W) (fun k W => WalkK w (w.heap.size + 4) r x N (On.steps k x) k W) ?hC ?hC' ?hY ?hS ?hJ).mono ?_
  case hC => rintro k W ⟨z, h, _⟩; exact h
  case hC' => rintro k W ⟨h, _⟩; exact h
  case hS => intro k W W1 hk h hB; exact ⟨_, h.step rfl hT hB⟩
  case hJ =>
    have hlt : ∀ j, j < 3 → w.heap.size + j < w1.heap.size := fun j hj => by omega
    refine ⟨0, ⟨(hB2.cell (p := ⟨w.heap.size + 1, 0, none⟩) (hlt 1 (by omega))).trans hc1, (hB2.frozen (p := ⟨w.heap.size + 1, 0, none⟩) (hlt 1 (by omega))).trans hf1, (hB2.cell (p := ⟨w.heap.size + 2, 0, none⟩) (hlt 2 (by omega))).trans hc2, (hB2.frozen (p := ⟨w.heap.size + 2, 0, none⟩) (hlt 2 (by omega))).trans hf2, hT.below hB12, by omega, by omega⟩,
      hl2, hd2, (hB2.cell (p := ⟨w.heap.size, 0, none⟩) (hlt 0 (by omega))).trans hc0, (hB2.frozen (p := ⟨w.heap.size, 0, none⟩) (hlt 0 (by omega))).trans hf0, hB12, by omega⟩
  case hY =>
    rintro k W hk ⟨z, ⟨c1, f1, c2, f2, hT2, hb1, hb2⟩, h1, h2, h3, h4, h5, h6⟩
    refine Rng.yield_at h1 hra hrb (by rw [hrt, hrp]) (by rw [hrp]; rfl) hfn ?_
    obtain ⟨y, hy⟩ : ∃ y, y = On.steps k x := ⟨_, rfl⟩
    rw [← hy]
    obtain ⟨W4, hW4⟩ : ∃ W4, W4 = W.putObj (w.heap.size + 4) (Rng.busyOf r) := ⟨_, rfl⟩
    have h43 : ∀ j, j ≠ w.heap.size + 4 → W4.heap[j]? = W.heap[j]? := fun j hj => by rw [hW4]; exact World.putObj_heap_other hj
    have hl4 : W4.heap[w.heap.size + 4]? = some (Rng.busyOf r) := by rw [hW4]; exact World.putObj_heap_same (by omega)
    have hs4 : w.heap.size + 5 ≤ W4.heap.size := by rw [hW4]; simpa using h6
    have hB4 : Below w.heap.size w W4 := by rw [hW4]; exact below_putObj h5 h5.size (by omega) _
    have k0 : W4.cell? ⟨w.heap.size, 0, none⟩ = some (.int .u64 z.toNat) := (World.cell?_of_block (h43 _ (by simp))).trans h3
    have g0 : W4.frozen? ⟨w.heap.size, 0, none⟩ = false := (World.frozen?_of_block (h43 _ (by simp))).trans h4
    have F := Lib.hid (And.intro h1 (And.intro hl4 (And.intro h2 (And.intro c1 (And.intro f1 (And.intro c2 (And.intro f2 hy)))))))
    have HW4 := Lib.hid hW4
    clear h1 hl4 h2 h3 h4 c1 f1 c2 f2 hT2 hy hl2 hd2 hc0 hf0 hc1 hf1 hc2 hf2 hra hrb hrt hrp hsz hS2 hl1
    gi_wp2
    refine ⟨F.out.1, ?_⟩
    rw [← hW4]
    clear hW4
    gi_wp2
    have h54 : ∀ j, j ≠ w.heap.size → (W4.setCell ⟨w.heap.size, 0, none⟩ (.int .u64 y.toNat)).heap[j]? = W4.heap[j]? := fun j hj => Below.heap_setCell _ _ _ _ hj
    have hs5 : (W4.setCell ⟨w.heap.size, 0, none⟩ (.int .u64 y.toNat)).heap.size = W4.heap.size := by simp [World.setCell]
    have hB5 : Below w.heap.size w ((W4.setCell ⟨w.heap.size, 0, none⟩ (.int .u64 y.toNat)).putObj (w.heap.size + 4) (Rng.readyOf r)) := below_putObj (hB4.setCell (Nat.le_refl _) _) (by omega) (by omega) _
    have hall : ∀ j, j ≠ w.heap.size → j ≠ w.heap.size + 4 → ((W4.setCell ⟨w.heap.size, 0, none⟩ (.int .u64 y.toNat)).putObj (w.heap.size + 4) (Rng.readyOf r)).heap[j]? = W.heap[j]? := fun j p q => (World.putObj_heap_other q).trans ((h54 j p).trans (h43 j q))
    obtain ⟨_, hl4, h2, c1, f1, c2, f2, hy⟩ := F.out
    refine ⟨(h54 _ (by omega)).trans hl4, rfl, ⟨?_, ?_, ?_, ?_, hT.below hB5, by simp; omega, by simp; omega⟩, World.putObj_heap_same (by omega), (hall _ (by omega) (by omega)).trans h2, ?_, ?_, hB5, by simp; omega⟩
    · exact (World.cell?_of_block (hall _ (by simp) (by simp))).trans c1
    · exact (World.frozen?_of_block (hall _ (by simp) (by simp))).trans f1
    · exact (World.cell?_of_block (hall _ (by simp) (by simp))).trans c2
    · exact (World.frozen?_of_block (hall _ (by simp) (by simp))).trans f2
    · rw [World.cell?_of_block (World.putObj_heap_other (by simp)), World.cell?_setCell_same' _ _ _ (by rw [k0]; rfl), hy]
    · rw [World.frozen?_of_block (World.putObj_heap_other (by simp)), World.frozen?_setCell]; exact g0
  rintro r' W3 ⟨⟨v', rfl⟩, ⟨_, h1, h2, h3, h4, h5, h6⟩⟩
  refine ⟨_, rfl, .inl ⟨h1, ?_⟩⟩
  dsimp only
  obtain ⟨y, hy⟩ : ∃ y, y = On.steps N x := ⟨_, rfl⟩
  rw [← hy] at h3
  have Hy := Lib.hid hy
  obtain ⟨W4, hW4⟩ : ∃ W4, W4 = W3.putObj (w.heap.size + 4) (Rng.overOf r none) := ⟨_, rfl⟩
  rw [← hW4]
  have h43 : ∀ j, j ≠ w.heap.size + 4 → W4.heap[j]? = W3.heap[j]? := fun j hj => by rw [hW4]; exact World.putObj_heap_other hj
  have k0 : W4.cell? ⟨w.heap.size, 0, none⟩ = some (.int .u64 y.toNat) := (World.cell?_of_block (h43 _ (by simp))).trans h3
  have hd4 : W4.heap[w1.heap.size]? = some (.deferred (some [])) := by rw [hsz]; exact (h43 _ (by omega)).trans h2
  have hB4 : Below w.heap.size w W4 := by rw [hW4]; exact below_putObj h5 h5.size (by omega) _
  have Hd4 := Lib.hid hd4
  clear hW4 hd4 hsz hS2 hl2 hd2 hc0 hf0 hc1 hf1 hc2 hf2 h1 h2 h3 h4 hra hrb hrt hrp hl1 h43 hy
  gi_wp2
  go_wp2
  refine ⟨by simp, .inl ⟨_, _, rfl, run_takeDeferred Hd4.out, ?_⟩⟩
  refine ⟨_, results_tmp rfl _ _ _, ?_⟩
  rw [← Hy.out]
  exact ⟨rfl, below_putObj hB4 hB4.size (by have := Hsz.out; omega) _⟩
end Go.Proofs.YtfjkmhbipkoefaaGreatDoor
namespace Go.Proofs.YtfjkmhbipkoefaaGreatDoor
open Go.RowKit Go.Shelf
set_option linter.unusedVariables false
theorem size_builder : (Tryz.prog.info? 112).map (·.size) = some 2 := by kernel_rfl
theorem info_byte : (Tryz.prog.info? 5).map (fun i => (i.zero, i.size, i.bytes)) = some (some (.int .u8 0), 1, 1) := by kernel_rfl
theorem lies_builder : liesAt Tryz.prog Tryz.prog.depth 112 (2 / Tryz.prog.cellsOf 112) 0 112 1 = true := by kernel_rfl
set_option maxHeartbeats 1000000 in
set_option maxRecDepth 100000 in
theorem check_used (b : Nat) (w : World) (h0 : w.cell? ⟨b, 0, none⟩ = some (.pointer (some ⟨b, 0, none⟩))) :
    Calls Tryz.prog 91 #[.pointer (some ⟨b, 0, none⟩)] w fun e w' => e = .returned (.tuple #[]) ∧ w' = w := by
  obtain ⟨j, hj, _⟩ := Option.map_eq_some_iff.1 size_builder
  go_enter Tryz.func91, Tryz.ntmps91
  go_wp2
  rw [Lib.run_neq_ptr_same w _ Tryz.underlying110 hj]
  go_wp2
  go_end0
  exact ⟨rfl, rfl⟩
set_option maxHeartbeats 1000000 in
set_option maxRecDepth 100000 in
theorem check_fresh (b : Nat) (w : World) (h0 : w.cell? ⟨b, 0, none⟩ = some (.pointer none)) (hsh : w.shape? b = some (112, 2)) (hfz : w.frozen? ⟨b, 0, none⟩ = false) :
    Calls Tryz.prog 91 #[.pointer (some ⟨b, 0, none⟩)] w fun e w' => e = .returned (.tuple #[]) ∧ w' = w.setCell ⟨b, 0, none⟩ (.pointer (some ⟨b, 0, none⟩)) := by
  obtain ⟨j, hj, hjs⟩ := Option.map_eq_some_iff.1 size_builder
  go_enter Tryz.func91, Tryz.ntmps91
  go_wp2
  rw [Lib.run_to_unsafe w ⟨b, 0, none⟩ Tryz.underlying110 Tryz.underlying140 hj (by rw [hjs]; decide) hsh (Nat.zero_lt_succ 1)]
  simp only [Result.andThen]
  rw [Oper.upon_value]
  go_wp2
  rw [run_callFunc_extern Tryz.func102 (by kernel_rfl) (by kernel_rfl) (by kernel_rfl) (e := Extern.AbiNoEscape.same) (by kernel_rfl)]
  rw [Lib.run_noEscape]
  simp only [Result.andThen]
  rw [Oper.upon_value]
  go_wp2
  rw [Lib.run_from_unsafe w ⟨b, 0, none⟩ Tryz.underlying140 Tryz.underlying110 hj hsh lies_builder]
  simp only [Result.andThen]
  rw [Oper.upon_value]
  go_wp2
  go_end0
  exact ⟨rfl, rfl⟩
theorem check_any' (B b : Nat) (bs : List Value) (w : World) (h : Lib.IsBuilder 112 5 B b bs w) :
    Calls Tryz.prog 91 #[.pointer (some ⟨b, 0, none⟩)] w fun e w' => e = .returned (.tuple #[]) ∧ (Lib.BuilderAt 112 5 B b (.pointer (some ⟨b, 0, none⟩)) bs w' ∧ Below B w w') := by
  rcases h with h | h
  · refine (check_fresh b w h.cell0 h.shape h.frozen0).mono ?_
    rintro e w' ⟨rfl, rfl⟩
    exact ⟨rfl, h.used _, (Below.refl B w).setCell (p := ⟨b, 0, none⟩) h.1 _⟩
  · refine (check_used b w h.cell0).mono ?_
    rintro e w' ⟨rfl, rfl⟩
    exact ⟨rfl, h, Below.refl B _⟩
set_option maxHeartbeats 2000000 in
set_option maxRecDepth 100000 in
theorem write_at (B b : Nat) (bs : List Value) (s : ByteArray) (w : World) (h : Lib.IsBuilder 112 5 B b bs w) (hlen : bs.length + s.size ≤ 140737488355328) (hBw : B ≤ w.heap.size) :
    Calls Tryz.prog 74 #[.pointer (some ⟨b, 0, none⟩), .string s] w fun e w' => e = .returned (.tuple #[.int .i64 s.size, .nilIface]) ∧ (Lib.BuilderAt 112 5 B b (.pointer (some ⟨b, 0, none⟩)) (bs ++ Lib.strCells s) w' ∧ Below B w w') := by
  obtain ⟨i0, hi, hz0, hz1, hz2⟩ := info_parts info_byte
  go_enter Tryz.func74, Tryz.ntmps74
  go_wp2_with (go_at_call 91; refine (check_any' B b bs _ h).mono ?_)
  rintro e w1 ⟨rfl, h1, hb1⟩
  obtain ⟨hB, v, hbk, hown, hne⟩ := h1
  have c0 : w1.cell? ⟨b, 0, none⟩ = some (.pointer (some ⟨b, 0, none⟩)) := by rw [Lib.cell_of_heap hbk]; rfl
  have c1 : w1.cell? ⟨b, 1, none⟩ = some v := by rw [Lib.cell_of_heap hbk]; rfl
  go_wp2_with (at_builtin; refine Lib.wpList_append_own_string _ rfl _ _ 73 9 rfl B 5 i0 Tryz.underlying73 Tryz.underlying9 hi hz0 hz1 hz2 _ _ _ rfl hown s rfl ?c3 ?c4 ?c5 ?_)
  case c3 => unfold maxLen; omega
  case c4 => omega
  case c5 => have := hb1.size; omega
  intro v' w2 hown' hgrow _
  have hlt : b < w1.heap.size := by
    rcases Nat.lt_or_ge b w1.heap.size with h' | h'
    · exact h'
    · simp [Array.getElem?_eq_none h'] at hbk
  have hb2 : w2.heap[b]? = some (.cells #[.pointer (some ⟨b, 0, none⟩), v] 112 (0, 0)) := by
    rw [hgrow.block b hlt (fun e => hne e.symm)]
    exact hbk
  have d0 : w2.cell? ⟨b, 0, none⟩ = some (.pointer (some ⟨b, 0, none⟩)) := by rw [Lib.cell_of_heap hb2]; rfl
  have d1 : w2.cell? ⟨b, 1, none⟩ = some v := by rw [Lib.cell_of_heap hb2]; rfl
  have f1 : w2.frozen? ⟨b, 1, none⟩ = false := Lib.frozen_of_heap hb2 1
  obtain ⟨ao, n', cap, rfl⟩ : ∃ ao n' cap, v' = .slice ao n' cap := by
    rcases hown'.2 with ⟨hv, _⟩ | ⟨g, cap, cur, hv, _⟩
    · exact ⟨_, _, _, hv⟩
    · exact ⟨_, _, _, hv⟩
  go_wp2
  go_ret2
  refine ⟨rfl, ?_, ?_⟩
  · exact Lib.BuilderAt.put (T := 112) (e := 5) hB hb2 (bs' := bs ++ Lib.strCells s) (by simpa [Lib.strCells_length] using hown') (by decide)
  · exact (hb1.grown hgrow (by have := hb1.size; omega) (fun k hk => (hown.lt k hk).1)).setCell (p := ⟨b, 1, none⟩) hB _
/-- A builder in block b that holds the bytes l; nothing below it is touched by writing. -/
def Bld (b : Nat) (l : List UInt8) (w : World) : Prop := Lib.IsBuilder 112 5 b b (Lib.byteCells l) w
theorem builderAt_go {T e : TypeId} {B b : Nat} {p : Value} {bs : List Value} {w w' : World} (h : Lib.BuilderAt T e B b p bs w) (hb : Below w.heap.size w w') : Lib.BuilderAt T e B b p bs w' := by
  have hlt := h.lt
  obtain ⟨hB, v, h1, h2, h3⟩ := h
  exact ⟨hB, v, (hb.block b hlt).trans h1, own_below h2 hb, h3⟩
theorem Bld.go {b : Nat} {l : List UInt8} {w w' : World} (h : Bld b l w) (hb : Below w.heap.size w w') : Bld b l w' := by
  rcases h with h | h
  · exact .inl (builderAt_go h hb)
  · exact .inr (builderAt_go h hb)
theorem Bld.lt {b : Nat} {l : List UInt8} {w : World} (h : Bld b l w) : b < w.heap.size := by
  rcases h with h | h
  · exact h.lt
  · exact h.lt
theorem Bld.new (w : World) : Bld w.heap.size [] (w.alloc (.cells #[.pointer none, .slice none 0 0] 112)) := Lib.fresh_isBuilder _ _ w
theorem strCells_bytes (l : List UInt8) : Lib.strCells ⟨l.toArray⟩ = Lib.byteCells l := by
  simp [Lib.strCells, Lib.byteCells]
theorem bwrite (b : Nat) (l m : List UInt8) (t : ByteArray) (ht : Hid (t = ⟨m.toArray⟩)) (w : World) (h : Bld b l w) (hlen : l.length + m.length ≤ 140737488355328) :
    Calls Tryz.prog 74 #[.pointer (some ⟨b, 0, none⟩), .string t] w fun e w' => (∃ v, e = .returned v) ∧ Bld b (l ++ m) w' ∧ Below b w w' := by
  have ht := ht.out
  subst ht
  refine (write_at b b _ _ w h (by rw [Lib.byteCells_length]; simpa [ByteArray.size] using hlen) (Nat.le_of_lt h.lt)).mono ?_
  rintro e w' ⟨rfl, h1, h2⟩
  refine ⟨⟨_, rfl⟩, .inr ?_, h2⟩
  rw [Lib.byteCells_append, ← strCells_bytes m]
  exact h1
theorem bstring (b : Nat) (l : List UInt8) (t : ByteArray) (ht : Hid (t = ⟨l.toArray⟩)) (w : World) (h : Bld b l w) :
    Calls Tryz.prog 75 #[.pointer (some ⟨b, 0, none⟩)] w fun e w' => e = .returned (.string t) ∧ Below b w w' := by
  have ht := ht.out
  subst ht
  exact Tryz.Builder_String_any b b l w h (Nat.le_of_lt h.lt)
end Go.Proofs.YtfjkmhbipkoefaaGreatDoor
namespace Go.Proofs.YtfjkmhbipkoefaaGreatDoor
open Go.RowKit Go.Shelf
set_option linter.unusedVariables false
theorem i64_and_15 (x : Int) : bits .and .i64 x (15 : Int) = x % 16 := by
  have h2 : (BitVec.ofInt 64 (15 : Int)).toNat = 15 := by decide
  show IntKind.i64.wrap ((BitVec.ofInt 64 x &&& BitVec.ofInt 64 15).toNat : Int) = _
  rw [BitVec.toNat_and, h2, nat_mask4, BitVec.toNat_ofInt]
  rw [IntWalk.i64_in _ (by omega)]
  omega
theorem i64_mod16 (x : Int) : IntKind.i64.wrap x % 16 = x % 16 := by
  simp only [IntKind.wrap_i64]
  omega
theorem secret_data (seed t1 t2 : ByteArray) : ((⟨#[3]⟩ : ByteArray) ++ t1 ++ ⟨#[32]⟩ ++ t2 ++ ⟨#[32]⟩ ++ seed).data.toList = 3 :: (t1.data.toList ++ 32 :: (t2.data.toList ++ 32 :: seed.data.toList)) := by
  simp only [app_data]
  simp
theorem secret_any (seed : ByteArray) (i k : Int) (w : World) (hT : PTab w) (hs : seed.size ≤ 100) (hi : -9223372036854775808 ≤ i ∧ i ≤ 9223372036854775807) (hk : -9223372036854775808 ≤ k ∧ k ≤ 9223372036854775807) :
    Calls Tryz.prog 50 #[.string seed, .int .i64 i, .int .i64 k] w fun e w' => e = .returned (.int .u64 (On.secret seed.data.toList i k).toNat) ∧ Below w.heap.size w w' := by
  obtain ⟨t1, ht1⟩ : ∃ t, itoaB i = t := ⟨_, rfl⟩
  obtain ⟨t2, ht2⟩ : ∃ t, itoaB k = t := ⟨_, rfl⟩
  have s1 := itoaB_size i hi.1 hi.2
  have s2 := itoaB_size k hk.1 hk.2
  rw [ht1] at s1
  rw [ht2] at s2
  have hv : Hid (Dig.sum ((⟨#[3]⟩ : ByteArray) ++ t1 ++ ⟨#[32]⟩ ++ t2 ++ ⟨#[32]⟩ ++ seed).data.toList = On.secret seed.data.toList i k) := by
    refine Lib.hid ?_
    rw [secret_data, ← ht1, ← ht2]
    rfl
  have H1 := Lib.hid ht1
  have H2 := Lib.hid ht2
  clear ht1 ht2
  have q1 : ((⟨#[3]⟩ : ByteArray) ++ t1).size ≤ 22 := by rw [app_size]; show 1 + _ ≤ _; omega
  have q2 : ((⟨#[3]⟩ : ByteArray) ++ t1 ++ ⟨#[32]⟩).size ≤ 23 := by rw [app_size]; show _ + 1 ≤ _; omega
  have q3 : ((⟨#[3]⟩ : ByteArray) ++ t1 ++ ⟨#[32]⟩ ++ t2).size ≤ 44 := by rw [app_size]; omega
  have q4 : ((⟨#[3]⟩ : ByteArray) ++ t1 ++ ⟨#[32]⟩ ++ t2 ++ ⟨#[32]⟩).size ≤ 45 := by rw [app_size]; show _ + 1 ≤ _; omega
  have q5 : ((⟨#[3]⟩ : ByteArray) ++ t1 ++ ⟨#[32]⟩ ++ t2 ++ ⟨#[32]⟩ ++ seed).size ≤ maxLen := by rw [app_size]; unfold maxLen; omega
  go_enter Tryz.func50, Tryz.ntmps50
  go_wp2_with fail
  refine (itoa_any i hi.1 hi.2 t1 H1 _ hT).mono ?_
  rintro e w1 ⟨rfl, hB1⟩
  have hT1 := hT.go hB1
  go_wp2_with fail
  refine (itoa_any k hk.1 hk.2 t2 H2 _ hT1).mono ?_
  rintro e w2 ⟨rfl, hB2⟩
  go_wp2_with fail
  refine (sum_at _ _ _ hv q5).mono ?_
  rintro e w3 ⟨rfl, rfl⟩
  go_wp2_with fail
  go_ret
  exact ⟨rfl, bgo hB1 hB2⟩
end Go.Proofs.YtfjkmhbipkoefaaGreatDoor
namespace Go.Proofs.YtfjkmhbipkoefaaGreatDoor
open Go.RowKit Go.Shelf
set_option linter.unusedVariables false
def OTabs (w : World) : Prop := Tab w ∧ PTab w
theorem OTabs.go {w w' : World} (h : OTabs w) (hb : Below w.heap.size w w') : OTabs w' := ⟨h.1.below hb, h.2.go hb⟩
def leavesB (seed : ByteArray) (n : Nat) : List ByteArray := (On.leaves seed.data.toList n).map bytesOf
theorem leavesB_len (seed : ByteArray) (n : Nat) : (leavesB seed n).length = n := by rw [leavesB, List.length_map, On.leaves_len]
theorem leavesB_snoc (seed : ByteArray) (n : Nat) : strV (leavesB seed (n + 1)) = strV (leavesB seed n) ++ [.string (bytesOf (On.leaf seed.data.toList (n : Nat)))] := by
  simp [leavesB, On.leaves, strV]
set_option maxRecDepth 100000 in
set_option maxHeartbeats 4000000 in
theorem leaves_any (seed : ByteArray) (h n : Nat) (hh : h ≤ 8) (hn : 2 ^ h = n) (hs : seed.size ≤ 100) (w : World) (hT : OTabs w) :
    Calls Tryz.prog 51 #[.string seed, .int .i64 (h : Int)] w fun e w' => ∃ v, e = .returned v ∧ w'.ownsRow w.heap.size 9 1 v n (strV (leavesB seed n)) ∧ Below w.heap.size w w' := by
  obtain ⟨i0, hi0, hz0, hz1, hz2⟩ := info_parts info_string
  have hn256 : n ≤ 256 := by
    rw [← hn]
    exact Nat.pow_le_pow_right (by omega) hh
  have hw : wrap64 (2 ^ h) = (n : Int) := by
    have e : (2 : Int) ^ h = (n : Int) := by rw [← hn, Int.natCast_pow]; rfl
    rw [e, IntWalk.wrap64_in _ (by omega)]
  have Hn := Lib.hid hn
  clear hn
  go_enter Tryz.func51, Tryz.ntmps51
  go_wp2
  rw [hw]
  clear hw
  go_loopw [5, 11] (fun v i wr => ∃ k : Nat, k ≤ n ∧ i = .int .i64 k ∧ wr.ownsRow w.heap.size 9 1 v k (strV (leavesB seed k)) ∧ Below w.heap.size w wr) (fun _ i _ => n - (intOf i).toNat)
  case atStart => exact ⟨0, Nat.zero_le _, rfl, ⟨rfl, .inl ⟨rfl, rfl⟩⟩, Below.refl _ _⟩
  case round =>
    obtain ⟨W0, hW0⟩ : ∃ W0, W0 = wr := ⟨_, rfl⟩
    subst hW0
    obtain ⟨k, hk, rfl, hown, hB⟩ := hrel
    have Hown := Lib.hid hown
    have hT1 := hT.go hB
    clear hown
    by_cases hlt : k < n
    · have hlt' : (k : Int) < (n : Int) := by omega
      go_wp2
      go_loopw [14] (fun i wx => ∃ j : Nat, j ≤ 18 ∧ i = .int .i64 j ∧ Bld W0.heap.size (On.leafTo seed.data.toList (k : Nat) j) wx ∧ Below W0.heap.size W0 wx) (fun i _ => 18 - (intOf i).toNat)
      case atStart => exact ⟨0, by omega, rfl, Bld.new W0, (Below.refl _ _).alloc (Nat.le_refl _) _⟩
      case round =>
        obtain ⟨j, hj, rfl, hb, hBx⟩ := hrel
        have hT2 := hT1.go hBx
        by_cases hj18 : j < 18
        · have hj' : (j : Int) < 18 := by omega
          have Hb := Lib.hid hb
          clear hb
          go_wp2_with fail
          refine (secret_any seed (k : Int) (j : Int) _ hT2.2 hs (by omega) (by omega)).mono ?_
          rintro e w1 ⟨rfl, hB1⟩
          obtain ⟨x, hx⟩ : ∃ x, On.secret seed.data.toList (k : Int) (j : Int) = x := ⟨_, rfl⟩
          rw [hx]
          have hT3 := hT2.go hB1
          have Hx := Lib.hid hx
          clear hx
          go_wp2_with fail
          refine (walk_any x 15 (by omega) _ hT3.1).mono ?_
          rintro e w2 ⟨rfl, hB2⟩
          obtain ⟨y, hy⟩ : ∃ y, On.steps 15 x = y := ⟨_, rfl⟩
          rw [hy]
          have hT4 := hT3.go hB2
          have Hy := Lib.hid hy
          clear hy
          go_wp2_with fail
          refine (text_b y _ hT4.1).mono ?_
          rintro e w3 ⟨rfl, hB3⟩
          have hB13 := bgo (bgo hB1 hB2) hB3
          go_wp2_with fail
          refine (bwrite W0.heap.size _ (Dig.text y) _ (Lib.hid rfl) _ (Hb.out.go hB13) (by rw [On.leafTo_len, On.text_len]; omega)).mono ?_
          rintro e w4 ⟨⟨v4, rfl⟩, hb4, hB4⟩
          have hB5 : Below W0.heap.size W0 w4 := (hBx.trans (hB13.mono hBx.size)).trans hB4
          have Hb4 := Lib.hid hb4
          clear hb4 hB1 hB2 hB3 hB4 hB13 hT3 hT4
          go_wp2
          go_roundw
          case rel =>
            refine ⟨j + 1, by omega, by go_num, ?_, hB5⟩
            have := Hb4.out
            rw [← Hy.out, ← Hx.out] at this
            exact this
          case measure => simp [intOf]; omega
        · have hE : j = 18 := by omega
          subst hE
          have Hb := Lib.hid hb
          clear hb
          go_wp2_with fail
          refine (bstring W0.heap.size _ (bytesOf (On.leaf seed.data.toList (k : Nat))) (Lib.hid rfl) _ Hb.out).mono ?_
          rintro e w1 ⟨rfl, hB1⟩
          have hB2 : Below W0.heap.size W0 w1 := hBx.trans hB1
          have Hown2 := Lib.hid (own_below Hown.out hB2)
          obtain ⟨t, htt⟩ : ∃ t, bytesOf (On.leaf seed.data.toList (k : Nat)) = t := ⟨_, rfl⟩
          rw [htt]
          have Htt := Lib.hid htt
          clear htt Hown
          have hB3 : Below w.heap.size w w1 := hB.trans (hB2.mono hB.size)
          go_wp2_with (at_builtin; refine wpList_append_own _ rfl _ _ 51 rfl w.heap.size 9 i0 (.string ⟨#[]⟩) 1 16 Tryz.underlying51 hi0 hz0 hz1 hz2 rfl (by decide) _ _ _ rfl (Hown2.out.alloc _) ⟨w1.heap.size, 0, none⟩ 1 1 [.string t] rfl rfl ?c1 ?c2 ?c3 ?c4 ?c5 ?_)
          case c1 => exact cell_one_new _ _ _
          case c2 => simp [Value.oneCell']
          case c3 => simp [maxLen]; omega
          case c4 => omega
          case c5 => have := hB3.size; simp; omega
          intro v' w2 hown1 hg1 _
          have hB4 : Below w.heap.size w w2 := (hB3.alloc hB3.size _).grown hg1 (by have := hB3.size; simp; omega) (fun k hk => (Hown2.out.lt k hk).1)
          have HR := Lib.hid hown1
          clear hown1 hg1
          go_wp2
          go_roundw
          case rel =>
            refine ⟨k + 1, by omega, by go_num, ?_, hB4⟩
            rw [leavesB_snoc, Htt.out]
            exact HR.out
          case measure => simp [intOf]; omega
    · have hE : k = n := by omega
      subst hE
      go_wp2
      go_ret
      exact ⟨_, rfl, Hown.out, hB⟩
end Go.Proofs.YtfjkmhbipkoefaaGreatDoor
