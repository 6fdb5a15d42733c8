/- The walks of package onetime: chain, walk. -/
import Derived.Test.YthgkjcofmkkdcaaDoorOnMath
import Derived.Test.YthgkjcofmkkdcaaDoorDigW3
import Derived.Test.YthgkjcofmkkdcaaDoorRange
import Derived.Test.YthgkjcofmkkdcaaDoorBase
import Derived.StillTailTactics
import Derived.OwnWalkIn
import Derived.TacticsInMore
import Derived.LoopNIn
import Derived.LoopIn
import Derived.RangeFuncBox
import Derived.RangeFuncLeaves
import Derived.Shelf.Abstract
import Derived.IntWalk
import Derived.Below
import Derived.Lib.Hide
namespace Go.Proofs.YthgkjcofmkkdcaaDoor
open Go.RowKit Go.Shelf
set_option linter.unusedVariables false
attribute [local go_sem] Oper.semAt_some
def textB (d : UInt64) : ByteArray := ⟨(Dig.text d).toArray⟩
theorem text_b (d : UInt64) (w : World) (hT : Tab w) : Calls Tryd.prog 48 #[.int .u64 d.toNat] w fun e w' => e = .returned (.string (textB d)) ∧ Below w.heap.size w w' := text_any d w hT
theorem textB_size (d : UInt64) : (textB d).size = 16 := rfl
theorem step_eq (d : UInt64) : Dig.sum ((⟨#[2]⟩ : ByteArray) ++ textB d).data.toList = On.step d := by
  rw [app_data]; rfl
theorem step_size (d : UInt64) : ((⟨#[2]⟩ : ByteArray) ++ textB d).size ≤ maxLen := by
  rw [app_size, textB_size]; decide
theorem sum_at (s : ByteArray) (v : UInt64) (w : World) (hv : Hid (Dig.sum s.data.toList = v)) (hs : s.size ≤ maxLen) : Calls Tryd.prog 31 #[.string s] w fun e w' => e = .returned (.int .u64 v.toNat) ∧ w = w' := by
  rw [← hv.out]; exact sum_any s w hs
def intAt (W : World) (B : Nat) : Int := match W.cell? ⟨B, 0, none⟩ with
  | some (.int _ n) => n
  | _ => 0
theorem chain_any (x : UInt64) (n : Int) (w : World) : Calls Tryd.prog 67 #[.int .u64 x.toNat, .int .i64 n] w fun e w' => e = .returned (.func (.func 82) #[] #[.pointer (some ⟨w.heap.size, 0, none⟩), .pointer (some ⟨w.heap.size + 1, 0, none⟩)]) ∧ (w.alloc (.cells #[.int .u64 x.toNat] 23)).alloc (.cells #[.int .i64 n] 3) = w' := by
  go_enter Tryd.func67, Tryd.ntmps67
  go_wp2
  go_ret
  exact ⟨rfl, rfl⟩
/-- What the captured cells hold after k steps. -/
def ChainC (Bf Bs : Nat) (x : UInt64) (N k : Nat) (W : World) : Prop :=
  W.cell? ⟨Bf, 0, none⟩ = some (.int .u64 (On.steps k x).toNat) ∧ W.frozen? ⟨Bf, 0, none⟩ = false ∧ W.cell? ⟨Bs, 0, none⟩ = some (.int .i64 (((N - k : Nat) : Nat) : Int)) ∧ W.frozen? ⟨Bs, 0, none⟩ = false ∧ Tab W ∧ Bf < W.heap.size ∧ Bs < W.heap.size
set_option maxRecDepth 100000 in
set_option maxHeartbeats 4000000 in
theorem chain1_any (l m Bf Bs : Nat) (hBB : Bf ≠ Bs) (W : World) (x : UInt64) (N : Nat) (hN : N < 9223372036854775808) (J J' : Nat → World → Prop)
    (hC : ∀ k W, J k W → ChainC Bf Bs x N k W) (hC' : ∀ k W, J' k W → ChainC Bf Bs x N k W)
    (hY : ∀ k W, k ≤ N → J k W → YieldAt Fence.wide m Tryd.prog l #[.int .u64 (On.steps k x).toNat] W fun r W' => r = .returned (.bool true) ∧ J' k W')
    (hS : ∀ k W W1, k < N → J' k W → Below W.heap.size W W1 → J (k + 1) ((W1.setCell ⟨Bf, 0, none⟩ (.int .u64 (On.steps (k + 1) x).toNat)).setCell ⟨Bs, 0, none⟩ (.int .i64 (((N - (k + 1) : Nat) : Nat) : Int))))
    (hJ : J 0 W) :
    Calls Tryd.prog 82 #[.func (.yield l) #[] #[], .pointer (some ⟨Bf, 0, none⟩), .pointer (some ⟨Bs, 0, none⟩)] W fun r W' => (∃ v, r = .returned v) ∧ J' N W' := by
  have HJ := Lib.hid hJ
  clear hJ
  go_enter Tryd.func82, Tryd.ntmps82
  go_wp2
  go_loopw [] (fun wr => ∃ k : Nat, k ≤ N ∧ J k wr) (fun wr => (intAt wr Bs).toNat)
  case atStart => exact ⟨0, Nat.zero_le _, HJ.out⟩
  case round =>
    obtain ⟨k, hk, hJk⟩ := hrel
    obtain ⟨c1, f1, c2, f2, hT, hb1, hb2⟩ := hC k wr hJk
    obtain ⟨fn, tmps, assign, body, hy, hR⟩ := hY k wr hk hJk
    have HR := Lib.hid hR
    have HJk := Lib.hid hJk
    have HC := Lib.hid c2
    obtain ⟨y, hyy⟩ : ∃ y, y = On.steps k x := ⟨_, rfl⟩
    rw [← hyy] at c1 hy
    have Hyy := Lib.hid hyy
    clear hR hJk c2 f1 f2 hT hb1 hb2 hyy
    refine (wpIn_wide (n := m + 1)).1 ?_
    gi_wp2
    refine HR.out.mono ?_
    rintro r W2 ⟨rfl, hJ2⟩
    obtain ⟨d1, g1, d2, g2, hT2, hb1, hb2⟩ := hC' k W2 hJ2
    rw [← Hyy.out] at d1
    have HJ2 := Lib.hid hJ2
    have HC2 := Lib.hid (hC' k W2 hJ2)
    clear hJ2 hy c1
    by_cases h0 : k < N
    · have hd : decide ((0 : Int) < (((N - k : Nat) : Nat) : Int)) = true := by simp; omega
      have hstep : Hid (Dig.sum ((⟨#[2]⟩ : ByteArray) ++ textB y).data.toList = On.steps (k + 1) x) := Lib.hid (by rw [step_eq, Hyy.out]; rfl)
      gi_wp2
      refine ⟨trivial, callsIn_wide.2 ((text_b y _ hT2).mono ?_)⟩
      rintro e W3 ⟨rfl, hB3⟩
      have hsz := step_size y
      have hz : ¬ (9223372036854775807 < 1 + (textB y).size) := by rw [textB_size]; decide
      gi_wp2
      refine ⟨trivial, callsIn_wide.2 ((sum_at _ _ _ hstep hsz).mono ?_)⟩
      rintro e W4 ⟨rfl, rfl⟩
      have e1 : W3.cell? ⟨Bf, 0, none⟩ = some (.int .u64 y.toNat) := (hB3.cell (p := ⟨Bf, 0, none⟩) hb1).trans d1
      have e2 : W3.frozen? ⟨Bf, 0, none⟩ = false := (hB3.frozen (p := ⟨Bf, 0, none⟩) hb1).trans g1
      have e3 : W3.cell? ⟨Bs, 0, none⟩ = some (.int .i64 (((N - k : Nat) : Nat) : Int)) := (hB3.cell (p := ⟨Bs, 0, none⟩) hb2).trans d2
      have e4 : W3.frozen? ⟨Bs, 0, none⟩ = false := (hB3.frozen (p := ⟨Bs, 0, none⟩) hb2).trans g2
      obtain ⟨z, hz⟩ : ∃ z, z = On.steps (k + 1) x := ⟨_, rfl⟩
      have HS := Lib.hid (hS k W2 W3 h0 HJ2.out hB3)
      rw [← hz] at HS ⊢
      have hne : ¬ (Bf = Bs) := hBB
      have hne' : ¬ (Bs = Bf) := fun e => hBB e.symm
      have hNk : (((N - k : Nat) : Nat) : Int) - 1 = (((N - (k + 1) : Nat) : Nat) : Int) := by omega
      have hlt : (((N - k : Nat) : Nat) : Int) < 9223372036854775808 := by omega
      have hge : (0 : Int) < (((N - k : Nat) : Nat) : Int) := by omega
      clear hT2 d1 g1 d2 g2 hd hz
      generalize hq : (((N - k : Nat) : Nat) : Int) = q at *
      gi_wp2
      go_roundw
      case rel => exact ⟨k + 1, by omega, HS.out⟩
      case measure =>
        have hx := (hC (k + 1) _ HS.out).2.2.1
        unfold intAt
        rw [hx, HC.out]
        simp only []
        omega
    · have hkN : k = N := by omega
      subst hkN
      rw [Nat.sub_self] at d2
      clear HC2 HC
      gi_wp2
      go_end0
      exact ⟨⟨_, rfl⟩, HJ2.out⟩
/-- The loop of walk: the cells and the record, with z in the result's cell. -/
def WalkK (w : World) (l : Nat) (r : Loop) (x : UInt64) (N : Nat) (z : UInt64) (k : Nat) (W : World) : Prop :=
  ChainC (w.heap.size + 1) (w.heap.size + 2) x N k W ∧ W.heap[l]? = some (Rng.readyOf r) ∧ W.heap[w.heap.size + 3]? = some (.deferred (some [])) ∧
    W.cell? ⟨w.heap.size, 0, none⟩ = some (.int .u64 z.toNat) ∧ W.frozen? ⟨w.heap.size, 0, none⟩ = false ∧ Below w.heap.size w W ∧ w.heap.size + 5 ≤ W.heap.size
theorem WalkK.step {w : World} {l : Nat} {r : Loop} {x : UInt64} {N : Nat} {z : UInt64} {k : Nat} {W W1 : World} (hl : l = w.heap.size + 4) (h : WalkK w l r x N z k W) (hT : Tab w) (hB : Below W.heap.size W W1) :
    WalkK w l r x N z (k + 1) ((W1.setCell ⟨w.heap.size + 1, 0, none⟩ (.int .u64 (On.steps (k + 1) x).toNat)).setCell ⟨w.heap.size + 2, 0, none⟩ (.int .i64 (((N - (k + 1) : Nat) : Nat) : Int))) := by
  subst hl
  obtain ⟨⟨c1, f1, c2, f2, hT2, hb1, hb2⟩, h1, h2, h3, h4, h5, h6⟩ := h
  have hs1 := hB.size
  have k1 : W1.cell? ⟨w.heap.size + 1, 0, none⟩ = some (.int .u64 (On.steps k x).toNat) := (hB.cell (p := ⟨w.heap.size + 1, 0, none⟩) hb1).trans c1
  have k2 : W1.cell? ⟨w.heap.size + 2, 0, none⟩ = some (.int .i64 (((N - k : Nat) : Nat) : Int)) := (hB.cell (p := ⟨w.heap.size + 2, 0, none⟩) hb2).trans c2
  have g1 : W1.frozen? ⟨w.heap.size + 1, 0, none⟩ = false := (hB.frozen (p := ⟨w.heap.size + 1, 0, none⟩) hb1).trans f1
  have g2 : W1.frozen? ⟨w.heap.size + 2, 0, none⟩ = false := (hB.frozen (p := ⟨w.heap.size + 2, 0, none⟩) hb2).trans f2
  obtain ⟨Wa, hWa⟩ : ∃ Wa, Wa = W1.setCell ⟨w.heap.size + 1, 0, none⟩ (.int .u64 (On.steps (k + 1) x).toNat) := ⟨_, rfl⟩
  rw [← hWa]
  have ha : ∀ j, j ≠ w.heap.size + 1 → Wa.heap[j]? = W1.heap[j]? := fun j hj => by rw [hWa]; exact Below.heap_setCell _ _ _ _ hj
  have sa : Wa.heap.size = W1.heap.size := by rw [hWa]; simp [World.setCell]
  have hb : ∀ j, j ≠ w.heap.size + 2 → (Wa.setCell ⟨w.heap.size + 2, 0, none⟩ (.int .i64 (((N - (k + 1) : Nat) : Nat) : Int))).heap[j]? = Wa.heap[j]? := fun j hj => Below.heap_setCell _ _ _ _ hj
  have sb : (Wa.setCell ⟨w.heap.size + 2, 0, none⟩ (.int .i64 (((N - (k + 1) : Nat) : Nat) : Int))).heap.size = Wa.heap.size := by simp [World.setCell]
  have hba : ∀ j, j ≠ w.heap.size + 1 → j ≠ w.heap.size + 2 → j < W.heap.size → (Wa.setCell ⟨w.heap.size + 2, 0, none⟩ (.int .i64 (((N - (k + 1) : Nat) : Nat) : Int))).heap[j]? = W.heap[j]? := fun j p q u => (hb j q).trans ((ha j p).trans (hB.block j u))
  have hBel : Below w.heap.size w (Wa.setCell ⟨w.heap.size + 2, 0, none⟩ (.int .i64 (((N - (k + 1) : Nat) : Nat) : Int))) := by
    rw [hWa]
    exact ((h5.trans (hB.mono h5.size)).setCell (by simp) _).setCell (by simp) _
  refine ⟨⟨?_, ?_, ?_, ?_, hT.below hBel, by omega, by omega⟩, ?_, ?_, ?_, ?_, hBel, by omega⟩
  · rw [World.cell?_of_block (hb _ (by simp)), hWa]; exact World.cell?_setCell_same' _ _ _ (by rw [k1]; rfl)
  · rw [World.frozen?_of_block (hb _ (by simp)), hWa, World.frozen?_setCell]; exact g1
  · exact World.cell?_setCell_same' _ _ _ (by rw [World.cell?_of_block (ha _ (by simp)), k2]; rfl)
  · rw [World.frozen?_setCell, World.frozen?_of_block (ha _ (by simp))]; exact g2
  · exact (hba _ (by omega) (by omega) (by omega)).trans h1
  · exact (hba _ (by omega) (by omega) (by omega)).trans h2
  · exact (World.cell?_of_block (hba _ (by simp) (by simp) (by simp; omega))).trans h3
  · exact (World.frozen?_of_block (hba _ (by simp) (by simp) (by simp; omega))).trans h4
set_option maxRecDepth 100000 in
set_option maxHeartbeats 4000000 in
theorem walk_any (x : UInt64) (N : Nat) (hN : N < 9223372036854775808) (w : World) (hT : Tab w) :
    Calls Tryd.prog 41 #[.int .u64 x.toNat, .int .i64 (N : Int)] w fun e w' => e = .returned (.int .u64 (On.steps N x).toNat) ∧ Below w.heap.size w w' := by
  refine (callsIn_wide (n := 4)).1 ?_
  refine callsIn_of_wp_marks Tryd.func41 rfl trivial ?_ rfl
  simp only [Tryd.ntmps41, List.size_toArray, List.length_cons, List.length_nil, Nat.reduceAdd, Nat.reduceSub, Array.replicate_succ, Array.replicate_zero, List.push_toArray, List.append_toArray, List.nil_append, List.cons_append]
  refine wpIn_wide.2 ?_
  go_wp2_with fail
  refine (chain_any _ _ _).mono ?_
  rintro e w' ⟨rfl, rfl⟩
  go_wp2_with fail
  obtain ⟨w1, hw1⟩ : ∃ w1, w1 = ((w.alloc (.cells #[.int .u64 0] 23)).alloc (.cells #[.int .u64 x.toNat] 23)).alloc (.cells #[.int .i64 (N : Int)] 3) := ⟨_, rfl⟩
  rw [← hw1]
  have hsz : w1.heap.size = w.heap.size + 3 := by rw [hw1]; simp
  have hB1 : Below w.heap.size w w1 := by rw [hw1]; exact (((Below.refl _ _).alloc (Nat.le_refl _) _).alloc (by simp) _).alloc (by simp; omega) _
  have hc0 : w1.cell? ⟨w.heap.size, 0, none⟩ = some (.int .u64 (0 : UInt64).toNat) := by rw [hw1]; simp [go_sem]
  have hf0 : w1.frozen? ⟨w.heap.size, 0, none⟩ = false := by rw [hw1]; simp [go_sem]
  have hc1 : w1.cell? ⟨w.heap.size + 1, 0, none⟩ = some (.int .u64 x.toNat) := by rw [hw1]; simp [go_sem]
  have hf1 : w1.frozen? ⟨w.heap.size + 1, 0, none⟩ = false := by rw [hw1]; simp [go_sem]
  have hc2 : w1.cell? ⟨w.heap.size + 2, 0, none⟩ = some (.int .i64 (N : Int)) := by rw [hw1]; simp [go_sem]
  have hf2 : w1.frozen? ⟨w.heap.size + 2, 0, none⟩ = false := by rw [hw1]; simp [go_sem]
  clear hw1
  have Hsz := Lib.hid hsz
  refine (wpIn_wide (n := 3)).1 ?_
  refine Rng.range_any rfl (by omega) (gf := 82) (lb := #[.pointer (some ⟨w.heap.size + 1, 0, none⟩), .pointer (some ⟨w.heap.size + 2, 0, none⟩)]) rfl trivial (enters_of Tryd.func82 (by kernel_rfl) rfl) ?_
  intro r hfn hra hrb hrt hrp
  refine callsIn_wide.2 ?_
  obtain ⟨W2, hW2⟩ : ∃ W2, W2 = (w1.alloc (.deferred (some []))).alloc (Rng.readyOf r) := ⟨_, rfl⟩
  rw [← hW2]
  have hS2 : W2.heap.size = w.heap.size + 5 := by rw [hW2]; simp [hsz]
  have hB2 : Below w1.heap.size w1 W2 := by rw [hW2]; exact ((Below.refl _ _).alloc (Nat.le_refl _) _).alloc (by simp) _
  have hl2 : W2.heap[w.heap.size + 4]? = some (Rng.readyOf r) := by rw [hW2]; have := World.alloc_heap_new (w1.alloc (.deferred (some []))) (Rng.readyOf r); rwa [World.size_alloc, hsz] at this
  have hd2 : W2.heap[w.heap.size + 3]? = some (.deferred (some [])) := by rw [hW2, ← hsz]; exact (Below.heap_alloc _ _ _ (by simp)).trans (World.alloc_heap_new w1 _)
  clear hW2
  have hl1 : w1.heap.size + 1 = w.heap.size + 4 := by omega
  rw [hl1]
  show Calls Tryd.prog 82 #[.func (.yield (w.heap.size + 4)) #[] #[], .pointer (some ⟨w.heap.size + 1, 0, none⟩), .pointer (some ⟨w.heap.size + 2, 0, none⟩)] W2 _
  have hB12 : Below w.heap.size w W2 := hB1.trans (hB2.mono hB1.size)
  refine (chain1_any (w.heap.size + 4) 1 (w.heap.size + 1) (w.heap.size + 2) (by omega) W2 x N hN (fun k W => ∃ z, WalkK w (w.heap.size + 4) r x N z k W) (fun k W => WalkK w (w.heap.size + 4) r x N (On.steps k x) k W) ?hC ?hC' ?hY ?hS ?hJ).mono ?_
  case hC => rintro k W ⟨z, h, _⟩; exact h
  case hC' => rintro k W ⟨h, _⟩; exact h
  case hS => intro k W W1 hk h hB; exact ⟨_, h.step rfl hT hB⟩
  case hJ =>
    have hlt : ∀ j, j < 3 → w.heap.size + j < w1.heap.size := fun j hj => by omega
    refine ⟨0, ⟨(hB2.cell (p := ⟨w.heap.size + 1, 0, none⟩) (hlt 1 (by omega))).trans hc1, (hB2.frozen (p := ⟨w.heap.size + 1, 0, none⟩) (hlt 1 (by omega))).trans hf1, (hB2.cell (p := ⟨w.heap.size + 2, 0, none⟩) (hlt 2 (by omega))).trans hc2, (hB2.frozen (p := ⟨w.heap.size + 2, 0, none⟩) (hlt 2 (by omega))).trans hf2, hT.below hB12, by omega, by omega⟩,
      hl2, hd2, (hB2.cell (p := ⟨w.heap.size, 0, none⟩) (hlt 0 (by omega))).trans hc0, (hB2.frozen (p := ⟨w.heap.size, 0, none⟩) (hlt 0 (by omega))).trans hf0, hB12, by omega⟩
  case hY =>
    rintro k W hk ⟨z, ⟨c1, f1, c2, f2, hT2, hb1, hb2⟩, h1, h2, h3, h4, h5, h6⟩
    refine Rng.yield_at h1 hra hrb (by rw [hrt, hrp]) (by rw [hrp]; rfl) hfn ?_
    obtain ⟨y, hy⟩ : ∃ y, y = On.steps k x := ⟨_, rfl⟩
    rw [← hy]
    obtain ⟨W4, hW4⟩ : ∃ W4, W4 = W.putObj (w.heap.size + 4) (Rng.busyOf r) := ⟨_, rfl⟩
    have h43 : ∀ j, j ≠ w.heap.size + 4 → W4.heap[j]? = W.heap[j]? := fun j hj => by rw [hW4]; exact World.putObj_heap_other hj
    have hl4 : W4.heap[w.heap.size + 4]? = some (Rng.busyOf r) := by rw [hW4]; exact World.putObj_heap_same (by omega)
    have hs4 : w.heap.size + 5 ≤ W4.heap.size := by rw [hW4]; simpa using h6
    have hB4 : Below w.heap.size w W4 := by rw [hW4]; exact below_putObj h5 h5.size (by omega) _
    have k0 : W4.cell? ⟨w.heap.size, 0, none⟩ = some (.int .u64 z.toNat) := (World.cell?_of_block (h43 _ (by simp))).trans h3
    have g0 : W4.frozen? ⟨w.heap.size, 0, none⟩ = false := (World.frozen?_of_block (h43 _ (by simp))).trans h4
    have F := Lib.hid (And.intro h1 (And.intro hl4 (And.intro h2 (And.intro c1 (And.intro f1 (And.intro c2 (And.intro f2 hy)))))))
    have HW4 := Lib.hid hW4
    clear h1 hl4 h2 h3 h4 c1 f1 c2 f2 hT2 hy hl2 hd2 hc0 hf0 hc1 hf1 hc2 hf2 hra hrb hrt hrp hsz hS2 hl1
    gi_wp2
    refine ⟨F.out.1, ?_⟩
    rw [← hW4]
    clear hW4
    gi_wp2
    have h54 : ∀ j, j ≠ w.heap.size → (W4.setCell ⟨w.heap.size, 0, none⟩ (.int .u64 y.toNat)).heap[j]? = W4.heap[j]? := fun j hj => Below.heap_setCell _ _ _ _ hj
    have hs5 : (W4.setCell ⟨w.heap.size, 0, none⟩ (.int .u64 y.toNat)).heap.size = W4.heap.size := by simp [World.setCell]
    have hB5 : Below w.heap.size w ((W4.setCell ⟨w.heap.size, 0, none⟩ (.int .u64 y.toNat)).putObj (w.heap.size + 4) (Rng.readyOf r)) := below_putObj (hB4.setCell (Nat.le_refl _) _) (by omega) (by omega) _
    have hall : ∀ j, j ≠ w.heap.size → j ≠ w.heap.size + 4 → ((W4.setCell ⟨w.heap.size, 0, none⟩ (.int .u64 y.toNat)).putObj (w.heap.size + 4) (Rng.readyOf r)).heap[j]? = W.heap[j]? := fun j p q => (World.putObj_heap_other q).trans ((h54 j p).trans (h43 j q))
    obtain ⟨_, hl4, h2, c1, f1, c2, f2, hy⟩ := F.out
    refine ⟨(h54 _ (by omega)).trans hl4, rfl, ⟨?_, ?_, ?_, ?_, hT.below hB5, by simp; omega, by simp; omega⟩, World.putObj_heap_same (by omega), (hall _ (by omega) (by omega)).trans h2, ?_, ?_, hB5, by simp; omega⟩
    · exact (World.cell?_of_block (hall _ (by simp) (by simp))).trans c1
    · exact (World.frozen?_of_block (hall _ (by simp) (by simp))).trans f1
    · exact (World.cell?_of_block (hall _ (by simp) (by simp))).trans c2
    · exact (World.frozen?_of_block (hall _ (by simp) (by simp))).trans f2
    · rw [World.cell?_of_block (World.putObj_heap_other (by simp)), World.cell?_setCell_same' _ _ _ (by rw [k0]; rfl), hy]
    · rw [World.frozen?_of_block (World.putObj_heap_other (by simp)), World.frozen?_setCell]; exact g0
  rintro r' W3 ⟨⟨v', rfl⟩, ⟨_, h1, h2, h3, h4, h5, h6⟩⟩
  refine ⟨_, rfl, .inl ⟨h1, ?_⟩⟩
  dsimp only
  obtain ⟨y, hy⟩ : ∃ y, y = On.steps N x := ⟨_, rfl⟩
  rw [← hy] at h3
  have Hy := Lib.hid hy
  obtain ⟨W4, hW4⟩ : ∃ W4, W4 = W3.putObj (w.heap.size + 4) (Rng.overOf r none) := ⟨_, rfl⟩
  rw [← hW4]
  have h43 : ∀ j, j ≠ w.heap.size + 4 → W4.heap[j]? = W3.heap[j]? := fun j hj => by rw [hW4]; exact World.putObj_heap_other hj
  have k0 : W4.cell? ⟨w.heap.size, 0, none⟩ = some (.int .u64 y.toNat) := (World.cell?_of_block (h43 _ (by simp))).trans h3
  have hd4 : W4.heap[w1.heap.size]? = some (.deferred (some [])) := by rw [hsz]; exact (h43 _ (by omega)).trans h2
  have hB4 : Below w.heap.size w W4 := by rw [hW4]; exact below_putObj h5 h5.size (by omega) _
  have Hd4 := Lib.hid hd4
  clear hW4 hd4 hsz hS2 hl2 hd2 hc0 hf0 hc1 hf1 hc2 hf2 h1 h2 h3 h4 hra hrb hrt hrp hl1 h43 hy
  gi_wp2
  go_wp2
  refine ⟨by simp, .inl ⟨_, _, rfl, run_takeDeferred Hd4.out, ?_⟩⟩
  refine ⟨_, results_tmp rfl _ _ _, ?_⟩
  rw [← Hy.out]
  exact ⟨rfl, below_putObj hB4 hB4.size (by have := Hsz.out; omega) _⟩
end Go.Proofs.YthgkjcofmkkdcaaDoor
