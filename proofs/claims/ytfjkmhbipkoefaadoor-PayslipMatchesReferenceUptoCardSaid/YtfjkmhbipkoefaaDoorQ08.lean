/- The walks of package commitment: bits, Power. Powers and commitments over integers, in plain words; the laws of the group that the proofs of bits stand on. The walks of package commitment: Commit, element, Add, Open. The walks of package commitment: Add, Open. -/
import Derived.Test.YtfjkmhbipkoefaaDoorQ07
import Derived.Test.YtfjkmhbipkoefaaDoorQ01
import Derived.Test.YtfjkmhbipkoefaaDoorQ03
import Derived.StillTailTactics
import Derived.OwnWalkIn
import Derived.TacticsInMore
import Derived.LoopNIn
import Derived.LoopIn
import Derived.RangeFuncBox
import Derived.RangeFuncLeaves
import Derived.Shelf.Abstract
import Derived.IntWalk
import Derived.Below
import Derived.Lib.Hide
import Derived.Deep.RegionHeld3
import Derived.Lib.LaidTab
namespace Go.Proofs.YtfjkmhbipkoefaaDoor
open Go.RowKit Go.Shelf
set_option linter.unusedVariables false
attribute [local go_sem] Oper.semAt_some
theorem bits_any (n : Int) (w : World) : Calls Tryd.prog 84 #[.int .i64 n] w fun e w' => e = .returned (.func (.func 96) #[] #[.pointer (some ⟨w.heap.size, 0, none⟩)]) ∧ w.alloc (.cells #[.int .i64 n] 3) = w' := by
  go_enter Tryd.func84, Tryd.ntmps84
  go_wp2
  go_ret
  exact ⟨rfl, rfl⟩
/-- What the iterator needs of each call of yield. -/
def BitYield (P : Program) (l m Bn : Nat) (J : Nat → World → Prop) : Prop :=
  ∀ (e : Nat) (W : World), 0 < e → J e W →
    YieldAt Fence.wide m P l #[.bool (decide (e % 2 = 1))] W fun r W' => r = .returned (.bool true) ∧ W'.cell? ⟨Bn, 0, none⟩ = some (.int .i64 (e : Int)) ∧ W'.frozen? ⟨Bn, 0, none⟩ = false ∧ J (e / 2) (W'.setCell ⟨Bn, 0, none⟩ (.int .i64 ((e : Int) / 2)))
def BitCell (Bn : Nat) (J : Nat → World → Prop) : Prop := ∀ (e : Nat) (W : World), J e W → W.cell? ⟨Bn, 0, none⟩ = some (.int .i64 (e : Int))
theorem i64_and_nat (a b : Nat) (ha : a < 9223372036854775808) (hb : b < 9223372036854775808) : Go.bits .and .i64 (a : Int) (b : Int) = ((a &&& b : Nat) : Int) := by
  have hx : a &&& b < 2 ^ 63 := Nat.and_lt_two_pow _ (by omega)
  show IntKind.i64.wrap ((BitVec.ofInt 64 (a : Int) &&& BitVec.ofInt 64 (b : Int)).toNat : Int) = _
  rw [BitVec.toNat_and, ofInt_u64 a (by omega), ofInt_u64 b (by omega)]
  exact IntWalk.i64_in _ (by omega)
theorem bit_and (e : Nat) (he : e < 9223372036854775808) : Go.bits .and .i64 (e : Int) 1 = ((e % 2 : Nat) : Int) := by
  have h := i64_and_nat e 1 he (by omega)
  rw [nat_mask1] at h
  exact h
theorem bit_test (e : Nat) (he : e < 9223372036854775808) : (Go.bits .and .i64 (e : Int) 1 == 1) = decide (e % 2 = 1) := by
  rw [bit_and e he, Bool.eq_iff_iff]
  simp; omega
set_option maxRecDepth 100000 in
set_option maxHeartbeats 4000000 in
theorem bits1_any (l m Bn : Nat) (W : World) (e0 : Nat) (he0 : e0 < 9223372036854775808) (J : Nat → World → Prop) (hC : BitCell Bn J) (hJ : J e0 W) (hY : BitYield Tryd.prog l m Bn J) :
    Calls Tryd.prog 96 #[.func (.yield l) #[] #[], .pointer (some ⟨Bn, 0, none⟩)] W fun r W' => (∃ v, r = .returned v) ∧ J 0 W' := by
  have HJ := Lib.hid hJ
  clear hJ
  go_enter Tryd.func96, Tryd.ntmps96
  go_wp2
  go_loopw [] (fun wr => ∃ e : Nat, e < 9223372036854775808 ∧ J e wr) (fun wr => (intAt wr Bn).toNat)
  case atStart => exact ⟨e0, he0, HJ.out⟩
  case round =>
    obtain ⟨e, he, hJe⟩ := hrel
    have hc := hC e wr hJe
    by_cases h0 : 0 < e
    · have hd : decide ((0 : Int) < (e : Int)) = true := by simp; omega
      obtain ⟨fn, tmps, assign, body, hy, hR⟩ := hY e wr h0 hJe
      rw [← bit_test e he] at hy
      have HR := Lib.hid hR
      have HJe := Lib.hid hJe
      have HC := Lib.hid hc
      clear hR hJe
      refine (wpIn_wide (n := m + 1)).1 ?_
      gi_wp2
      refine HR.out.mono ?_
      rintro r W2 ⟨rfl, hc2, hf2, hJ2⟩
      have HJ2 := Lib.hid hJ2
      clear hJ2 hc hy hd
      gi_wp2
      go_roundw
      case rel => exact ⟨e / 2, by omega, HJ2.out⟩
      case measure =>
        unfold intAt
        rw [HC.out, World.cell?_setCell_same' _ _ _ (by rw [hc2]; rfl)]
        simp only []
        omega
    · have hz : e = 0 := by omega
      subst hz
      have HJe := Lib.hid hJe
      clear hJe
      go_wp2
      go_end0
      exact ⟨⟨_, rfl⟩, HJe.out⟩
/-- The loop of Power between two rounds: what is left of the exponent, the result and the base so far. -/
def PowJ (w : World) (l : Nat) (r : Loop) (V : Nat) (e : Nat) (W : World) : Prop :=
  ∃ res b : Int, 0 ≤ res ∧ res < 2147483579 ∧ 0 ≤ b ∧ b < 2147483579 ∧ Hid (res.toNat * b.toNat ^ e % Grp.P = V) ∧ W.heap[l]? = some (Rng.readyOf r) ∧ W.heap[w.heap.size + 3]? = some (.deferred (some [])) ∧
    W.cell? ⟨w.heap.size, 0, none⟩ = some (.int .i64 b) ∧ W.frozen? ⟨w.heap.size, 0, none⟩ = false ∧ W.cell? ⟨w.heap.size + 1, 0, none⟩ = some (.int .i64 res) ∧ W.frozen? ⟨w.heap.size + 1, 0, none⟩ = false ∧
    W.cell? ⟨w.heap.size + 2, 0, none⟩ = some (.int .i64 (e : Int)) ∧ W.frozen? ⟨w.heap.size + 2, 0, none⟩ = false ∧ Below w.heap.size w W ∧ w.heap.size + 5 ≤ W.heap.size
theorem mulB {a b : Int} (h0 : 0 ≤ a) (h1 : a < 2147483579) (g0 : 0 ≤ b) (g1 : b < 2147483579) : 0 ≤ a * b ∧ a * b ≤ 4611686018427387904 := by
  refine ⟨Int.mul_nonneg h0 g0, ?_⟩
  have : a * b ≤ 2147483648 * 2147483648 := Int.mul_le_mul (by omega) (by omega) g0 (by omega)
  omega
theorem toNat_mulmod {a b : Int} (h0 : 0 ≤ a) (g0 : 0 ≤ b) : (a * b % 2147483579).toNat = a.toNat * b.toNat % Grp.P := by
  obtain ⟨x, rfl⟩ := Int.eq_ofNat_of_zero_le h0
  obtain ⟨y, rfl⟩ := Int.eq_ofNat_of_zero_le g0
  rw [Int.toNat_natCast, Int.toNat_natCast]
  show ((x : Int) * (y : Int) % ((2147483579 : Nat) : Int)).toNat = _
  rw [← Int.natCast_mul, ← Int.natCast_emod, Int.toNat_natCast]
  rfl
theorem modB (x : Int) (h : 0 ≤ x) : 0 ≤ x % 2147483579 ∧ x % 2147483579 < 2147483579 := by omega
/-- One round of the loop: another result and base. -/
theorem PowJ.step {w : World} {l : Nat} {r : Loop} {V e : Nat} {W5 : World} (res b res' : Int) (hr0 : 0 ≤ res) (hr1 : res < 2147483579) (hb0 : 0 ≤ b) (hb1 : b < 2147483579) (hV : Hid (res.toNat * b.toNat ^ e % Grp.P = V))
    (hres : res' = if e % 2 = 1 then res * b % 2147483579 else res)
    (hl : W5.heap[l]? = some (Rng.busyOf r)) (hls : l < W5.heap.size) (hl5 : w.heap.size + 5 ≤ W5.heap.size) (hlw : l = w.heap.size + 4)
    (hd : W5.heap[w.heap.size + 3]? = some (.deferred (some [])))
    (hc0 : W5.cell? ⟨w.heap.size, 0, none⟩ = some (.int .i64 (b * b % 2147483579))) (hf0 : W5.frozen? ⟨w.heap.size, 0, none⟩ = false)
    (hc1 : W5.cell? ⟨w.heap.size + 1, 0, none⟩ = some (.int .i64 res')) (hf1 : W5.frozen? ⟨w.heap.size + 1, 0, none⟩ = false)
    (hc2 : W5.cell? ⟨w.heap.size + 2, 0, none⟩ = some (.int .i64 (e : Int))) (hf2 : W5.frozen? ⟨w.heap.size + 2, 0, none⟩ = false) (hB : Below w.heap.size w W5) :
    (W5.putObj l (Rng.readyOf r)).cell? ⟨w.heap.size + 2, 0, none⟩ = some (.int .i64 (e : Int)) ∧ (W5.putObj l (Rng.readyOf r)).frozen? ⟨w.heap.size + 2, 0, none⟩ = false ∧
    PowJ w l r V (e / 2) ((W5.putObj l (Rng.readyOf r)).setCell ⟨w.heap.size + 2, 0, none⟩ (.int .i64 ((e : Int) / 2))) := by
  subst hlw
  have hp2 : (W5.putObj (w.heap.size + 4) (Rng.readyOf r)).cell? ⟨w.heap.size + 2, 0, none⟩ = some (.int .i64 (e : Int)) := (World.cell?_of_block (World.putObj_heap_other (by simp))).trans hc2
  have hq2 : (W5.putObj (w.heap.size + 4) (Rng.readyOf r)).frozen? ⟨w.heap.size + 2, 0, none⟩ = false := (World.frozen?_of_block (World.putObj_heap_other (by simp))).trans hf2
  refine ⟨hp2, hq2, ?_⟩
  have hrb := mulB hr0 hr1 hb0 hb1
  have hbb := mulB hb0 hb1 hb0 hb1
  have m1 := modB _ hrb.1
  have m2 := modB _ hbb.1
  have hR : 0 ≤ res' ∧ res' < 2147483579 := by
    rw [hres]
    split
    · exact m1
    · exact ⟨hr0, hr1⟩
  have hother : ∀ j, j ≠ w.heap.size + 2 → j ≠ w.heap.size + 4 → ((W5.putObj (w.heap.size + 4) (Rng.readyOf r)).setCell ⟨w.heap.size + 2, 0, none⟩ (.int .i64 ((e : Int) / 2))).heap[j]? = W5.heap[j]? := fun j h1 h2 =>
    (Below.heap_setCell _ _ _ _ h1).trans (World.putObj_heap_other h2)
  refine ⟨res', b * b % 2147483579, hR.1, hR.2, m2.1, m2.2, ?_, ?_, ?_, ?_, ?_, ?_, ?_, ?_, ?_, ?_, ?_⟩
  · refine Lib.hid ?_
    have h := Grp.step_pw res.toNat b.toNat e
    rw [toNat_mulmod hb0 hb0, ← hV.out, ← h, hres]
    split
    · rw [toNat_mulmod hr0 hb0]
    · rfl
  · exact (Below.heap_setCell _ _ _ _ (by simp)).trans (World.putObj_heap_same hls)
  · exact (hother _ (by omega) (by omega)).trans hd
  · exact (World.cell?_of_block (hother _ (by simp) (by simp))).trans hc0
  · exact (World.frozen?_of_block (hother _ (by simp) (by simp))).trans hf0
  · exact (World.cell?_of_block (hother _ (by simp) (by simp))).trans hc1
  · exact (World.frozen?_of_block (hother _ (by simp) (by simp))).trans hf1
  · rw [World.cell?_setCell_same' _ _ _ (by rw [hp2]; rfl)]
    rfl
  · rw [World.frozen?_setCell]; exact hq2
  · exact (below_putObj hB hB.size (by omega) _).setCell (by simp) _
  · simp; omega
set_option maxRecDepth 100000 in
set_option maxHeartbeats 4000000 in
theorem power_at (b e v : Int) (w : World) (hb0 : 0 ≤ b) (hb1 : b < 2147483579) (he0 : 0 ≤ e) (he1 : e ≤ 9223372036854775807) (hv : Hid (((b.toNat ^ e.toNat % Grp.P : Nat) : Int) = v)) :
    Calls Tryd.prog 65 #[.int .i64 b, .int .i64 e] w fun e w' => e = .returned (.int .i64 v) ∧ Below w.heap.size w w' := by
  refine (callsIn_wide (n := 4)).1 ?_
  refine callsIn_of_wp_marks Tryd.func65 rfl trivial ?_ rfl
  simp only [Tryd.ntmps65, List.size_toArray, List.length_cons, List.length_nil, Nat.reduceAdd, Nat.reduceSub, Array.replicate_succ, Array.replicate_zero, List.push_toArray, List.append_toArray, List.nil_append, List.cons_append]
  refine wpIn_wide.2 ?_
  go_wp2_with fail
  refine (bits_any _ _).mono ?_
  rintro e w' ⟨rfl, rfl⟩
  go_wp2_with fail
  obtain ⟨w1, hw1⟩ : ∃ w1, w1 = ((w.alloc (.cells #[.int .i64 b] 3)).alloc (.cells #[.int .i64 1] 3)).alloc (.cells #[.int .i64 e] 3) := ⟨_, rfl⟩
  rw [← hw1]
  have hsz : w1.heap.size = w.heap.size + 3 := by rw [hw1]; simp
  have hB1 : Below w.heap.size w w1 := by rw [hw1]; exact (((Below.refl _ _).alloc (Nat.le_refl _) _).alloc (by simp) _).alloc (by simp; omega) _
  have hc0 : w1.cell? ⟨w.heap.size, 0, none⟩ = some (.int .i64 b) := by rw [hw1]; simp [go_sem]
  have hf0 : w1.frozen? ⟨w.heap.size, 0, none⟩ = false := by rw [hw1]; simp [go_sem]
  have hc1 : w1.cell? ⟨w.heap.size + 1, 0, none⟩ = some (.int .i64 1) := by rw [hw1]; simp [go_sem]
  have hf1 : w1.frozen? ⟨w.heap.size + 1, 0, none⟩ = false := by rw [hw1]; simp [go_sem]
  have hc2 : w1.cell? ⟨w.heap.size + 2, 0, none⟩ = some (.int .i64 e) := by rw [hw1]; simp [go_sem]
  have hf2 : w1.frozen? ⟨w.heap.size + 2, 0, none⟩ = false := by rw [hw1]; simp [go_sem]
  clear hw1
  have Hsz := Lib.hid hsz
  obtain ⟨V, hV⟩ : ∃ V, V = b.toNat ^ e.toNat % Grp.P := ⟨_, rfl⟩
  have HV := Lib.hid hV
  clear hV
  refine (wpIn_wide (n := 3)).1 ?_
  refine Rng.range_any rfl (by omega) (gf := 96) (lb := #[.pointer (some ⟨w.heap.size + 2, 0, none⟩)]) rfl trivial (enters_of Tryd.func96 (by kernel_rfl) rfl) ?_
  intro r hfn hra hrb hrt hrp
  refine callsIn_wide.2 ?_
  obtain ⟨W2, hW2⟩ : ∃ W2, W2 = (w1.alloc (.deferred (some []))).alloc (Rng.readyOf r) := ⟨_, rfl⟩
  rw [← hW2]
  have hS2 : W2.heap.size = w.heap.size + 5 := by rw [hW2]; simp [hsz]
  have hB2 : Below w1.heap.size w1 W2 := by rw [hW2]; exact ((Below.refl _ _).alloc (Nat.le_refl _) _).alloc (by simp) _
  have hl2 : W2.heap[w.heap.size + 4]? = some (Rng.readyOf r) := by rw [hW2]; have := World.alloc_heap_new (w1.alloc (.deferred (some []))) (Rng.readyOf r); rwa [World.size_alloc, hsz] at this
  have hd2 : W2.heap[w.heap.size + 3]? = some (.deferred (some [])) := by rw [hW2, ← hsz]; exact (Below.heap_alloc _ _ _ (by simp)).trans (World.alloc_heap_new w1 _)
  clear hW2
  have hl1 : w1.heap.size + 1 = w.heap.size + 4 := by omega
  rw [hl1]
  show Calls Tryd.prog 96 #[.func (.yield (w.heap.size + 4)) #[] #[], .pointer (some ⟨w.heap.size + 2, 0, none⟩)] W2 _
  refine (bits1_any (w.heap.size + 4) 1 (w.heap.size + 2) W2 e.toNat (by omega) (PowJ w (w.heap.size + 4) r V) ?hC ?hJ ?hY).mono ?_
  case hC => rintro e' W ⟨res, bb, _, _, _, _, _, _, _, _, _, _, _, h, _⟩; exact h
  case hJ =>
    have hlt : ∀ j, j < 3 → w.heap.size + j < w1.heap.size := fun j hj => by omega
    refine ⟨1, b, by omega, by omega, hb0, hb1, Lib.hid ?_, hl2, hd2, (hB2.cell (p := ⟨w.heap.size, 0, none⟩) (hlt 0 (by omega))).trans hc0, (hB2.frozen (p := ⟨w.heap.size, 0, none⟩) (hlt 0 (by omega))).trans hf0,
      (hB2.cell (p := ⟨w.heap.size + 1, 0, none⟩) (hlt 1 (by omega))).trans hc1, (hB2.frozen (p := ⟨w.heap.size + 1, 0, none⟩) (hlt 1 (by omega))).trans hf1,
      ?_, (hB2.frozen (p := ⟨w.heap.size + 2, 0, none⟩) (hlt 2 (by omega))).trans hf2, hB1.trans (hB2.mono hB1.size), by omega⟩
    · rw [HV.out, show (1 : Int).toNat = 1 from rfl, Nat.one_mul]
    · rw [hB2.cell (p := ⟨w.heap.size + 2, 0, none⟩) (hlt 2 (by omega)), hc2, Int.toNat_of_nonneg he0]
  case hY =>
    rintro e' W he' ⟨res, bb, hr0, hr1, hbb0, hbb1, hVe, hl3, hd3, hk0, hg0, hk1, hg1, hk2, hg2, hBw, hs3⟩
    refine Rng.yield_at hl3 hra hrb (by rw [hrt, hrp]) (by rw [hrp]; rfl) hfn ?_
    have hmul := mulB hr0 hr1 hbb0 hbb1
    have hsq := mulB hbb0 hbb1 hbb0 hbb1
    obtain ⟨W4, hW4⟩ : ∃ W4, W4 = W.putObj (w.heap.size + 4) (Rng.busyOf r) := ⟨_, rfl⟩
    have h43 : ∀ j, j ≠ w.heap.size + 4 → W4.heap[j]? = W.heap[j]? := fun j hj => by rw [hW4]; exact World.putObj_heap_other hj
    have hk0' : W4.cell? ⟨w.heap.size, 0, none⟩ = some (.int .i64 bb) := (World.cell?_of_block (h43 _ (by simp))).trans hk0
    have hg0' : W4.frozen? ⟨w.heap.size, 0, none⟩ = false := (World.frozen?_of_block (h43 _ (by simp))).trans hg0
    have hk1' : W4.cell? ⟨w.heap.size + 1, 0, none⟩ = some (.int .i64 res) := (World.cell?_of_block (h43 _ (by simp))).trans hk1
    have hg1' : W4.frozen? ⟨w.heap.size + 1, 0, none⟩ = false := (World.frozen?_of_block (h43 _ (by simp))).trans hg1
    have hk2' : W4.cell? ⟨w.heap.size + 2, 0, none⟩ = some (.int .i64 (e' : Int)) := (World.cell?_of_block (h43 _ (by simp))).trans hk2
    have hg2' : W4.frozen? ⟨w.heap.size + 2, 0, none⟩ = false := (World.frozen?_of_block (h43 _ (by simp))).trans hg2
    have hl4 : W4.heap[w.heap.size + 4]? = some (Rng.busyOf r) := by rw [hW4]; exact World.putObj_heap_same (by omega)
    have hs4 : w.heap.size + 5 ≤ W4.heap.size := by rw [hW4]; simpa using hs3
    have hB4 : Below w.heap.size w W4 := by rw [hW4]; exact below_putObj hBw hBw.size (by omega) _
    have F := Lib.hid (And.intro hl3 (And.intro hl4 (And.intro ((h43 _ (by omega)).trans hd3) (And.intro hk2' hg2'))))
    have HW4 := Lib.hid hW4
    clear hl3 hl4 hd3 hk2' hg2' hk0 hg0 hk1 hg1 hk2 hg2 h43 hl2 hd2 hc0 hf0 hc1 hf1 hc2 hf2 hra hrb hrt hrp hsz hS2 hl1
    by_cases hodd : e' % 2 = 1
    · rw [show decide (e' % 2 = 1) = true by simpa using hodd]
      gi_wp2
      refine ⟨F.out.1, ?_⟩
      rw [← hW4]
      clear hW4
      gi_wp2
      obtain ⟨W6, hW6⟩ : ∃ W6, W6 = W4.setCell ⟨w.heap.size + 1, 0, none⟩ (.int .i64 (res * bb % 2147483579)) := ⟨_, rfl⟩
      rw [← hW6]
      have h64 : ∀ j, j ≠ w.heap.size + 1 → W6.heap[j]? = W4.heap[j]? := fun j hj => by rw [hW6]; exact Below.heap_setCell _ _ _ _ hj
      have hs6 : W6.heap.size = W4.heap.size := by rw [hW6]; simp [World.setCell]
      have hx1 : W6.cell? ⟨w.heap.size + 1, 0, none⟩ = some (.int .i64 (res * bb % 2147483579)) := by rw [hW6]; exact World.cell?_setCell_same' _ _ _ (by rw [hk1']; rfl)
      have hy1 : W6.frozen? ⟨w.heap.size + 1, 0, none⟩ = false := by rw [hW6, World.frozen?_setCell]; exact hg1'
      have hx0 : W6.cell? ⟨w.heap.size, 0, none⟩ = some (.int .i64 bb) := (World.cell?_of_block (h64 _ (by simp))).trans hk0'
      have hy0 : W6.frozen? ⟨w.heap.size, 0, none⟩ = false := (World.frozen?_of_block (h64 _ (by simp))).trans hg0'
      have hB6 : Below w.heap.size w W6 := by rw [hW6]; exact hB4.setCell (by simp) _
      have h56 : ∀ j, j ≠ w.heap.size → (W6.setCell ⟨w.heap.size, 0, none⟩ (.int .i64 (bb * bb % 2147483579))).heap[j]? = W6.heap[j]? := fun j hj => Below.heap_setCell _ _ _ _ hj
      have hs5 : (W6.setCell ⟨w.heap.size, 0, none⟩ (.int .i64 (bb * bb % 2147483579))).heap.size = W6.heap.size := by simp [World.setCell]
      refine ⟨(h56 _ (by omega)).trans ((h64 _ (by omega)).trans F.out.2.1), rfl, PowJ.step res bb (res * bb % 2147483579) hr0 hr1 hbb0 hbb1 hVe (by rw [if_pos hodd]) ((h56 _ (by omega)).trans ((h64 _ (by omega)).trans F.out.2.1)) (by omega) (by omega) rfl
        ((h56 _ (by omega)).trans ((h64 _ (by omega)).trans F.out.2.2.1)) (World.cell?_setCell_same' _ _ _ (by rw [hx0]; rfl)) (by rw [World.frozen?_setCell]; exact hy0)
        ((World.cell?_of_block (h56 _ (by simp))).trans hx1) ((World.frozen?_of_block (h56 _ (by simp))).trans hy1)
        ((World.cell?_of_block (h56 _ (by simp))).trans ((World.cell?_of_block (h64 _ (by simp))).trans F.out.2.2.2.1)) ((World.frozen?_of_block (h56 _ (by simp))).trans ((World.frozen?_of_block (h64 _ (by simp))).trans F.out.2.2.2.2)) (hB6.setCell (Nat.le_refl _) _)⟩
    · rw [show decide (e' % 2 = 1) = false by simpa using hodd]
      gi_wp2
      refine ⟨F.out.1, ?_⟩
      rw [← hW4]
      clear hW4
      gi_wp2
      have h54 : ∀ j, j ≠ w.heap.size → (W4.setCell ⟨w.heap.size, 0, none⟩ (.int .i64 (bb * bb % 2147483579))).heap[j]? = W4.heap[j]? := fun j hj => Below.heap_setCell _ _ _ _ hj
      have hs5 : (W4.setCell ⟨w.heap.size, 0, none⟩ (.int .i64 (bb * bb % 2147483579))).heap.size = W4.heap.size := by simp [World.setCell]
      refine ⟨(h54 _ (by omega)).trans F.out.2.1, rfl, PowJ.step res bb res hr0 hr1 hbb0 hbb1 hVe (by rw [if_neg hodd]) ((h54 _ (by omega)).trans F.out.2.1) (by omega) (by omega) rfl
        ((h54 _ (by omega)).trans F.out.2.2.1) (World.cell?_setCell_same' _ _ _ (by rw [hk0']; rfl)) (by rw [World.frozen?_setCell]; exact hg0')
        ((World.cell?_of_block (h54 _ (by simp))).trans hk1') ((World.frozen?_of_block (h54 _ (by simp))).trans hg1')
        ((World.cell?_of_block (h54 _ (by simp))).trans F.out.2.2.2.1) ((World.frozen?_of_block (h54 _ (by simp))).trans F.out.2.2.2.2) (hB4.setCell (Nat.le_refl _) _)⟩
  rintro r' W3 ⟨⟨v', rfl⟩, res, bb, hr0, hr1, hbb0, hbb1, hVe, hl3, hd3, hk0, hg0, hk1, hg1, hk2, hg2, hBw, hs3⟩
  refine ⟨_, rfl, .inl ⟨hl3, ?_⟩⟩
  dsimp only
  obtain ⟨W4, hW4⟩ : ∃ W4, W4 = W3.putObj (w.heap.size + 4) (Rng.overOf r none) := ⟨_, rfl⟩
  rw [← hW4]
  have h43 : ∀ j, j ≠ w.heap.size + 4 → W4.heap[j]? = W3.heap[j]? := fun j hj => by rw [hW4]; exact World.putObj_heap_other hj
  have hk1' : W4.cell? ⟨w.heap.size + 1, 0, none⟩ = some (.int .i64 res) := (World.cell?_of_block (h43 _ (by simp))).trans hk1
  have hd4 : W4.heap[w1.heap.size]? = some (.deferred (some [])) := by rw [hsz]; exact (h43 _ (by omega)).trans hd3
  have hB4 : Below w.heap.size w W4 := by rw [hW4]; exact below_putObj hBw hBw.size (by omega) _
  have hres : res = v := by
    have h1 := hVe.out
    rw [Nat.pow_zero, Nat.mul_one, Nat.mod_eq_of_lt (by show res.toNat < 2147483579; omega), HV.out] at h1
    rw [← hv.out, ← h1]
    omega
  have Hd4 := Lib.hid hd4
  clear hW4 hd4 hsz hS2 hl2 hd2 hc0 hf0 hc1 hf1 hc2 hf2 hl3 hd3 hk0 hg0 hk1 hg1 hk2 hg2 hra hrb hrt hrp hl1 h43
  subst hres
  gi_wp2
  go_wp2
  refine ⟨by simp, .inl ⟨_, _, rfl, run_takeDeferred Hd4.out, ?_⟩⟩
  refine ⟨_, results_tmp rfl _ _ _, ?_⟩
  exact ⟨rfl, below_putObj hB4 hB4.size (by have := Hsz.out; omega) _⟩
end Go.Proofs.YtfjkmhbipkoefaaDoor
namespace Go.Proofs.YtfjkmhbipkoefaaDoor
set_option linter.unusedVariables false
/-- A power modulo p, of integers that are not negative. -/
def pwI (b e : Int) : Int := ((b.toNat ^ e.toNat % Grp.P : Nat) : Int)
theorem pwI_bd (b e : Int) : 0 ≤ pwI b e ∧ pwI b e < 2147483579 := by
  unfold pwI
  have h : b.toNat ^ e.toNat % Grp.P < 2147483579 := Nat.mod_lt _ Grp.P_pos
  omega
theorem pwI_nat (b e : Nat) : pwI (b : Int) (e : Int) = ((b ^ e % Grp.P : Nat) : Int) := by unfold pwI; rw [Int.toNat_natCast, Int.toNat_natCast]
theorem mulI_nat (a b : Nat) : (a : Int) * (b : Int) % 2147483579 = ((a * b % Grp.P : Nat) : Int) := by
  rw [Int.natCast_emod, Int.natCast_mul]; rfl
def commitI (v b : Int) : Int := pwI 4 v * pwI 9 b % 2147483579
theorem commitI_bd (v b : Int) : 0 ≤ commitI v b ∧ commitI v b < 2147483579 := by
  unfold commitI
  omega
theorem commitI_nat (v b : Nat) : commitI (v : Int) (b : Int) = ((4 ^ v * 9 ^ b % Grp.P : Nat) : Int) := by
  unfold commitI
  have h4 : pwI 4 (v : Int) = ((4 ^ v % Grp.P : Nat) : Int) := pwI_nat 4 v
  have h9 : pwI 9 (b : Int) = ((9 ^ b % Grp.P : Nat) : Int) := pwI_nat 9 b
  rw [h4, h9, mulI_nat, ← Nat.mul_mod]
def elB (x : Int) : Bool := decide (1 ≤ x) && (decide (x < 2147483579) && (pwI x 1073741789 == 1))
theorem elB_nat (x : Nat) : elB (x : Int) = true ↔ (x < Grp.P ∧ Grp.El x) := by
  unfold elB
  have h1 : pwI (x : Int) 1073741789 = ((x ^ Grp.Q % Grp.P : Nat) : Int) := pwI_nat x Grp.Q
  rw [h1]
  simp only [Bool.and_eq_true, decide_eq_true_eq, beq_iff_eq]
  constructor
  · rintro ⟨h1, h2, h3⟩
    exact ⟨by show x < 2147483579; omega, by unfold Grp.El; omega⟩
  · rintro ⟨h1, h2⟩
    have h1' : x < 2147483579 := h1
    refine ⟨?_, by omega, by unfold Grp.El at h2; omega⟩
    rcases Nat.eq_zero_or_pos x with h0 | h0
    · subst h0
      unfold Grp.El at h2
      rw [Nat.zero_pow (by decide)] at h2
      exact absurd h2 (by decide)
    · omega
theorem elB_get {x : Int} (h : elB x = true) : ∃ n : Nat, x = n ∧ n < Grp.P ∧ Grp.El n := by
  have h0 : 1 ≤ x := by
    unfold elB at h
    simp only [Bool.and_eq_true, decide_eq_true_eq] at h
    exact h.1
  obtain ⟨n, rfl⟩ := Int.eq_ofNat_of_zero_le (by omega : 0 ≤ x)
  exact ⟨n, rfl, (elB_nat n).1 h⟩
namespace Grp
theorem mc {a a' b b' : Nat} (h : a % P = a' % P) (k : b % P = b' % P) : a * b % P = a' * b' % P := by rw [Nat.mul_mod, h, k, ← Nat.mul_mod]
theorem pc {a a' : Nat} (h : a % P = a' % P) (n : Nat) : a ^ n % P = a' ^ n % P := by rw [Nat.pow_mod, h, ← Nat.pow_mod]
theorem mm (a : Nat) : a % P % P = a % P := Nat.mod_mod a P
theorem El.pow' {x : Nat} (hx : El x) (e : Nat) : El (x ^ e) := by
  have := hx.pow e; unfold El at this ⊢; rwa [← Nat.pow_mod] at this
theorem El.mul' {x y : Nat} (hx : El x) (hy : El y) : El (x * y) := by
  have := hx.mul hy; unfold El at this ⊢; rwa [← Nat.pow_mod] at this
theorem El.mod {x : Nat} (hx : El x) : El (x % P) := by unfold El at *; rwa [← Nat.pow_mod]
theorem El.unmod {x : Nat} (hx : El (x % P)) : El x := by unfold El at *; rwa [← Nat.pow_mod] at hx
theorem El.ne {x : Nat} (hx : El x) : x % P ≠ 0 := by
  intro h
  unfold El at hx
  rw [Nat.pow_mod, h, Nat.zero_pow (by decide)] at hx
  exact absurd hx (by decide)
/-- The commitment, divided by 4 to the i-th. -/
def divd (c i : Nat) : Nat := c * ((4 ^ (Q - 1) % P) ^ i % P) % P
theorem divd_mod (c i : Nat) : divd c i % P = c * (4 ^ (Q - 1)) ^ i % P := by
  unfold divd
  rw [mm, Nat.mul_mod_mod, Nat.mul_mod, ← Nat.pow_mod, ← Nat.mul_mod]
theorem four_inv (i : Nat) : 4 ^ i * (4 ^ (Q - 1)) ^ i % P = 1 := by
  rw [← Nat.mul_pow, Nat.pow_mod, ← Nat.pow_succ', show (Q - 1).succ = Q from rfl, four_Q, Nat.one_pow]
  decide
theorem divd_El {c : Nat} (hc : El c) (i : Nat) : El (divd c i) := by
  have : El (divd c i % P) := by rw [divd_mod]; exact (hc.mul' ((el_4.pow' _).pow' i)).mod
  exact this.unmod
theorem divd_lt (c i : Nat) : divd c i < P := Nat.mod_lt _ P_pos
/-- The commitment to i, divided by 4 to the i-th: the power of 9. -/
theorem divd_own (i b : Nat) : divd (4 ^ i * 9 ^ b % P) i % P = 9 ^ b % P := by
  rw [divd_mod, Nat.mod_mul_mod, Nat.mul_right_comm, Nat.mul_mod, four_inv, Nat.one_mul, mm]
theorem divd_back (c i : Nat) : 4 ^ i * divd c i % P = c % P := by
  rw [Nat.mul_mod, divd_mod, ← Nat.mul_mod, Nat.mul_left_comm, Nat.mul_mod, four_inv, Nat.mul_one, mm]
/-- The reply for the bit itself. -/
theorem own_reply (k e b : Nat) (D : Nat) (hD : D % P = 9 ^ b % P) : 9 ^ ((k + e * b) % Q) % P = (9 ^ k % P) * (D ^ e % P) % P := by
  rw [← el_9.red, Nat.pow_add, ← Nat.mul_mod, Nat.mul_comm e b, Nat.pow_mul]
  exact mc rfl (pc hD.symm e)
/-- The reply for the other bit. -/
theorem other_reply (z e D : Nat) (hD : El D) : 9 ^ z % P = ((9 ^ z % P) * ((D ^ (Q - 1) % P) ^ e % P) % P) * (D ^ e % P) % P := by
  rw [Nat.mod_mul_mod, Nat.mul_mod_mod, Nat.mul_assoc, Nat.mod_mul_mod, ]
  have h : (D ^ (Q - 1) % P) ^ e % P * D ^ e % P = 1 := by
    rw [Nat.mod_mul_mod, Nat.mul_mod, ← Nat.pow_mod, ← Nat.mul_mod, ← Nat.mul_pow, ← Nat.pow_succ, show (Q - 1).succ = Q from rfl, Nat.pow_mod, hD, Nat.one_pow]
    decide
  rw [Nat.mul_mod, h, Nat.mul_one, mm]
theorem other_El (z e D : Nat) (hD : El D) : El ((9 ^ z % P) * ((D ^ (Q - 1) % P) ^ e % P) % P) :=
  ((el_9.pow' z).mod.mul' (((hD.pow' _).mod.pow' e).mod)).mod
/-- Two replies to two challenges: the commitment is opened. -/
theorem extract (f D z z' e e' : Nat) (hf : El f) (hD : El D) (hz : z < Q) (hz' : z' < Q) (he : e < Q) (he' : e' < Q) (hne : e ≠ e')
    (h1 : 9 ^ z % P = f * D ^ e % P) (h2 : 9 ^ z' % P = f * D ^ e' % P) :
    D % P = 9 ^ (((z + (Q - z')) % Q) * (((e + (Q - e')) % Q) ^ (Q - 2) % Q) % Q) % P := by
  obtain ⟨d, hd⟩ : ∃ d, d = (e + (Q - e')) % Q := ⟨_, rfl⟩
  obtain ⟨s, hs⟩ : ∃ s, s = (z + (Q - z')) % Q := ⟨_, rfl⟩
  rw [← hd, ← hs]
  have hQ : 2 ≤ Q := by decide
  obtain ⟨q, hq⟩ : ∃ q, q = Q := ⟨_, rfl⟩
  have hd0 : 0 < d := by
    rw [hd]
    rw [← hq] at he he' ⊢
    rcases Nat.lt_or_ge e e' with h | h
    · rw [Nat.mod_eq_of_lt (by omega)]; omega
    · rw [show e + (q - e') = (e - e') + q by omega, Nat.add_mod_right, Nat.mod_eq_of_lt (by omega)]; omega
  have hd1 : d < Q := by rw [hd]; exact Nat.mod_lt _ (by omega)
  have key : 9 ^ s % P = D ^ d % P := by
    have hx : 9 ^ z * D ^ e' % P = 9 ^ z' * D ^ e % P := by
      rw [mc h1 (rfl : D ^ e' % P = D ^ e' % P), mc h2 (rfl : D ^ e % P = D ^ e % P), Nat.mul_right_comm]
    have hy : (9 ^ z * D ^ e') * (9 ^ (Q - z') * D ^ (Q - e')) % P = (9 ^ z' * D ^ e) * (9 ^ (Q - z') * D ^ (Q - e')) % P := mc hx rfl
    have l1 : (9 ^ z * D ^ e') * (9 ^ (Q - z') * D ^ (Q - e')) = 9 ^ (z + (Q - z')) * D ^ Q := by
      rw [Nat.mul_mul_mul_comm, ← Nat.pow_add, ← Nat.pow_add, show e' + (Q - e') = Q by omega]
    have l2 : (9 ^ z' * D ^ e) * (9 ^ (Q - z') * D ^ (Q - e')) = 9 ^ Q * D ^ (e + (Q - e')) := by
      rw [Nat.mul_mul_mul_comm, ← Nat.pow_add, ← Nat.pow_add, show z' + (Q - z') = Q by omega]
    rw [l1, l2, Nat.mul_mod, hD, Nat.mul_one, mm, Nat.mul_mod (9 ^ Q), nine_Q, Nat.one_mul, mm, el_9.red, hD.red, ← hs, ← hd] at hy
    exact hy
  rw [← el_9.red, Nat.pow_mul, pc key, ← Nat.pow_mul, hD.red, Nat.mul_mod_mod, inv_Q d hd0 hd1, Nat.pow_one]
end Grp
end Go.Proofs.YtfjkmhbipkoefaaDoor
namespace Go.Proofs.YtfjkmhbipkoefaaDoor
open Go.RowKit
set_option linter.unusedVariables false
theorem power_any (b e : Int) (w : World) (hb0 : 0 ≤ b) (hb1 : b < 2147483579) (he0 : 0 ≤ e) (he1 : e ≤ 9223372036854775807) :
    Calls Tryd.prog 65 #[.int .i64 b, .int .i64 e] w fun r w' => r = .returned (.int .i64 (pwI b e)) ∧ Below w.heap.size w w' :=
  power_at b e _ w hb0 hb1 he0 he1 (Lib.hid rfl)
theorem power_v (b e v : Int) (w : World) (hb0 : 0 ≤ b) (hb1 : b < 2147483579) (he0 : 0 ≤ e) (he1 : e ≤ 9223372036854775807) (hv : Hid (pwI b e = v)) :
    Calls Tryd.prog 65 #[.int .i64 b, .int .i64 e] w fun r w' => r = .returned (.int .i64 v) ∧ Below w.heap.size w w' :=
  power_at b e v w hb0 hb1 he0 he1 (Lib.hid hv.out)
/-- The generators lie in the world. -/
def GTab (w : World) : Prop := ∃ t fr, w.heap[0]? = some (.cells #[.int .i64 4, .int .i64 9] t fr)
theorem GTab.go {w w' : World} (h : GTab w) (hb : Below w.heap.size w w') : GTab w' := by
  obtain ⟨t, fr, h'⟩ := h
  exact ⟨t, fr, (hb.block _ (Array.getElem?_eq_some_iff.1 h').1).trans h'⟩
theorem GTab.c0 {w : World} (h : GTab w) : w.cell? ⟨0, 0, none⟩ = some (.int .i64 4) := by
  obtain ⟨t, fr, h⟩ := h
  simp only [World.cell?, h]
  rfl
theorem GTab.c1 {w : World} (h : GTab w) : w.cell? ⟨0, 1, none⟩ = some (.int .i64 9) := by
  obtain ⟨t, fr, h⟩ := h
  simp only [World.cell?, h]
  rfl
theorem GTab.lt {w : World} (h : GTab w) : 0 < w.heap.size := by
  obtain ⟨t, fr, h⟩ := h
  exact (Array.getElem?_eq_some_iff.1 h).1
set_option maxHeartbeats 2000000 in
set_option maxRecDepth 100000 in
theorem commit_ok (v b : Int) (w : World) (hT : GTab w) (hv0 : 0 ≤ v) (hv1 : v < 1073741789) (hb0 : 0 ≤ b) (hb1 : b < 1073741789) :
    Calls Tryd.prog 49 #[.int .i64 v, .int .i64 b] w fun e w' => e = .returned (.tuple #[.int .i64 (commitI v b), .int .i64 0]) ∧ Below w.heap.size w w' := by
  have hc0 := hT.c0
  have hc1 := hT.c1
  have hG0 : GTab w.drew := hT
  have hC : commitI v b = pwI 4 v * pwI 9 b % 2147483579 := rfl
  obtain ⟨x, hx⟩ : ∃ x, pwI 4 v = x := ⟨_, rfl⟩
  obtain ⟨y, hy⟩ : ∃ y, pwI 9 b = y := ⟨_, rfl⟩
  have hxb := pwI_bd 4 v
  have hyb := pwI_bd 9 b
  rw [hx] at hxb
  rw [hy] at hyb
  rw [hx, hy] at hC
  rw [hC]
  have hm := mulB hxb.1 hxb.2 hyb.1 hyb.2
  have HX := Lib.hid hx
  have HY := Lib.hid hy
  clear hx hy hT hC
  go_enter Tryd.func49, Tryd.ntmps49
  go_wp2
  have hwr : IntKind.i64.wrap (x * y) = x * y := IntWalk.i64_in _ (by omega)
  have htm : (x * y).tmod 2147483579 = x * y % 2147483579 := Int.tmod_eq_emod_of_nonneg hm.1
  go_region_held3 (fun w' => w'.cell? ⟨0, 0, none⟩ = some (.int .i64 4) ∧ w'.cell? ⟨0, 1, none⟩ = some (.int .i64 9))
    (go_keep)
    (first
      | (go_at_call 65; (with_reducible refine (power_v 4 v x w.drew (by omega) (by omega) (by omega) (by omega) HX).mono ?_); rintro e wp ⟨rfl, hbp⟩; have hG1 : GTab wp := hG0.go hbp; have hp0 := hG1.c0; have hp1 := hG1.c1)
      | (go_at_call 65; (with_reducible refine (power_v 9 b y w.drew (by omega) (by omega) (by omega) (by omega) HY).mono ?_); rintro e wp ⟨rfl, hbp⟩; have hG1 : GTab wp := hG0.go hbp; have hp0 := hG1.c0; have hp1 := hG1.c1)
      | (go_at_call 65; (with_reducible refine (power_v 4 v x wp (by omega) (by omega) (by omega) (by omega) HX).mono ?_); rintro e wq ⟨rfl, hbq⟩; have hG2 : GTab wq := hG1.go hbq; have hq0 := hG2.c0; have hq1 := hG2.c1)
      | (go_at_call 65; (with_reducible refine (power_v 9 b y wp (by omega) (by omega) (by omega) (by omega) HY).mono ?_); rintro e wq ⟨rfl, hbq⟩; have hG2 : GTab wq := hG1.go hbq; have hq0 := hG2.c0; have hq1 := hG2.c1))
  go_wp2
  go_ret2
  exact ⟨rfl, bgo (below_undrew hbp) hbq⟩
end Go.Proofs.YtfjkmhbipkoefaaDoor
namespace Go.Proofs.YtfjkmhbipkoefaaDoor
open Go.RowKit
set_option linter.unusedVariables false
end Go.Proofs.YtfjkmhbipkoefaaDoor
