/- The walks of package commitment: bits, Power. -/
import Derived.Test.YtgkilaafeconlaaDoorGrpMath2
import Derived.Test.YtgkilaafeconlaaDoorBase
import Derived.Test.YtgkilaafeconlaaDoorRange
import Derived.StillTailTactics
import Derived.OwnWalkIn
import Derived.TacticsInMore
import Derived.LoopNIn
import Derived.LoopIn
import Derived.RangeFuncBox
import Derived.RangeFuncLeaves
import Derived.Shelf.Abstract
import Derived.IntWalk
import Derived.Below
import Derived.Lib.Hide
namespace Go.Proofs.YtgkilaafeconlaaDoor
open Go.RowKit Go.Shelf
set_option linter.unusedVariables false
attribute [local go_sem] Oper.semAt_some
theorem bits_any (n : Int) (w : World) : Calls Tryd.prog 69 #[.int .i64 n] w fun e w' => e = .returned (.func (.func 84) #[] #[.pointer (some ⟨w.heap.size, 0, none⟩)]) ∧ w.alloc (.cells #[.int .i64 n] 3) = w' := by
  go_enter Tryd.func69, Tryd.ntmps69
  go_wp2
  go_ret
  exact ⟨rfl, rfl⟩
/-- What the iterator needs of each call of yield. -/
def BitYield (P : Program) (l m Bn : Nat) (J : Nat → World → Prop) : Prop :=
  ∀ (e : Nat) (W : World), 0 < e → J e W →
    YieldAt Fence.wide m P l #[.bool (decide (e % 2 = 1))] W fun r W' => r = .returned (.bool true) ∧ W'.cell? ⟨Bn, 0, none⟩ = some (.int .i64 (e : Int)) ∧ W'.frozen? ⟨Bn, 0, none⟩ = false ∧ J (e / 2) (W'.setCell ⟨Bn, 0, none⟩ (.int .i64 ((e : Int) / 2)))
def BitCell (Bn : Nat) (J : Nat → World → Prop) : Prop := ∀ (e : Nat) (W : World), J e W → W.cell? ⟨Bn, 0, none⟩ = some (.int .i64 (e : Int))
theorem i64_and_nat (a b : Nat) (ha : a < 9223372036854775808) (hb : b < 9223372036854775808) : Go.bits .and .i64 (a : Int) (b : Int) = ((a &&& b : Nat) : Int) := by
  have hx : a &&& b < 2 ^ 63 := Nat.and_lt_two_pow _ (by omega)
  show IntKind.i64.wrap ((BitVec.ofInt 64 (a : Int) &&& BitVec.ofInt 64 (b : Int)).toNat : Int) = _
  rw [BitVec.toNat_and, ofInt_u64 a (by omega), ofInt_u64 b (by omega)]
  exact IntWalk.i64_in _ (by omega)
theorem bit_and (e : Nat) (he : e < 9223372036854775808) : Go.bits .and .i64 (e : Int) 1 = ((e % 2 : Nat) : Int) := by
  have h := i64_and_nat e 1 he (by omega)
  rw [nat_mask1] at h
  exact h
theorem bit_test (e : Nat) (he : e < 9223372036854775808) : (Go.bits .and .i64 (e : Int) 1 == 1) = decide (e % 2 = 1) := by
  rw [bit_and e he, Bool.eq_iff_iff]
  simp; omega
set_option maxRecDepth 100000 in
set_option maxHeartbeats 4000000 in
theorem bits1_any (l m Bn : Nat) (W : World) (e0 : Nat) (he0 : e0 < 9223372036854775808) (J : Nat → World → Prop) (hC : BitCell Bn J) (hJ : J e0 W) (hY : BitYield Tryd.prog l m Bn J) :
    Calls Tryd.prog 84 #[.func (.yield l) #[] #[], .pointer (some ⟨Bn, 0, none⟩)] W fun r W' => (∃ v, r = .returned v) ∧ J 0 W' := by
  have HJ := Lib.hid hJ
  clear hJ
  go_enter Tryd.func84, Tryd.ntmps84
  go_wp2
  go_loopw [] (fun wr => ∃ e : Nat, e < 9223372036854775808 ∧ J e wr) (fun wr => (intAt wr Bn).toNat)
  case atStart => exact ⟨e0, he0, HJ.out⟩
  case round =>
    obtain ⟨e, he, hJe⟩ := hrel
    have hc := hC e wr hJe
    by_cases h0 : 0 < e
    · have hd : decide ((0 : Int) < (e : Int)) = true := by simp; omega
      obtain ⟨fn, tmps, assign, body, hy, hR⟩ := hY e wr h0 hJe
      rw [← bit_test e he] at hy
      have HR := Lib.hid hR
      have HJe := Lib.hid hJe
      have HC := Lib.hid hc
      clear hR hJe
      refine (wpIn_wide (n := m + 1)).1 ?_
      gi_wp2
      refine HR.out.mono ?_
      rintro r W2 ⟨rfl, hc2, hf2, hJ2⟩
      have HJ2 := Lib.hid hJ2
      clear hJ2 hc hy hd
      gi_wp2
      go_roundw
      case rel => exact ⟨e / 2, by omega, HJ2.out⟩
      case measure =>
        unfold intAt
        rw [HC.out, World.cell?_setCell_same' _ _ _ (by rw [hc2]; rfl)]
        simp only []
        omega
    · have hz : e = 0 := by omega
      subst hz
      have HJe := Lib.hid hJe
      clear hJe
      go_wp2
      go_end0
      exact ⟨⟨_, rfl⟩, HJe.out⟩
/-- The loop of Power between two rounds: what is left of the exponent, the result and the base so far. -/
def PowJ (w : World) (l : Nat) (r : Loop) (V : Nat) (e : Nat) (W : World) : Prop :=
  ∃ res b : Int, 0 ≤ res ∧ res < 2147483579 ∧ 0 ≤ b ∧ b < 2147483579 ∧ Hid (res.toNat * b.toNat ^ e % Grp.P = V) ∧ W.heap[l]? = some (Rng.readyOf r) ∧ W.heap[w.heap.size + 3]? = some (.deferred (some [])) ∧
    W.cell? ⟨w.heap.size, 0, none⟩ = some (.int .i64 b) ∧ W.frozen? ⟨w.heap.size, 0, none⟩ = false ∧ W.cell? ⟨w.heap.size + 1, 0, none⟩ = some (.int .i64 res) ∧ W.frozen? ⟨w.heap.size + 1, 0, none⟩ = false ∧
    W.cell? ⟨w.heap.size + 2, 0, none⟩ = some (.int .i64 (e : Int)) ∧ W.frozen? ⟨w.heap.size + 2, 0, none⟩ = false ∧ Below w.heap.size w W ∧ w.heap.size + 5 ≤ W.heap.size
theorem mulB {a b : Int} (h0 : 0 ≤ a) (h1 : a < 2147483579) (g0 : 0 ≤ b) (g1 : b < 2147483579) : 0 ≤ a * b ∧ a * b ≤ 4611686018427387904 := by
  refine ⟨Int.mul_nonneg h0 g0, ?_⟩
  have : a * b ≤ 2147483648 * 2147483648 := Int.mul_le_mul (by omega) (by omega) g0 (by omega)
  omega
theorem toNat_mulmod {a b : Int} (h0 : 0 ≤ a) (g0 : 0 ≤ b) : (a * b % 2147483579).toNat = a.toNat * b.toNat % Grp.P := by
  obtain ⟨x, rfl⟩ := Int.eq_ofNat_of_zero_le h0
  obtain ⟨y, rfl⟩ := Int.eq_ofNat_of_zero_le g0
  rw [Int.toNat_natCast, Int.toNat_natCast]
  show ((x : Int) * (y : Int) % ((2147483579 : Nat) : Int)).toNat = _
  rw [← Int.natCast_mul, ← Int.natCast_emod, Int.toNat_natCast]
  rfl
theorem modB (x : Int) (h : 0 ≤ x) : 0 ≤ x % 2147483579 ∧ x % 2147483579 < 2147483579 := by omega
/-- One round of the loop: another result and base. -/
theorem PowJ.step {w : World} {l : Nat} {r : Loop} {V e : Nat} {W5 : World} (res b res' : Int) (hr0 : 0 ≤ res) (hr1 : res < 2147483579) (hb0 : 0 ≤ b) (hb1 : b < 2147483579) (hV : Hid (res.toNat * b.toNat ^ e % Grp.P = V))
    (hres : res' = if e % 2 = 1 then res * b % 2147483579 else res)
    (hl : W5.heap[l]? = some (Rng.busyOf r)) (hls : l < W5.heap.size) (hl5 : w.heap.size + 5 ≤ W5.heap.size) (hlw : l = w.heap.size + 4)
    (hd : W5.heap[w.heap.size + 3]? = some (.deferred (some [])))
    (hc0 : W5.cell? ⟨w.heap.size, 0, none⟩ = some (.int .i64 (b * b % 2147483579))) (hf0 : W5.frozen? ⟨w.heap.size, 0, none⟩ = false)
    (hc1 : W5.cell? ⟨w.heap.size + 1, 0, none⟩ = some (.int .i64 res')) (hf1 : W5.frozen? ⟨w.heap.size + 1, 0, none⟩ = false)
    (hc2 : W5.cell? ⟨w.heap.size + 2, 0, none⟩ = some (.int .i64 (e : Int))) (hf2 : W5.frozen? ⟨w.heap.size + 2, 0, none⟩ = false) (hB : Below w.heap.size w W5) :
    (W5.putObj l (Rng.readyOf r)).cell? ⟨w.heap.size + 2, 0, none⟩ = some (.int .i64 (e : Int)) ∧ (W5.putObj l (Rng.readyOf r)).frozen? ⟨w.heap.size + 2, 0, none⟩ = false ∧
    PowJ w l r V (e / 2) ((W5.putObj l (Rng.readyOf r)).setCell ⟨w.heap.size + 2, 0, none⟩ (.int .i64 ((e : Int) / 2))) := by
  subst hlw
  have hp2 : (W5.putObj (w.heap.size + 4) (Rng.readyOf r)).cell? ⟨w.heap.size + 2, 0, none⟩ = some (.int .i64 (e : Int)) := (World.cell?_of_block (World.putObj_heap_other (by simp))).trans hc2
  have hq2 : (W5.putObj (w.heap.size + 4) (Rng.readyOf r)).frozen? ⟨w.heap.size + 2, 0, none⟩ = false := (World.frozen?_of_block (World.putObj_heap_other (by simp))).trans hf2
  refine ⟨hp2, hq2, ?_⟩
  have hrb := mulB hr0 hr1 hb0 hb1
  have hbb := mulB hb0 hb1 hb0 hb1
  have m1 := modB _ hrb.1
  have m2 := modB _ hbb.1
  have hR : 0 ≤ res' ∧ res' < 2147483579 := by
    rw [hres]
    split
    · exact m1
    · exact ⟨hr0, hr1⟩
  have hother : ∀ j, j ≠ w.heap.size + 2 → j ≠ w.heap.size + 4 → ((W5.putObj (w.heap.size + 4) (Rng.readyOf r)).setCell ⟨w.heap.size + 2, 0, none⟩ (.int .i64 ((e : Int) / 2))).heap[j]? = W5.heap[j]? := fun j h1 h2 =>
    (Below.heap_setCell _ _ _ _ h1).trans (World.putObj_heap_other h2)
  refine ⟨res', b * b % 2147483579, hR.1, hR.2, m2.1, m2.2, ?_, ?_, ?_, ?_, ?_, ?_, ?_, ?_, ?_, ?_, ?_⟩
  · refine Lib.hid ?_
    have h := Grp.step_pw res.toNat b.toNat e
    rw [toNat_mulmod hb0 hb0, ← hV.out, ← h, hres]
    split
    · rw [toNat_mulmod hr0 hb0]
    · rfl
  · exact (Below.heap_setCell _ _ _ _ (by simp)).trans (World.putObj_heap_same hls)
  · exact (hother _ (by omega) (by omega)).trans hd
  · exact (World.cell?_of_block (hother _ (by simp) (by simp))).trans hc0
  · exact (World.frozen?_of_block (hother _ (by simp) (by simp))).trans hf0
  · exact (World.cell?_of_block (hother _ (by simp) (by simp))).trans hc1
  · exact (World.frozen?_of_block (hother _ (by simp) (by simp))).trans hf1
  · rw [World.cell?_setCell_same' _ _ _ (by rw [hp2]; rfl)]
    rfl
  · rw [World.frozen?_setCell]; exact hq2
  · exact (below_putObj hB hB.size (by omega) _).setCell (by simp) _
  · simp; omega
set_option maxRecDepth 100000 in
set_option maxHeartbeats 4000000 in
theorem power_at (b e v : Int) (w : World) (hb0 : 0 ≤ b) (hb1 : b < 2147483579) (he0 : 0 ≤ e) (he1 : e ≤ 9223372036854775807) (hv : Hid (((b.toNat ^ e.toNat % Grp.P : Nat) : Int) = v)) :
    Calls Tryd.prog 50 #[.int .i64 b, .int .i64 e] w fun e w' => e = .returned (.int .i64 v) ∧ Below w.heap.size w w' := by
  refine (callsIn_wide (n := 4)).1 ?_
  refine callsIn_of_wp_marks Tryd.func50 rfl trivial ?_ rfl
  simp only [Tryd.ntmps50, List.size_toArray, List.length_cons, List.length_nil, Nat.reduceAdd, Nat.reduceSub, Array.replicate_succ, Array.replicate_zero, List.push_toArray, List.append_toArray, List.nil_append, List.cons_append]
  refine wpIn_wide.2 ?_
  go_wp2_with fail
  refine (bits_any _ _).mono ?_
  rintro e w' ⟨rfl, rfl⟩
  go_wp2_with fail
  obtain ⟨w1, hw1⟩ : ∃ w1, w1 = ((w.alloc (.cells #[.int .i64 b] 3)).alloc (.cells #[.int .i64 1] 3)).alloc (.cells #[.int .i64 e] 3) := ⟨_, rfl⟩
  rw [← hw1]
  have hsz : w1.heap.size = w.heap.size + 3 := by rw [hw1]; simp
  have hB1 : Below w.heap.size w w1 := by rw [hw1]; exact (((Below.refl _ _).alloc (Nat.le_refl _) _).alloc (by simp) _).alloc (by simp; omega) _
  have hc0 : w1.cell? ⟨w.heap.size, 0, none⟩ = some (.int .i64 b) := by rw [hw1]; simp [go_sem]
  have hf0 : w1.frozen? ⟨w.heap.size, 0, none⟩ = false := by rw [hw1]; simp [go_sem]
  have hc1 : w1.cell? ⟨w.heap.size + 1, 0, none⟩ = some (.int .i64 1) := by rw [hw1]; simp [go_sem]
  have hf1 : w1.frozen? ⟨w.heap.size + 1, 0, none⟩ = false := by rw [hw1]; simp [go_sem]
  have hc2 : w1.cell? ⟨w.heap.size + 2, 0, none⟩ = some (.int .i64 e) := by rw [hw1]; simp [go_sem]
  have hf2 : w1.frozen? ⟨w.heap.size + 2, 0, none⟩ = false := by rw [hw1]; simp [go_sem]
  clear hw1
  have Hsz := Lib.hid hsz
  obtain ⟨V, hV⟩ : ∃ V, V = b.toNat ^ e.toNat % Grp.P := ⟨_, rfl⟩
  have HV := Lib.hid hV
  clear hV
  refine (wpIn_wide (n := 3)).1 ?_
  refine Rng.range_any rfl (by omega) (gf := 84) (lb := #[.pointer (some ⟨w.heap.size + 2, 0, none⟩)]) rfl trivial (enters_of Tryd.func84 (by kernel_rfl) rfl) ?_
  intro r hfn hra hrb hrt hrp
  refine callsIn_wide.2 ?_
  obtain ⟨W2, hW2⟩ : ∃ W2, W2 = (w1.alloc (.deferred (some []))).alloc (Rng.readyOf r) := ⟨_, rfl⟩
  rw [← hW2]
  have hS2 : W2.heap.size = w.heap.size + 5 := by rw [hW2]; simp [hsz]
  have hB2 : Below w1.heap.size w1 W2 := by rw [hW2]; exact ((Below.refl _ _).alloc (Nat.le_refl _) _).alloc (by simp) _
  have hl2 : W2.heap[w.heap.size + 4]? = some (Rng.readyOf r) := by rw [hW2]; have := World.alloc_heap_new (w1.alloc (.deferred (some []))) (Rng.readyOf r); rwa [World.size_alloc, hsz] at this
  have hd2 : W2.heap[w.heap.size + 3]? = some (.deferred (some [])) := by rw [hW2, ← hsz]; exact (Below.heap_alloc _ _ _ (by simp)).trans (World.alloc_heap_new w1 _)
  clear hW2
  have hl1 : w1.heap.size + 1 = w.heap.size + 4 := by omega
  rw [hl1]
  show Calls Tryd.prog 84 #[.func (.yield (w.heap.size + 4)) #[] #[], .pointer (some ⟨w.heap.size + 2, 0, none⟩)] W2 _
  refine (bits1_any (w.heap.size + 4) 1 (w.heap.size + 2) W2 e.toNat (by omega) (PowJ w (w.heap.size + 4) r V) ?hC ?hJ ?hY).mono ?_
  case hC => rintro e' W ⟨res, bb, _, _, _, _, _, _, _, _, _, _, _, h, _⟩; exact h
  case hJ =>
    have hlt : ∀ j, j < 3 → w.heap.size + j < w1.heap.size := fun j hj => by omega
    refine ⟨1, b, by omega, by omega, hb0, hb1, Lib.hid ?_, hl2, hd2, (hB2.cell (p := ⟨w.heap.size, 0, none⟩) (hlt 0 (by omega))).trans hc0, (hB2.frozen (p := ⟨w.heap.size, 0, none⟩) (hlt 0 (by omega))).trans hf0,
      (hB2.cell (p := ⟨w.heap.size + 1, 0, none⟩) (hlt 1 (by omega))).trans hc1, (hB2.frozen (p := ⟨w.heap.size + 1, 0, none⟩) (hlt 1 (by omega))).trans hf1,
      ?_, (hB2.frozen (p := ⟨w.heap.size + 2, 0, none⟩) (hlt 2 (by omega))).trans hf2, hB1.trans (hB2.mono hB1.size), by omega⟩
    · rw [HV.out, show (1 : Int).toNat = 1 from rfl, Nat.one_mul]
    · rw [hB2.cell (p := ⟨w.heap.size + 2, 0, none⟩) (hlt 2 (by omega)), hc2, Int.toNat_of_nonneg he0]
  case hY =>
    rintro e' W he' ⟨res, bb, hr0, hr1, hbb0, hbb1, hVe, hl3, hd3, hk0, hg0, hk1, hg1, hk2, hg2, hBw, hs3⟩
    refine Rng.yield_at hl3 hra hrb (by rw [hrt, hrp]) (by rw [hrp]; rfl) hfn ?_
    have hmul := mulB hr0 hr1 hbb0 hbb1
    have hsq := mulB hbb0 hbb1 hbb0 hbb1
    obtain ⟨W4, hW4⟩ : ∃ W4, W4 = W.putObj (w.heap.size + 4) (Rng.busyOf r) := ⟨_, rfl⟩
    have h43 : ∀ j, j ≠ w.heap.size + 4 → W4.heap[j]? = W.heap[j]? := fun j hj => by rw [hW4]; exact World.putObj_heap_other hj
    have hk0' : W4.cell? ⟨w.heap.size, 0, none⟩ = some (.int .i64 bb) := (World.cell?_of_block (h43 _ (by simp))).trans hk0
    have hg0' : W4.frozen? ⟨w.heap.size, 0, none⟩ = false := (World.frozen?_of_block (h43 _ (by simp))).trans hg0
    have hk1' : W4.cell? ⟨w.heap.size + 1, 0, none⟩ = some (.int .i64 res) := (World.cell?_of_block (h43 _ (by simp))).trans hk1
    have hg1' : W4.frozen? ⟨w.heap.size + 1, 0, none⟩ = false := (World.frozen?_of_block (h43 _ (by simp))).trans hg1
    have hk2' : W4.cell? ⟨w.heap.size + 2, 0, none⟩ = some (.int .i64 (e' : Int)) := (World.cell?_of_block (h43 _ (by simp))).trans hk2
    have hg2' : W4.frozen? ⟨w.heap.size + 2, 0, none⟩ = false := (World.frozen?_of_block (h43 _ (by simp))).trans hg2
    have hl4 : W4.heap[w.heap.size + 4]? = some (Rng.busyOf r) := by rw [hW4]; exact World.putObj_heap_same (by omega)
    have hs4 : w.heap.size + 5 ≤ W4.heap.size := by rw [hW4]; simpa using hs3
    have hB4 : Below w.heap.size w W4 := by rw [hW4]; exact below_putObj hBw hBw.size (by omega) _
    have F := Lib.hid (And.intro hl3 (And.intro hl4 (And.intro ((h43 _ (by omega)).trans hd3) (And.intro hk2' hg2'))))
    have HW4 := Lib.hid hW4
    clear hl3 hl4 hd3 hk2' hg2' hk0 hg0 hk1 hg1 hk2 hg2 h43 hl2 hd2 hc0 hf0 hc1 hf1 hc2 hf2 hra hrb hrt hrp hsz hS2 hl1
    by_cases hodd : e' % 2 = 1
    · rw [show decide (e' % 2 = 1) = true by simpa using hodd]
      gi_wp2
      refine ⟨F.out.1, ?_⟩
      rw [← hW4]
      clear hW4
      gi_wp2
      obtain ⟨W6, hW6⟩ : ∃ W6, W6 = W4.setCell ⟨w.heap.size + 1, 0, none⟩ (.int .i64 (res * bb % 2147483579)) := ⟨_, rfl⟩
      rw [← hW6]
      have h64 : ∀ j, j ≠ w.heap.size + 1 → W6.heap[j]? = W4.heap[j]? := fun j hj => by rw [hW6]; exact Below.heap_setCell _ _ _ _ hj
      have hs6 : W6.heap.size = W4.heap.size := by rw [hW6]; simp [World.setCell]
      have hx1 : W6.cell? ⟨w.heap.size + 1, 0, none⟩ = some (.int .i64 (res * bb % 2147483579)) := by rw [hW6]; exact World.cell?_setCell_same' _ _ _ (by rw [hk1']; rfl)
      have hy1 : W6.frozen? ⟨w.heap.size + 1, 0, none⟩ = false := by rw [hW6, World.frozen?_setCell]; exact hg1'
      have hx0 : W6.cell? ⟨w.heap.size, 0, none⟩ = some (.int .i64 bb) := (World.cell?_of_block (h64 _ (by simp))).trans hk0'
      have hy0 : W6.frozen? ⟨w.heap.size, 0, none⟩ = false := (World.frozen?_of_block (h64 _ (by simp))).trans hg0'
      have hB6 : Below w.heap.size w W6 := by rw [hW6]; exact hB4.setCell (by simp) _
      have h56 : ∀ j, j ≠ w.heap.size → (W6.setCell ⟨w.heap.size, 0, none⟩ (.int .i64 (bb * bb % 2147483579))).heap[j]? = W6.heap[j]? := fun j hj => Below.heap_setCell _ _ _ _ hj
      have hs5 : (W6.setCell ⟨w.heap.size, 0, none⟩ (.int .i64 (bb * bb % 2147483579))).heap.size = W6.heap.size := by simp [World.setCell]
      refine ⟨(h56 _ (by omega)).trans ((h64 _ (by omega)).trans F.out.2.1), rfl, PowJ.step res bb (res * bb % 2147483579) hr0 hr1 hbb0 hbb1 hVe (by rw [if_pos hodd]) ((h56 _ (by omega)).trans ((h64 _ (by omega)).trans F.out.2.1)) (by omega) (by omega) rfl
        ((h56 _ (by omega)).trans ((h64 _ (by omega)).trans F.out.2.2.1)) (World.cell?_setCell_same' _ _ _ (by rw [hx0]; rfl)) (by rw [World.frozen?_setCell]; exact hy0)
        ((World.cell?_of_block (h56 _ (by simp))).trans hx1) ((World.frozen?_of_block (h56 _ (by simp))).trans hy1)
        ((World.cell?_of_block (h56 _ (by simp))).trans ((World.cell?_of_block (h64 _ (by simp))).trans F.out.2.2.2.1)) ((World.frozen?_of_block (h56 _ (by simp))).trans ((World.frozen?_of_block (h64 _ (by simp))).trans F.out.2.2.2.2)) (hB6.setCell (Nat.le_refl _) _)⟩
    · rw [show decide (e' % 2 = 1) = false by simpa using hodd]
      gi_wp2
      refine ⟨F.out.1, ?_⟩
      rw [← hW4]
      clear hW4
      gi_wp2
      have h54 : ∀ j, j ≠ w.heap.size → (W4.setCell ⟨w.heap.size, 0, none⟩ (.int .i64 (bb * bb % 2147483579))).heap[j]? = W4.heap[j]? := fun j hj => Below.heap_setCell _ _ _ _ hj
      have hs5 : (W4.setCell ⟨w.heap.size, 0, none⟩ (.int .i64 (bb * bb % 2147483579))).heap.size = W4.heap.size := by simp [World.setCell]
      refine ⟨(h54 _ (by omega)).trans F.out.2.1, rfl, PowJ.step res bb res hr0 hr1 hbb0 hbb1 hVe (by rw [if_neg hodd]) ((h54 _ (by omega)).trans F.out.2.1) (by omega) (by omega) rfl
        ((h54 _ (by omega)).trans F.out.2.2.1) (World.cell?_setCell_same' _ _ _ (by rw [hk0']; rfl)) (by rw [World.frozen?_setCell]; exact hg0')
        ((World.cell?_of_block (h54 _ (by simp))).trans hk1') ((World.frozen?_of_block (h54 _ (by simp))).trans hg1')
        ((World.cell?_of_block (h54 _ (by simp))).trans F.out.2.2.2.1) ((World.frozen?_of_block (h54 _ (by simp))).trans F.out.2.2.2.2) (hB4.setCell (Nat.le_refl _) _)⟩
  rintro r' W3 ⟨⟨v', rfl⟩, res, bb, hr0, hr1, hbb0, hbb1, hVe, hl3, hd3, hk0, hg0, hk1, hg1, hk2, hg2, hBw, hs3⟩
  refine ⟨_, rfl, .inl ⟨hl3, ?_⟩⟩
  dsimp only
  obtain ⟨W4, hW4⟩ : ∃ W4, W4 = W3.putObj (w.heap.size + 4) (Rng.overOf r none) := ⟨_, rfl⟩
  rw [← hW4]
  have h43 : ∀ j, j ≠ w.heap.size + 4 → W4.heap[j]? = W3.heap[j]? := fun j hj => by rw [hW4]; exact World.putObj_heap_other hj
  have hk1' : W4.cell? ⟨w.heap.size + 1, 0, none⟩ = some (.int .i64 res) := (World.cell?_of_block (h43 _ (by simp))).trans hk1
  have hd4 : W4.heap[w1.heap.size]? = some (.deferred (some [])) := by rw [hsz]; exact (h43 _ (by omega)).trans hd3
  have hB4 : Below w.heap.size w W4 := by rw [hW4]; exact below_putObj hBw hBw.size (by omega) _
  have hres : res = v := by
    have h1 := hVe.out
    rw [Nat.pow_zero, Nat.mul_one, Nat.mod_eq_of_lt (by show res.toNat < 2147483579; omega), HV.out] at h1
    rw [← hv.out, ← h1]
    omega
  have Hd4 := Lib.hid hd4
  clear hW4 hd4 hsz hS2 hl2 hd2 hc0 hf0 hc1 hf1 hc2 hf2 hl3 hd3 hk0 hg0 hk1 hg1 hk2 hg2 hra hrb hrt hrp hl1 h43
  subst hres
  gi_wp2
  go_wp2
  refine ⟨by simp, .inl ⟨_, _, rfl, run_takeDeferred Hd4.out, ?_⟩⟩
  refine ⟨_, results_tmp rfl _ _ _, ?_⟩
  exact ⟨rfl, below_putObj hB4 hB4.size (by have := Hsz.out; omega) _⟩
end Go.Proofs.YtgkilaafeconlaaDoor
