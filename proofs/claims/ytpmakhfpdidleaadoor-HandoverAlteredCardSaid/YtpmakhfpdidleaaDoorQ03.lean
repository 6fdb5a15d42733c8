/- The walks of package merkle, second part: the iterator over the rows. The walks of package merkle, third part: Root. -/
import Derived.Test.YtpmakhfpdidleaaDoorQ02
import Derived.StillTailTactics
import Derived.OwnWalkIn
import Derived.TacticsInMore
import Derived.LoopNIn
import Derived.LoopIn
import Derived.RangeFuncBox
import Derived.Maps.AppendAt
import Derived.Deep.OwnRows
import Derived.Deep.Draws
import Derived.Deep.RegionHeld3
import Derived.IntWalk
import Derived.Deep.AppendLies
import Derived.RangeFuncLeaves
import Derived.Shelf.Abstract
namespace Go.Proofs.YtpmakhfpdidleaaDoor
open Go.RowKit
set_option linter.unusedVariables false
def leavesD (ss : List ByteArray) : List UInt64 := ss.map fun s => Mk.leafD s.data.toList
theorem info_digest : (Tryd.prog.info? 29).map (fun i => (i.zero, i.size, i.bytes)) = some (some (.int .u64 0), 1, 8) := by kernel_rfl
theorem leaf_size (s : ByteArray) (h : s.size ≤ 140737488355328) : (⟨(0 :: s.data.toList).toArray⟩ : ByteArray).size ≤ maxLen := by
  have e : (⟨(0 :: s.data.toList).toArray⟩ : ByteArray).size = s.size + 1 := by
    show (0 :: s.data.toList).toArray.size = s.data.size + 1
    rw [List.size_toArray, List.length_cons, Array.length_toList]
  rw [e]; unfold maxLen; omega
theorem leavesD_snoc (ss : List ByteArray) (k : Nat) (h : k < ss.length) : leavesD (ss.take (k + 1)) = leavesD (ss.take k) ++ [Dig.sum (0 :: ss[k].data.toList)] := by
  unfold leavesD
  rw [List.take_succ_eq_append_getElem h, List.map_append]
  rfl
/-- What the iterator needs of each call of yield, and what it gives. -/
def RowYield (P : Program) (l m E : Nat) (R : List UInt64) (J : Nat → World → Prop) : Prop :=
  ∀ (k : Nat) (W0 W1 : World) (v : Value), J k W0 → Below W0.heap.size W0 W1 → W1.ownsRow W0.heap.size E 1 v (Mk.rowN R k).length (u64V (Mk.rowN R k)) → (∀ j, j < k → 1 < (Mk.rowN R j).length) → 1 ≤ (Mk.rowN R k).length →
    YieldAt Fence.wide m P l #[v] W1 fun e W' => e = .returned (.bool true) ∧ J (k + 1) W' ∧ W'.ownsRow W0.heap.size E 1 v (Mk.rowN R k).length (u64V (Mk.rowN R k)) ∧ W1.heap.size ≤ W'.heap.size
def RowsEnd (R : List UInt64) (J : Nat → World → Prop) (e : Ending) (W' : World) : Prop :=
  ∃ v k W0, e = .returned v ∧ J (k + 1) W0 ∧ Below W0.heap.size W0 W' ∧ (Mk.rowN R k).length ≤ 1 ∧ ∀ j, j < k → 1 < (Mk.rowN R j).length
set_option maxRecDepth 100000 in
set_option maxHeartbeats 4000000 in
theorem rows1_any (l m Bn : Nat) (A : Option Addr) (c : Nat) (ss : List ByteArray) (W : World) (J : Nat → World → Prop) (hA : Sl W W.heap.size 1 A ss.length (strV ss)) (hBn : W.cell? ⟨Bn, 0, none⟩ = some (.slice A ss.length c))
    (hs : ∀ s ∈ ss, s.size ≤ 140737488355328) (h1 : 1 ≤ ss.length) (hn : ss.length ≤ 1024) (hJ : J 0 W) (hY : RowYield Tryd.prog l m 29 (leavesD ss) J) :
    Calls Tryd.prog 84 #[.func (.yield l) #[] #[], .pointer (some ⟨Bn, 0, none⟩)] W (RowsEnd (leavesD ss) J) := by
  obtain ⟨i0, hi0, hz0, hz1, hz2⟩ := info_parts info_digest
  have Hs := Lib.hid hs
  have HA := Lib.hid hA
  clear hs hA
  go_enter Tryd.func84, Tryd.ntmps84
  go_wp2
  go_loopw [3, 10] (fun v i wr => ∃ k : Nat, k ≤ ss.length ∧ i = .int .i64 k ∧ wr.ownsRow W.heap.size 29 1 v (leavesD (ss.take k)).length (u64V (leavesD (ss.take k))) ∧ Below W.heap.size W wr) (fun _ i _ => ss.length - (intOf i).toNat)
  case atStart => exact ⟨0, Nat.zero_le _, rfl, ⟨rfl, .inl ⟨rfl, rfl⟩⟩, Below.refl _ _⟩
  case round =>
    obtain ⟨k, hk, rfl, hown, hB⟩ := hrel
    have Hown := Lib.hid hown
    clear hown
    by_cases hlt : k < ss.length
    · obtain ⟨b, off, rfl, hb, hcell⟩ := (HA.out).2 (by omega)
      have hc : wr.cell? ⟨b, off + k, none⟩ = some (.string ss[k]) := (hB.cell (p := ⟨b, off + k, none⟩) hb).trans (hcell k _ (by simp [strV, hlt]))
      have hsz := Hs.out ss[k] (List.getElem_mem hlt)
      clear hcell
      go_wp2_with fail
      refine (leafText_any _ _ (by omega)).mono ?_
      rintro e w' ⟨rfl, rfl⟩
      go_wp2_with fail
      refine (sum_any _ _ (leaf_size _ hsz)).mono ?_
      rintro e w' ⟨rfl, rfl⟩
      go_wp2_with (at_builtin; refine wpList_append_own _ rfl _ _ 33 rfl W.heap.size 29 i0 (.int .u64 0) 1 8 Tryd.underlying33 hi0 hz0 hz1 hz2 rfl (by decide) _ _ _ rfl (Hown.out.alloc _) ⟨wr.heap.size, 0, none⟩ 1 1 [.int .u64 (Dig.sum (0 :: ss[k].data.toList)).toNat] rfl rfl ?c1 ?c2 ?c3 ?c4 ?c5 ?_)
      case c1 => exact cell_one_new _ _ _
      case c2 => simp [Value.oneCell']
      case c3 => simp [leavesD, maxLen]; omega
      case c4 => simp [leavesD]; omega
      case c5 => have := hB.size; simp; omega
      intro v' w1 hown1 hg1 _
      have hB1 : Below W.heap.size W w1 := (hB.alloc hB.size _).grown hg1 (by have := hB.size; simp; omega) (fun k hk => (Hown.out.lt k hk).1)
      have HR := Lib.hid hown1
      clear hown1 hg1
      go_wp2
      go_roundw
      case rel => exact ⟨k + 1, by omega, by go_num, by rw [leavesD_snoc ss k hlt, u64V_snoc, List.length_append]; exact HR.out, hB1⟩
      case measure => simp [intOf]; omega
    · have hE : ss.take k = ss := List.take_of_length_le (by omega)
      rw [hE] at Hown
      clear hE
      go_wp2
      go_loopw [3] (fun v wx => ∃ (k : Nat) (W0 : World), wx.ownsRow W0.heap.size 29 1 v (Mk.rowN (leavesD ss) k).length (u64V (Mk.rowN (leavesD ss) k)) ∧ J k W0 ∧ Below W0.heap.size W0 wx ∧ (∀ j, j < k → 1 < (Mk.rowN (leavesD ss) j).length) ∧ 1 ≤ (Mk.rowN (leavesD ss) k).length ∧ (Mk.rowN (leavesD ss) k).length ≤ 1024) (fun v _ => sliceLen v)
      case atStart => exact ⟨0, W, Hown.out, hJ, hB, fun j hj => absurd hj (Nat.not_lt_zero j), by simp only [Mk.rowN, leavesD, List.length_map]; exact h1, by simp only [Mk.rowN, leavesD, List.length_map]; exact hn⟩
      case round =>
        clear Hown hk hlt hB
        obtain ⟨k, W0, hown, hJk, hB, hj, hr1, hrn⟩ := hrel
        obtain ⟨r, hr⟩ : ∃ r, r = Mk.rowN (leavesD ss) k := ⟨_, rfl⟩
        have hyl := hY k W0 wr _ hJk hB hown hj hr1
        have HJ := Lib.hid hj
        clear hj
        obtain ⟨fn, tmps, assign, body, hy, hR⟩ := hyl
        have HR := Lib.hid hR
        clear hR
        rw [← hr] at hown hr1 hrn
        obtain ⟨g, cap, hv⟩ : ∃ g cap, u3 = .slice (some ⟨g, 0, none⟩) r.length cap := by
          obtain ⟨n', hn'⟩ : ∃ n', r.length = n' + 1 := ⟨r.length - 1, by omega⟩
          rw [hn'] at hown ⊢
          exact ownsRow_succ hown
        subst hv
        have Hr := Lib.hid hr
        clear hr
        have Hown := Lib.hid hown
        clear hown
        refine (wpIn_wide (n := m + 1)).1 ?_
        by_cases hlen : 1 < r.length
        · have hd : decide ((1 : Int) < (r.length : Int)) = true := by simp; omega
          gi_wp2
          refine HR.out.mono ?_
          rintro e W2 ⟨rfl, hJ2, hown2, hsz2⟩
          rw [← Hr.out] at hown2
          have Hown2 := Lib.hid hown2
          clear hown2
          gi_wp2
          refine wpIn_wide.2 ?_
          go_loopw [6, 7] (fun v i wx => ∃ q p : Nat, p = 2 * q ∧ p ≤ r.length ∧ i = .int .i64 p ∧ wx.ownsRow W2.heap.size 29 1 v q (u64V ((Mk.nextRow r).take q)) ∧ Below W2.heap.size W2 wx) (fun _ i _ => r.length - (intOf i).toNat)
          case atStart => exact ⟨0, 0, rfl, by omega, rfl, ⟨rfl, .inl ⟨rfl, rfl⟩⟩, Below.refl _ _⟩
          case round =>
            obtain ⟨q, p, hp, hpr, rfl, hownq, hBq⟩ := hrel
            have Hownq := Lib.hid hownq
            clear hownq
            have Hp := Lib.hid hp
            clear hp
            have hgl : g < W2.heap.size := (Hown2.out.lt g rfl).2
            have hcell : ∀ j, j < r.length → wr.cell? ⟨g, j, none⟩ = some (.int .u64 (r.getD j 0).toNat) := fun j hj => (hBq.cell (p := ⟨g, j, none⟩) hgl).trans ((Hown2.out.cellAt j (by omega)).trans (u64V_get r j hj))
            by_cases hq2 : p + 1 < r.length
            · have hc0 := hcell p (by omega)
              have hc1 := hcell (p + 1) hq2
              clear hcell
              obtain ⟨x, hx⟩ : ∃ x, x = r.getD p 0 := ⟨_, rfl⟩
              obtain ⟨y, hy1⟩ : ∃ y, y = r.getD (p + 1) 0 := ⟨_, rfl⟩
              rw [← hx] at hc0
              rw [← hy1] at hc1
              have Hx := Lib.hid hx
              have Hy := Lib.hid hy1
              clear hx hy1
              go_wp2
              have hi1 : (p : Int) < (r.length : Int) := by omega
              have hi2 : (p : Int) + 1 < (r.length : Int) := by omega
              have hi3 : (0 : Int) ≤ (p : Int) := Int.natCast_nonneg _
              have hi4 : (0 : Int) ≤ (p : Int) + 1 := by omega
              have hgw : g < wr.heap.size := Nat.lt_of_lt_of_le hgl hBq.size
              have hne : some g ≠ Value.ownBlock u6 := fun e => by have := (Hownq.out.lt g e.symm).1; omega
              have hml : q + 1 ≤ maxLen := by have := Hp.out; unfold maxLen; omega
              have hmb : (q + 1) * 8 ≤ 140737488355328 := by have := Hp.out; omega
              have hwr : IntKind.i64.wrap ((p : Int) + 1) = (p : Int) + 1 := IntWalk.i64_in _ (by omega)
              have htn : ((p : Int) + 1).toNat = p + 1 := by omega
              go_region_held3 (fun w' => w'.cell? ⟨g, p, none⟩ = some (.int .u64 x.toNat) ∧ w'.cell? ⟨g, p + 1, none⟩ = some (.int .u64 y.toNat))
                (go_keep)
                (first
                  | (go_at_call 86; refine (pair_any _ _ _).mono ?_; rintro e wp ⟨rfl, hbp⟩; have hp0 := (hbp.cell (p := ⟨g, p, none⟩) hgw).trans hc0; have hp1 := (hbp.cell (p := ⟨g, p + 1, none⟩) hgw).trans hc1; have hgp := Nat.lt_of_lt_of_le hgw hbp.size)
                  | (refine step_append_lies _ (by rfl) _ _ _ (by rfl) W2.heap.size 29 i0 (.int .u64 0) 1 8 Tryd.underlying33 hi0 hz0 hz1 hz2 (by rfl) Nat.one_pos u6 q (u64V ((Mk.nextRow r).take q)) (by rfl) ((own_below (w := wr.drew) Hownq.out hbp).alloc _)
                      ⟨wp.heap.size, 0, none⟩ 1 1 [.int .u64 (Dig.pair x y).toNat] (by rfl) (by rfl) (World.news_of_block (cs := #[.int .u64 (Dig.pair x y).toNat]) (t := 29) (fr := (0, 0)) (heap_alloc_new wp _)) (by simp [Value.oneCell'])
                      Nat.one_pos hml hmb (Nat.le_trans (Nat.le_trans hBq.size hbp.size) (by simp)) (wp.heap.size + 1) (by simp) ?_; intro gg cap2 w1 hown1 hgrow hat hlt
                     have hq0 : w1.cell? ⟨g, p, none⟩ = some (.int .u64 x.toNat) := (World.cell?_of_block (hgrow.block g (by simp; omega) hne)).trans ((World.cell?_alloc_lt wp _ ⟨g, p, none⟩ hgp).trans hp0)
                     have hq1 : w1.cell? ⟨g, p + 1, none⟩ = some (.int .u64 y.toNat) := (World.cell?_of_block (hgrow.block g (by simp; omega) hne)).trans ((World.cell?_alloc_lt wp _ ⟨g, p + 1, none⟩ hgp).trans hp1)))
              clear hwr htn hq0 hq1 hp0 hp1 hc0 hc1 hi1 hi2 hi3 hi4
              have hB1 : Below W2.heap.size W2 w1 := ((hBq.trans (below_undrew (hbp.mono hBq.size))).alloc (Nat.le_trans hBq.size hbp.size) _).grown hgrow (Nat.le_trans (Nat.le_trans hBq.size hbp.size) (by simp)) (fun k hk => (Hownq.out.lt k hk).1)
              have HO := Lib.hid hown1
              clear hown1 hgrow hat
              go_wp2
              go_roundw
              case rel => exact ⟨q + 1, p + 2, by have := Hp.out; omega, by omega, by go_num, by rw [Mk.take_pair r q (by have := Hp.out; omega), u64V_snoc, ← Hp.out, ← Hx.out, ← Hy.out]; exact HO.out, hB1⟩
              case measure => simp [intOf]; omega
            · by_cases hodd : r.length % 2 = 1
              · have hd2 : (((r.length : Int) % 2) == 1) = true := by simp; omega
                have hcl := hcell (r.length - 1) (by omega)
                clear hcell
                have hi5 : ((r.length : Int) - 1).toNat = r.length - 1 := by omega
                obtain ⟨x, hx⟩ : ∃ x, x = r.getD (r.length - 1) 0 := ⟨_, rfl⟩
                rw [← hx] at hcl
                have Hx := Lib.hid hx
                clear hx
                go_wp2
                refine wpIn_wide.2 ?_
                go_wp2_with (at_builtin; refine wpList_append_own _ rfl _ _ 33 rfl W2.heap.size 29 i0 (.int .u64 0) 1 8 Tryd.underlying33 hi0 hz0 hz1 hz2 rfl (by decide) _ _ _ rfl (Hownq.out.alloc _) ⟨wr.heap.size, 0, none⟩ 1 1 [.int .u64 x.toNat] rfl rfl ?c1 ?c2 ?c3 ?c4 ?c5 ?_)
                case c1 => exact cell_one_new _ _ _
                case c2 => simp [Value.oneCell']
                case c3 => have := Hp.out; unfold maxLen; omega
                case c4 => have := Hp.out; omega
                case c5 => have := hBq.size; simp; omega
                intro v' w1 hown1 hg1 _
                have hB1 : Below W2.heap.size W2 w1 := (hBq.alloc hBq.size _).grown hg1 (by have := hBq.size; simp; omega) (fun k hk => (Hownq.out.lt k hk).1)
                have HO := Lib.hid hown1
                clear hown1 hg1
                go_wp2
                go_roundw
                case rel =>
                  have hnl := Mk.nextRow_length r
                  have hq' := Hp.out
                  have hqe : q = r.length / 2 := by omega
                  have hrow : Mk.rowN (leavesD ss) (k + 1) = Mk.nextRow r := by rw [Mk.rowN, ← Hr.out]
                  refine ⟨k + 1, W2, ?_, hJ2, hB1, ?_, ?_, ?_⟩
                  · rw [hrow, Mk.take_odd r hodd, u64V_snoc, List.length_append, List.length_take, ← Hx.out, ← hqe, show min q (Mk.nextRow r).length = q by rw [hnl]; omega]
                    exact HO.out
                  · intro j hj
                    rcases Nat.lt_succ_iff_lt_or_eq.1 hj with h | h
                    · exact HJ.out j h
                    · rw [h, ← Hr.out]; exact hlen
                  · rw [hrow, hnl]; omega
                  · rw [hrow, hnl]; omega
                case measure =>
                  have hq' := Hp.out
                  rw [own_len HO.out]
                  show q + 1 < r.length
                  omega
              · have hd2 : (((r.length : Int) % 2) == 1) = false := by simp; omega
                clear hcell
                go_wp2
                refine wpIn_wide.2 ?_
                go_wp2
                go_roundw
                case rel =>
                  have hnl := Mk.nextRow_length r
                  have hq' := Hp.out
                  have hqe : q = r.length / 2 := by omega
                  have hrow : Mk.rowN (leavesD ss) (k + 1) = Mk.nextRow r := by rw [Mk.rowN, ← Hr.out]
                  refine ⟨k + 1, W2, ?_, hJ2, hBq, ?_, ?_, ?_⟩
                  · rw [hrow, hnl, show (r.length + 1) / 2 = q by omega, ← Mk.take_even r (by omega), ← hqe]
                    exact Hownq.out
                  · intro j hj
                    rcases Nat.lt_succ_iff_lt_or_eq.1 hj with h | h
                    · exact HJ.out j h
                    · rw [h, ← Hr.out]; exact hlen
                  · rw [hrow, hnl]; omega
                  · rw [hrow, hnl]; omega
                case measure =>
                  have hq' := Hp.out
                  rw [own_len Hownq.out]
                  show q < r.length
                  omega
        · have hd : decide ((1 : Int) < (r.length : Int)) = false := by simp; omega
          gi_wp2
          refine HR.out.mono ?_
          rintro e W2 ⟨rfl, hJ2, hown2, hsz2⟩
          gi_wp2
          go_end0
          exact ⟨_, k, W2, rfl, hJ2, Below.refl _ _, by rw [← Hr.out]; omega, HJ.out⟩
end Go.Proofs.YtpmakhfpdidleaaDoor
namespace Go.Proofs.YtpmakhfpdidleaaDoor
open Go.RowKit Go.Shelf
set_option linter.unusedVariables false
attribute [local go_sem] Oper.semAt_some
def rootV (ss : List ByteArray) : UInt64 := if checkE ss.length = 0 then Mk.rootF 10 (leavesD ss) else 0
theorem rows_any (A : Option Addr) (n c : Nat) (w : World) : Calls Tryd.prog 68 #[.slice A n c] w fun e w' => e = .returned (.func (.func 84) #[] #[.pointer (some ⟨w.heap.size, 0, none⟩)]) ∧ w.alloc (.cells #[.slice A n c] 53) = w' := by
  go_enter Tryd.func68, Tryd.ntmps68
  go_wp2
  go_ret
  exact ⟨rfl, rfl⟩
def rootAt (R : List UInt64) : Nat → UInt64
  | 0 => 0
  | k + 1 => (Mk.rowN R k).getD 0 0
/-- The loop of Root between two rounds. -/
def RootJ (w : World) (l : Nat) (r : Loop) (R : List UInt64) (k : Nat) (W : World) : Prop :=
  W.heap[l]? = some (Rng.readyOf r) ∧ W.heap[w.heap.size + 2]? = some (.deferred (some [])) ∧ W.cell? ⟨w.heap.size, 0, none⟩ = some (.int .u64 (rootAt R k).toNat) ∧ W.frozen? ⟨w.heap.size, 0, none⟩ = false ∧ Below w.heap.size w W ∧ w.heap.size + 4 ≤ W.heap.size
end Go.Proofs.YtpmakhfpdidleaaDoor
