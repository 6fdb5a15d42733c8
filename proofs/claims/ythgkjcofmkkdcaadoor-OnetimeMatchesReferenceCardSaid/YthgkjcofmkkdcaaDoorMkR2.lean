/- The walks of the reference of merkle, second part: first, next, Root. -/
import Derived.Test.YthgkjcofmkkdcaaDoorMkR1
import Derived.Test.YthgkjcofmkkdcaaDoorApp
namespace Go.Proofs.YthgkjcofmkkdcaaDoor
open Go.RowKit Go.Shelf
set_option linter.unusedVariables false
set_option maxRecDepth 100000 in
theorem rfirst_any (A : Option Addr) (c : Nat) (ss : List ByteArray) (w : World) (hA : Sl w w.heap.size 1 A ss.length (strV ss)) (hs : ∀ s ∈ ss, s.size ≤ 140737488355328) (hn : ss.length ≤ 1024) :
    Calls Tryd.prog 65 #[.slice A ss.length c] w fun e w' => ∃ v, e = .returned v ∧ w'.ownsRow w.heap.size 23 1 v ss.length (u64V (leavesD ss)) ∧ Below w.heap.size w w' := by
  obtain ⟨i0, hi0, hz0, hz1, hz2⟩ := info_parts info_digest
  have Hs := Lib.hid hs
  have HA := Lib.hid hA
  clear hs hA
  go_enter Tryd.func65, Tryd.ntmps65
  go_wp2
  go_loopw [3, 4] (fun v i wr => ∃ k : Nat, k ≤ ss.length ∧ i = .int .i64 (k : Int) ∧ wr.ownsRow w.heap.size 23 1 v k (u64V (leavesD (ss.take k))) ∧ Below w.heap.size w wr) (fun _ i _ => ss.length - (intOf i).toNat)
  case atStart => exact ⟨0, Nat.zero_le _, rfl, ⟨rfl, .inl ⟨rfl, rfl⟩⟩, Below.refl _ _⟩
  case round =>
    obtain ⟨k, hk, rfl, hown, hB⟩ := hrel
    have Hown := Lib.hid hown
    clear hown
    by_cases hlt : k < ss.length
    · obtain ⟨b, off, rfl, hb, hcell⟩ := (HA.out).2 (by omega)
      have hc : wr.cell? ⟨b, off + k, none⟩ = some (.string ss[k]) := (hB.cell (p := ⟨b, off + k, none⟩) hb).trans (hcell k _ (by simp [strV, hlt]))
      have hsz := Hs.out ss[k] (List.getElem_mem hlt)
      have hsn := leavesD_snoc ss k hlt
      obtain ⟨x, hx⟩ : ∃ x, ss[k] = x := ⟨_, rfl⟩
      rw [hx] at hc hsz hsn
      have Hsn := Lib.hid hsn
      have hlt' : (k : Int) < (ss.length : Int) := by omega
      clear hcell hx hsn
      go_wp2_with fail
      refine (rleaf_any _ _ hsz).mono ?_
      rintro e w1 ⟨rfl, hB1⟩
      have hBn := bgo hB hB1
      have Hown1 := Lib.hid (own_below Hown.out hB1)
      clear hB hB1 Hown
      go_wp2_with (at_builtin; refine app_one rfl _ _ 24 rfl 23 i0 (.int .u64 0) 1 8 Tryd.underlying24 hi0 hz0 hz1 hz2 rfl (by decide) _ k _ rfl Hown1.out hBn [.int .u64 (Mk.leafD x.data.toList).toNat] _ _ rfl rfl (by simp [Value.oneCell']) (by unfold maxLen; omega) (by omega) ?_)
      intro v' w2 hown2 hB2 hoth
      clear hoth
      have HR := Lib.hid hown2
      clear hown2
      go_wp2
      go_roundw
      case rel => exact ⟨k + 1, by omega, by go_num, by rw [Hsn.out, u64V_snoc]; exact HR.out, hB2⟩
      case measure => simp [intOf]; omega
    · obtain rfl : k = ss.length := by omega
      rw [List.take_length] at Hown
      go_wp2
      go_ret
      exact ⟨_, rfl, Hown.out, hB⟩
set_option maxRecDepth 100000 in
set_option maxHeartbeats 1000000 in
theorem rnext_any (A : Option Addr) (c : Nat) (r : List UInt64) (w : World) (hA : Sl w w.heap.size 1 A r.length (u64V r)) (hn : r.length ≤ 1024) :
    Calls Tryd.prog 66 #[.slice A r.length c] w fun e w' => ∃ v, e = .returned v ∧ w'.ownsRow w.heap.size 23 1 v (Mk.nextRow r).length (u64V (Mk.nextRow r)) ∧ Below w.heap.size w w' := by
  obtain ⟨i0, hi0, hz0, hz1, hz2⟩ := info_parts info_digest
  have HA := Lib.hid hA
  clear hA
  go_enter Tryd.func66, Tryd.ntmps66
  go_wp2
  go_loopw [3, 4] (fun v i wr => ∃ q p : Nat, p = 2 * q ∧ p ≤ r.length + 1 ∧ i = .int .i64 (p : Int) ∧ wr.ownsRow w.heap.size 23 1 v q (u64V ((Mk.nextRow r).take q)) ∧ Below w.heap.size w wr) (fun _ i _ => r.length + 2 - (intOf i).toNat)
  case atStart => exact ⟨0, 0, rfl, by omega, rfl, ⟨rfl, .inl ⟨rfl, rfl⟩⟩, Below.refl _ _⟩
  case round =>
    obtain ⟨q, p, hp, hpr, rfl, hownq, hBq⟩ := hrel
    have Hownq := Lib.hid hownq
    clear hownq
    have Hp := Lib.hid hp
    clear hp
    by_cases hlt : p < r.length
    · obtain ⟨g, off, rfl, hgl, hcell0⟩ := (HA.out).2 (by omega)
      have hcell : ∀ j, j < r.length → wr.cell? ⟨g, off + j, none⟩ = some (.int .u64 (r.getD j 0).toNat) := fun j hj => (hBq.cell (p := ⟨g, off + j, none⟩) hgl).trans (hcell0 j _ (u64V_get r j hj))
      clear hcell0
      have hi1 : (p : Int) < (r.length : Int) := by omega
      by_cases hq2 : p + 1 < r.length
      · have hc0 := hcell p (by omega)
        have hc1 := hcell (p + 1) hq2
        clear hcell
        obtain ⟨x, hx⟩ : ∃ x, x = r.getD p 0 := ⟨_, rfl⟩
        obtain ⟨y, hy1⟩ : ∃ y, y = r.getD (p + 1) 0 := ⟨_, rfl⟩
        rw [← hx] at hc0
        rw [← hy1] at hc1
        have Hx := Lib.hid hx
        have Hy := Lib.hid hy1
        clear hx hy1
        have hi2 : (p : Int) + 1 < (r.length : Int) := by omega
        go_wp2
        have hi3 : (0 : Int) ≤ (p : Int) := Int.natCast_nonneg _
        have hi4 : (0 : Int) ≤ (p : Int) + 1 := by omega
        have hgw : g < wr.heap.size := Nat.lt_of_lt_of_le hgl hBq.size
        have hne : some g ≠ Value.ownBlock u3 := fun e => by have := (Hownq.out.lt g e.symm).1; omega
        have hml : q + 1 ≤ maxLen := by have := Hp.out; unfold maxLen; omega
        have hmb : (q + 1) * 8 ≤ 140737488355328 := by have := Hp.out; omega
        have hwr : IntKind.i64.wrap ((p : Int) + 1) = (p : Int) + 1 := IntWalk.i64_in _ (by omega)
        have htn : ((p : Int) + 1).toNat = p + 1 := by omega
        go_region_held3 (fun w' => w'.cell? ⟨g, off + p, none⟩ = some (.int .u64 x.toNat) ∧ w'.cell? ⟨g, off + (p + 1), none⟩ = some (.int .u64 y.toNat))
          (go_keep)
          (first
            | (go_at_call 81; refine (rnode_any _ _ _).mono ?_; rintro e wp ⟨rfl, hbp⟩; have hp0 := (hbp.cell (p := ⟨g, off + p, none⟩) hgw).trans hc0; have hp1 := (hbp.cell (p := ⟨g, off + (p + 1), none⟩) hgw).trans hc1; have hgp := Nat.lt_of_lt_of_le hgw hbp.size)
            | (refine step_append_lies _ (by rfl) _ _ _ (by rfl) w.heap.size 23 i0 (.int .u64 0) 1 8 Tryd.underlying24 hi0 hz0 hz1 hz2 (by rfl) Nat.one_pos u3 q (u64V ((Mk.nextRow r).take q)) (by rfl) ((own_below (w := wr.drew) Hownq.out hbp).alloc _)
                ⟨wp.heap.size, 0, none⟩ 1 1 [.int .u64 (Dig.pair x y).toNat] (by rfl) (by rfl) (World.news_of_block (cs := #[.int .u64 (Dig.pair x y).toNat]) (t := 23) (fr := (0, 0)) (heap_alloc_new wp _)) (by simp [Value.oneCell'])
                Nat.one_pos hml hmb (Nat.le_trans (Nat.le_trans hBq.size hbp.size) (by simp)) (wp.heap.size + 1) (by simp) ?_; intro gg cap2 w1 hown1 hgrow hat hlt
               have hq0 : w1.cell? ⟨g, off + p, none⟩ = some (.int .u64 x.toNat) := (World.cell?_of_block (hgrow.block g (by simp; omega) hne)).trans ((World.cell?_alloc_lt wp _ ⟨g, off + p, none⟩ hgp).trans hp0)
               have hq1 : w1.cell? ⟨g, off + (p + 1), none⟩ = some (.int .u64 y.toNat) := (World.cell?_of_block (hgrow.block g (by simp; omega) hne)).trans ((World.cell?_alloc_lt wp _ ⟨g, off + (p + 1), none⟩ hgp).trans hp1)))
        clear hwr htn hq0 hq1 hp0 hp1 hc0 hc1 hi1 hi2 hi3 hi4
        have hB1 : Below w.heap.size w w1 := ((hBq.trans (below_undrew (hbp.mono hBq.size))).alloc (Nat.le_trans hBq.size hbp.size) _).grown hgrow (Nat.le_trans (Nat.le_trans hBq.size hbp.size) (by simp)) (fun k hk => (Hownq.out.lt k hk).1)
        have HO := Lib.hid hown1
        clear hown1 hgrow hat
        go_wp2
        go_roundw
        case rel => exact ⟨q + 1, p + 2, by have := Hp.out; omega, by omega, by go_num, by rw [Mk.take_pair r q (by have := Hp.out; omega), u64V_snoc, ← Hp.out, ← Hx.out, ← Hy.out]; exact HO.out, hB1⟩
        case measure => simp [intOf]; omega
      · have hcl := hcell p hlt
        have hto := Mk.take_odd r (by have := Hp.out; omega)
        have hnl := Mk.nextRow_length r
        have hq' := Hp.out
        have hqe : r.length / 2 = q := by omega
        have hpe : r.length - 1 = p := by omega
        have hfull : (Mk.nextRow r).take (q + 1) = Mk.nextRow r := List.take_of_length_le (by omega)
        rw [hqe, hpe] at hto
        obtain ⟨x, hx⟩ : ∃ x, r.getD p 0 = x := ⟨_, rfl⟩
        rw [hx] at hcl hto
        have Hto := Lib.hid (And.intro hto hfull)
        have hd2 : decide ((p : Int) + 1 < (r.length : Int)) = false := decide_eq_false (by omega)
        clear hx hto hfull hqe hpe hq' hcell hnl
        go_wp2_with (at_builtin; refine app_one rfl _ _ 24 rfl 23 i0 (.int .u64 0) 1 8 Tryd.underlying24 hi0 hz0 hz1 hz2 rfl (by decide) _ q _ rfl Hownq.out hBq [.int .u64 x.toNat] _ _ rfl rfl (by simp [Value.oneCell']) (by have := Hp.out; unfold maxLen; omega) (by have := Hp.out; omega) ?_)
        intro v' w2 hown2 hB2 hoth
        clear hoth
        have HR := Lib.hid hown2
        clear hown2
        go_wp2
        go_roundw
        case rel => exact ⟨q + 1, p + 2, by have := Hp.out; omega, by omega, by go_num, by rw [Hto.out.2, Hto.out.1, u64V_snoc]; exact HR.out, hB2⟩
        case measure => simp [intOf]; omega
    · have hnl := Mk.nextRow_length r
      have hq' := Hp.out
      have hqe : (Mk.nextRow r).length = q := by omega
      have ht : (Mk.nextRow r).take q = Mk.nextRow r := List.take_of_length_le (by omega)
      rw [ht] at Hownq
      have Hqe := Lib.hid hqe
      clear hnl hq' hqe ht
      go_wp2
      go_ret
      rw [Hqe.out]
      exact ⟨_, rfl, Hownq.out, hBq⟩
theorem rnext_at (A : Option Addr) (c n : Nat) (r : List UInt64) (w : World) (hr : r.length = n) (hA : Sl w w.heap.size 1 A n (u64V r)) (hn : n ≤ 1024) :
    Calls Tryd.prog 66 #[.slice A n c] w fun e w' => ∃ v, e = .returned v ∧ w'.ownsRow w.heap.size 23 1 v (Mk.nextRow r).length (u64V (Mk.nextRow r)) ∧ Below w.heap.size w w' := by
  subst hr
  exact rnext_any A c r w hA hn
set_option maxRecDepth 100000 in
set_option maxHeartbeats 1000000 in
theorem rroot_any (A : Option Addr) (c : Nat) (ss : List ByteArray) (w : World) (hA : Sl w w.heap.size 1 A ss.length (strV ss)) (hs : ∀ s ∈ ss, s.size ≤ 140737488355328) (hl : ss.length ≤ maxLen) :
    Calls Tryd.prog 38 #[.slice A ss.length c] w fun e w' => e = .returned (.tuple #[.int .u64 (rootV ss).toNat, .int .i64 (checkE ss.length)]) ∧ Below w.heap.size w w' := by
  by_cases hok : checkE ss.length = 0
  · have h1 : 1 ≤ ss.length ∧ ss.length ≤ 1024 := by
      unfold checkE at hok
      split at hok
      · cases hok
      · split at hok
        · cases hok
        · omega
    obtain ⟨h1, h2⟩ := h1
    have hroot : rootV ss = Mk.rootF 10 (leavesD ss) := rootV_ok ss h1 h2
    obtain ⟨r, hr⟩ : ∃ r, rootV ss = r := ⟨_, rfl⟩
    rw [hr] at hroot ⊢
    have Hr := Lib.hid hroot
    have Hok := Lib.hid hok
    have HA := Lib.hid hA
    have Hs := Lib.hid hs
    rw [hok]
    clear hok hr hroot hA hs
    go_enter Tryd.func38, Tryd.ntmps38
    go_wp2_with fail
    refine (wrong_any _ _ _ _ 0 hl Hok.out).mono ?_
    rintro e w' ⟨rfl, rfl⟩
    go_wp2_with fail
    refine (rfirst_any _ _ _ _ HA.out Hs.out h2).mono ?_
    rintro e w1 ⟨v, rfl, hown1, hB1⟩
    have HO := Lib.hid hown1
    clear hown1
    go_wp2
    go_loopw [5] (fun v wx => ∃ (k n : Nat) (A : Option Addr) (c : Nat), v = .slice A n c ∧ (Mk.rowN (leavesD ss) k).length = n ∧ 1 ≤ n ∧ n ≤ 1024 ∧ (∀ j, j < k → 1 < (Mk.rowN (leavesD ss) j).length) ∧ Sl wx wx.heap.size 1 A n (u64V (Mk.rowN (leavesD ss) k)) ∧ Below w.heap.size w wx) (fun v _ => sliceLen v)
    case atStart =>
      obtain ⟨A1, c1, hv, hS⟩ := own_slice HO.out
      exact ⟨0, ss.length, A1, c1, hv, leavesD_len ss, h1, h2, fun j hj => absurd hj (Nat.not_lt_zero j), hS, hB1⟩
    case round =>
      clear HO hB1
      obtain ⟨k, n, A1, c1, rfl, hkn, hn1, hn2, hj, hS, hB⟩ := hrel
      obtain ⟨R, hR⟩ : ∃ R, Mk.rowN (leavesD ss) k = R := ⟨_, rfl⟩
      rw [hR] at hkn hS
      have HS := Lib.hid hS
      have HJ := Lib.hid hj
      have HR := Lib.hid hR
      have Hkn := Lib.hid hkn
      clear hS hj hR hkn
      by_cases hgt : 1 < n
      · have hgt' : (1 : Int) < (n : Int) := by omega
        go_wp2_with fail
        refine (rnext_at _ _ n R _ Hkn.out HS.out hn2).mono ?_
        rintro e w2 ⟨v, rfl, hown2, hB2⟩
        have hB2' := bgo hB hB2
        have HO := Lib.hid hown2
        clear hown2 hB hB2
        go_wp2
        go_roundw
        case rel =>
          obtain ⟨A2, c2, hv, hS2⟩ := own_slice HO.out
          have hrow : Mk.rowN (leavesD ss) (k + 1) = Mk.nextRow R := by rw [Mk.rowN, HR.out]
          have hnl := Mk.nextRow_length R
          have hk' := Hkn.out
          refine ⟨k + 1, (Mk.nextRow R).length, A2, c2, hv, by rw [hrow], by omega, by omega, ?_, by rw [hrow]; exact hS2, hB2'⟩
          intro j hj
          rcases Nat.lt_succ_iff_lt_or_eq.1 hj with h | h
          · exact HJ.out j h
          · rw [h, HR.out, Hkn.out]; exact hgt
        case measure =>
          rw [own_len HO.out, Mk.nextRow_length, Hkn.out]
          show (n + 1) / 2 < n
          omega
      · have hgt' : decide ((1 : Int) < (n : Int)) = false := decide_eq_false (by omega)
        obtain ⟨b, off, rfl, hb, hcell⟩ := (HS.out).2 (by omega)
        have hc := hcell 0 _ (u64V_get R 0 (by have := Hkn.out; omega))
        rw [Nat.add_zero] at hc
        have hk10 : k ≤ 10 := rows_bound _ (by rw [leavesD_len]; exact h2) k HJ.out
        have hroot := Mk.root_row k 10 (leavesD ss) hk10 (by rw [HR.out, Hkn.out]; omega) HJ.out
        rw [HR.out, ← Hr.out] at hroot
        rw [← hroot] at hc
        have hn0 : (0 : Int) < (n : Int) := by omega
        clear hcell hroot
        go_wp2
        go_ret2
        exact ⟨rfl, hB⟩
  · have h0 : rootV ss = 0 := by unfold rootV; rw [if_neg hok]
    rw [h0]
    obtain ⟨e, he⟩ : ∃ e, checkE ss.length = e := ⟨_, rfl⟩
    rw [he] at hok ⊢
    have hne : (e != 0) = true := by simpa using hok
    have He := Lib.hid he
    clear hok h0 he
    go_enter Tryd.func38, Tryd.ntmps38
    go_wp2_with fail
    refine (wrong_any _ _ _ _ e hl He.out).mono ?_
    rintro e w' ⟨rfl, rfl⟩
    go_wp2_with fail
    go_ret2
    exact ⟨rfl, Below.refl _ _⟩
end Go.Proofs.YthgkjcofmkkdcaaDoor
