/- The walks of the reference of merkle, second part: first, next, Root. The reference's Valid (layer 35). The reference's digits (layer 36). -/
import Derived.Test.YtfjkmhbipkoefaaGreatDoorQ28
import Derived.Test.YtfjkmhbipkoefaaGreatDoorQ05
import Derived.Test.YtfjkmhbipkoefaaGreatDoorQ24
import Derived.Test.YtfjkmhbipkoefaaGreatDoorQ18
import Derived.Test.YtfjkmhbipkoefaaGreatDoorQ13
import Derived.IntWalk
namespace Go.Proofs.YtfjkmhbipkoefaaGreatDoor
open Go.RowKit Go.Shelf
set_option linter.unusedVariables false
set_option maxRecDepth 100000 in
theorem rfirst_any (A : Option Addr) (c : Nat) (ss : List ByteArray) (w : World) (hA : Sl w w.heap.size 1 A ss.length (strV ss)) (hs : ∀ s ∈ ss, s.size ≤ 140737488355328) (hn : ss.length ≤ 1024) :
    Calls Tryz.prog 60 #[.slice A ss.length c] w fun e w' => ∃ v, e = .returned v ∧ w'.ownsRow w.heap.size 25 1 v ss.length (u64V (leavesD ss)) ∧ Below w.heap.size w w' := by
  obtain ⟨i0, hi0, hz0, hz1, hz2⟩ := info_parts info_digest
  have Hs := Lib.hid hs
  have HA := Lib.hid hA
  clear hs hA
  go_enter Tryz.func60, Tryz.ntmps60
  go_wp2
  go_loopw [3, 4] (fun v i wr => ∃ k : Nat, k ≤ ss.length ∧ i = .int .i64 (k : Int) ∧ wr.ownsRow w.heap.size 25 1 v k (u64V (leavesD (ss.take k))) ∧ Below w.heap.size w wr) (fun _ i _ => ss.length - (intOf i).toNat)
  case atStart => exact ⟨0, Nat.zero_le _, rfl, ⟨rfl, .inl ⟨rfl, rfl⟩⟩, Below.refl _ _⟩
  case round =>
    obtain ⟨k, hk, rfl, hown, hB⟩ := hrel
    have Hown := Lib.hid hown
    clear hown
    by_cases hlt : k < ss.length
    · obtain ⟨b, off, rfl, hb, hcell⟩ := (HA.out).2 (by omega)
      have hc : wr.cell? ⟨b, off + k, none⟩ = some (.string ss[k]) := (hB.cell (p := ⟨b, off + k, none⟩) hb).trans (hcell k _ (by simp [strV, hlt]))
      have hsz := Hs.out ss[k] (List.getElem_mem hlt)
      have hsn := leavesD_snoc ss k hlt
      obtain ⟨x, hx⟩ : ∃ x, ss[k] = x := ⟨_, rfl⟩
      rw [hx] at hc hsz hsn
      have Hsn := Lib.hid hsn
      have hlt' : (k : Int) < (ss.length : Int) := by omega
      clear hcell hx hsn
      go_wp2_with fail
      refine (rleaf_any _ _ hsz).mono ?_
      rintro e w1 ⟨rfl, hB1⟩
      have hBn := bgo hB hB1
      have Hown1 := Lib.hid (own_below Hown.out hB1)
      clear hB hB1 Hown
      go_wp2_with (at_builtin; refine app_one rfl _ _ 31 rfl 25 i0 (.int .u64 0) 1 8 Tryz.underlying31 hi0 hz0 hz1 hz2 rfl (by decide) _ k _ rfl Hown1.out hBn [.int .u64 (Mk.leafD x.data.toList).toNat] _ _ rfl rfl (by simp [Value.oneCell']) (by unfold maxLen; omega) (by omega) ?_)
      intro v' w2 hown2 hB2 hoth
      clear hoth
      have HR := Lib.hid hown2
      clear hown2
      go_wp2
      go_roundw
      case rel => exact ⟨k + 1, by omega, by go_num, by rw [Hsn.out, u64V_snoc]; exact HR.out, hB2⟩
      case measure => simp [intOf]; omega
    · obtain rfl : k = ss.length := by omega
      rw [List.take_length] at Hown
      go_wp2
      go_ret
      exact ⟨_, rfl, Hown.out, hB⟩
set_option maxRecDepth 100000 in
set_option maxHeartbeats 1000000 in
theorem rnext_any (A : Option Addr) (c : Nat) (r : List UInt64) (w : World) (hA : Sl w w.heap.size 1 A r.length (u64V r)) (hn : r.length ≤ 1024) :
    Calls Tryz.prog 61 #[.slice A r.length c] w fun e w' => ∃ v, e = .returned v ∧ w'.ownsRow w.heap.size 25 1 v (Mk.nextRow r).length (u64V (Mk.nextRow r)) ∧ Below w.heap.size w w' := by
  obtain ⟨i0, hi0, hz0, hz1, hz2⟩ := info_parts info_digest
  have HA := Lib.hid hA
  clear hA
  go_enter Tryz.func61, Tryz.ntmps61
  go_wp2
  go_loopw [3, 4] (fun v i wr => ∃ q p : Nat, p = 2 * q ∧ p ≤ r.length + 1 ∧ i = .int .i64 (p : Int) ∧ wr.ownsRow w.heap.size 25 1 v q (u64V ((Mk.nextRow r).take q)) ∧ Below w.heap.size w wr) (fun _ i _ => r.length + 2 - (intOf i).toNat)
  case atStart => exact ⟨0, 0, rfl, by omega, rfl, ⟨rfl, .inl ⟨rfl, rfl⟩⟩, Below.refl _ _⟩
  case round =>
    obtain ⟨q, p, hp, hpr, rfl, hownq, hBq⟩ := hrel
    have Hownq := Lib.hid hownq
    clear hownq
    have Hp := Lib.hid hp
    clear hp
    by_cases hlt : p < r.length
    · obtain ⟨g, off, rfl, hgl, hcell0⟩ := (HA.out).2 (by omega)
      have hcell : ∀ j, j < r.length → wr.cell? ⟨g, off + j, none⟩ = some (.int .u64 (r.getD j 0).toNat) := fun j hj => (hBq.cell (p := ⟨g, off + j, none⟩) hgl).trans (hcell0 j _ (u64V_get r j hj))
      clear hcell0
      have hi1 : (p : Int) < (r.length : Int) := by omega
      by_cases hq2 : p + 1 < r.length
      · have hc0 := hcell p (by omega)
        have hc1 := hcell (p + 1) hq2
        clear hcell
        obtain ⟨x, hx⟩ : ∃ x, x = r.getD p 0 := ⟨_, rfl⟩
        obtain ⟨y, hy1⟩ : ∃ y, y = r.getD (p + 1) 0 := ⟨_, rfl⟩
        rw [← hx] at hc0
        rw [← hy1] at hc1
        have Hx := Lib.hid hx
        have Hy := Lib.hid hy1
        clear hx hy1
        have hi2 : (p : Int) + 1 < (r.length : Int) := by omega
        go_wp2
        have hi3 : (0 : Int) ≤ (p : Int) := Int.natCast_nonneg _
        have hi4 : (0 : Int) ≤ (p : Int) + 1 := by omega
        have hgw : g < wr.heap.size := Nat.lt_of_lt_of_le hgl hBq.size
        have hne : some g ≠ Value.ownBlock u3 := fun e => by have := (Hownq.out.lt g e.symm).1; omega
        have hml : q + 1 ≤ maxLen := by have := Hp.out; unfold maxLen; omega
        have hmb : (q + 1) * 8 ≤ 140737488355328 := by have := Hp.out; omega
        have hwr : IntKind.i64.wrap ((p : Int) + 1) = (p : Int) + 1 := IntWalk.i64_in _ (by omega)
        have htn : ((p : Int) + 1).toNat = p + 1 := by omega
        go_region_held3 (fun w' => w'.cell? ⟨g, off + p, none⟩ = some (.int .u64 x.toNat) ∧ w'.cell? ⟨g, off + (p + 1), none⟩ = some (.int .u64 y.toNat))
          (go_keep)
          (first
            | (go_at_call 81; refine (rnode_any _ _ _).mono ?_; rintro e wp ⟨rfl, hbp⟩; have hp0 := (hbp.cell (p := ⟨g, off + p, none⟩) hgw).trans hc0; have hp1 := (hbp.cell (p := ⟨g, off + (p + 1), none⟩) hgw).trans hc1; have hgp := Nat.lt_of_lt_of_le hgw hbp.size)
            | (refine step_append_lies _ (by rfl) _ _ _ (by rfl) w.heap.size 25 i0 (.int .u64 0) 1 8 Tryz.underlying31 hi0 hz0 hz1 hz2 (by rfl) Nat.one_pos u3 q (u64V ((Mk.nextRow r).take q)) (by rfl) ((own_below (w := wr.drew) Hownq.out hbp).alloc _)
                ⟨wp.heap.size, 0, none⟩ 1 1 [.int .u64 (Dig.pair x y).toNat] (by rfl) (by rfl) (World.news_of_block (cs := #[.int .u64 (Dig.pair x y).toNat]) (t := 25) (fr := (0, 0)) (heap_alloc_new wp _)) (by simp [Value.oneCell'])
                Nat.one_pos hml hmb (Nat.le_trans (Nat.le_trans hBq.size hbp.size) (by simp)) (wp.heap.size + 1) (by simp) ?_; intro gg cap2 w1 hown1 hgrow hat hlt
               have hq0 : w1.cell? ⟨g, off + p, none⟩ = some (.int .u64 x.toNat) := (World.cell?_of_block (hgrow.block g (by simp; omega) hne)).trans ((World.cell?_alloc_lt wp _ ⟨g, off + p, none⟩ hgp).trans hp0)
               have hq1 : w1.cell? ⟨g, off + (p + 1), none⟩ = some (.int .u64 y.toNat) := (World.cell?_of_block (hgrow.block g (by simp; omega) hne)).trans ((World.cell?_alloc_lt wp _ ⟨g, off + (p + 1), none⟩ hgp).trans hp1)))
        clear hwr htn hq0 hq1 hp0 hp1 hc0 hc1 hi1 hi2 hi3 hi4
        have hB1 : Below w.heap.size w w1 := ((hBq.trans (below_undrew (hbp.mono hBq.size))).alloc (Nat.le_trans hBq.size hbp.size) _).grown hgrow (Nat.le_trans (Nat.le_trans hBq.size hbp.size) (by simp)) (fun k hk => (Hownq.out.lt k hk).1)
        have HO := Lib.hid hown1
        clear hown1 hgrow hat
        go_wp2
        go_roundw
        case rel => exact ⟨q + 1, p + 2, by have := Hp.out; omega, by omega, by go_num, by rw [Mk.take_pair r q (by have := Hp.out; omega), u64V_snoc, ← Hp.out, ← Hx.out, ← Hy.out]; exact HO.out, hB1⟩
        case measure => simp [intOf]; omega
      · have hcl := hcell p hlt
        have hto := Mk.take_odd r (by have := Hp.out; omega)
        have hnl := Mk.nextRow_length r
        have hq' := Hp.out
        have hqe : r.length / 2 = q := by omega
        have hpe : r.length - 1 = p := by omega
        have hfull : (Mk.nextRow r).take (q + 1) = Mk.nextRow r := List.take_of_length_le (by omega)
        rw [hqe, hpe] at hto
        obtain ⟨x, hx⟩ : ∃ x, r.getD p 0 = x := ⟨_, rfl⟩
        rw [hx] at hcl hto
        have Hto := Lib.hid (And.intro hto hfull)
        have hd2 : decide ((p : Int) + 1 < (r.length : Int)) = false := decide_eq_false (by omega)
        clear hx hto hfull hqe hpe hq' hcell hnl
        go_wp2_with (at_builtin; refine app_one rfl _ _ 31 rfl 25 i0 (.int .u64 0) 1 8 Tryz.underlying31 hi0 hz0 hz1 hz2 rfl (by decide) _ q _ rfl Hownq.out hBq [.int .u64 x.toNat] _ _ rfl rfl (by simp [Value.oneCell']) (by have := Hp.out; unfold maxLen; omega) (by have := Hp.out; omega) ?_)
        intro v' w2 hown2 hB2 hoth
        clear hoth
        have HR := Lib.hid hown2
        clear hown2
        go_wp2
        go_roundw
        case rel => exact ⟨q + 1, p + 2, by have := Hp.out; omega, by omega, by go_num, by rw [Hto.out.2, Hto.out.1, u64V_snoc]; exact HR.out, hB2⟩
        case measure => simp [intOf]; omega
    · have hnl := Mk.nextRow_length r
      have hq' := Hp.out
      have hqe : (Mk.nextRow r).length = q := by omega
      have ht : (Mk.nextRow r).take q = Mk.nextRow r := List.take_of_length_le (by omega)
      rw [ht] at Hownq
      have Hqe := Lib.hid hqe
      clear hnl hq' hqe ht
      go_wp2
      go_ret
      rw [Hqe.out]
      exact ⟨_, rfl, Hownq.out, hBq⟩
theorem rnext_at (A : Option Addr) (c n : Nat) (r : List UInt64) (w : World) (hr : r.length = n) (hA : Sl w w.heap.size 1 A n (u64V r)) (hn : n ≤ 1024) :
    Calls Tryz.prog 61 #[.slice A n c] w fun e w' => ∃ v, e = .returned v ∧ w'.ownsRow w.heap.size 25 1 v (Mk.nextRow r).length (u64V (Mk.nextRow r)) ∧ Below w.heap.size w w' := by
  subst hr
  exact rnext_any A c r w hA hn
set_option maxRecDepth 100000 in
set_option maxHeartbeats 1000000 in
theorem rroot_any (A : Option Addr) (c : Nat) (ss : List ByteArray) (w : World) (hA : Sl w w.heap.size 1 A ss.length (strV ss)) (hs : ∀ s ∈ ss, s.size ≤ 140737488355328) (hl : ss.length ≤ maxLen) :
    Calls Tryz.prog 56 #[.slice A ss.length c] w fun e w' => e = .returned (.tuple #[.int .u64 (rootV ss).toNat, .int .i64 (checkE ss.length)]) ∧ Below w.heap.size w w' := by
  by_cases hok : checkE ss.length = 0
  · have h1 : 1 ≤ ss.length ∧ ss.length ≤ 1024 := by
      unfold checkE at hok
      split at hok
      · cases hok
      · split at hok
        · cases hok
        · omega
    obtain ⟨h1, h2⟩ := h1
    have hroot : rootV ss = Mk.rootF 10 (leavesD ss) := rootV_ok ss h1 h2
    obtain ⟨r, hr⟩ : ∃ r, rootV ss = r := ⟨_, rfl⟩
    rw [hr] at hroot ⊢
    have Hr := Lib.hid hroot
    have Hok := Lib.hid hok
    have HA := Lib.hid hA
    have Hs := Lib.hid hs
    rw [hok]
    clear hok hr hroot hA hs
    go_enter Tryz.func56, Tryz.ntmps56
    go_wp2_with fail
    refine (wrong_any _ _ _ _ 0 hl Hok.out).mono ?_
    rintro e w' ⟨rfl, rfl⟩
    go_wp2_with fail
    refine (rfirst_any _ _ _ _ HA.out Hs.out h2).mono ?_
    rintro e w1 ⟨v, rfl, hown1, hB1⟩
    have HO := Lib.hid hown1
    clear hown1
    go_wp2
    go_loopw [5] (fun v wx => ∃ (k n : Nat) (A : Option Addr) (c : Nat), v = .slice A n c ∧ (Mk.rowN (leavesD ss) k).length = n ∧ 1 ≤ n ∧ n ≤ 1024 ∧ (∀ j, j < k → 1 < (Mk.rowN (leavesD ss) j).length) ∧ Sl wx wx.heap.size 1 A n (u64V (Mk.rowN (leavesD ss) k)) ∧ Below w.heap.size w wx) (fun v _ => sliceLen v)
    case atStart =>
      obtain ⟨A1, c1, hv, hS⟩ := own_slice HO.out
      exact ⟨0, ss.length, A1, c1, hv, leavesD_len ss, h1, h2, fun j hj => absurd hj (Nat.not_lt_zero j), hS, hB1⟩
    case round =>
      clear HO hB1
      obtain ⟨k, n, A1, c1, rfl, hkn, hn1, hn2, hj, hS, hB⟩ := hrel
      obtain ⟨R, hR⟩ : ∃ R, Mk.rowN (leavesD ss) k = R := ⟨_, rfl⟩
      rw [hR] at hkn hS
      have HS := Lib.hid hS
      have HJ := Lib.hid hj
      have HR := Lib.hid hR
      have Hkn := Lib.hid hkn
      clear hS hj hR hkn
      by_cases hgt : 1 < n
      · have hgt' : (1 : Int) < (n : Int) := by omega
        go_wp2_with fail
        refine (rnext_at _ _ n R _ Hkn.out HS.out hn2).mono ?_
        rintro e w2 ⟨v, rfl, hown2, hB2⟩
        have hB2' := bgo hB hB2
        have HO := Lib.hid hown2
        clear hown2 hB hB2
        go_wp2
        go_roundw
        case rel =>
          obtain ⟨A2, c2, hv, hS2⟩ := own_slice HO.out
          have hrow : Mk.rowN (leavesD ss) (k + 1) = Mk.nextRow R := by rw [Mk.rowN, HR.out]
          have hnl := Mk.nextRow_length R
          have hk' := Hkn.out
          refine ⟨k + 1, (Mk.nextRow R).length, A2, c2, hv, by rw [hrow], by omega, by omega, ?_, by rw [hrow]; exact hS2, hB2'⟩
          intro j hj
          rcases Nat.lt_succ_iff_lt_or_eq.1 hj with h | h
          · exact HJ.out j h
          · rw [h, HR.out, Hkn.out]; exact hgt
        case measure =>
          rw [own_len HO.out, Mk.nextRow_length, Hkn.out]
          show (n + 1) / 2 < n
          omega
      · have hgt' : decide ((1 : Int) < (n : Int)) = false := decide_eq_false (by omega)
        obtain ⟨b, off, rfl, hb, hcell⟩ := (HS.out).2 (by omega)
        have hc := hcell 0 _ (u64V_get R 0 (by have := Hkn.out; omega))
        rw [Nat.add_zero] at hc
        have hk10 : k ≤ 10 := rows_bound _ (by rw [leavesD_len]; exact h2) k HJ.out
        have hroot := Mk.root_row k 10 (leavesD ss) hk10 (by rw [HR.out, Hkn.out]; omega) HJ.out
        rw [HR.out, ← Hr.out] at hroot
        rw [← hroot] at hc
        have hn0 : (0 : Int) < (n : Int) := by omega
        clear hcell hroot
        go_wp2
        go_ret2
        exact ⟨rfl, hB⟩
  · have h0 : rootV ss = 0 := by unfold rootV; rw [if_neg hok]
    rw [h0]
    obtain ⟨e, he⟩ : ∃ e, checkE ss.length = e := ⟨_, rfl⟩
    rw [he] at hok ⊢
    have hne : (e != 0) = true := by simpa using hok
    have He := Lib.hid he
    clear hok h0 he
    go_enter Tryz.func56, Tryz.ntmps56
    go_wp2_with fail
    refine (wrong_any _ _ _ _ e hl He.out).mono ?_
    rintro e w' ⟨rfl, rfl⟩
    go_wp2_with fail
    go_ret2
    exact ⟨rfl, Below.refl _ _⟩
end Go.Proofs.YtfjkmhbipkoefaaGreatDoor
namespace Go.Proofs.YtfjkmhbipkoefaaGreatDoor
open Go.RowKit Go.Shelf
set_option linter.unusedVariables false
set_option linter.unusedSimpArgs false
set_option maxRecDepth 100000
set_option maxHeartbeats 1000000 in
theorem rsmall35_any (l : ByteArray) (c : Int) (r : ByteArray) (v : Bool) (hv : Hid (inR c = v)) (w : World) :
    Calls Tryz.prog 55 #[.agg #[.string l, .int .i64 c, .string r]] w fun e w' => e = .returned (.bool v) ∧ Below w.heap.size w w' := by
  obtain ⟨b, hb⟩ : ∃ b, inR c = b := ⟨_, rfl⟩
  rw [← hv.out]
  unfold inR
  clear hv hb
  have hB : Below w.heap.size w (w.alloc (.cells #[.string l, .int .i64 c, .string r] 46)) := bal (Below.refl _ _) _
  by_cases h1 : -500000000 ≤ c
  · by_cases h2 : c ≤ 500000000
    · have hr : decide (-500000000 ≤ c ∧ c ≤ 500000000) = true := decide_eq_true ⟨h1, h2⟩
      rw [hr]
      clear hr b
      go_enter Tryz.func55, Tryz.ntmps55
      go_wp2_with fail
      go_ret
      exact ⟨by first | rfl | simp, hB⟩
    · have hr : decide (-500000000 ≤ c ∧ c ≤ 500000000) = false := decide_eq_false fun h => h2 h.2
      rw [hr]
      clear hr b
      have h2' : 500000000 < c := by omega
      clear h2
      go_enter Tryz.func55, Tryz.ntmps55
      go_wp2_with fail
      go_ret
      exact ⟨by first | rfl | (simp; omega) | simp, hB⟩
  · have hr : decide (-500000000 ≤ c ∧ c ≤ 500000000) = false := decide_eq_false fun h => h1 h.1
    rw [hr]
    clear hr b
    have h1' : c < -500000000 := by omega
    clear h1
    go_enter Tryz.func55, Tryz.ntmps55
    go_wp2_with fail
    go_ret
    exact ⟨by first | rfl | (simp; omega) | simp, hB⟩
theorem rroot_own (A : Option Addr) (c n : Nat) (ss : List ByteArray) (d : UInt64) (hn : ss.length = n) (hd : Hid (rootV ss = d)) (w : World) (hA : Sl w w.heap.size 1 A n (strV ss)) (hs : ∀ s ∈ ss, s.size ≤ 140737488355328) (h1 : 1 ≤ n) (h2 : n ≤ 1024) :
    Calls Tryz.prog 56 #[.slice A n c] w fun e w' => e = .returned (.tuple #[.int .u64 d.toNat, .int .i64 0]) ∧ Below w.heap.size w w' := by
  subst hn
  rw [← hd.out]
  refine (rroot_any A c ss w hA hs (by unfold maxLen; omega)).mono ?_
  rintro e w' ⟨rfl, hB⟩
  rw [checkE_in ⟨h1, h2⟩]
  exact ⟨rfl, hB⟩
theorem comE_ok {b : Int} (h : 0 ≤ b ∧ b < 1073741789) : (comE b == 0) = true := by unfold comE; rw [if_pos h]; rfl
theorem comE_no {b : Int} (h : ¬ (0 ≤ b ∧ b < 1073741789)) : (comE b == 0) = false := by unfold comE; rw [if_neg h]; rfl
set_option maxHeartbeats 16000000 in
theorem rvalid35_any (person : ByteArray) (month : Int) (A B : Option Addr) (ca cb n m : Nat) (rows : List RowD) (bl : List Int) (root : UInt64) (v : Bool) (hv : Hid (validB person month rows bl root = v)) (w : World) (hA : Sl w w.heap.size 3 A n (rowsV rows)) (hB : Sl w w.heap.size 1 B m (intV bl))
    (hn : rows.length = n) (hm : bl.length = m) (hnl : n ≤ maxLen) (hml : m ≤ maxLen) (hp : person.size ≤ maxLen) (hs : ∀ x ∈ rows, x.l.size ≤ 70368744177000 ∧ x.r.size ≤ 70368744177000 ∧ I64 x.c) (hb : ∀ b ∈ bl, I64 b) :
    Calls Tryz.prog 24 #[.agg #[.string person, .int .i64 month, .slice A n ca, .slice B m cb, .int .u64 root.toNat]] w fun e w' => e = .returned (.bool v) ∧ Below w.heap.size w w' := by
  have HA := Lib.hid hA
  have HB := Lib.hid hB
  have Hn := Lib.hid hn
  have Hm := Lib.hid hm
  have Hs := Lib.hid hs
  have Hb := Lib.hid hb
  obtain ⟨nb, hnb⟩ : ∃ b, isNameB person = b := ⟨_, rfl⟩
  have Hnb := Lib.hid hnb
  clear hA hB hn hm hs hb hnb
  unfold maxLen at hnl hml
  go_enter Tryz.func24, Tryz.ntmps24
  go_upto_region 1 with fail
  obtain ⟨V, hV⟩ : ∃ V, V = w.alloc (.cells #[.string person, .int .i64 month, .slice A n ca, .slice B m cb, .int .u64 root.toNat] 27) := ⟨_, rfl⟩
  obtain ⟨X, hX⟩ : ∃ X, X = w.heap.size := ⟨_, rfl⟩
  rw [← hV]
  try rw [← hX]
  have gX : V.heap[X]? = some (.cells #[.string person, .int .i64 month, .slice A n ca, .slice B m cb, .int .u64 root.toNat] 27 (0, 0)) := by rw [hV, hX]; exact World.alloc_heap_new _ _
  have hBV : Below w.heap.size w V := by rw [hV]; exact bal (Below.refl _ _) _
  have HV := Lib.hid (And.intro hBV gX)
  clear hV hX hBV
  have c0 : V.cell? ⟨X, 0, none⟩ = some (.string person) := by rw [Lib.cell_of_heap gX]; rfl
  have c1 : V.cell? ⟨X, 1, none⟩ = some (.int .i64 month) := by rw [Lib.cell_of_heap gX]; rfl
  have c2 : V.cell? ⟨X, 2, none⟩ = some (.slice A n ca) := by rw [Lib.cell_of_heap gX]; rfl
  have c3 : V.cell? ⟨X, 3, none⟩ = some (.slice B m cb) := by rw [Lib.cell_of_heap gX]; rfl
  clear gX
  go_wp2_with fail
  refine (rname_at person nb Hnb V hp).mono ?_
  rintro e wq ⟨rfl, hwq⟩
  obtain rfl := hwq
  by_cases hhead : nb = true ∧ 0 ≤ month ∧ month ≤ 1199 ∧ 1 ≤ n ∧ n ≤ 1024 ∧ m = n
  · obtain ⟨hnt, hm0, hm1, hn1, hn2, hmn⟩ := hhead
    subst hmn
    subst hnt
    have q1 : ¬ month < 0 := by omega
    have q2 : ¬ 1199 < month := by omega
    have q3 : ¬ (m : Int) < 1 := by omega
    have q4 : ¬ (1024 : Int) < (m : Int) := by omega
    have q5 : ((m : Int) != (m : Int)) = false := by simp
    have Hv : Hid (v = (okK rows bl m && (rootV (leafK rows bl m) == root))) := Lib.hid (by
      rw [← hv.out]
      unfold validB
      rw [Hnb.out, Hn.out, Hm.out, decide_eq_true (⟨hm0, hm1⟩ : 0 ≤ month ∧ month ≤ 1199), decide_eq_true (⟨hn1, hn2, rfl⟩ : 1 ≤ m ∧ m ≤ 1024 ∧ m = m)]
      simp)
    clear hv
    go_wp2_with fail
    go_loopw [4] (fun i wr => ∃ k : Nat, k ≤ m ∧ i = .int .i64 (k : Int) ∧ okK rows bl k = true ∧ Below V.heap.size V wr) (fun i _ => m - (intOf i).toNat)
    case atStart => exact ⟨0, Nat.zero_le _, rfl, rfl, Below.refl _ _⟩
    case round =>
      clear c0 c1 c2 c3 q1 q2 q5
      obtain ⟨k, hk, rfl, hok, hBr⟩ := hrel
      have Hok := Lib.hid hok
      have hg := (hBr.block _ (Array.getElem?_eq_some_iff.1 HV.out.2).1).trans HV.out.2
      have c2 : wr.cell? ⟨X, 2, none⟩ = some (.slice A m ca) := by rw [Lib.cell_of_heap hg]; rfl
      have c3 : wr.cell? ⟨X, 3, none⟩ = some (.slice B m cb) := by rw [Lib.cell_of_heap hg]; rfl
      have c4 : wr.cell? ⟨X, 4, none⟩ = some (.int .u64 root.toNat) := by rw [Lib.cell_of_heap hg]; rfl
      have Hg := Lib.hid hg
      have HBr := Lib.hid (And.intro hBr (bgo HV.out.1 hBr))
      clear hok hg hBr
      by_cases hlt : k < m
      · obtain ⟨b1, o1, hA1, hb1, hc1⟩ := (HA.out.go HBr.out.2).2 (by omega)
        obtain ⟨b2, o2, hB2_, hb2, hc2⟩ := (HB.out.go HBr.out.2).2 (by omega)
        subst hA1 hB2_
        have hkl : k < rows.length := by rw [Hn.out]; exact hlt
        have hkb : k < bl.length := by rw [Hm.out]; exact hlt
        have hget := flat_get rowV 3 (fun _ => rfl) rows k hkl
        obtain ⟨x, hx⟩ : ∃ x, rows[k] = x := ⟨_, rfl⟩
        have hxg : rows.getD k default = x := by rw [List.getD_eq_getElem?_getD, List.getElem?_eq_getElem hkl]; exact hx
        rw [hx] at hget
        obtain ⟨xl, xc, xr⟩ := x
        obtain ⟨bv, hbv⟩ : ∃ b, bl.getD k 0 = b := ⟨_, rfl⟩
        have y0 : wr.cell? ⟨b1, o1 + k * 3, none⟩ = some (.string xl) := hc1 _ _ (hget 0 (by decide))
        have y1 : wr.cell? ⟨b1, o1 + k * 3 + 1, none⟩ = some (.int .i64 xc) := hc1 _ _ (hget 1 (by decide))
        have y2 : wr.cell? ⟨b1, o1 + k * 3 + 2, none⟩ = some (.string xr) := hc1 _ _ (hget 2 (by decide))
        have z0 : ∀ W, Below wr.heap.size wr W → W.cell? ⟨b2, o2 + k, none⟩ = some (.int .i64 bv) := fun W hW => (hW.cell (p := ⟨b2, o2 + k, none⟩) hb2).trans (hc2 k _ (by rw [intV_get bl k hkb, hbv]))
        have hsn : okK rows bl (k + 1) = (inR xc && (comE bv == 0)) := by
          rw [okK_snoc, Hok.out, hxg, hbv]
          simp
        have Hz := Lib.hid z0
        have Hsn := Lib.hid hsn
        obtain ⟨sb, hsb⟩ : ∃ b, inR xc = b := ⟨_, rfl⟩
        have Hsb := Lib.hid hsb
        have hlt' : (k : Int) < (m : Int) := by omega
        have hk0' : (0 : Int) ≤ (k : Int) := by omega
        clear hc1 hc2 hget hx hxg hbv hkl hkb z0 hsn hsb
        go_wp2_with fail
        refine (rsmall35_any xl xc xr sb Hsb wr).mono ?_
        rintro e w1 ⟨rfl, hB1⟩
        have g1 := (hB1.block _ (Array.getElem?_eq_some_iff.1 Hg.out).1).trans Hg.out
        have d3 : w1.cell? ⟨X, 3, none⟩ = some (.slice (some ⟨b2, o2, none⟩) m cb) := by rw [Lib.cell_of_heap g1]; rfl
        have zz := Hz.out w1 hB1
        have H1 := Lib.hid (And.intro (bgo HBr.out.1 hB1) (bgo HBr.out.2 hB1))
        clear y0 y1 y2 hB1 g1 c2 c3 c4
        by_cases hgood : sb = true ∧ 0 ≤ bv ∧ bv < 1073741789
        · obtain ⟨hg1, hg2, hg3⟩ := hgood
          subst hg1
          have Hnx : Hid (okK rows bl (k + 1) = true) := Lib.hid (by rw [Hsn.out, Hsb.out, comE_ok ⟨hg2, hg3⟩]; rfl)
          have p1 : ¬ bv < 0 := by omega
          have p2 : ¬ 1073741789 ≤ bv := by omega
          go_wp2_with fail
          go_roundw
          case rel => exact ⟨k + 1, by omega, by go_num, Hnx.out, H1.out.1⟩
          case measure => simp [intOf]; omega
        · have Hbad : Hid (v = false) := Lib.hid (by
            have h0 : okK rows bl (k + 1) = false := by
              rw [Hsn.out, Hsb.out]
              by_cases hg1 : sb = true
              · rw [comE_no (fun h => hgood ⟨hg1, h⟩), Bool.and_false]
              · rw [Bool.eq_false_iff.2 hg1]; rfl
            rw [Hv.out, okK_no h0 m (by omega), Bool.false_and])
          cases sb with
          | false =>
            clear hgood
            go_wp2_with fail
            go_ret
            exact ⟨by rw [Hbad.out] <;> rfl, H1.out.2⟩
          | true =>
            by_cases hg2 : bv < 0
            · clear hgood
              go_wp2_with fail
              go_ret
              exact ⟨by rw [Hbad.out] <;> rfl, H1.out.2⟩
            · have hg3 : 1073741789 ≤ bv := by
                refine Int.not_lt.1 fun h => hgood ⟨rfl, by omega, h⟩
              clear hgood
              go_wp2_with fail
              go_ret
              exact ⟨by rw [Hbad.out] <;> rfl, H1.out.2⟩
      · obtain rfl : m = k := by omega
        have hbd : ∀ b ∈ bl, 0 ≤ b ∧ b < 1073741789 := fun b hb => by
          obtain ⟨j, hj, rfl⟩ := List.getElem_of_mem hb
          by_cases h : 0 ≤ bl[j] ∧ bl[j] < 1073741789
          · exact h
          · exact absurd (okK_bad Hm.out (List.getElem_mem hj) h) (by rw [Hok.out]; decide)
        have Hbd := Lib.hid hbd
        obtain ⟨d, hd⟩ : ∃ d, rootV (leafK rows bl m) = d := ⟨_, rfl⟩
        have Hd := Lib.hid hd
        clear hbd hd
        go_wp2_with fail
        refine (rleaves_any A B ca cb m m rows bl wr (HA.out.go HBr.out.2) (HB.out.go HBr.out.2) Hn.out Hm.out (Nat.le_refl _) (by omega) (by unfold maxLen; omega) Hs.out Hbd.out).mono ?_
        rintro e w1 ⟨C, cc, rfl, hown, hB1⟩
        have g1 := (hB1.block _ (Array.getElem?_eq_some_iff.1 Hg.out).1).trans Hg.out
        obtain ⟨C', cc', hC', hSC⟩ := own_slice hown
        injection hC' with e1 e2 e3
        subst e1 e3
        have H1 := Lib.hid (And.intro (bgo HBr.out.2 hB1) (And.intro g1 hSC))
        clear hown hSC hB1 g1 e2 c2 c3 c4
        go_wp2_with fail
        refine (rroot_own C cc m (leafK rows bl m) d (leafK_len _ _ _) Hd w1 H1.out.2.2 (leafK_size (by rw [Hn.out]; exact Nat.le_refl _) Hs.out) hn1 hn2).mono ?_
        rintro e w2 ⟨rfl, hB2⟩
        have g2 := (hB2.block _ (Array.getElem?_eq_some_iff.1 H1.out.2.1).1).trans H1.out.2.1
        have d4 : w2.cell? ⟨X, 4, none⟩ = some (.int .u64 root.toNat) := by rw [Lib.cell_of_heap g2]; rfl
        have H2 := Lib.hid (bgo H1.out.1 hB2)
        clear g2 hB2
        have Hv2 : Hid (v = (d == root)) := Lib.hid (by rw [Hv.out, Hok.out, Hd.out, Bool.true_and])
        by_cases hdr : d = root
        · subst hdr
          have e9 : ((d.toNat : Int) == (d.toNat : Int)) = true := by simp
          go_wp2_with fail
          go_ret
          exact ⟨by rw [Hv2.out] <;> simp, H2.out⟩
        · have e9 : ((d.toNat : Int) == (root.toNat : Int)) = false := beq_eq_false_iff_ne.2 fun h => hdr (UInt64.toNat_inj.1 (Int.ofNat_inj.1 h))
          go_wp2_with fail
          go_ret
          exact ⟨by rw [Hv2.out, beq_eq_false_iff_ne.2 hdr] <;> rfl, H2.out⟩
  · have Hbad : Hid (v = false) := Lib.hid (by
      rw [← hv.out]
      unfold validB
      rw [Hnb.out, Hn.out, Hm.out]
      by_cases h1 : nb = true
      · by_cases h2 : 0 ≤ month ∧ month ≤ 1199
        · have h3 : ¬ (1 ≤ n ∧ n ≤ 1024 ∧ m = n) := fun h => hhead ⟨h1, h2.1, h2.2, h.1, h.2.1, h.2.2⟩
          rw [decide_eq_false h3]
          simp
        · rw [decide_eq_false h2]
          simp
      · rw [Bool.eq_false_iff.2 h1]
        simp)
    clear hv
    cases nb with
    | false =>
      clear hhead
      go_wp2_with fail
      go_ret
      exact ⟨by rw [Hbad.out] <;> rfl, HV.out.1⟩
    | true =>
      by_cases q1 : month < 0
      · clear hhead
        go_wp2_with fail
        go_ret
        exact ⟨by rw [Hbad.out] <;> rfl, HV.out.1⟩
      · by_cases q2 : 1199 < month
        · clear hhead
          go_wp2_with fail
          go_ret
          exact ⟨by rw [Hbad.out] <;> rfl, HV.out.1⟩
        · by_cases q3 : (n : Int) < 1
          · clear hhead
            go_wp2_with fail
            go_ret
            exact ⟨by rw [Hbad.out] <;> rfl, HV.out.1⟩
          · by_cases q4 : (1024 : Int) < (n : Int)
            · clear hhead
              go_wp2_with fail
              go_ret
              exact ⟨by rw [Hbad.out] <;> rfl, HV.out.1⟩
            · have q5 : ((m : Int) != (n : Int)) = true := by
                refine bne_iff_ne.2 fun h => hhead ⟨rfl, by omega, by omega, by omega, by omega, by omega⟩
              clear hhead
              go_wp2_with fail
              go_ret
              exact ⟨by rw [Hbad.out] <;> rfl, HV.out.1⟩
end Go.Proofs.YtfjkmhbipkoefaaGreatDoor
namespace Go.Proofs.YtfjkmhbipkoefaaGreatDoor
open Go.RowKit Go.Shelf
set_option linter.unusedVariables false
set_option linter.unusedSimpArgs false
def digM (k : Nat) : UInt8 := UInt8.ofNat (48 + k % 10)
theorem digM_nat (k : Nat) : (digM k).toNat = 48 + k % 10 := by unfold digM; rw [UInt8.toNat_ofNat']; omega
def upM (k : Nat) : List UInt8 := if k = 0 then [] else Lib.decDigits k
theorem decM_step (n : Nat) : Lib.decDigits n = upM (n / 10) ++ [digM n] := by
  rw [Lib.decDigits]
  by_cases h : n < 10
  · rw [dif_pos h, show n / 10 = 0 by omega]
    unfold upM digM
    rw [if_pos rfl, show n % 10 = n by omega]
    rfl
  · rw [dif_neg h]
    unfold upM digM
    rw [if_neg (by omega)]
/-- What has been written, what is left. -/
structure NumM (n k : Nat) (s : ByteArray) : Prop where
  kn : k ≤ n
  ok : (s.data.toList = [] ∧ k = n) ∨ (s.data.toList ≠ [] ∧ upM k ++ s.data.toList = Lib.decDigits n ∧ s.size + k ≤ n + 1)
theorem upM_step (k : Nat) (h : 0 < k) : upM k = upM (k / 10) ++ [digM k] := by
  have := decM_step k
  unfold upM at this ⊢
  rw [if_neg (by omega)]
  exact this
theorem NumM.step {n k : Nat} {s : ByteArray} (h : NumM n k s) (hc : 0 < k ∨ s.data.toList = []) : NumM n (k / 10) (⟨[digM k].toArray⟩ ++ s) := by
  have hd : ((⟨[digM k].toArray⟩ : ByteArray) ++ s).data.toList = digM k :: s.data.toList := by simp [ByteArray.data_append]
  have hz : ((⟨[digM k].toArray⟩ : ByteArray) ++ s).size = 1 + s.size := by rw [app_size]; rfl
  have hk := h.kn
  refine ⟨by omega, .inr ⟨by rw [hd]; simp, ?_, ?_⟩⟩
  · rw [hd]
    rcases h.ok with ⟨h1, h2⟩ | ⟨h1, h2, h3⟩
    · rw [h1, h2, decM_step n]
    · rcases hc with h0 | h0
      · rw [← h2, upM_step k h0]; simp
      · exact absurd h0 h1
  · rw [hz]
    rcases h.ok with ⟨h1, h2⟩ | ⟨h1, h2, h3⟩
    · have : s.size = 0 := by
        have e : s.data.toList.length = s.size := Array.length_toList
        rw [h1] at e; simpa using e.symm
      omega
    · rcases hc with h0 | h0
      · omega
      · exact absurd h0 h1
theorem NumM.fin {n : Nat} {s : ByteArray} (h : NumM n 0 s) (hs : s.data.toList ≠ []) : s = itoaB (n : Int) := by
  rcases h.ok with ⟨h1, _⟩ | ⟨_, h2, _⟩
  · exact absurd h1 hs
  · unfold upM at h2
    rw [if_pos rfl, List.nil_append] at h2
    unfold itoaB Lib.itoa
    rw [if_neg (by omega), Int.toNat_natCast, ← h2]
theorem NumM.size {n k : Nat} {s : ByteArray} (h : NumM n k s) (hn : n ≤ 9223372036854775807) : s.size ≤ 21 := by
  have e : s.data.toList.length = s.size := Array.length_toList
  rcases h.ok with ⟨h1, _⟩ | ⟨_, h2, _⟩
  · rw [h1] at e
    have : s.size = 0 := by simpa using e.symm
    omega
  · have h3 := itoaB_size (n : Int) (by omega) (by omega)
    have h4 : (itoaB (n : Int)).size = (Lib.decDigits n).length := by
      unfold itoaB Lib.itoa
      rw [if_neg (by omega), Int.toNat_natCast]
      show (Lib.decDigits n).toArray.size = _
      simp
    rw [h4, ← h2, List.length_append, e] at h3
    omega
theorem numM_neg (k : Nat) (h0 : 0 < k) : itoaB (-(k : Int)) = ⟨#[45]⟩ ++ itoaB (k : Int) := by
  unfold itoaB Lib.itoa
  rw [if_pos (by omega), if_neg (by omega), Int.natAbs_neg, Int.natAbs_natCast, Int.toNat_natCast]
  apply ByteArray.ext
  simp [ByteArray.data_append]
theorem numM_big (k : Nat) (h : 10 ≤ k) : itoaB (k : Int) = itoaB ((k / 10 : Nat) : Int) ++ itoaB ((k % 10 : Nat) : Int) := by
  have h1 : Lib.decDigits k = Lib.decDigits (k / 10) ++ Lib.decDigits (k % 10) := by
    rw [decM_step k]
    have e1 : upM (k / 10) = Lib.decDigits (k / 10) := by unfold upM; rw [if_neg (by omega)]
    have e2 : Lib.decDigits (k % 10) = [digM k] := by
      rw [Lib.decDigits, dif_pos (by omega)]
      first | rfl | (unfold digM; rw [Nat.mod_mod])
    rw [e1, e2]
  unfold itoaB Lib.itoa
  rw [if_neg (by omega), if_neg (by omega), if_neg (by omega), Int.toNat_natCast, Int.toNat_natCast, Int.toNat_natCast, h1]
  apply ByteArray.ext
  simp [ByteArray.data_append]
set_option maxHeartbeats 2000000 in
set_option maxRecDepth 100000 in
theorem rdig36_pos (n : Nat) (hn : n ≤ 9223372036854775807) (w : World) : Calls Tryz.prog 38 #[.int .i64 (n : Int)] w fun r w' => r = .returned (.string (itoaB (n : Int))) ∧ Below w.heap.size w w' := by
  go_enter Tryz.func38, Tryz.ntmps38
  go_wp2
  go_loopw [3, 4] (fun s k wr => ∃ (q : Nat) (t : ByteArray), k = .int .i64 (q : Int) ∧ s = .string t ∧ NumM n q t ∧ Below w.heap.size w wr) (fun s k _ => 2 * (intOf k).toNat + (match s with | .string t => if t.data.toList = [] then 1 else 0 | _ => 0))
  case atStart => exact ⟨n, ⟨#[]⟩, rfl, rfl, ⟨Nat.le_refl _, .inl ⟨rfl, rfl⟩⟩, Below.refl _ _⟩
  case round =>
    obtain ⟨q, t, rfl, rfl, hR, hB⟩ := hrel
    have hqn := hR.kn
    have hts : t.size ≤ 21 := hR.size hn
    by_cases hc : 0 < q ∨ t.data.toList = []
    · have HR := Lib.hid (hR.step hc)
      have HC := Lib.hid hc
      obtain ⟨c, hcd⟩ : ∃ c, digM q = c := ⟨_, rfl⟩
      have hcn : (c.toNat : Int) = 48 + (q : Int) % 10 := by rw [← hcd, digM_nat]; omega
      have hu8 : IntKind.u8.wrap (48 + (q : Int) % 10) = (c.toNat : Int) := by rw [hcn, IntKind.wrap_u8']; omega
      rw [hcd] at HR
      have kb := byte_back (wr.alloc (.cells #[.int .u8 c.toNat] 5)) wr.heap.size c (by simp [go_sem])
      have hn1 : ¬ (9223372036854775807 < 1 + t.size) := by omega
      clear hR hcd hcn
      by_cases h0 : 0 < q
      · have hd : decide ((0 : Int) < (q : Int)) = true := by simp; omega
        clear hc
        go_wp2
        go_roundw
        case rel => exact ⟨q / 10, _, by go_num, rfl, HR.out, bal hB _⟩
        case measure =>
          simp [intOf]
          split <;> omega
      · have hte : t.data.toList = [] := by rcases hc with h | h; exact absurd h h0; exact h
        have hq0 : q = 0 := by omega
        subst hq0
        have hd : decide ((0 : Int) < ((0 : Nat) : Int)) = false := by simp
        obtain rfl : t = ⟨#[]⟩ := by obtain ⟨a⟩ := t; have : a = #[] := Array.toList_inj.1 hte; rw [this]
        have hc48 : c = 48 := by
          apply UInt8.toNat_inj.1
          have h48 : IntKind.u8.wrap (48 + ((0 : Nat) : Int) % 10) = 48 := by rw [IntKind.wrap_u8']; rfl
          rw [h48] at hu8
          show c.toNat = 48
          omega
        subst hc48
        have kb0 : (convert 73 9 (.slice (some ⟨wr.heap.size, 0, none⟩) 1 1)).run Tryz.prog (wr.alloc (.cells #[.int .u8 48] 5)) = .ok (.string ⟨[48].toArray⟩) (wr.alloc (.cells #[.int .u8 48] 5)) := kb
        clear hc hte kb hu8
        go_wp2
        go_roundw
        case rel => exact ⟨0, _, by go_num, rfl, HR.out, bal hB _⟩
        case measure => simp [intOf]
    · have hq0 : q = 0 := by omega
      have hte : t.data.toList ≠ [] := fun h => hc (.inr h)
      subst hq0
      have hfin := hR.fin hte
      have hd : decide ((0 : Int) < ((0 : Nat) : Int)) = false := by simp
      have hem2 : t.toList.isEmpty = false := by
        rw [ByteArray.toList_eq]
        cases hl : t.data.toList with
        | nil => exact absurd hl hte
        | cons a l => rfl
      have HF := Lib.hid hfin
      clear hR hfin hc hte
      go_wp2
      go_ret
      exact ⟨by rw [← HF.out]; rfl, hB⟩
set_option maxHeartbeats 4000000 in
set_option maxRecDepth 100000 in
theorem rdig36_any (n : Int) (h1 : -9223372036854775808 ≤ n) (h2 : n ≤ 9223372036854775807) (v : ByteArray) (hv : Hid (itoaB n = v)) (w : World) : Calls Tryz.prog 38 #[.int .i64 n] w fun r w' => r = .returned (.string v) ∧ Below w.heap.size w w' := by
  rw [← hv.out]
  clear hv
  by_cases h : 0 ≤ n
  · obtain ⟨k, rfl⟩ := Int.eq_ofNat_of_zero_le h
    exact rdig36_pos k (by omega) w
  · obtain ⟨k, rfl⟩ : ∃ k : Nat, n = -(k : Int) := ⟨(-n).toNat, by omega⟩
    have hk0 : 0 < k := by omega
    by_cases h9 : -(k : Int) < -9
    · obtain ⟨r, hr⟩ : ∃ r : Nat, k % 10 = r := ⟨_, rfl⟩
      obtain ⟨q, hq⟩ : ∃ q : Nat, k / 10 = q := ⟨_, rfl⟩
      have e1' : (k : Int).tmod 10 = (r : Int) := by rw [Int.tmod_eq_emod_of_nonneg (by omega)]; omega
      have e2' : (k : Int).tdiv 10 = (q : Int) := by rw [Int.tdiv_eq_ediv_of_nonneg (by omega)]; omega
      have e1 : (-(k : Int)).tmod 10 = -(r : Int) := by rw [Int.neg_tmod, e1']
      have e2 : (-(k : Int)).tdiv 10 = -(q : Int) := by rw [Int.neg_tdiv, e2']
      have hqb : q ≤ 922337203685477580 := by omega
      have hrb : r ≤ 9 := by omega
      have hw1 : IntKind.i64.wrap (q : Int) = (q : Int) := IntWalk.i64_in _ (by omega)
      have hw2 : IntKind.i64.wrap (r : Int) = (r : Int) := IntWalk.i64_in _ (by omega)
      have sq := itoaB_size (q : Int) (by omega) (by omega)
      have sr := itoaB_size (r : Int) (by omega) (by omega)
      obtain ⟨tq, htq⟩ : ∃ t, itoaB (q : Int) = t := ⟨_, rfl⟩
      obtain ⟨tr, htr⟩ : ∃ t, itoaB (r : Int) = t := ⟨_, rfl⟩
      have hres : itoaB (-(k : Int)) = ⟨#[45]⟩ ++ tq ++ tr := by
        rw [numM_neg k hk0, numM_big k (by omega), hq, hr, htq, htr, ByteArray.append_assoc]
      have Hres := Lib.hid hres
      rw [htq] at sq
      rw [htr] at sr
      have Hq : Hid (∀ w : World, Calls Tryz.prog 38 #[.int .i64 (q : Int)] w fun r w' => r = .returned (.string tq) ∧ Below w.heap.size w w') := Lib.hid fun w => by rw [← htq]; exact rdig36_pos q (by omega) w
      have Hr : Hid (∀ w : World, Calls Tryz.prog 38 #[.int .i64 (r : Int)] w fun r w' => r = .returned (.string tr) ∧ Below w.heap.size w w') := Lib.hid fun w => by rw [← htr]; exact rdig36_pos r (by omega) w
      have h45 : (⟨#[45]⟩ : ByteArray).size = 1 := rfl
      clear hres htq htr hq hr e1' e2' h
      go_enter Tryz.func38, Tryz.ntmps38
      go_wp2_with fail
      refine (Hq.out w).mono ?_
      rintro e w1 ⟨rfl, hB1⟩
      go_wp2_with fail
      refine (Hr.out w1).mono ?_
      rintro e w2 ⟨rfl, hB2⟩
      go_wp2_with fail
      go_ret
      exact ⟨by (rw [Hres.out]; try rfl), bgo hB1 hB2⟩
    · have hneg := numM_neg k hk0
      have hlt : -(k : Int) < 0 := by omega
      have hw1 : IntKind.i64.wrap (k : Int) = (k : Int) := IntWalk.i64_in _ (by omega)
      have hlen := itoaB_size (k : Int) (by omega) (by omega)
      obtain ⟨t, ht⟩ : ∃ t, itoaB (k : Int) = t := ⟨_, rfl⟩
      rw [ht] at hneg hlen
      have Hn := Lib.hid hneg
      have Hk : Hid (∀ w : World, Calls Tryz.prog 38 #[.int .i64 (k : Int)] w fun r w' => r = .returned (.string t) ∧ Below w.heap.size w w') := Lib.hid fun w => by rw [← ht]; exact rdig36_pos k (by omega) w
      have h45 : (⟨#[45]⟩ : ByteArray).size = 1 := rfl
      clear hneg ht h
      go_enter Tryz.func38, Tryz.ntmps38
      go_wp2_with fail
      refine (Hk.out w).mono ?_
      rintro e w1 ⟨rfl, hB1⟩
      go_wp2_with fail
      go_ret
      exact ⟨by (rw [Hn.out]; try rfl), hB1⟩
end Go.Proofs.YtfjkmhbipkoefaaGreatDoor
