/- The walks of the reference of onetime: fits, leaves, Key, Leaf, Verify. The walks of the reference of onetime: Key, Leaf, Verify. -/
import Derived.Test.YtmebllhkfepkdaaGreatDoorQ23
import Derived.Test.YtmebllhkfepkdaaGreatDoorQ24
import Derived.Deep.RegionHeld
namespace Go.Proofs.YtmebllhkfepkdaaGreatDoor
open Go.RowKit Go.Shelf
set_option linter.unusedVariables false
set_option linter.unusedSimpArgs false
set_option maxRecDepth 100000
theorem fits_any (seed : ByteArray) (h : Int) (w : World) (hs : seed.size ≤ maxLen) : Calls Tryz.prog 35 #[.string seed, .int .i64 h] w fun e w' => e = .returned (.bool (okB seed h)) ∧ w = w' := by
  unfold maxLen at hs
  by_cases h1 : seed.size ≤ 64
  · have h1' : (seed.size : Int) ≤ 64 := by omega
    by_cases h2 : 0 ≤ h
    · by_cases h3 : h ≤ 8
      · have e : okB seed h = true := decide_eq_true ⟨h1, h2, h3⟩
        rw [e]
        clear e
        go_enter Tryz.func35, Tryz.ntmps35
        go_wp2
        go_ret
        exact ⟨rfl, rfl⟩
      · have e : okB seed h = false := decide_eq_false (fun k => h3 k.2.2)
        rw [e]
        clear e
        go_enter Tryz.func35, Tryz.ntmps35
        go_wp2
        go_ret
        exact ⟨rfl, rfl⟩
    · have e : okB seed h = false := decide_eq_false (fun k => h2 k.2.1)
      rw [e]
      clear e
      go_enter Tryz.func35, Tryz.ntmps35
      go_wp2
      go_ret
      exact ⟨rfl, rfl⟩
  · have e : okB seed h = false := decide_eq_false (fun k => h1 k.1)
    rw [e]
    clear e
    have h1' : ¬ ((seed.size : Int) ≤ 64) := by omega
    go_enter Tryz.func35, Tryz.ntmps35
    go_wp2
    go_ret
    exact ⟨rfl, rfl⟩
def leafOB (seed : ByteArray) (i : Int) (k : Nat) : ByteArray := bytesOf (On.leafTo seed.data.toList i k)
theorem leafOB_size (seed : ByteArray) (i : Int) (k : Nat) : (leafOB seed i k).size = 16 * k := by rw [leafOB, bytesOf_size, On.leafTo_len]
theorem leafOB_snoc (seed : ByteArray) (i : Int) (k : Nat) (y : UInt64) (h : On.steps 15 (On.secret seed.data.toList i (k : Nat)) = y) : leafOB seed i k ++ textB y = leafOB seed i (k + 1) := by
  apply WideShapes.bytes_inj
  rw [app_data]
  show On.leafTo seed.data.toList i k ++ Dig.text y = On.leafTo seed.data.toList i k ++ Dig.text _
  rw [h]
set_option maxHeartbeats 4000000 in
theorem rleaves_any (seed : ByteArray) (h n : Nat) (hh : h ≤ 8) (hn : 2 ^ h = n) (hs : seed.size ≤ 100) (w : World) (hT : OTabs w) :
    Calls Tryz.prog 37 #[.string seed, .int .i64 (h : Int)] w fun e w' => ∃ v, e = .returned v ∧ w'.ownsRow w.heap.size 9 1 v n (strV (leavesB seed n)) ∧ Below w.heap.size w w' := by
  obtain ⟨i0, hi0, hz0, hz1, hz2⟩ := info_parts info_string
  have hn256 : n ≤ 256 := by
    rw [← hn]
    exact Nat.pow_le_pow_right (by omega) hh
  have eN : (2 : Int) ^ h = (n : Int) := by rw [← hn, Int.natCast_pow]; rfl
  have hw : wrap64 (2 ^ h) = (n : Int) := by rw [eN, IntWalk.wrap64_in _ (by omega)]
  have hw' : IntKind.i64.wrap (2 ^ h) = (n : Int) := by rw [eN, IntWalk.i64_in _ (by omega)]
  have Hn := Lib.hid hn
  clear hn eN
  go_enter Tryz.func37, Tryz.ntmps37
  go_wp2
  go_loopw [5, 6] (fun v i wr => ∃ k : Nat, k ≤ n ∧ i = .int .i64 k ∧ wr.ownsRow w.heap.size 9 1 v k (strV (leavesB seed k)) ∧ Below w.heap.size w wr) (fun _ i _ => n - (intOf i).toNat)
  case atStart => exact ⟨0, Nat.zero_le _, rfl, ⟨rfl, .inl ⟨rfl, rfl⟩⟩, Below.refl _ _⟩
  case round =>
    obtain ⟨W0, hW0⟩ : ∃ W0, W0 = wr := ⟨_, rfl⟩
    subst hW0
    obtain ⟨k, hk, rfl, hown, hB⟩ := hrel
    have Hown := Lib.hid hown
    have hT1 := hT.go hB
    clear hown
    by_cases hlt : k < n
    · have hlt' : (k : Int) < (n : Int) := by omega
      have hd1 : decide ((k : Int) < (n : Int)) = true := decide_eq_true hlt'
      go_wp2
      go_loopw [7, 8] (fun s i wx => ∃ j : Nat, j ≤ 18 ∧ i = .int .i64 j ∧ s = .string (leafOB seed (k : Int) j) ∧ Below W0.heap.size W0 wx) (fun _ i _ => 18 - (intOf i).toNat)
      case atStart => exact ⟨0, by omega, rfl, rfl, Below.refl _ _⟩
      case round =>
        obtain ⟨j, hj, rfl, rfl, hBx⟩ := hrel
        have hT2 := hT1.go hBx
        obtain ⟨s, hs'⟩ : ∃ s, leafOB seed (k : Int) j = s := ⟨_, rfl⟩
        have hss : s.size = 16 * j := by rw [← hs', leafOB_size]
        rw [hs']
        have Hs := Lib.hid hs'
        clear hs'
        by_cases hj18 : j < 18
        · have hj' : (j : Int) < 18 := by omega
          obtain ⟨x, hx⟩ : ∃ x, On.secret seed.data.toList (k : Int) (j : Int) = x := ⟨_, rfl⟩
          obtain ⟨y, hy⟩ : ∃ y, On.steps 15 x = y := ⟨_, rfl⟩
          have hap := leafOB_snoc seed (k : Int) j y (by rw [hx]; exact hy)
          have hzz : ¬ (9223372036854775807 < s.size + (textB y).size) := by rw [textB_size, hss]; omega
          have hz1' : (textB y).size = 16 := rfl
          have Hx := Lib.hid hx
          have Hy := Lib.hid hy
          have Hap := Lib.hid hap
          clear hx hy hap hw hw'
          go_wp2_with fail
          refine (rsecret_any seed (k : Int) (j : Int) x Hx _ hT2.2 hs (by omega) (by omega)).mono ?_
          rintro e w1 ⟨rfl, hB1⟩
          go_wp2_with fail
          refine (rsteps_any x 15 y Hy (by omega) _).mono ?_
          rintro e w' ⟨rfl, rfl⟩
          go_wp2_with fail
          refine (rtext_b y _).mono ?_
          rintro e w' ⟨rfl, rfl⟩
          have hB5 := bgo hBx hB1
          go_wp2
          go_roundw
          case rel => exact ⟨j + 1, by omega, by go_num, by rw [← Hap.out, Hs.out], hB5⟩
          case measure => simp [intOf]; omega
        · obtain rfl : j = 18 := by omega
          have Hown2 := Lib.hid (own_below Hown.out hBx)
          have hB3 : Below w.heap.size w wr := bgo hB hBx
          clear hw hw'
          go_wp2_with (at_builtin; refine app_one rfl _ _ 76 rfl 9 i0 _ 1 16 Tryz.underlying76 hi0 hz0 hz1 hz2 rfl (by decide) _ _ _ rfl Hown2.out hB3 [.string s] _ _ rfl rfl ?c1 ?c2 ?c3 ?_)
          case c1 => simp [Value.oneCell']
          case c2 => simp [maxLen]; omega
          case c3 => omega
          intro v' w2 hown2 hB4 _
          have HR := Lib.hid hown2
          clear hown2
          go_wp2
          go_roundw
          case rel =>
            refine ⟨k + 1, by omega, by go_num, ?_, hB4⟩
            rw [leavesB_snoc, show bytesOf (On.leaf seed.data.toList (k : Nat)) = s from Hs.out]
            exact HR.out
          case measure => simp [intOf]; omega
    · obtain rfl : n = k := by omega
      go_wp2
      go_ret
      exact ⟨_, rfl, Hown.out, hB⟩
end Go.Proofs.YtmebllhkfepkdaaGreatDoor
namespace Go.Proofs.YtmebllhkfepkdaaGreatDoor
open Go.RowKit Go.Shelf
set_option linter.unusedVariables false
set_option linter.unusedSimpArgs false
set_option maxRecDepth 100000
structure BoxAt25 (W : World) (b : Nat) (i : Int) (A : Option Addr) (n ca : Nat) (B : Option Addr) (m cb : Nat) : Prop where
  lt : b < W.heap.size
  c0 : W.cell? ⟨b, 0, none⟩ = some (.int .i64 i)
  c1 : W.cell? ⟨b, 1, none⟩ = some (.slice A n ca)
  c2 : W.cell? ⟨b, 2, none⟩ = some (.slice B m cb)
theorem boxAt25_of {W : World} {b : Nat} {i : Int} {A : Option Addr} {n ca : Nat} {B : Option Addr} {m cb : Nat} {t : TypeId} {fr : Nat × Nat} (hb : W.heap[b]? = some (.cells #[.int .i64 i, .slice A n ca, .slice B m cb] t fr)) : BoxAt25 W b i A n ca B m cb :=
  ⟨(Array.getElem?_eq_some_iff.1 hb).1, by rw [Lib.cell_of_heap hb]; rfl, by rw [Lib.cell_of_heap hb]; rfl, by rw [Lib.cell_of_heap hb]; rfl⟩
theorem rroot_at (A : Option Addr) (c n : Nat) (ss : List ByteArray) (d : UInt64) (e : Int) (w : World) (hn : ss.length = n) (hd : rootV ss = d) (he : checkE n = e) (hA : Sl w w.heap.size 1 A n (strV ss)) (hs : ∀ s ∈ ss, s.size ≤ 140737488355328) (hl : n ≤ 1100) :
    Calls Tryz.prog 36 #[.slice A n c] w fun r w' => r = .returned (.tuple #[.int .u64 d.toNat, .int .i64 e]) ∧ Below w.heap.size w w' := by
  subst hn hd he
  exact rroot_any A c ss w hA hs (by unfold maxLen; omega)
theorem rkey_any (seed : ByteArray) (h : Int) (d : UInt64) (e : Int) (hd : Hid (keyD seed h = d)) (he : Hid (keyE seed h = e)) (w : World) (hs : seed.size ≤ maxLen) (hT : OTabs w) :
    Calls Tryz.prog 18 #[.string seed, .int .i64 h] w fun r w' => r = .returned (.tuple #[.int .u64 d.toNat, .int .i64 e]) ∧ Below w.heap.size w w' := by
  rw [← hd.out, ← he.out]
  clear hd he
  by_cases hok : okB seed h = true
  · obtain ⟨h1, h2, h3⟩ := okB_out hok
    obtain ⟨m, rfl⟩ := Int.eq_ofNat_of_zero_le h2
    obtain ⟨n, hn⟩ : ∃ n, 2 ^ m = n := ⟨_, rfl⟩
    have e1 : keyD seed (m : Int) = rootV (leavesB seed n) := by unfold keyD; rw [if_pos hok, Int.toNat_natCast, hn]
    have e2 : keyE seed (m : Int) = 0 := by unfold keyE; rw [if_pos hok]
    have hn1 : 1 ≤ n := by rw [← hn]; exact Nat.one_le_two_pow
    have hn2 : n ≤ 256 := by have := pow_le (m : Int) h3; rw [Int.toNat_natCast, hn] at this; exact this
    obtain ⟨x, hx⟩ : ∃ x, rootV (leavesB seed n) = x := ⟨_, rfl⟩
    rw [e1, e2, hx]
    have hc : checkE n = 0 := checkE_ok n hn1 (by omega)
    have Hn := Lib.hid hn
    have Hx := Lib.hid hx
    have Hc := Lib.hid hc
    have Hok := Lib.hid hok
    clear hn hx e1 e2 hc hok
    go_enter Tryz.func18, Tryz.ntmps18
    go_wp2_with fail
    refine (fits_any seed (m : Int) _ hs).mono ?_
    rintro e w' ⟨rfl, rfl⟩
    rw [Hok.out]
    go_wp2_with fail
    refine (rleaves_any seed m n (by omega) Hn.out (by omega) _ hT).mono ?_
    rintro e w1 ⟨v, rfl, hown, hB1⟩
    obtain ⟨A, cap, rfl, hSl⟩ := own_slice hown
    have HS := Lib.hid hSl
    clear hown hSl
    go_wp2_with fail
    refine (rroot_at A cap n (leavesB seed n) x 0 _ (leavesB_len _ _) Hx.out Hc.out HS.out (leavesB_size _ _) (by omega)).mono ?_
    rintro e w2 ⟨rfl, hB2⟩
    go_wp2_with fail
    go_ret2
    exact ⟨rfl, bgo hB1 hB2⟩
  · have hok : okB seed h = false := by simpa using hok
    have e1 : keyD seed h = 0 := by unfold keyD; rw [hok]; rfl
    have e2 : keyE seed h = 1 := by unfold keyE; rw [hok]; rfl
    rw [e1, e2]
    have Hok := Lib.hid hok
    clear e1 e2 hok
    go_enter Tryz.func18, Tryz.ntmps18
    go_wp2_with fail
    refine (fits_any seed h _ hs).mono ?_
    rintro e w' ⟨rfl, rfl⟩
    rw [Hok.out]
    go_wp2_with fail
    go_ret2
    exact ⟨rfl, Below.refl _ _⟩
set_option maxHeartbeats 4000000 in
theorem rleaf25_any (text : ByteArray) (d : UInt64) (hd : Hid (Dig.sum text.data.toList = d)) (ht : text.size ≤ maxLen) (i : Int) (A B : Option Addr) (ca cb m : Nat) (c : List UInt64) (hc : c.length = 18) (r : ByteArray) (hr : Hid (climbB c d 18 = r)) (w : World) (hA : Sl w w.heap.size 1 A 18 (u64V c)) :
    Calls Tryz.prog 71 #[.string text, .agg #[.int .i64 i, .slice A 18 ca, .slice B m cb]] w fun e w' => e = .returned (.string r) ∧ Below w.heap.size w w' := by
  rw [← hr.out]
  clear hr
  obtain ⟨b0, off, rfl, hb0, hcell⟩ := hA.2 (by omega)
  have Hcell := Lib.hid hcell
  clear hA hcell
  go_enter Tryz.func71, Tryz.ntmps71
  go_wp2_with fail
  refine (rdigits_any text d hd _ ht).mono ?_
  rintro e W0 ⟨v, rfl, hown, hB0⟩
  obtain ⟨X, cX, rfl, hX⟩ := own_slice hown
  obtain ⟨bX, oX, rfl, hbX, hcX⟩ := hX.2 (by decide)
  have hBw := bgo (bal (Below.refl w.heap.size w) _) hB0
  have k1 : W0.cell? ⟨w.heap.size, 1, none⟩ = some (.slice (some ⟨b0, off, none⟩) 18 ca) := (hB0.cell (p := ⟨w.heap.size, 1, none⟩) (by simp)).trans (by simp [go_sem])
  have hsz : w.heap.size < W0.heap.size := by have := hB0.size; simp at this; omega
  have K := Lib.hid (And.intro k1 hcX)
  clear k1 hcX hX hown hB0
  go_wp2
  go_loopw [5, 7] (fun s q wr => ∃ k : Nat, k ≤ 18 ∧ q = .int .i64 k ∧ s = .string (climbB c d k) ∧ Below W0.heap.size W0 wr) (fun _ q _ => 18 - (intOf q).toNat)
  case atStart => exact ⟨0, by omega, rfl, rfl, Below.refl _ _⟩
  case round =>
    obtain ⟨k, hk, rfl, rfl, hB⟩ := hrel
    obtain ⟨s, hs⟩ : ∃ s, climbB c d k = s := ⟨_, rfl⟩
    have hss : s.size = 16 * k := by rw [← hs, climbB_size]
    rw [hs]
    have Hs := Lib.hid hs
    clear hs
    by_cases hk18 : k < 18
    · have hk' : (k : Int) < 18 := by omega
      obtain ⟨x, hx⟩ : ∃ x, c.getD k 0 = x := ⟨_, rfl⟩
      have hdl := On.dg_le d k
      obtain ⟨m1, hm1⟩ : ∃ m, On.dg d k = m := ⟨_, rfl⟩
      obtain ⟨N, hN⟩ : ∃ N, 15 - m1 = N := ⟨_, rfl⟩
      obtain ⟨y, hy⟩ : ∃ y, On.steps N x = y := ⟨_, rfl⟩
      obtain ⟨wb, hwb⟩ : ∃ q, q = w.heap.size := ⟨_, rfl⟩
      have c1 : wr.cell? ⟨w.heap.size, 1, none⟩ = some (.slice (some ⟨b0, off, none⟩) 18 ca) := (hB.cell (p := ⟨w.heap.size, 1, none⟩) hsz).trans K.out.1
      have c2 : wr.cell? ⟨b0, off + k, none⟩ = some (.int .u64 x.toNat) := ((bgo hBw hB).cell (p := ⟨b0, off + k, none⟩) hb0).trans (Hcell.out k _ (by rw [u64V_get c k (by omega), hx]))
      have c3 : wr.cell? ⟨bX, oX + k, none⟩ = some (.int .i64 (m1 : Int)) := (hB.cell (p := ⟨bX, oX + k, none⟩) hbX).trans (K.out.2 k _ (by rw [digR_get d k hk18, hm1]))
      rw [hm1] at hdl
      have hap := climbB_snoc c d k y (by rw [hx, hm1, hN]; exact hy)
      have e15 : (15 : Int) - (m1 : Int) = (N : Int) := by omega
      have hN15 : N ≤ 15 := by omega
      have hN63 : N < 9223372036854775807 := by omega
      have hNw : IntKind.i64.wrap (N : Int) = (N : Int) := IntWalk.i64_in _ (by omega)
      have hNv : wrap64 (N : Int) = (N : Int) := IntWalk.wrap64_in _ (by omega)
      have Hy := Lib.hid hy
      have Hap := Lib.hid hap
      have hzz : ¬ (9223372036854775807 < s.size + (textB y).size) := by rw [textB_size, hss]; omega
      have hz1 : (textB y).size = 16 := rfl
      have hz2 : ¬ (9223372036854775807 < 16 * k + 16) := by omega
      clear hx hm1 hN hy hap
      go_wp2_with fail
      refine wp_region_noPanic ?_
      refine wp_region_held_drew (S := fun w' => w'.cell? ⟨w.heap.size, 1, none⟩ = some (.slice (some ⟨b0, off, none⟩) 18 ca) ∧ w'.cell? ⟨b0, off + k, none⟩ = some (.int .u64 x.toNat) ∧ w'.cell? ⟨bX, oX + k, none⟩ = some (.int .i64 (m1 : Int))) (by kernel_rfl) ⟨c1, c2, c3⟩ (fun hHeld => ?_)
      refine wpAnyH_take (i := 0) (v := ?_) rfl (by kernel_rfl) (by kernel_rfl) (by kernel_rfl) (fun _ _ _ h => h) (Or.inl ⟨by kernel_rfl, ?_⟩) (by assumption) ?_
      rotate_left
      · intro w hSw
        (try dsimp only at hSw)
        go_simp
        first | done | with_reducible rfl
      simp only [List.getElem_toArray, List.getElem_cons_zero, List.getElem_cons_succ, Act.put, List.setIfInBounds_toArray, List.set_cons_zero, List.set_cons_succ]
      refine wpAnyH_take (i := 1) (v := ?_) rfl (by kernel_rfl) (by kernel_rfl) (by kernel_rfl) (fun _ _ _ h => h) (Or.inl ⟨by kernel_rfl, ?_⟩) (by assumption) ?_
      rotate_left
      · intro w hSw
        (try dsimp only at hSw)
        go_simp
        first | done | with_reducible rfl
      simp only [List.getElem_toArray, List.getElem_cons_zero, List.getElem_cons_succ, Act.put, List.setIfInBounds_toArray, List.set_cons_zero, List.set_cons_succ]
      refine wpAnyH_take (i := 2) (v := ?_) rfl (by kernel_rfl) (by kernel_rfl) (by kernel_rfl) (fun _ _ _ h => h) (Or.inl ⟨by kernel_rfl, ?_⟩) (by assumption) ?_
      rotate_left
      · intro w hSw
        (try dsimp only at hSw)
        go_simp
        first | done | with_reducible rfl
      simp only [List.getElem_toArray, List.getElem_cons_zero, List.getElem_cons_succ, Act.put, List.setIfInBounds_toArray, List.set_cons_zero, List.set_cons_succ]
      refine wpAnyH_take (i := 3) (v := ?_) rfl (by kernel_rfl) (by kernel_rfl) (by kernel_rfl) (fun _ _ _ h => h) (Or.inl ⟨by kernel_rfl, ?_⟩) (by assumption) ?_
      rotate_left
      · intro w hSw
        (try dsimp only at hSw)
        go_simp
        first | done | with_reducible rfl
      simp only [List.getElem_toArray, List.getElem_cons_zero, List.getElem_cons_succ, Act.put, List.setIfInBounds_toArray, List.set_cons_zero, List.set_cons_succ]
      refine wpAnyH_take (i := 4) (v := ?_) rfl (by kernel_rfl) (by kernel_rfl) (by kernel_rfl) (fun _ _ _ h => h) (Or.inl ⟨by kernel_rfl, ?_⟩) (by assumption) ?_
      rotate_left
      · intro w hSw
        (try dsimp only at hSw)
        go_simp
        first | done | with_reducible rfl
      simp only [List.getElem_toArray, List.getElem_cons_zero, List.getElem_cons_succ, Act.put, List.setIfInBounds_toArray, List.set_cons_zero, List.set_cons_succ]
      refine wpAnyH_take (i := 5) (v := ?_) rfl (by kernel_rfl) (by kernel_rfl) (by kernel_rfl) (fun _ _ _ h => h) (Or.inl ⟨by kernel_rfl, ?_⟩) (by assumption) ?_
      rotate_left
      · intro w hSw
        (try dsimp only at hSw)
        go_simp
        first | done | with_reducible rfl
      simp only [List.getElem_toArray, List.getElem_cons_zero, List.getElem_cons_succ, Act.put, List.setIfInBounds_toArray, List.set_cons_zero, List.set_cons_succ]
      refine wpAnyH_take (i := 6) (v := ?_) rfl (by kernel_rfl) (by kernel_rfl) (by kernel_rfl) (fun _ _ _ h => h) (Or.inl ⟨by kernel_rfl, ?_⟩) (by assumption) ?_
      rotate_left
      · intro w hSw
        (try dsimp only at hSw)
        go_simp
        first | done | with_reducible rfl
      simp only [List.getElem_toArray, List.getElem_cons_zero, List.getElem_cons_succ, Act.put, List.setIfInBounds_toArray, List.set_cons_zero, List.set_cons_succ]
      refine wpAnyH_take (i := 7) (v := ?_) rfl (by kernel_rfl) (by kernel_rfl) (by kernel_rfl) (fun _ _ _ h => h) (Or.inl ⟨by kernel_rfl, ?_⟩) (by assumption) ?_
      rotate_left
      · intro w hSw
        (try dsimp only at hSw)
        go_simp
        first | done | with_reducible rfl
      simp only [List.getElem_toArray, List.getElem_cons_zero, List.getElem_cons_succ, Act.put, List.setIfInBounds_toArray, List.set_cons_zero, List.set_cons_succ]
      refine wpAnyH_take (i := 8) (v := ?_) rfl (by kernel_rfl) (by kernel_rfl) (by kernel_rfl) (fun _ _ _ h => h) (Or.inl ⟨by kernel_rfl, ?_⟩) (by assumption) ?_
      rotate_left
      · intro w hSw
        (try dsimp only at hSw)
        go_simp
        first | done | with_reducible rfl
      simp only [List.getElem_toArray, List.getElem_cons_zero, List.getElem_cons_succ, Act.put, List.setIfInBounds_toArray, List.set_cons_zero, List.set_cons_succ]
      refine wpAnyH_take (i := 9) (v := ?_) rfl (by kernel_rfl) (by kernel_rfl) (by kernel_rfl) (fun _ _ _ h => h) (Or.inl ⟨by kernel_rfl, ?_⟩) (by assumption) ?_
      rotate_left
      · intro w hSw
        (try dsimp only at hSw)
        go_simp
        first | done | with_reducible rfl
      simp only [List.getElem_toArray, List.getElem_cons_zero, List.getElem_cons_succ, Act.put, List.setIfInBounds_toArray, List.set_cons_zero, List.set_cons_succ]
      refine wpAnyH_take (i := 10) (v := .int .i64 (N : Int)) rfl (by kernel_rfl) (by kernel_rfl) (by kernel_rfl) (fun _ _ _ h => h) (Or.inl ⟨by kernel_rfl, ?_⟩) (by assumption) ?_
      · intro w hSw
        (try dsimp only at hSw)
        first | (go_simp; done) | (go_simp; simp [e15, hNw, hNv])
      simp only [List.getElem_toArray, List.getElem_cons_zero, List.getElem_cons_succ, Act.put, List.setIfInBounds_toArray, List.set_cons_zero, List.set_cons_succ]
      refine wpAnyH_ready (rs := [11]) (by kernel_rfl) (by simp) ?_
      refine AllReadyH.cons rfl (fun K hK => ?_) AllReadyH.nil
      simp only [List.getElem_toArray, List.getElem_cons_zero, List.getElem_cons_succ]
      go_simp
      (with_reducible refine (rsteps_any x N y Hy hN63 wr.drew).mono ?_)
      rintro e w' ⟨rfl, rfl⟩
      dsimp only
      refine hK.out _ _ ⟨c1, c2, c3⟩ (fun hHeld => ?_)
      clear hK K
      try simp only [List.getElem_toArray, List.getElem_cons_zero, List.getElem_cons_succ, Act.put, List.setIfInBounds_toArray, List.set_cons_zero, List.set_cons_succ]
      refine wpAnyH_ready (rs := [12]) (by kernel_rfl) (by simp) ?_
      refine AllReadyH.cons rfl (fun K hK => ?_) AllReadyH.nil
      simp only [List.getElem_toArray, List.getElem_cons_zero, List.getElem_cons_succ]
      go_simp
      (with_reducible refine (rtext_b y wr.drew).mono ?_)
      rintro e w' ⟨rfl, rfl⟩
      dsimp only
      refine hK.out _ _ ⟨c1, c2, c3⟩ (fun hHeld => ?_)
      clear hK K
      try simp only [List.getElem_toArray, List.getElem_cons_zero, List.getElem_cons_succ, Act.put, List.setIfInBounds_toArray, List.set_cons_zero, List.set_cons_succ]
      refine wpAnyH_take (i := 13) (v := ?_) rfl (by kernel_rfl) (by kernel_rfl) (by kernel_rfl) (fun _ _ _ h => h) (Or.inl ⟨by kernel_rfl, ?_⟩) (by assumption) ?_
      rotate_left
      · intro w hSw
        (try dsimp only at hSw)
        go_simp
        first | done | with_reducible rfl
      simp only [List.getElem_toArray, List.getElem_cons_zero, List.getElem_cons_succ, Act.put, List.setIfInBounds_toArray, List.set_cons_zero, List.set_cons_succ]
      refine wpAnyH_take (i := 14) (v := ?_) rfl (by kernel_rfl) (by kernel_rfl) (by kernel_rfl) (fun _ _ _ h => h) (Or.inl ⟨by kernel_rfl, ?_⟩) (by assumption) ?_
      rotate_left
      · intro w hSw
        (try dsimp only at hSw)
        go_simp
        first | done | with_reducible rfl
      simp only [List.getElem_toArray, List.getElem_cons_zero, List.getElem_cons_succ, Act.put, List.setIfInBounds_toArray, List.set_cons_zero, List.set_cons_succ]
      refine wpAnyH_done (by kernel_rfl) ?_ _
      dsimp only [NoPanic]
      clear hHeld c1 c2 c3
      go_wp2
      go_roundw
      case rel => exact ⟨k + 1, by omega, by go_num, by rw [← Hap.out, Hs.out], hB.drew⟩
      case measure => simp [intOf]; omega
    · obtain rfl : k = 18 := by omega
      go_wp2
      go_ret
      exact ⟨by rw [Hs.out]; rfl, bgo hBw hB⟩
set_option maxHeartbeats 4000000 in
theorem rover_ok (root : UInt64) (h n : Nat) (hh : h ≤ 8) (hn : Hid (2 ^ h = n)) (text : ByteArray) (d : UInt64) (hd : Hid (Dig.sum text.data.toList = d)) (ht : text.size ≤ maxLen) (i : Int) (A B : Option Addr) (ca cb : Nat) (c : List UInt64) (p : Forks) (m : Nat) (hm : p.length = m) (hp30 : m ≤ 100) (hc : c.length = 18) (r : Bool)
    (hr : Hid (verifyB root (n : Int) i (climbB c d 18) p = r)) (w : World) (hA : Sl w w.heap.size 1 A 18 (u64V c)) (hBp : Sl w w.heap.size 2 B m (forkV p)) :
    Calls Tryz.prog 39 #[.int .u64 root.toNat, .int .i64 (h : Int), .string text, .agg #[.int .i64 i, .slice A 18 ca, .slice B m cb]] w fun e w' => e = .returned (.bool r) ∧ Below w.heap.size w w' := by
  have hh' : ¬ ((8 : Int) < (h : Int)) := by omega
  have hn2 : n ≤ 256 := by rw [← hn.out]; exact Nat.pow_le_pow_right (n := 2) (by omega) hh
  have eN : (2 : Int) ^ h = (n : Int) := by rw [← hn.out, Int.natCast_pow]; rfl
  have hw1 : IntKind.i64.wrap (2 ^ h) = (n : Int) := by rw [eN, IntWalk.i64_in _ (by omega)]
  have hw2 : wrap64 (2 ^ h) = (n : Int) := by rw [eN, IntWalk.wrap64_in _ (by omega)]
  have hsh : IntKind.i64.wrap (2 ^ min (IntKind.u64.wrap (h : Int)).toNat 64) = (n : Int) := by
    have hu : IntKind.u64.wrap (h : Int) = (h : Int) := by simp only [IntKind.wrap_u64]; omega
    rw [hu, Int.toNat_natCast, Nat.min_eq_left (by omega)]
    exact hw1
  have hx1 := climbB_size c d 18
  obtain ⟨x, hx⟩ : ∃ x, climbB c d 18 = x := ⟨_, rfl⟩
  rw [hx] at hr hx1
  have Hx := Lib.hid hx
  have hxs : x.size ≤ 140737488355328 := by omega
  have hp30' : p.length ≤ 100 := by omega
  clear hx eN
  have HS := Lib.hid (And.intro hA hBp)
  clear hA hBp
  go_enter Tryz.func39, Tryz.ntmps39
  go_upto_region 3 with fail
  obtain ⟨W, hW⟩ : ∃ W, W = w.alloc (.cells #[.int .i64 i, .slice A 18 ca, .slice B m cb] 31) := ⟨_, rfl⟩
  rw [← hW]
  have hBW : Below w.heap.size w W := by rw [hW]; exact bal (Below.refl _ _) _
  have hbx : BoxAt25 W w.heap.size i A 18 ca B m cb := boxAt25_of (by rw [hW]; exact World.alloc_heap_new _ _)
  clear hW
  obtain ⟨p0, hp0⟩ : ∃ q, q = w.heap.size := ⟨_, rfl⟩
  rw [← hp0] at hbx ⊢
  clear hp0
  obtain ⟨k0, k1, k2, k3⟩ := hbx
  have hSa : Sl W.drew W.drew.heap.size 1 A 18 (u64V c) := HS.out.1.go hBW.drew
  have hSb : Sl W.drew W.drew.heap.size 2 B m (forkV p) := HS.out.2.go hBW.drew
  refine wp_region_noPanic ?_
  refine wp_region_held_drew (S := fun w' => w'.cell? ⟨p0, 0, none⟩ = some (.int .i64 i) ∧ w'.cell? ⟨p0, 1, none⟩ = some (.slice A 18 ca) ∧ w'.cell? ⟨p0, 2, none⟩ = some (.slice B m cb)) (by kernel_rfl) ⟨k1, k2, k3⟩ (fun hHeld => ?_)
  refine wpAnyH_take (i := 0) (v := ?_) rfl (by kernel_rfl) (by kernel_rfl) (by kernel_rfl) (fun _ _ _ h => h) (Or.inl ⟨by kernel_rfl, ?_⟩) (by assumption) ?_
  rotate_left
  · intro w hSw
    (try dsimp only at hSw)
    go_simp
    first | done | with_reducible rfl
  simp only [List.getElem_toArray, List.getElem_cons_zero, List.getElem_cons_succ, Act.put, List.setIfInBounds_toArray, List.set_cons_zero, List.set_cons_succ]
  refine wpAnyH_take (i := 1) (v := ?_) rfl (by kernel_rfl) (by kernel_rfl) (by kernel_rfl) (fun _ _ _ h => h) (Or.inl ⟨by kernel_rfl, ?_⟩) (by assumption) ?_
  rotate_left
  · intro w hSw
    (try dsimp only at hSw)
    go_simp
    first | done | with_reducible rfl
  simp only [List.getElem_toArray, List.getElem_cons_zero, List.getElem_cons_succ, Act.put, List.setIfInBounds_toArray, List.set_cons_zero, List.set_cons_succ]
  refine wpAnyH_take (i := 2) (v := ?_) rfl (by kernel_rfl) (by kernel_rfl) (by kernel_rfl) (fun _ _ _ h => h) (Or.inl ⟨by kernel_rfl, ?_⟩) (by assumption) ?_
  rotate_left
  · intro w hSw
    (try dsimp only at hSw)
    go_simp
    first | done | with_reducible rfl
  simp only [List.getElem_toArray, List.getElem_cons_zero, List.getElem_cons_succ, Act.put, List.setIfInBounds_toArray, List.set_cons_zero, List.set_cons_succ]
  refine wpAnyH_take (i := 3) (v := .int .i64 (n : Int)) rfl (by kernel_rfl) (by kernel_rfl) (by kernel_rfl) (fun _ _ _ h => h) (Or.inl ⟨by kernel_rfl, ?_⟩) (by assumption) ?_
  · intro w hSw
    (try dsimp only at hSw)
    first | (go_simp; done) | (go_simp; exact hsh)
  simp only [List.getElem_toArray, List.getElem_cons_zero, List.getElem_cons_succ, Act.put, List.setIfInBounds_toArray, List.set_cons_zero, List.set_cons_succ]
  refine wpAnyH_take (i := 4) (v := ?_) rfl (by kernel_rfl) (by kernel_rfl) (by kernel_rfl) (fun _ _ _ h => h) (Or.inl ⟨by kernel_rfl, ?_⟩) (by assumption) ?_
  rotate_left
  · intro w hSw
    (try dsimp only at hSw)
    go_simp
    first | done | with_reducible rfl
  simp only [List.getElem_toArray, List.getElem_cons_zero, List.getElem_cons_succ, Act.put, List.setIfInBounds_toArray, List.set_cons_zero, List.set_cons_succ]
  refine wpAnyH_take (i := 5) (v := ?_) rfl (by kernel_rfl) (by kernel_rfl) (by kernel_rfl) (fun _ _ _ h => h) (Or.inl ⟨by kernel_rfl, ?_⟩) (by assumption) ?_
  rotate_left
  · intro w hSw
    (try dsimp only at hSw)
    go_simp
    first | done | with_reducible rfl
  simp only [List.getElem_toArray, List.getElem_cons_zero, List.getElem_cons_succ, Act.put, List.setIfInBounds_toArray, List.set_cons_zero, List.set_cons_succ]
  refine wpAnyH_take (i := 6) (v := ?_) rfl (by kernel_rfl) (by kernel_rfl) (by kernel_rfl) (fun _ _ _ h => h) (Or.inl ⟨by kernel_rfl, ?_⟩) (by assumption) ?_
  rotate_left
  · intro w hSw
    (try dsimp only at hSw)
    go_simp
    first | done | with_reducible rfl
  simp only [List.getElem_toArray, List.getElem_cons_zero, List.getElem_cons_succ, Act.put, List.setIfInBounds_toArray, List.set_cons_zero, List.set_cons_succ]
  refine wpAnyH_take (i := 7) (v := ?_) rfl (by kernel_rfl) (by kernel_rfl) (by kernel_rfl) (fun _ _ _ h => h) (Or.inl ⟨by kernel_rfl, ?_⟩) (by assumption) ?_
  rotate_left
  · intro w hSw
    (try dsimp only at hSw)
    go_simp
    first | done | with_reducible rfl
  simp only [List.getElem_toArray, List.getElem_cons_zero, List.getElem_cons_succ, Act.put, List.setIfInBounds_toArray, List.set_cons_zero, List.set_cons_succ]
  refine wpAnyH_take (i := 9) (v := ?_) rfl (by kernel_rfl) (by kernel_rfl) (by kernel_rfl) (fun _ _ _ h => h) (Or.inl ⟨by kernel_rfl, ?_⟩) (by assumption) ?_
  rotate_left
  · intro w hSw
    (try dsimp only at hSw)
    go_simp
    first | done | with_reducible rfl
  simp only [List.getElem_toArray, List.getElem_cons_zero, List.getElem_cons_succ, Act.put, List.setIfInBounds_toArray, List.set_cons_zero, List.set_cons_succ]
  refine wpAnyH_take (i := 10) (v := ?_) rfl (by kernel_rfl) (by kernel_rfl) (by kernel_rfl) (fun _ _ _ h => h) (Or.inl ⟨by kernel_rfl, ?_⟩) (by assumption) ?_
  rotate_left
  · intro w hSw
    (try dsimp only at hSw)
    go_simp
    first | done | with_reducible rfl
  simp only [List.getElem_toArray, List.getElem_cons_zero, List.getElem_cons_succ, Act.put, List.setIfInBounds_toArray, List.set_cons_zero, List.set_cons_succ]
  refine wpAnyH_ready (rs := [8]) (by kernel_rfl) (by simp) ?_
  refine AllReadyH.cons rfl (fun K hK => ?_) AllReadyH.nil
  simp only [List.getElem_toArray, List.getElem_cons_zero, List.getElem_cons_succ]
  go_simp
  (with_reducible refine (rleaf25_any text d hd ht i A B ca cb m c hc x Hx W.drew hSa).mono ?_)
  rintro e w1 ⟨rfl, hB1⟩
  dsimp only
  have hSb1 := hSb.go hB1
  refine hK.out _ _ ⟨(hB1.cell (p := ⟨p0, 0, none⟩) k0).trans k1, (hB1.cell (p := ⟨p0, 1, none⟩) k0).trans k2, (hB1.cell (p := ⟨p0, 2, none⟩) k0).trans k3⟩ (fun hHeld => ?_)
  clear hK K
  try simp only [List.getElem_toArray, List.getElem_cons_zero, List.getElem_cons_succ, Act.put, List.setIfInBounds_toArray, List.set_cons_zero, List.set_cons_succ]
  refine wpAnyH_ready (rs := [11]) (by kernel_rfl) (by simp) ?_
  refine AllReadyH.cons rfl (fun K hK => ?_) AllReadyH.nil
  simp only [List.getElem_toArray, List.getElem_cons_zero, List.getElem_cons_succ]
  go_simp
  (with_reducible refine (rverify_any B cb m root (n : Int) i x p r w1 hm hr.out hSb1 hp30' hxs).mono ?_)
  rintro e w2 ⟨rfl, hB2⟩
  dsimp only
  have hB12 := bgo hB1 hB2
  refine hK.out _ _ ⟨(hB12.cell (p := ⟨p0, 0, none⟩) k0).trans k1, (hB12.cell (p := ⟨p0, 1, none⟩) k0).trans k2, (hB12.cell (p := ⟨p0, 2, none⟩) k0).trans k3⟩ (fun hHeld => ?_)
  clear hK K
  try simp only [List.getElem_toArray, List.getElem_cons_zero, List.getElem_cons_succ, Act.put, List.setIfInBounds_toArray, List.set_cons_zero, List.set_cons_succ]
  refine wpAnyH_take (i := 12) (v := ?_) rfl (by kernel_rfl) (by kernel_rfl) (by kernel_rfl) (fun _ _ _ h => h) (Or.inl ⟨by kernel_rfl, ?_⟩) (by assumption) ?_
  rotate_left
  · intro w hSw
    (try dsimp only at hSw)
    go_simp
    first | done | with_reducible rfl
  simp only [List.getElem_toArray, List.getElem_cons_zero, List.getElem_cons_succ, Act.put, List.setIfInBounds_toArray, List.set_cons_zero, List.set_cons_succ]
  refine wpAnyH_done (by kernel_rfl) ?_ _
  dsimp only [NoPanic]
  clear hHeld
  go_wp2
  go_ret
  exact ⟨rfl, bgo hBW.drew hB12⟩
end Go.Proofs.YtmebllhkfepkdaaGreatDoor
