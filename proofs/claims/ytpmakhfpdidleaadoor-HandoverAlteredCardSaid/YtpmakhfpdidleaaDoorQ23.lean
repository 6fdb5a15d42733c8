/- The walks of the reference of onetime: Key, Leaf, Verify. issued of the law package (layer 29). -/
import Derived.Test.YtpmakhfpdidleaaDoorQ22
import Derived.Test.YtpmakhfpdidleaaDoorQ20
namespace Go.Proofs.YtpmakhfpdidleaaDoor
open Go.RowKit Go.Shelf
set_option linter.unusedVariables false
set_option linter.unusedSimpArgs false
set_option maxRecDepth 100000
structure BoxAt25 (W : World) (b : Nat) (i : Int) (A : Option Addr) (n ca : Nat) (B : Option Addr) (m cb : Nat) : Prop where
  lt : b < W.heap.size
  c0 : W.cell? ⟨b, 0, none⟩ = some (.int .i64 i)
  c1 : W.cell? ⟨b, 1, none⟩ = some (.slice A n ca)
  c2 : W.cell? ⟨b, 2, none⟩ = some (.slice B m cb)
theorem boxAt25_of {W : World} {b : Nat} {i : Int} {A : Option Addr} {n ca : Nat} {B : Option Addr} {m cb : Nat} {t : TypeId} {fr : Nat × Nat} (hb : W.heap[b]? = some (.cells #[.int .i64 i, .slice A n ca, .slice B m cb] t fr)) : BoxAt25 W b i A n ca B m cb :=
  ⟨(Array.getElem?_eq_some_iff.1 hb).1, by rw [Lib.cell_of_heap hb]; rfl, by rw [Lib.cell_of_heap hb]; rfl, by rw [Lib.cell_of_heap hb]; rfl⟩
theorem rroot_at (A : Option Addr) (c n : Nat) (ss : List ByteArray) (d : UInt64) (e : Int) (w : World) (hn : ss.length = n) (hd : rootV ss = d) (he : checkE n = e) (hA : Sl w w.heap.size 1 A n (strV ss)) (hs : ∀ s ∈ ss, s.size ≤ 140737488355328) (hl : n ≤ 1100) :
    Calls Tryd.prog 26 #[.slice A n c] w fun r w' => r = .returned (.tuple #[.int .u64 d.toNat, .int .i64 e]) ∧ Below w.heap.size w w' := by
  subst hn hd he
  exact rroot_any A c ss w hA hs (by unfold maxLen; omega)
theorem rkey_any (seed : ByteArray) (h : Int) (d : UInt64) (e : Int) (hd : Hid (keyD seed h = d)) (he : Hid (keyE seed h = e)) (w : World) (hs : seed.size ≤ maxLen) (hT : OTabs w) :
    Calls Tryd.prog 14 #[.string seed, .int .i64 h] w fun r w' => r = .returned (.tuple #[.int .u64 d.toNat, .int .i64 e]) ∧ Below w.heap.size w w' := by
  rw [← hd.out, ← he.out]
  clear hd he
  by_cases hok : okB seed h = true
  · obtain ⟨h1, h2, h3⟩ := okB_out hok
    obtain ⟨m, rfl⟩ := Int.eq_ofNat_of_zero_le h2
    obtain ⟨n, hn⟩ : ∃ n, 2 ^ m = n := ⟨_, rfl⟩
    have e1 : keyD seed (m : Int) = rootV (leavesB seed n) := by unfold keyD; rw [if_pos hok, Int.toNat_natCast, hn]
    have e2 : keyE seed (m : Int) = 0 := by unfold keyE; rw [if_pos hok]
    have hn1 : 1 ≤ n := by rw [← hn]; exact Nat.one_le_two_pow
    have hn2 : n ≤ 256 := by have := pow_le (m : Int) h3; rw [Int.toNat_natCast, hn] at this; exact this
    obtain ⟨x, hx⟩ : ∃ x, rootV (leavesB seed n) = x := ⟨_, rfl⟩
    rw [e1, e2, hx]
    have hc : checkE n = 0 := checkE_ok n hn1 (by omega)
    have Hn := Lib.hid hn
    have Hx := Lib.hid hx
    have Hc := Lib.hid hc
    have Hok := Lib.hid hok
    clear hn hx e1 e2 hc hok
    go_enter Tryd.func14, Tryd.ntmps14
    go_wp2_with fail
    refine (rfits_any seed (m : Int) _ hs).mono ?_
    rintro e w' ⟨rfl, rfl⟩
    rw [Hok.out]
    go_wp2_with fail
    refine (roleaves_any seed m n (by omega) Hn.out (by omega) _ hT).mono ?_
    rintro e w1 ⟨v, rfl, hown, hB1⟩
    obtain ⟨A, cap, rfl, hSl⟩ := own_slice hown
    have HS := Lib.hid hSl
    clear hown hSl
    go_wp2_with fail
    refine (rroot_at A cap n (leavesB seed n) x 0 _ (leavesB_len _ _) Hx.out Hc.out HS.out (leavesB_size _ _) (by omega)).mono ?_
    rintro e w2 ⟨rfl, hB2⟩
    go_wp2_with fail
    go_ret2
    exact ⟨rfl, bgo hB1 hB2⟩
  · have hok : okB seed h = false := by simpa using hok
    have e1 : keyD seed h = 0 := by unfold keyD; rw [hok]; rfl
    have e2 : keyE seed h = 1 := by unfold keyE; rw [hok]; rfl
    rw [e1, e2]
    have Hok := Lib.hid hok
    clear e1 e2 hok
    go_enter Tryd.func14, Tryd.ntmps14
    go_wp2_with fail
    refine (rfits_any seed h _ hs).mono ?_
    rintro e w' ⟨rfl, rfl⟩
    rw [Hok.out]
    go_wp2_with fail
    go_ret2
    exact ⟨rfl, Below.refl _ _⟩
set_option maxHeartbeats 4000000 in
theorem rleaf25_any (text : ByteArray) (d : UInt64) (hd : Hid (Dig.sum text.data.toList = d)) (ht : text.size ≤ maxLen) (i : Int) (A B : Option Addr) (ca cb m : Nat) (c : List UInt64) (hc : c.length = 18) (r : ByteArray) (hr : Hid (climbB c d 18 = r)) (w : World) (hA : Sl w w.heap.size 1 A 18 (u64V c)) :
    Calls Tryd.prog 17 #[.string text, .agg #[.int .i64 i, .slice A 18 ca, .slice B m cb]] w fun e w' => e = .returned (.string r) ∧ Below w.heap.size w w' := by
  rw [← hr.out]
  clear hr
  obtain ⟨b0, off, rfl, hb0, hcell⟩ := hA.2 (by omega)
  have Hcell := Lib.hid hcell
  clear hA hcell
  go_enter Tryd.func17, Tryd.ntmps17
  go_wp2_with fail
  refine (rdigits_any text d hd _ ht).mono ?_
  rintro e W0 ⟨v, rfl, hown, hB0⟩
  obtain ⟨X, cX, rfl, hX⟩ := own_slice hown
  obtain ⟨bX, oX, rfl, hbX, hcX⟩ := hX.2 (by decide)
  have hBw := bgo (bal (Below.refl w.heap.size w) _) hB0
  have k1 : W0.cell? ⟨w.heap.size, 1, none⟩ = some (.slice (some ⟨b0, off, none⟩) 18 ca) := (hB0.cell (p := ⟨w.heap.size, 1, none⟩) (by simp)).trans (by simp [go_sem])
  have hsz : w.heap.size < W0.heap.size := by have := hB0.size; simp at this; omega
  have K := Lib.hid (And.intro k1 hcX)
  clear k1 hcX hX hown hB0
  go_wp2
  go_loopw [5, 7] (fun s q wr => ∃ k : Nat, k ≤ 18 ∧ q = .int .i64 k ∧ s = .string (climbB c d k) ∧ Below W0.heap.size W0 wr) (fun _ q _ => 18 - (intOf q).toNat)
  case atStart => exact ⟨0, by omega, rfl, rfl, Below.refl _ _⟩
  case round =>
    obtain ⟨k, hk, rfl, rfl, hB⟩ := hrel
    obtain ⟨s, hs⟩ : ∃ s, climbB c d k = s := ⟨_, rfl⟩
    have hss : s.size = 16 * k := by rw [← hs, climbB_size]
    rw [hs]
    have Hs := Lib.hid hs
    clear hs
    by_cases hk18 : k < 18
    · have hk' : (k : Int) < 18 := by omega
      obtain ⟨x, hx⟩ : ∃ x, c.getD k 0 = x := ⟨_, rfl⟩
      have hdl := On.dg_le d k
      obtain ⟨m1, hm1⟩ : ∃ m, On.dg d k = m := ⟨_, rfl⟩
      obtain ⟨N, hN⟩ : ∃ N, 15 - m1 = N := ⟨_, rfl⟩
      obtain ⟨y, hy⟩ : ∃ y, On.steps N x = y := ⟨_, rfl⟩
      obtain ⟨wb, hwb⟩ : ∃ q, q = w.heap.size := ⟨_, rfl⟩
      have c1 : wr.cell? ⟨w.heap.size, 1, none⟩ = some (.slice (some ⟨b0, off, none⟩) 18 ca) := (hB.cell (p := ⟨w.heap.size, 1, none⟩) hsz).trans K.out.1
      have c2 : wr.cell? ⟨b0, off + k, none⟩ = some (.int .u64 x.toNat) := ((bgo hBw hB).cell (p := ⟨b0, off + k, none⟩) hb0).trans (Hcell.out k _ (by rw [u64V_get c k (by omega), hx]))
      have c3 : wr.cell? ⟨bX, oX + k, none⟩ = some (.int .i64 (m1 : Int)) := (hB.cell (p := ⟨bX, oX + k, none⟩) hbX).trans (K.out.2 k _ (by rw [digR_get d k hk18, hm1]))
      rw [hm1] at hdl
      have hap := climbB_snoc c d k y (by rw [hx, hm1, hN]; exact hy)
      have e15 : (15 : Int) - (m1 : Int) = (N : Int) := by omega
      have hN15 : N ≤ 15 := by omega
      have hN63 : N < 9223372036854775807 := by omega
      have hNw : IntKind.i64.wrap (N : Int) = (N : Int) := IntWalk.i64_in _ (by omega)
      have hNv : wrap64 (N : Int) = (N : Int) := IntWalk.wrap64_in _ (by omega)
      have Hy := Lib.hid hy
      have Hap := Lib.hid hap
      have hzz : ¬ (9223372036854775807 < s.size + (textB y).size) := by rw [textB_size, hss]; omega
      have hz1 : (textB y).size = 16 := rfl
      have hz2 : ¬ (9223372036854775807 < 16 * k + 16) := by omega
      clear hx hm1 hN hy hap
      go_wp2_with fail
      refine wp_region_noPanic ?_
      refine wp_region_held_drew (S := fun w' => w'.cell? ⟨w.heap.size, 1, none⟩ = some (.slice (some ⟨b0, off, none⟩) 18 ca) ∧ w'.cell? ⟨b0, off + k, none⟩ = some (.int .u64 x.toNat) ∧ w'.cell? ⟨bX, oX + k, none⟩ = some (.int .i64 (m1 : Int))) (by kernel_rfl) ⟨c1, c2, c3⟩ (fun hHeld => ?_)
      refine wpAnyH_take (i := 0) (v := ?_) rfl (by kernel_rfl) (by kernel_rfl) (by kernel_rfl) (fun _ _ _ h => h) (Or.inl ⟨by kernel_rfl, ?_⟩) (by assumption) ?_
      rotate_left
      · intro w hSw
        (try dsimp only at hSw)
        go_simp
        first | done | with_reducible rfl
      simp only [List.getElem_toArray, List.getElem_cons_zero, List.getElem_cons_succ, Act.put, List.setIfInBounds_toArray, List.set_cons_zero, List.set_cons_succ]
      refine wpAnyH_take (i := 1) (v := ?_) rfl (by kernel_rfl) (by kernel_rfl) (by kernel_rfl) (fun _ _ _ h => h) (Or.inl ⟨by kernel_rfl, ?_⟩) (by assumption) ?_
      rotate_left
      · intro w hSw
        (try dsimp only at hSw)
        go_simp
        first | done | with_reducible rfl
      simp only [List.getElem_toArray, List.getElem_cons_zero, List.getElem_cons_succ, Act.put, List.setIfInBounds_toArray, List.set_cons_zero, List.set_cons_succ]
      refine wpAnyH_take (i := 2) (v := ?_) rfl (by kernel_rfl) (by kernel_rfl) (by kernel_rfl) (fun _ _ _ h => h) (Or.inl ⟨by kernel_rfl, ?_⟩) (by assumption) ?_
      rotate_left
      · intro w hSw
        (try dsimp only at hSw)
        go_simp
        first | done | with_reducible rfl
      simp only [List.getElem_toArray, List.getElem_cons_zero, List.getElem_cons_succ, Act.put, List.setIfInBounds_toArray, List.set_cons_zero, List.set_cons_succ]
      refine wpAnyH_take (i := 3) (v := ?_) rfl (by kernel_rfl) (by kernel_rfl) (by kernel_rfl) (fun _ _ _ h => h) (Or.inl ⟨by kernel_rfl, ?_⟩) (by assumption) ?_
      rotate_left
      · intro w hSw
        (try dsimp only at hSw)
        go_simp
        first | done | with_reducible rfl
      simp only [List.getElem_toArray, List.getElem_cons_zero, List.getElem_cons_succ, Act.put, List.setIfInBounds_toArray, List.set_cons_zero, List.set_cons_succ]
      refine wpAnyH_take (i := 4) (v := ?_) rfl (by kernel_rfl) (by kernel_rfl) (by kernel_rfl) (fun _ _ _ h => h) (Or.inl ⟨by kernel_rfl, ?_⟩) (by assumption) ?_
      rotate_left
      · intro w hSw
        (try dsimp only at hSw)
        go_simp
        first | done | with_reducible rfl
      simp only [List.getElem_toArray, List.getElem_cons_zero, List.getElem_cons_succ, Act.put, List.setIfInBounds_toArray, List.set_cons_zero, List.set_cons_succ]
      refine wpAnyH_take (i := 5) (v := ?_) rfl (by kernel_rfl) (by kernel_rfl) (by kernel_rfl) (fun _ _ _ h => h) (Or.inl ⟨by kernel_rfl, ?_⟩) (by assumption) ?_
      rotate_left
      · intro w hSw
        (try dsimp only at hSw)
        go_simp
        first | done | with_reducible rfl
      simp only [List.getElem_toArray, List.getElem_cons_zero, List.getElem_cons_succ, Act.put, List.setIfInBounds_toArray, List.set_cons_zero, List.set_cons_succ]
      refine wpAnyH_take (i := 6) (v := ?_) rfl (by kernel_rfl) (by kernel_rfl) (by kernel_rfl) (fun _ _ _ h => h) (Or.inl ⟨by kernel_rfl, ?_⟩) (by assumption) ?_
      rotate_left
      · intro w hSw
        (try dsimp only at hSw)
        go_simp
        first | done | with_reducible rfl
      simp only [List.getElem_toArray, List.getElem_cons_zero, List.getElem_cons_succ, Act.put, List.setIfInBounds_toArray, List.set_cons_zero, List.set_cons_succ]
      refine wpAnyH_take (i := 7) (v := ?_) rfl (by kernel_rfl) (by kernel_rfl) (by kernel_rfl) (fun _ _ _ h => h) (Or.inl ⟨by kernel_rfl, ?_⟩) (by assumption) ?_
      rotate_left
      · intro w hSw
        (try dsimp only at hSw)
        go_simp
        first | done | with_reducible rfl
      simp only [List.getElem_toArray, List.getElem_cons_zero, List.getElem_cons_succ, Act.put, List.setIfInBounds_toArray, List.set_cons_zero, List.set_cons_succ]
      refine wpAnyH_take (i := 8) (v := ?_) rfl (by kernel_rfl) (by kernel_rfl) (by kernel_rfl) (fun _ _ _ h => h) (Or.inl ⟨by kernel_rfl, ?_⟩) (by assumption) ?_
      rotate_left
      · intro w hSw
        (try dsimp only at hSw)
        go_simp
        first | done | with_reducible rfl
      simp only [List.getElem_toArray, List.getElem_cons_zero, List.getElem_cons_succ, Act.put, List.setIfInBounds_toArray, List.set_cons_zero, List.set_cons_succ]
      refine wpAnyH_take (i := 9) (v := ?_) rfl (by kernel_rfl) (by kernel_rfl) (by kernel_rfl) (fun _ _ _ h => h) (Or.inl ⟨by kernel_rfl, ?_⟩) (by assumption) ?_
      rotate_left
      · intro w hSw
        (try dsimp only at hSw)
        go_simp
        first | done | with_reducible rfl
      simp only [List.getElem_toArray, List.getElem_cons_zero, List.getElem_cons_succ, Act.put, List.setIfInBounds_toArray, List.set_cons_zero, List.set_cons_succ]
      refine wpAnyH_take (i := 10) (v := .int .i64 (N : Int)) rfl (by kernel_rfl) (by kernel_rfl) (by kernel_rfl) (fun _ _ _ h => h) (Or.inl ⟨by kernel_rfl, ?_⟩) (by assumption) ?_
      · intro w hSw
        (try dsimp only at hSw)
        first | (go_simp; done) | (go_simp; simp [e15, hNw, hNv])
      simp only [List.getElem_toArray, List.getElem_cons_zero, List.getElem_cons_succ, Act.put, List.setIfInBounds_toArray, List.set_cons_zero, List.set_cons_succ]
      refine wpAnyH_ready (rs := [11]) (by kernel_rfl) (by simp) ?_
      refine AllReadyH.cons rfl (fun K hK => ?_) AllReadyH.nil
      simp only [List.getElem_toArray, List.getElem_cons_zero, List.getElem_cons_succ]
      go_simp
      (with_reducible refine (rsteps_any x N y Hy hN63 wr.drew).mono ?_)
      rintro e w' ⟨rfl, rfl⟩
      dsimp only
      refine hK.out _ _ ⟨c1, c2, c3⟩ (fun hHeld => ?_)
      clear hK K
      try simp only [List.getElem_toArray, List.getElem_cons_zero, List.getElem_cons_succ, Act.put, List.setIfInBounds_toArray, List.set_cons_zero, List.set_cons_succ]
      refine wpAnyH_ready (rs := [12]) (by kernel_rfl) (by simp) ?_
      refine AllReadyH.cons rfl (fun K hK => ?_) AllReadyH.nil
      simp only [List.getElem_toArray, List.getElem_cons_zero, List.getElem_cons_succ]
      go_simp
      (with_reducible refine (rtext_b y wr.drew).mono ?_)
      rintro e w' ⟨rfl, rfl⟩
      dsimp only
      refine hK.out _ _ ⟨c1, c2, c3⟩ (fun hHeld => ?_)
      clear hK K
      try simp only [List.getElem_toArray, List.getElem_cons_zero, List.getElem_cons_succ, Act.put, List.setIfInBounds_toArray, List.set_cons_zero, List.set_cons_succ]
      refine wpAnyH_take (i := 13) (v := ?_) rfl (by kernel_rfl) (by kernel_rfl) (by kernel_rfl) (fun _ _ _ h => h) (Or.inl ⟨by kernel_rfl, ?_⟩) (by assumption) ?_
      rotate_left
      · intro w hSw
        (try dsimp only at hSw)
        go_simp
        first | done | with_reducible rfl
      simp only [List.getElem_toArray, List.getElem_cons_zero, List.getElem_cons_succ, Act.put, List.setIfInBounds_toArray, List.set_cons_zero, List.set_cons_succ]
      refine wpAnyH_take (i := 14) (v := ?_) rfl (by kernel_rfl) (by kernel_rfl) (by kernel_rfl) (fun _ _ _ h => h) (Or.inl ⟨by kernel_rfl, ?_⟩) (by assumption) ?_
      rotate_left
      · intro w hSw
        (try dsimp only at hSw)
        go_simp
        first | done | with_reducible rfl
      simp only [List.getElem_toArray, List.getElem_cons_zero, List.getElem_cons_succ, Act.put, List.setIfInBounds_toArray, List.set_cons_zero, List.set_cons_succ]
      refine wpAnyH_done (by kernel_rfl) ?_ _
      dsimp only [NoPanic]
      clear hHeld c1 c2 c3
      go_wp2
      go_roundw
      case rel => exact ⟨k + 1, by omega, by go_num, by rw [← Hap.out, Hs.out], hB.drew⟩
      case measure => simp [intOf]; omega
    · obtain rfl : k = 18 := by omega
      go_wp2
      go_ret
      exact ⟨by rw [Hs.out]; rfl, bgo hBw hB⟩
set_option maxHeartbeats 4000000 in
theorem rover_ok (root : UInt64) (h n : Nat) (hh : h ≤ 8) (hn : Hid (2 ^ h = n)) (text : ByteArray) (d : UInt64) (hd : Hid (Dig.sum text.data.toList = d)) (ht : text.size ≤ maxLen) (i : Int) (A B : Option Addr) (ca cb : Nat) (c : List UInt64) (p : Forks) (m : Nat) (hm : p.length = m) (hp30 : m ≤ 100) (hc : c.length = 18) (r : Bool)
    (hr : Hid (verifyB root (n : Int) i (climbB c d 18) p = r)) (w : World) (hA : Sl w w.heap.size 1 A 18 (u64V c)) (hBp : Sl w w.heap.size 2 B m (forkV p)) :
    Calls Tryd.prog 9 #[.int .u64 root.toNat, .int .i64 (h : Int), .string text, .agg #[.int .i64 i, .slice A 18 ca, .slice B m cb]] w fun e w' => e = .returned (.bool r) ∧ Below w.heap.size w w' := by
  have hh' : ¬ ((8 : Int) < (h : Int)) := by omega
  have hn2 : n ≤ 256 := by rw [← hn.out]; exact Nat.pow_le_pow_right (n := 2) (by omega) hh
  have eN : (2 : Int) ^ h = (n : Int) := by rw [← hn.out, Int.natCast_pow]; rfl
  have hw1 : IntKind.i64.wrap (2 ^ h) = (n : Int) := by rw [eN, IntWalk.i64_in _ (by omega)]
  have hw2 : wrap64 (2 ^ h) = (n : Int) := by rw [eN, IntWalk.wrap64_in _ (by omega)]
  have hsh : IntKind.i64.wrap (2 ^ min (IntKind.u64.wrap (h : Int)).toNat 64) = (n : Int) := by
    have hu : IntKind.u64.wrap (h : Int) = (h : Int) := by simp only [IntKind.wrap_u64]; omega
    rw [hu, Int.toNat_natCast, Nat.min_eq_left (by omega)]
    exact hw1
  have hx1 := climbB_size c d 18
  obtain ⟨x, hx⟩ : ∃ x, climbB c d 18 = x := ⟨_, rfl⟩
  rw [hx] at hr hx1
  have Hx := Lib.hid hx
  have hxs : x.size ≤ 140737488355328 := by omega
  have hp30' : p.length ≤ 100 := by omega
  clear hx eN
  have HS := Lib.hid (And.intro hA hBp)
  clear hA hBp
  go_enter Tryd.func9, Tryd.ntmps9
  go_upto_region 3 with fail
  obtain ⟨W, hW⟩ : ∃ W, W = w.alloc (.cells #[.int .i64 i, .slice A 18 ca, .slice B m cb] 36) := ⟨_, rfl⟩
  rw [← hW]
  have hBW : Below w.heap.size w W := by rw [hW]; exact bal (Below.refl _ _) _
  have hbx : BoxAt25 W w.heap.size i A 18 ca B m cb := boxAt25_of (by rw [hW]; exact World.alloc_heap_new _ _)
  clear hW
  obtain ⟨p0, hp0⟩ : ∃ q, q = w.heap.size := ⟨_, rfl⟩
  rw [← hp0] at hbx ⊢
  clear hp0
  obtain ⟨k0, k1, k2, k3⟩ := hbx
  have hSa : Sl W.drew W.drew.heap.size 1 A 18 (u64V c) := HS.out.1.go hBW.drew
  have hSb : Sl W.drew W.drew.heap.size 2 B m (forkV p) := HS.out.2.go hBW.drew
  refine wp_region_noPanic ?_
  refine wp_region_held_drew (S := fun w' => w'.cell? ⟨p0, 0, none⟩ = some (.int .i64 i) ∧ w'.cell? ⟨p0, 1, none⟩ = some (.slice A 18 ca) ∧ w'.cell? ⟨p0, 2, none⟩ = some (.slice B m cb)) (by kernel_rfl) ⟨k1, k2, k3⟩ (fun hHeld => ?_)
  refine wpAnyH_take (i := 0) (v := ?_) rfl (by kernel_rfl) (by kernel_rfl) (by kernel_rfl) (fun _ _ _ h => h) (Or.inl ⟨by kernel_rfl, ?_⟩) (by assumption) ?_
  rotate_left
  · intro w hSw
    (try dsimp only at hSw)
    go_simp
    first | done | with_reducible rfl
  simp only [List.getElem_toArray, List.getElem_cons_zero, List.getElem_cons_succ, Act.put, List.setIfInBounds_toArray, List.set_cons_zero, List.set_cons_succ]
  refine wpAnyH_take (i := 1) (v := ?_) rfl (by kernel_rfl) (by kernel_rfl) (by kernel_rfl) (fun _ _ _ h => h) (Or.inl ⟨by kernel_rfl, ?_⟩) (by assumption) ?_
  rotate_left
  · intro w hSw
    (try dsimp only at hSw)
    go_simp
    first | done | with_reducible rfl
  simp only [List.getElem_toArray, List.getElem_cons_zero, List.getElem_cons_succ, Act.put, List.setIfInBounds_toArray, List.set_cons_zero, List.set_cons_succ]
  refine wpAnyH_take (i := 2) (v := ?_) rfl (by kernel_rfl) (by kernel_rfl) (by kernel_rfl) (fun _ _ _ h => h) (Or.inl ⟨by kernel_rfl, ?_⟩) (by assumption) ?_
  rotate_left
  · intro w hSw
    (try dsimp only at hSw)
    go_simp
    first | done | with_reducible rfl
  simp only [List.getElem_toArray, List.getElem_cons_zero, List.getElem_cons_succ, Act.put, List.setIfInBounds_toArray, List.set_cons_zero, List.set_cons_succ]
  refine wpAnyH_take (i := 3) (v := .int .i64 (n : Int)) rfl (by kernel_rfl) (by kernel_rfl) (by kernel_rfl) (fun _ _ _ h => h) (Or.inl ⟨by kernel_rfl, ?_⟩) (by assumption) ?_
  · intro w hSw
    (try dsimp only at hSw)
    first | (go_simp; done) | (go_simp; exact hsh)
  simp only [List.getElem_toArray, List.getElem_cons_zero, List.getElem_cons_succ, Act.put, List.setIfInBounds_toArray, List.set_cons_zero, List.set_cons_succ]
  refine wpAnyH_take (i := 4) (v := ?_) rfl (by kernel_rfl) (by kernel_rfl) (by kernel_rfl) (fun _ _ _ h => h) (Or.inl ⟨by kernel_rfl, ?_⟩) (by assumption) ?_
  rotate_left
  · intro w hSw
    (try dsimp only at hSw)
    go_simp
    first | done | with_reducible rfl
  simp only [List.getElem_toArray, List.getElem_cons_zero, List.getElem_cons_succ, Act.put, List.setIfInBounds_toArray, List.set_cons_zero, List.set_cons_succ]
  refine wpAnyH_take (i := 5) (v := ?_) rfl (by kernel_rfl) (by kernel_rfl) (by kernel_rfl) (fun _ _ _ h => h) (Or.inl ⟨by kernel_rfl, ?_⟩) (by assumption) ?_
  rotate_left
  · intro w hSw
    (try dsimp only at hSw)
    go_simp
    first | done | with_reducible rfl
  simp only [List.getElem_toArray, List.getElem_cons_zero, List.getElem_cons_succ, Act.put, List.setIfInBounds_toArray, List.set_cons_zero, List.set_cons_succ]
  refine wpAnyH_take (i := 6) (v := ?_) rfl (by kernel_rfl) (by kernel_rfl) (by kernel_rfl) (fun _ _ _ h => h) (Or.inl ⟨by kernel_rfl, ?_⟩) (by assumption) ?_
  rotate_left
  · intro w hSw
    (try dsimp only at hSw)
    go_simp
    first | done | with_reducible rfl
  simp only [List.getElem_toArray, List.getElem_cons_zero, List.getElem_cons_succ, Act.put, List.setIfInBounds_toArray, List.set_cons_zero, List.set_cons_succ]
  refine wpAnyH_take (i := 7) (v := ?_) rfl (by kernel_rfl) (by kernel_rfl) (by kernel_rfl) (fun _ _ _ h => h) (Or.inl ⟨by kernel_rfl, ?_⟩) (by assumption) ?_
  rotate_left
  · intro w hSw
    (try dsimp only at hSw)
    go_simp
    first | done | with_reducible rfl
  simp only [List.getElem_toArray, List.getElem_cons_zero, List.getElem_cons_succ, Act.put, List.setIfInBounds_toArray, List.set_cons_zero, List.set_cons_succ]
  refine wpAnyH_take (i := 9) (v := ?_) rfl (by kernel_rfl) (by kernel_rfl) (by kernel_rfl) (fun _ _ _ h => h) (Or.inl ⟨by kernel_rfl, ?_⟩) (by assumption) ?_
  rotate_left
  · intro w hSw
    (try dsimp only at hSw)
    go_simp
    first | done | with_reducible rfl
  simp only [List.getElem_toArray, List.getElem_cons_zero, List.getElem_cons_succ, Act.put, List.setIfInBounds_toArray, List.set_cons_zero, List.set_cons_succ]
  refine wpAnyH_take (i := 10) (v := ?_) rfl (by kernel_rfl) (by kernel_rfl) (by kernel_rfl) (fun _ _ _ h => h) (Or.inl ⟨by kernel_rfl, ?_⟩) (by assumption) ?_
  rotate_left
  · intro w hSw
    (try dsimp only at hSw)
    go_simp
    first | done | with_reducible rfl
  simp only [List.getElem_toArray, List.getElem_cons_zero, List.getElem_cons_succ, Act.put, List.setIfInBounds_toArray, List.set_cons_zero, List.set_cons_succ]
  refine wpAnyH_ready (rs := [8]) (by kernel_rfl) (by simp) ?_
  refine AllReadyH.cons rfl (fun K hK => ?_) AllReadyH.nil
  simp only [List.getElem_toArray, List.getElem_cons_zero, List.getElem_cons_succ]
  go_simp
  (with_reducible refine (rleaf25_any text d hd ht i A B ca cb m c hc x Hx W.drew hSa).mono ?_)
  rintro e w1 ⟨rfl, hB1⟩
  dsimp only
  have hSb1 := hSb.go hB1
  refine hK.out _ _ ⟨(hB1.cell (p := ⟨p0, 0, none⟩) k0).trans k1, (hB1.cell (p := ⟨p0, 1, none⟩) k0).trans k2, (hB1.cell (p := ⟨p0, 2, none⟩) k0).trans k3⟩ (fun hHeld => ?_)
  clear hK K
  try simp only [List.getElem_toArray, List.getElem_cons_zero, List.getElem_cons_succ, Act.put, List.setIfInBounds_toArray, List.set_cons_zero, List.set_cons_succ]
  refine wpAnyH_ready (rs := [11]) (by kernel_rfl) (by simp) ?_
  refine AllReadyH.cons rfl (fun K hK => ?_) AllReadyH.nil
  simp only [List.getElem_toArray, List.getElem_cons_zero, List.getElem_cons_succ]
  go_simp
  (with_reducible refine (rverify_any B cb m root (n : Int) i x p r w1 hm hr.out hSb1 hp30' hxs).mono ?_)
  rintro e w2 ⟨rfl, hB2⟩
  dsimp only
  have hB12 := bgo hB1 hB2
  refine hK.out _ _ ⟨(hB12.cell (p := ⟨p0, 0, none⟩) k0).trans k1, (hB12.cell (p := ⟨p0, 1, none⟩) k0).trans k2, (hB12.cell (p := ⟨p0, 2, none⟩) k0).trans k3⟩ (fun hHeld => ?_)
  clear hK K
  try simp only [List.getElem_toArray, List.getElem_cons_zero, List.getElem_cons_succ, Act.put, List.setIfInBounds_toArray, List.set_cons_zero, List.set_cons_succ]
  refine wpAnyH_take (i := 12) (v := ?_) rfl (by kernel_rfl) (by kernel_rfl) (by kernel_rfl) (fun _ _ _ h => h) (Or.inl ⟨by kernel_rfl, ?_⟩) (by assumption) ?_
  rotate_left
  · intro w hSw
    (try dsimp only at hSw)
    go_simp
    first | done | with_reducible rfl
  simp only [List.getElem_toArray, List.getElem_cons_zero, List.getElem_cons_succ, Act.put, List.setIfInBounds_toArray, List.set_cons_zero, List.set_cons_succ]
  refine wpAnyH_done (by kernel_rfl) ?_ _
  dsimp only [NoPanic]
  clear hHeld
  go_wp2
  go_ret
  exact ⟨rfl, bgo hBW.drew hB12⟩
end Go.Proofs.YtpmakhfpdidleaaDoor
namespace Go.Proofs.YtpmakhfpdidleaaDoor
open Go.RowKit Go.Shelf
set_option linter.unusedVariables false
set_option linter.unusedSimpArgs false
set_option maxRecDepth 100000
def root29 : UInt64 := keyD seedB 3
def dgT (t : TotD) : UInt64 := Dig.sum (textT t).data.toList
def chT (t : TotD) (i : Nat) : List UInt64 := On.chains seedB.data.toList (i : Int) (dgT t) 18
def paT (i : Nat) : Forks := keyP seedB 8 (i : Int)
theorem chT_len (t : TotD) (i : Nat) : (chT t i).length = 18 := On.chains_len _ _ _ _
theorem paT_len {i : Nat} (hi : i < 8) : (paT i).length = 3 := keyP_len seedB 3 8 i (by decide) (by decide) hi
theorem iss_over (t : TotD) {i : Nat} (hi : i < 8) : overB root29 3 (dgT t) (i : Int) (chT t i) (paT i) = true :=
  signed_over seedB 3 8 i (by decide) (by decide) (by decide) hi (dgT t)
/-- An element that issued has made. -/
structure IssEl (w : World) (t : TotD) (i : Nat) (x : ElM) : Prop where
  t_ : x.t = t
  j_ : x.j = (i : Int)
  an : x.an = 18
  bn : x.bn = 3
  i8 : i < 8
  va : validTB t = true
  oa : w.ownsRow 0 29 1 (.slice x.A 18 x.ac) 18 (u64V (chT t i))
  ob : w.ownsRow 0 41 2 (.slice x.B 3 x.bc) 3 (forkV (paT i))
theorem own_type {W : World} {base : Nat} {e : TypeId} {size n : Nat} {v : Value} {xs : List Value} {b : Nat} (h : W.ownsRow base e size v n xs) (hb : v.ownBlock = some b) : ∃ cs fr, W.heap[b]? = some (.cells cs e fr) := by
  rcases h.2 with ⟨h0, _⟩ | ⟨g, cap, cur, h0, _, h2, _⟩
  · rw [h0] at hb; cases hb
  · rw [h0] at hb
    injection hb with hb
    have hb : g = b := hb
    subst hb
    exact ⟨_, _, h2⟩
theorem IssEl.keep {W W' : World} {t : TotD} {i : Nat} {x : ElM} (h : IssEl W t i x) (hk : ∀ (b : Nat) (cs : Array Value) (T : TypeId) (fr : Nat × Nat), W.heap[b]? = some (.cells cs T fr) → T ≠ 38 → W'.heap[b]? = W.heap[b]?) : IssEl W' t i x := by
  obtain ⟨h1, h2, h3, h4, h5, h6, h7, h8⟩ := h
  refine ⟨h1, h2, h3, h4, h5, h6, own_keep h7 (fun g hg => ?_), own_keep h8 (fun g hg => ?_)⟩
  · obtain ⟨cs, fr, hb⟩ := own_type h7 hg
    exact hk g cs _ fr hb (by decide)
  · obtain ⟨cs, fr, hb⟩ := own_type h8 hg
    exact hk g cs _ fr hb (by decide)
theorem IssEl.go {W W' : World} {t : TotD} {i : Nat} {x : ElM} (h : IssEl W t i x) (hb : Below W.heap.size W W') : IssEl W' t i x := ⟨h.t_, h.j_, h.an, h.bn, h.i8, h.va, own_below h.oa hb, own_below h.ob hb⟩
theorem valid_sz {t : TotD} (h : validTB t = true) : t.e.size ≤ maxLen ∧ t.p.size ≤ maxLen := by
  obtain ⟨h1, h2, _⟩ := valid_out h
  have := name_size h1
  have := name_size h2
  unfold maxLen
  omega
theorem valid_wf {t : TotD} (h : validTB t = true) : TotWf t := by
  obtain ⟨h1, h2⟩ := valid_sz h
  obtain ⟨_, _, h3, h4, h5⟩ := valid_out h
  refine ⟨h1, h2, ?_, ?_, ?_⟩ <;> · simp [Lit.wf, IntKind.min, IntKind.max, IntKind.bits, IntKind.signed]; omega
theorem IssEl.sa {W : World} {t : TotD} {i : Nat} {x : ElM} (h : IssEl W t i x) : Sl W W.heap.size 1 x.A x.an (u64V (chT t i)) := by
  obtain ⟨A, c, e, hs⟩ := own_slice h.oa
  injection e with e1 e2 e3
  rw [h.an, e1]
  exact hs
theorem IssEl.sb {W : World} {t : TotD} {i : Nat} {x : ElM} (h : IssEl W t i x) : Sl W W.heap.size 2 x.B x.bn (forkV (paT i)) := by
  obtain ⟨A, c, e, hs⟩ := own_slice h.ob
  injection e with e1 e2 e3
  rw [h.bn, e1]
  exact hs
theorem IssEl.ok {W : World} {t : TotD} {i : Nat} {x : ElM} (h : IssEl W t i x) : ElOk W root29 3 (fun _ => true) x := by
  refine ⟨chT t i, paT i, ?_, ?_, ?_, h.sa, h.sb, ?_, ?_⟩
  · rw [h.an, chT_len]
  · rw [h.bn, paT_len h.i8]
  · rw [h.an]; decide
  · rw [h.t_, h.j_]
    exact iss_over t h.i8
  · rw [h.t_]
    exact valid_wf h.va
/-- The list that issued has made. -/
def IssL (W : World) (ts : List TotD) (es : List ElM) : Prop := es.length = min ts.length 8 ∧ ∀ (i : Nat) t x, ts[i]? = some t → es[i]? = some x → IssEl W t i x
theorem info_sgd : (Tryd.prog.info? 38).map (fun i => (i.zero, i.size, i.bytes)) = some (some (.agg #[.string ⟨#[]⟩, .string ⟨#[]⟩, .int .i64 0, .int .i64 0, .int .i64 0, .int .i64 0, .slice none 0 0, .slice none 0 0]), 8, 112) := by kernel_rfl
set_option maxHeartbeats 8000000 in
theorem issued_any (A : Option Addr) (n c : Nat) (ts : List TotD) (hn : ts.length = n) (hnl : n ≤ 1000000) (hv : ∀ t ∈ ts, validTB t = true) (w : World) (hT : CaT.Tabs w) (hO : OTabs w) (hS : Sl w w.heap.size 5 A n (ts.flatMap totL5)) :
    Calls Tryd.prog 6 #[.slice A n c] w fun e w' => ∃ v es, e = .returned (.tuple #[v, .int .u64 root29.toNat, .bool true]) ∧ w'.ownsRow w.heap.size 38 8 v es.length (es.flatMap elV) ∧ IssL w' ts es ∧ Below w.heap.size w w' := by
  obtain ⟨j0, hj0, hy0, hy1, hy2⟩ := info_parts info_sgd
  have HS := Lib.hid hS
  have Hv := Lib.hid hv
  have Hn := Lib.hid hn
  obtain ⟨rt, hrt⟩ : ∃ r, root29 = r := ⟨_, rfl⟩
  have Hrt : Hid (keyD seedB 3 = rt) := Lib.hid hrt
  rw [hrt]
  have HT := Lib.hid hT
  have HO := Lib.hid hO
  clear hS hv hn hrt hT hO
  go_enter Tryd.func6, Tryd.ntmps6
  go_wp2_with fail
  refine (rkey_any seedB 3 rt 0 Hrt (Lib.hid (by decide +kernel)) w (by decide) HO.out).mono ?_
  rintro e w1 ⟨rfl, hB1⟩
  go_wp2_with fail
  go_loopw [7, 8] (fun v ix wr => ∃ k : Nat, k ≤ n ∧ k ≤ 8 ∧ ix = .int .i64 (k : Int) ∧ ∃ es : List ElM, es.length = k ∧ wr.ownsRow w.heap.size 38 8 v es.length (es.flatMap elV) ∧ (∀ (i : Nat) t x, ts[i]? = some t → es[i]? = some x → IssEl wr t i x) ∧ Below w.heap.size w wr) (fun _ ix _ => n - (intOf ix).toNat)
  case atStart => exact ⟨0, Nat.zero_le _, by omega, rfl, [], rfl, ⟨rfl, .inl ⟨rfl, rfl⟩⟩, fun i t x _ h => by simp at h, hB1⟩
  case round =>
    clear hB1
    obtain ⟨k, hk, hk8, rfl, es, hes, hown, hel, hBr⟩ := hrel
    by_cases hlt : k < n ∧ k < 8
    · obtain ⟨hlt1, hlt2⟩ := hlt
      have hc1 : (k : Int) < (n : Int) := by omega
      have hc2 : (k : Int) < 8 := by omega
      obtain ⟨b, off, rfl, hb, hcell⟩ := HS.out.2 (by omega)
      have hkl : k < ts.length := by rw [Hn.out]; exact hlt1
      have hget := flat_get totL5 5 (fun _ => rfl) ts k hkl
      obtain ⟨t, ht⟩ : ∃ t, ts[k] = t := ⟨_, rfl⟩
      have htm : ts[k]? = some t := by rw [List.getElem?_eq_getElem hkl, ht]
      rw [ht] at hget
      have hva := Hv.out t (by rw [← ht]; exact List.getElem_mem hkl)
      obtain ⟨te, tp, tm, tg, tx⟩ := t
      have u0 : wr.cell? ⟨b, off + k * 5, none⟩ = some (.string te) := (hBr.cell (p := ⟨b, off + k * 5, none⟩) hb).trans (hcell _ _ (hget 0 (by decide)))
      have u1 : wr.cell? ⟨b, off + k * 5 + 1, none⟩ = some (.string tp) := (hBr.cell (p := ⟨b, off + k * 5 + 1, none⟩) hb).trans (hcell _ _ (hget 1 (by decide)))
      have u2 : wr.cell? ⟨b, off + k * 5 + 2, none⟩ = some (.int .i64 tm) := (hBr.cell (p := ⟨b, off + k * 5 + 2, none⟩) hb).trans (hcell _ _ (hget 2 (by decide)))
      have u3 : wr.cell? ⟨b, off + k * 5 + 3, none⟩ = some (.int .i64 tg) := (hBr.cell (p := ⟨b, off + k * 5 + 3, none⟩) hb).trans (hcell _ _ (hget 3 (by decide)))
      have u4 : wr.cell? ⟨b, off + k * 5 + 4, none⟩ = some (.int .i64 tx) := (hBr.cell (p := ⟨b, off + k * 5 + 4, none⟩) hb).trans (hcell _ _ (hget 4 (by decide)))
      have hsz := valid_sz hva
      dsimp only at hsz
      obtain ⟨tt, htt⟩ : ∃ q, textT ⟨te, tp, tm, tg, tx⟩ = q := ⟨_, rfl⟩
      obtain ⟨dd, hdd⟩ : ∃ q, Dig.sum tt.data.toList = q := ⟨_, rfl⟩
      obtain ⟨pp, hpp⟩ : ∃ q, pathL (leavesB seedB 8) (k : Int) = q := ⟨_, rfl⟩
      have hpl : pp.length = 3 := by rw [← hpp]; exact paT_len hlt2
      have Hva := Lib.hid hva
      have Htt := Lib.hid htt
      have Hdd := Lib.hid hdd
      have Hpp := Lib.hid hpp
      have Hpl := Lib.hid hpl
      have Htm := Lib.hid htm
      have Hown := Lib.hid hown
      have Hel := Lib.hid hel
      have Hes := Lib.hid hes
      have Hsz := Lib.hid hsz
      clear hcell hget hkl ht htm hva htt hdd hpp hpl hown hel hes hsz
      go_wp2_with fail
      have hiss := issue_own seedB 3 k 8 (by decide) (Lib.hid rfl) hlt2 (by decide) te tp tm tg tx Hva tt Htt dd Hdd pp Hpp wr Hsz.out.1 Hsz.out.2 (HT.out.go hBr) (HO.out.go hBr)
      rw [Hpl.out] at hiss
      refine hiss.mono ?_
      rintro e w4 ⟨sA, sca, sB, scb, rfl, ha4, hb4, hB4⟩
      clear hiss u0 u1 u2 u3 u4
      go_upto_region 7 with fail
      obtain ⟨V, hV⟩ : ∃ V, V = w4.alloc (.cells #[.string te, .string tp, .int .i64 tm, .int .i64 tg, .int .i64 tx, .int .i64 (k : Int), .slice sA 18 sca, .slice sB 3 scb] 38) := ⟨_, rfl⟩
      obtain ⟨Y, hY⟩ : ∃ x, x = w4.heap.size := ⟨_, rfl⟩
      have gY : V.heap[Y]? = some (.cells #[.string te, .string tp, .int .i64 tm, .int .i64 tg, .int .i64 tx, .int .i64 (k : Int), .slice sA 18 sca, .slice sB 3 scb] 38) := by rw [hV, hY]; exact World.alloc_heap_new _ _
      have hBV : Below w4.heap.size w4 V := by rw [hV]; exact bal (Below.refl _ _) _
      rw [← hV, ← hY]
      clear hV hY
      have y0 : V.cell? ⟨Y, 0, none⟩ = some (.string te) := by rw [Lib.cell_of_heap gY]; rfl
      have y1 : V.cell? ⟨Y, 1, none⟩ = some (.string tp) := by rw [Lib.cell_of_heap gY]; rfl
      have y2 : V.cell? ⟨Y, 2, none⟩ = some (.int .i64 tm) := by rw [Lib.cell_of_heap gY]; rfl
      have y3 : V.cell? ⟨Y, 3, none⟩ = some (.int .i64 tg) := by rw [Lib.cell_of_heap gY]; rfl
      have y4 : V.cell? ⟨Y, 4, none⟩ = some (.int .i64 tx) := by rw [Lib.cell_of_heap gY]; rfl
      have y5 : V.cell? ⟨Y, 5, none⟩ = some (.int .i64 (k : Int)) := by rw [Lib.cell_of_heap gY]; rfl
      have y6 : V.cell? ⟨Y, 6, none⟩ = some (.slice sA 18 sca) := by rw [Lib.cell_of_heap gY]; rfl
      have y7 : V.cell? ⟨Y, 7, none⟩ = some (.slice sB 3 scb) := by rw [Lib.cell_of_heap gY]; rfl
      have hBrV : Below wr.heap.size wr V := bgo hB4 hBV
      have hBwV : Below w.heap.size w V := bgo hBr hBrV
      have ownV := own_below Hown.out hBrV
      have hel2 : IssEl V ⟨te, tp, tm, tg, tx⟩ k ⟨⟨te, tp, tm, tg, tx⟩, (k : Int), sA, 18, sca, sB, 3, scb⟩ := by
        refine ⟨rfl, rfl, rfl, rfl, hlt2, Hva.out, ?_, ?_⟩
        · have := own_mono (own_below ha4 hBV) (Nat.zero_le _)
          unfold chT dgT
          rw [Htt.out, Hdd.out]
          exact this
        · have := own_mono (own_below hb4 hBV) (Nat.zero_le _)
          unfold paT keyP
          rw [Hpp.out]
          exact this
      have HelV := Lib.hid (fun (i : Nat) t x (h1 : ts[i]? = some t) (h2 : es[i]? = some x) => (Hel.out i t x h1 h2).go hBrV)
      have Hel2 := Lib.hid hel2
      have Hob := Lib.hid (fun (b : Nat) (cs : Array Value) (T : TypeId) (fr : Nat × Nat) (h : V.heap[b]? = some (.cells cs T fr)) (hT : T ≠ 38) => own_ne ownV h hT)
      have HV := Lib.hid (And.intro hBwV ownV)
      have hb0 : w.heap.size ≤ V.heap.size := hBwV.size
      have hes1 : es.length = k := Hes.out
      clear gY hBV hB4 ha4 hb4 hel2 hBrV hBwV ownV
      go_wp2_with (first
        | (at_builtin; refine app_src2 (w0 := w) w.heap.size (Nat.le_refl _) ?c0 rfl _ _ 27 rfl 38 j0 _ 8 112 Tryd.underlying27 hj0 hy0 hy1 hy2 rfl (by decide) u7 es.length (es.flatMap elV) rfl (HV.out.2.alloc _) (bal HV.out.1 _) (.slice (some ⟨V.heap.size, 0, none⟩) 1 1) 1 [.string te, .string tp, .int .i64 tm, .int .i64 tg, .int .i64 tx, .int .i64 (k : Int), .slice sA 18 sca, .slice sB 3 scb] rfl (block_src V [.string te, .string tp, .int .i64 tm, .int .i64 tg, .int .i64 tx, .int .i64 (k : Int), .slice sA 18 sca, .slice sB 3 scb] _ _ 1 1 8 rfl) (by simp [Value.oneCell']) (by unfold maxLen; omega) (by omega) ?_)
        | go_in)
      case c0 => first | omega | (simp; omega) | (rw [World.size_alloc]; omega)
      intro v7 w7 own7 bel7 kept7
      have hkeep : ∀ (b : Nat) (cs : Array Value) (T : TypeId) (fr : Nat × Nat), V.heap[b]? = some (.cells cs T fr) → T ≠ 38 → w7.heap[b]? = V.heap[b]? := by
        intro b cs T fr h hT
        have hbl := (Array.getElem?_eq_some_iff.1 h).1
        exact (kept7.2 b (by simp; omega) (Hob.out b cs T fr h hT)).trans (Below.heap_alloc _ _ _ hbl)
      have hfin : ∀ (i : Nat) t x, ts[i]? = some t → (es ++ [⟨⟨te, tp, tm, tg, tx⟩, (k : Int), sA, 18, sca, sB, 3, scb⟩])[i]? = some x → IssEl w7 t i x := by
        intro i t x h1 h2
        by_cases hi : i < es.length
        · rw [List.getElem?_append_left hi] at h2
          exact (HelV.out i t x h1 h2).keep hkeep
        · have hle : es.length ≤ i := Nat.le_of_not_lt hi
          rw [List.getElem?_append_right hle] at h2
          have hi2 : i - es.length = 0 := by
            have := (List.getElem?_eq_some_iff.1 h2).1
            simp at this
            omega
          rw [hi2] at h2
          have hx : _ = x := Option.some.inj h2
          have hik : i = k := by omega
          subst hik
          have ht' : _ = t := Option.some.inj (Htm.out.symm.trans h1)
          rw [← hx, ← ht']
          exact Hel2.out.keep hkeep
      have Hy := Lib.hid (And.intro own7 (And.intro bel7 hfin))
      clear own7 bel7 kept7 hkeep hfin y0 y1 y2 y3 y4 y5 y6 y7
      go_wp2_with fail
      go_roundw
      case rel => exact ⟨k + 1, by omega, by omega, by go_num, es ++ [⟨⟨te, tp, tm, tg, tx⟩, (k : Int), sA, 18, sca, sB, 3, scb⟩], by simp [Hes.out], by (have h := Hy.out.1; rw [List.flatMap_append, List.length_append, hes1]; exact h), Hy.out.2.2, Hy.out.2.1⟩
      case measure => simp [intOf]; omega
    · have hlen : es.length = min ts.length 8 := by rw [hes, Hn.out]; omega
      have Hfin := Lib.hid (And.intro hown (And.intro hlen (And.intro hel hBr)))
      clear hown hlen hel hBr hes
      by_cases hc : k < n
      · have hc1 : (k : Int) < (n : Int) := by omega
        have hc2 : ¬ (k : Int) < 8 := by omega
        go_wp2
        refine bodyPost_ret (v := .tuple #[u7, .int .u64 rt.toNat, .bool true]) (by simp [results, Tryd.results6, go_sem]) rfl ?_
        exact ⟨_, rfl, es, Hfin.out.1, ⟨Hfin.out.2.1, Hfin.out.2.2.1⟩, Hfin.out.2.2.2⟩
      · have hc1 : ¬ (k : Int) < (n : Int) := by omega
        go_wp2
        refine bodyPost_ret (v := .tuple #[u7, .int .u64 rt.toNat, .bool true]) (by simp [results, Tryd.results6, go_sem]) rfl ?_
        exact ⟨_, rfl, es, Hfin.out.1, ⟨Hfin.out.2.1, Hfin.out.2.2.1⟩, Hfin.out.2.2.2⟩
end Go.Proofs.YtpmakhfpdidleaaDoor
