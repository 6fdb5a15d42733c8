/- The walks of the reference of merkle, third part: Path, Sides. -/
import Derived.Test.YthgkjcofmkkdcaaDoorMkR2
namespace Go.Proofs.YthgkjcofmkkdcaaDoor
open Go.RowKit Go.Shelf
set_option linter.unusedVariables false
/-- The row's block is not the one of the list that grows. -/
def Apart (A : Option Addr) (v : Value) : Prop := ∀ b off, A = some ⟨b, off, none⟩ → v.ownBlock ≠ some b
theorem Sl.heap {W W' : World} {size n b off : Nat} {xs : List Value} (h : Sl W W.heap.size size (some ⟨b, off, none⟩) n xs) (hb : W'.heap[b]? = W.heap[b]?) (hs : W.heap.size ≤ W'.heap.size) : Sl W' W'.heap.size size (some ⟨b, off, none⟩) n xs := by
  refine ⟨h.1, fun hn => ?_⟩
  obtain ⟨b', off', e, hB, hc⟩ := h.2 hn
  injection e with e
  injection e with e1 e2 e3
  subst e1 e2
  exact ⟨b, off, rfl, by omega, fun j u hu => (World.cell?_of_block hb).trans (hc j u hu)⟩
theorem own_block_lt {W : World} {base : Nat} {e : TypeId} {size n : Nat} {v : Value} {xs : List Value} (h : W.ownsRow base e size v n xs) (b : Nat) (hb : v.ownBlock = some b) : base ≤ b ∧ b < W.heap.size := h.lt b hb
theorem pathTo_step (l : List UInt64) (i k : Nat) : Mk.pathTo l i (k + 1) = Mk.pathTo l i k ++ Mk.stepOf (Mk.rowN l k) (i / 2 ^ k) := rfl
theorem wrong_at' (A : Option Addr) (n c : Nat) (w : World) (e : Int) (hn : n ≤ maxLen) (he : checkE n = e) : Calls Tryd.prog 64 #[.slice A n c] w fun r w' => r = .returned (.int .i64 e) ∧ w = w' := wrong_any A n c w e hn he
set_option maxRecDepth 100000 in
set_option maxHeartbeats 2000000 in
theorem rpath_ok (A : Option Addr) (c : Nat) (ss : List ByteArray) (i : Nat) (w : World) (hA : Sl w w.heap.size 1 A ss.length (strV ss)) (hs : ∀ s ∈ ss, s.size ≤ 140737488355328) (h2 : ss.length ≤ 1024) (hi : i < ss.length) :
    Calls Tryd.prog 46 #[.slice A ss.length c, .int .i64 (i : Int)] w fun e w' => ∃ v, e = .returned (.tuple #[v, .int .i64 0]) ∧ w'.ownsRow w.heap.size 48 2 v (Mk.pathF 10 (leavesD ss) i).length (forkV (Mk.pathF 10 (leavesD ss) i)) ∧ Below w.heap.size w w' := by
  obtain ⟨i0, hj0, hz0, hz1, hz2⟩ := info_parts info_fork
  have hok := checkE_ok ss.length (by omega) h2
  have Hok := Lib.hid hok
  have HA := Lib.hid hA
  have Hs := Lib.hid hs
  clear hok hA hs
  have hi1 : ¬ ((i : Int) < 0) := by omega
  have hi2 : ¬ ((ss.length : Int) ≤ (i : Int)) := by omega
  go_enter Tryd.func46, Tryd.ntmps46
  go_wp2_with fail
  refine (wrong_any _ _ _ _ 0 (by unfold maxLen; omega) Hok.out).mono ?_
  rintro e w' ⟨rfl, rfl⟩
  go_wp2_with fail
  refine (rfirst_any _ _ _ _ HA.out Hs.out h2).mono ?_
  rintro e w1 ⟨v, rfl, hown1, hB1⟩
  have HO := Lib.hid hown1
  clear hown1
  go_wp2
  go_loopw [1, 7, 8] (fun vi vo v wx => ∃ (k n q : Nat) (A : Option Addr) (c : Nat), vi = .int .i64 (q : Int) ∧ q = i / 2 ^ k ∧ v = .slice A n c ∧ (Mk.rowN (leavesD ss) k).length = n ∧ q < n ∧ n ≤ 1024 ∧ (∀ j, j < k → 1 < (Mk.rowN (leavesD ss) j).length) ∧ Sl wx wx.heap.size 1 A n (u64V (Mk.rowN (leavesD ss) k)) ∧ wx.ownsRow w.heap.size 48 2 vo (Mk.pathTo (leavesD ss) i k).length (forkV (Mk.pathTo (leavesD ss) i k)) ∧ Apart A vo ∧ Below w.heap.size w wx) (fun _ _ v _ => sliceLen v)
  case atStart =>
    obtain ⟨A1, c1, hv, hS⟩ := own_slice HO.out
    exact ⟨0, ss.length, i, A1, c1, rfl, by simp, hv, leavesD_len ss, hi, h2, fun j hj => absurd hj (Nat.not_lt_zero j), hS, ⟨rfl, .inl ⟨rfl, rfl⟩⟩, fun b off e h => by simp [Value.ownBlock] at h, hB1⟩
  case round =>
    clear HO hB1 hi1 hi2
    obtain ⟨k, n, q, A1, c1, rfl, hq, rfl, hkn, hqn, hn2, hj, hS, hown, hap, hB⟩ := hrel
    obtain ⟨R, hR⟩ : ∃ R, Mk.rowN (leavesD ss) k = R := ⟨_, rfl⟩
    have hps := pathTo_step (leavesD ss) i k
    obtain ⟨P, hP⟩ : ∃ P, Mk.pathTo (leavesD ss) i k = P := ⟨_, rfl⟩
    rw [hP] at hown hps
    rw [hR] at hkn hS hps
    rw [← hq] at hps
    have hk10 : k ≤ 10 := rows_bound _ (by rw [leavesD_len]; exact h2) k hj
    have hPl : P.length ≤ 10 := by rw [← hP]; exact Nat.le_trans (pathTo_len _ _ _) hk10
    have F := Lib.hid (And.intro hps (And.intro hR (And.intro hkn (And.intro hj (And.intro hq hP)))))
    have HS := Lib.hid hS
    have Hown := Lib.hid hown
    have Hap := Lib.hid hap
    clear hS hj hR hkn hps hq hown hap hP
    have hq0 : (0 : Int) ≤ (q : Int) := Int.natCast_nonneg _
    by_cases hgt : 1 < n
    · have hgt' : (1 : Int) < (n : Int) := by omega
      obtain ⟨b, off, rfl, hb, hcell0⟩ := (HS.out).2 (by omega)
      have hcell : ∀ j, j < n → wr.cell? ⟨b, off + j, none⟩ = some (.int .u64 (R.getD j 0).toNat) := fun j hj => hcell0 j _ (u64V_get R j (by rw [F.out.2.2.1]; exact hj))
      clear hcell0
      have hnext : ∀ (W : World) (vo : Value), Sl W W.heap.size 1 (some ⟨b, off, none⟩) n (u64V R) → W.ownsRow w.heap.size 48 2 vo (Mk.pathTo (leavesD ss) i (k + 1)).length (forkV (Mk.pathTo (leavesD ss) i (k + 1))) → ∀ W2 v, W2.ownsRow W.heap.size 23 1 v (Mk.nextRow R).length (u64V (Mk.nextRow R)) → Below W.heap.size W W2 → Below w.heap.size w W → (∃ (k' n' q' : Nat) (A : Option Addr) (c : Nat), (.int .i64 ((q : Int) / 2) : Value) = .int .i64 (q' : Int) ∧ q' = i / 2 ^ k' ∧ v = .slice A n' c ∧ (Mk.rowN (leavesD ss) k').length = n' ∧ q' < n' ∧ n' ≤ 1024 ∧ (∀ j, j < k' → 1 < (Mk.rowN (leavesD ss) j).length) ∧ Sl W2 W2.heap.size 1 A n' (u64V (Mk.rowN (leavesD ss) k')) ∧ W2.ownsRow w.heap.size 48 2 vo (Mk.pathTo (leavesD ss) i k').length (forkV (Mk.pathTo (leavesD ss) i k')) ∧ Apart A vo ∧ Below w.heap.size w W2) ∧ sliceLen v < n := by
        intro W vo hSW howo W2 v hown2 hB2 hBW
        obtain ⟨hps, hR, hkn, hj, hq, hP⟩ := F.out
        have hrow : Mk.rowN (leavesD ss) (k + 1) = Mk.nextRow R := by rw [Mk.rowN, hR]
        have hnl := Mk.nextRow_length R
        obtain ⟨A2, c2, hv, hS2⟩ := own_slice hown2
        refine ⟨⟨k + 1, (Mk.nextRow R).length, q / 2, A2, c2, by rw [show (q : Int) / 2 = ((q / 2 : Nat) : Int) by omega], by rw [hq, Nat.pow_succ, Nat.div_div_eq_div_mul], hv, by rw [hrow], by omega, by omega, ?_, by rw [hrow]; exact hS2, own_below howo hB2, ?_, bgo hBW hB2⟩, by rw [own_len hown2]; omega⟩
        · intro j hj'
          rcases Nat.lt_succ_iff_lt_or_eq.1 hj' with h | h
          · exact hj j h
          · rw [h, hR, hkn]; exact hgt
        · intro b' off' e h
          have h1 := (howo.lt b' h).2
          have h2 := (hown2.lt b' (by rw [hv, e]; rfl)).1
          omega
      have Hnext := Lib.hid hnext
      clear hnext
      by_cases hodd : q % 2 = 1
      · have hd1 : (((q : Int) % 2) == 1) = true := by simp; omega
        have hc := hcell (q - 1) (by omega)
        have hstep : Mk.stepOf R q = [(R.getD (q - 1) 0, true)] := by unfold Mk.stepOf; rw [if_pos hodd]
        obtain ⟨x, hx⟩ : ∃ x, R.getD (q - 1) 0 = x := ⟨_, rfl⟩
        rw [hx] at hc hstep
        have Hstep := Lib.hid hstep
        have hqt : ((q : Int) - 1).toNat = q - 1 := by omega
        have hq1 : (1 : Int) ≤ (q : Int) := by omega
        have hq2 : (q : Int) - 1 < (n : Int) := by omega
        clear hcell hx hstep
        go_wp2_with (at_builtin; refine app_one rfl _ _ 25 rfl 48 i0 (.agg #[.int .u64 0, .bool false]) 2 16 Tryd.underlying25 hj0 hz0 hz1 hz2 rfl (by decide) _ P.length _ rfl Hown.out hB [.int .u64 x.toNat, .bool true] _ _ rfl rfl (by simp [Value.oneCell']) (by unfold maxLen; omega) (by omega) ?_)
        intro v2 w2 hown2 hB2 hoth
        have hS2 : Sl w2 w2.heap.size 1 (some ⟨b, off, none⟩) n (u64V R) := HS.out.heap (hoth.2 b hb (Hap.out b off rfl)) hoth.1
        have howo : w2.ownsRow w.heap.size 48 2 v2 (Mk.pathTo (leavesD ss) i (k + 1)).length (forkV (Mk.pathTo (leavesD ss) i (k + 1))) := by
          rw [F.out.1, Hstep.out, forkV_snoc, List.length_append]
          exact hown2
        have G := Lib.hid (And.intro hS2 howo)
        clear hS2 howo hown2 hoth hc
        go_wp2_with fail
        refine (rnext_at _ _ n R _ F.out.2.2.1 G.out.1 hn2).mono ?_
        rintro e w3 ⟨v3, rfl, hown3, hB3⟩
        obtain ⟨hrel, hmea⟩ := Hnext.out w2 v2 G.out.1 G.out.2 w3 v3 hown3 hB3 hB2
        have HX := Lib.hid (And.intro hrel hmea)
        clear hrel hmea hown3 hB3
        go_wp2
        go_roundw
        case rel => exact HX.out.1
        case measure => exact HX.out.2
      · have hd1 : (((q : Int) % 2) == 1) = false := by simp; omega
        by_cases hmore : q + 1 < n
        · have hc := hcell (q + 1) hmore
          have hstep : Mk.stepOf R q = [(R.getD (q + 1) 0, false)] := by unfold Mk.stepOf; rw [if_neg hodd, if_pos (by rw [F.out.2.2.1]; exact hmore)]
          obtain ⟨x, hx⟩ : ∃ x, R.getD (q + 1) 0 = x := ⟨_, rfl⟩
          rw [hx] at hc hstep
          have Hstep := Lib.hid hstep
          have hqt : ((q : Int) + 1).toNat = q + 1 := by omega
          have hq2 : (q : Int) + 1 < (n : Int) := by omega
          clear hcell hx hstep
          go_wp2_with (at_builtin; refine app_one rfl _ _ 25 rfl 48 i0 (.agg #[.int .u64 0, .bool false]) 2 16 Tryd.underlying25 hj0 hz0 hz1 hz2 rfl (by decide) _ P.length _ rfl Hown.out hB [.int .u64 x.toNat, .bool false] _ _ rfl rfl (by simp [Value.oneCell']) (by unfold maxLen; omega) (by omega) ?_)
          intro v2 w2 hown2 hB2 hoth
          have hS2 : Sl w2 w2.heap.size 1 (some ⟨b, off, none⟩) n (u64V R) := HS.out.heap (hoth.2 b hb (Hap.out b off rfl)) hoth.1
          have howo : w2.ownsRow w.heap.size 48 2 v2 (Mk.pathTo (leavesD ss) i (k + 1)).length (forkV (Mk.pathTo (leavesD ss) i (k + 1))) := by
            rw [F.out.1, Hstep.out, forkV_snoc, List.length_append]
            exact hown2
          have G := Lib.hid (And.intro hS2 howo)
          clear hS2 howo hown2 hoth hc
          go_wp2_with fail
          refine (rnext_at _ _ n R _ F.out.2.2.1 G.out.1 hn2).mono ?_
          rintro e w3 ⟨v3, rfl, hown3, hB3⟩
          obtain ⟨hrel, hmea⟩ := Hnext.out w2 v2 G.out.1 G.out.2 w3 v3 hown3 hB3 hB2
          have HX := Lib.hid (And.intro hrel hmea)
          clear hrel hmea hown3 hB3
          go_wp2
          go_roundw
          case rel => exact HX.out.1
          case measure => exact HX.out.2
        · have hd2 : decide ((q : Int) + 1 < (n : Int)) = false := decide_eq_false (by omega)
          have hstep : Mk.stepOf R q = [] := by unfold Mk.stepOf; rw [if_neg hodd, if_neg (by rw [F.out.2.2.1]; exact hmore)]
          have howo : wr.ownsRow w.heap.size 48 2 u7 (Mk.pathTo (leavesD ss) i (k + 1)).length (forkV (Mk.pathTo (leavesD ss) i (k + 1))) := by
            rw [F.out.1, hstep, List.append_nil]
            exact Hown.out
          have G := Lib.hid howo
          clear howo hstep hcell
          go_wp2_with fail
          refine (rnext_at _ _ n R _ F.out.2.2.1 HS.out hn2).mono ?_
          rintro e w3 ⟨v3, rfl, hown3, hB3⟩
          obtain ⟨hrel, hmea⟩ := Hnext.out wr u7 HS.out G.out w3 v3 hown3 hB3 hB
          have HX := Lib.hid (And.intro hrel hmea)
          clear hrel hmea hown3 hB3
          go_wp2
          go_roundw
          case rel => exact HX.out.1
          case measure => exact HX.out.2
    · have hgt' : decide ((1 : Int) < (n : Int)) = false := decide_eq_false (by omega)
      have hfin : Mk.pathF 10 (leavesD ss) i = P := by
        obtain ⟨hps, hR, hkn, hj, hq, hP⟩ := F.out
        rw [Mk.path_row k 10 (leavesD ss) i hk10 (by rw [hR, hkn]; omega) hj (by rw [leavesD_len]; exact hi), hps]
        have : Mk.stepOf R q = [] := by unfold Mk.stepOf; rw [if_neg (by omega), if_neg (by rw [hkn]; omega)]
        rw [this, List.append_nil]
      have Hfin := Lib.hid hfin
      clear hfin
      go_wp2
      go_ret2
      rw [Hfin.out]
      exact ⟨_, rfl, Hown.out, hB⟩
set_option maxRecDepth 100000 in
theorem rpath_any (A : Option Addr) (c : Nat) (ss : List ByteArray) (i : Int) (w : World) (hA : Sl w w.heap.size 1 A ss.length (strV ss)) (hs : ∀ s ∈ ss, s.size ≤ 140737488355328) (hl : ss.length ≤ maxLen) :
    Calls Tryd.prog 46 #[.slice A ss.length c, .int .i64 i] w fun e w' => ∃ v, e = .returned (.tuple #[v, .int .i64 (pathE ss.length i)]) ∧ w'.ownsRow w.heap.size 48 2 v (pathL ss i).length (forkV (pathL ss i)) ∧ Below w.heap.size w w' := by
  by_cases hok : checkE ss.length = 0
  · have h1 : 1 ≤ ss.length ∧ ss.length ≤ 1024 := by
      unfold checkE at hok
      split at hok
      · cases hok
      · split at hok
        · cases hok
        · omega
    by_cases hi : 0 ≤ i ∧ i < ss.length
    · obtain ⟨j, rfl⟩ : ∃ j : Nat, i = (j : Int) := ⟨i.toNat, by omega⟩
      rw [pathE_ok ss.length j h1.2 (by omega), pathL_ok ss j h1.2 (by omega)]
      exact rpath_ok A c ss j w hA hs h1.2 (by omega)
    · have he : pathE ss.length i = 1 := by unfold pathE; rw [if_pos hok, if_neg hi]
      have hp : pathL ss i = [] := by unfold pathL; rw [if_neg (by rw [he]; decide)]
      rw [he, hp]
      have Hok := Lib.hid hok
      clear he hp hok
      by_cases hneg : i < 0
      · go_enter Tryd.func46, Tryd.ntmps46
        go_wp2_with fail
        refine (wrong_any _ _ _ _ 0 hl Hok.out).mono ?_
        rintro e w' ⟨rfl, rfl⟩
        go_wp2_with fail
        go_ret2
        exact ⟨_, rfl, ⟨rfl, .inl ⟨rfl, rfl⟩⟩, Below.refl _ _⟩
      · have hge : (ss.length : Int) ≤ i := by omega
        go_enter Tryd.func46, Tryd.ntmps46
        go_wp2_with fail
        refine (wrong_any _ _ _ _ 0 hl Hok.out).mono ?_
        rintro e w' ⟨rfl, rfl⟩
        go_wp2_with fail
        go_ret2
        exact ⟨_, rfl, ⟨rfl, .inl ⟨rfl, rfl⟩⟩, Below.refl _ _⟩
  · have he : pathE ss.length i = checkE ss.length := by unfold pathE; rw [if_neg hok]
    have hp : pathL ss i = [] := by unfold pathL; rw [if_neg (by rw [he]; exact hok)]
    rw [he, hp]
    obtain ⟨e, hee⟩ : ∃ e, checkE ss.length = e := ⟨_, rfl⟩
    rw [hee] at hok ⊢
    have hne : (e != 0) = true := by simpa using hok
    have He := Lib.hid hee
    clear he hp hok hee
    go_enter Tryd.func46, Tryd.ntmps46
    go_wp2_with fail
    refine (wrong_any _ _ _ _ e hl He.out).mono ?_
    rintro e w' ⟨rfl, rfl⟩
    go_wp2_with fail
    go_ret2
    exact ⟨_, rfl, ⟨rfl, .inl ⟨rfl, rfl⟩⟩, Below.refl _ _⟩
set_option maxRecDepth 100000 in
set_option maxHeartbeats 1000000 in
theorem rsides_any (n i : Int) (w : World) (hok : sidesOk n i) :
    Calls Tryd.prog 85 #[.int .i64 n, .int .i64 i] w fun e w' => ∃ v, e = .returned v ∧ w'.ownsRow w.heap.size 4 1 v (sidesL n i).length (boolV (sidesL n i)) ∧ Below w.heap.size w w' := by
  obtain ⟨i0, hj0, hz0, hz1, hz2⟩ := info_parts info_bool
  have hL : sidesL n i = Mk.sidesF 10 n.toNat i.toNat := by unfold sidesL; rw [if_pos hok]
  rw [hL]
  obtain ⟨⟨h1, h2⟩, h3, h4⟩ := hok
  clear hL
  have h1' : ¬ (n < 1) := by omega
  have h2' : ¬ ((1024 : Int) < n) := by omega
  have h3' : ¬ (i < 0) := by omega
  have h4' : ¬ (n ≤ i) := by omega
  go_enter Tryd.func85, Tryd.ntmps85
  go_wp2
  go_loopw [0, 1, 5] (fun vn vi v wr => ∃ (f a b : Nat) (l : List Bool), vn = .int .i64 (a : Int) ∧ vi = .int .i64 (b : Int) ∧ 1 ≤ a ∧ a ≤ 1024 ∧ a ≤ 2 ^ f ∧ b < a ∧ l.length + f ≤ 10 ∧ l ++ Mk.sidesF f a b = Mk.sidesF 10 n.toNat i.toNat ∧ wr.ownsRow w.heap.size 4 1 v l.length (boolV l) ∧ Below w.heap.size w wr) (fun vn _ _ _ => (intOf vn).toNat)
  case atStart => exact ⟨10, n.toNat, i.toNat, [], by rw [Int.toNat_of_nonneg (by omega)], by rw [Int.toNat_of_nonneg h3], by omega, by omega, by omega, by omega, by decide, rfl, ⟨rfl, .inl ⟨rfl, rfl⟩⟩, Below.refl _ _⟩
  case round =>
    obtain ⟨f, a, b, l, rfl, rfl, ha1, ha2, haf, hba, hlf, hS, hown, hB⟩ := hrel
    have HS := Lib.hid hS
    have Hown := Lib.hid hown
    have Haf := Lib.hid haf
    clear hS hown haf h1 h2 h3 h4 h1' h2' h3' h4'
    by_cases hgt : 1 < a
    · obtain ⟨f', rfl⟩ : ∃ f', f = f' + 1 := by
        cases f with
        | zero => have := Haf.out; simp at this; omega
        | succ f' => exact ⟨f', rfl⟩
      have hS2 : l ++ (Mk.sideOf a b ++ Mk.sidesF f' ((a + 1) / 2) (b / 2)) = Mk.sidesF 10 n.toNat i.toNat := by rw [← HS.out]; conv => rhs; rw [Mk.sidesF, if_neg (by omega)]
      have hp : (a + 1) / 2 ≤ 2 ^ f' := by have := Haf.out; rw [Nat.pow_succ] at this; omega
      have hda : ((a : Int) + 1) / 2 = (((a + 1) / 2 : Nat) : Int) := by omega
      have hdb : (b : Int) / 2 = ((b / 2 : Nat) : Int) := by omega
      have Hp := Lib.hid hp
      have HS2 := Lib.hid hS2
      have Hda := Lib.hid hda
      have Hdb := Lib.hid hdb
      clear hp hS2 HS Haf hda hdb
      have hb0 : (0 : Int) ≤ (b : Int) := Int.natCast_nonneg _
      have hgd : decide ((1 : Int) < (a : Int)) = true := by simp; omega
      have both : (b % 2 = 1 ∨ b + 1 < a) ∨ ¬ (b % 2 = 1 ∨ b + 1 < a) := Classical.em _
      rcases both with hside | hside
      · have hsd : Mk.sideOf a b = [decide (b % 2 = 1)] := by unfold Mk.sideOf; rw [if_pos hside]
        have hbit : (((b : Int) % 2) == 1) = decide (b % 2 = 1) := by
          by_cases h : b % 2 = 1
          · rw [decide_eq_true h]; simp; omega
          · rw [decide_eq_false h]; simp; omega
        have hor : (decide (b % 2 = 1) = true) ∨ (decide (b % 2 = 1) = false ∧ decide ((b : Int) + 1 < (a : Int)) = true) := by
          by_cases h : b % 2 = 1
          · exact .inl (decide_eq_true h)
          · exact .inr ⟨decide_eq_false h, by simp; omega⟩
        have Hbit := Lib.hid hbit
        have Hsd := Lib.hid hsd
        obtain ⟨bt, hbt⟩ : ∃ bt, bt = decide (b % 2 = 1) := ⟨_, rfl⟩
        rw [← hbt] at hor hbit hsd
        have Hbt := Lib.hid hbt
        clear hside hbt Hbit Hsd
        have HSd := Lib.hid hsd
        clear hsd
        rcases hor with hq | ⟨hq, hq2⟩
        · subst hq
          go_wp2_with (at_builtin; refine wpList_append_own _ rfl _ _ 109 rfl w.heap.size 4 i0 (.bool false) 1 1 Tryd.underlying109 hj0 hz0 hz1 hz2 rfl (by decide) _ _ _ rfl (Hown.out.alloc _) ⟨wr.heap.size, 0, none⟩ 1 1 [.bool true] rfl rfl ?c1 ?c2 ?c3 ?c4 ?c5 ?_)
          case c1 => exact cell_one_new _ _ _
          case c2 => simp [Value.oneCell']
          case c3 => simp [maxLen]; omega
          case c4 => omega
          case c5 => have := hB.size; simp; omega
          intro v' w1 hown1 hg1 _
          have hB1 : Below w.heap.size w w1 := (hB.alloc hB.size _).grown hg1 (by have := hB.size; simp; omega) (fun k hk => (Hown.out.lt k hk).1)
          have HR := Lib.hid hown1
          clear hown1 hg1
          go_wp2
          go_roundw
          case rel => exact ⟨f', (a + 1) / 2, b / 2, l ++ [true], by rw [← Hda.out], by rw [← Hdb.out], by omega, by omega, Hp.out, by omega, by simp; omega, by rw [← HS2.out, HSd.out, List.append_assoc], by rw [List.length_append]; have := HR.out; simpa [boolV] using this, hB1⟩
          case measure => simp [intOf]; omega
        · subst hq
          go_wp2_with (at_builtin; refine wpList_append_own _ rfl _ _ 109 rfl w.heap.size 4 i0 (.bool false) 1 1 Tryd.underlying109 hj0 hz0 hz1 hz2 rfl (by decide) _ _ _ rfl (Hown.out.alloc _) ⟨wr.heap.size, 0, none⟩ 1 1 [.bool false] rfl rfl ?c1 ?c2 ?c3 ?c4 ?c5 ?_)
          case c1 => exact cell_one_new _ _ _
          case c2 => simp [Value.oneCell']
          case c3 => simp [maxLen]; omega
          case c4 => omega
          case c5 => have := hB.size; simp; omega
          intro v' w1 hown1 hg1 _
          have hB1 : Below w.heap.size w w1 := (hB.alloc hB.size _).grown hg1 (by have := hB.size; simp; omega) (fun k hk => (Hown.out.lt k hk).1)
          have HR := Lib.hid hown1
          clear hown1 hg1
          go_wp2
          go_roundw
          case rel => exact ⟨f', (a + 1) / 2, b / 2, l ++ [false], by rw [← Hda.out], by rw [← Hdb.out], by omega, by omega, Hp.out, by omega, by simp; omega, by rw [← HS2.out, HSd.out, List.append_assoc], by rw [List.length_append]; have := HR.out; simpa [boolV] using this, hB1⟩
          case measure => simp [intOf]; omega
      · have hsd : Mk.sideOf a b = [] := by unfold Mk.sideOf; rw [if_neg hside]
        have hbit : (((b : Int) % 2) == 1) = false := by simp; omega
        have hq2 : decide ((b : Int) + 1 < (a : Int)) = false := by simp; omega
        have HSd := Lib.hid hsd
        clear hside hsd
        go_wp2
        go_roundw
        case rel => exact ⟨f', (a + 1) / 2, b / 2, l, by rw [← Hda.out], by rw [← Hdb.out], by omega, by omega, Hp.out, by omega, by omega, by rw [← HS2.out, HSd.out, List.nil_append], Hown.out, hB⟩
        case measure => simp [intOf]; omega
    · have hlast : Mk.sidesF f a b = [] := by cases f with
        | zero => rfl
        | succ f' => rw [Mk.sidesF, if_pos (by omega)]
      have hS2 : l = Mk.sidesF 10 n.toNat i.toNat := by rw [← HS.out, hlast, List.append_nil]
      have HS2 := Lib.hid hS2
      have hgd : decide ((1 : Int) < (a : Int)) = false := by simp; omega
      clear hlast hS2 HS Haf
      go_wp2
      go_ret
      rw [← HS2.out]
      exact ⟨_, rfl, Hown.out, hB⟩
end Go.Proofs.YthgkjcofmkkdcaaDoor
