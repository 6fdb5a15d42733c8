/- Arguments that are signatures, opened as plain data; the walk of the law package's leaf. The walks of the reference of merkle, third part: Path, Sides. The walks of the reference of merkle, fourth part: Texts, Verify, Collision. The walks of the reference of onetime: fits, leaves, Key, Leaf, Verify. The walks of the reference of onetime: Key, Leaf, Verify. -/
import Derived.Test.YtfjkmhbipkoefaaGreatDoorQ30
import Derived.Test.YtfjkmhbipkoefaaGreatDoorQ05
import Derived.ChangeSlices
import Derived.Lib.SmallJoins
import Derived.Test.YtfjkmhbipkoefaaGreatDoorQ29
import Derived.Deep.RegionHeld
namespace Go.Proofs.YtfjkmhbipkoefaaGreatDoor
open Go.RowKit Go.ChangeShapes Go.WideShapes Go.Deep Go.Shelf
set_option linter.unusedVariables false
set_option maxRecDepth 100000
/-- A signature as an argument. -/
structure Sgn where
  i : Int
  A : Option Addr
  ca : Nat
  c : List UInt64
  B : Option Addr
  cb : Nat
  p : Forks
def sgnV (q : Sgn) : Value := .agg #[.int .i64 q.i, .slice q.A q.c.length q.ca, .slice q.B q.p.length q.cb]
structure SgnOk (W : World) (q : Sgn) : Prop where
  wf : (Lit.int .i64 q.i).wf = true
  sa : Sl W W.heap.size 1 q.A q.c.length (u64V q.c)
  sb : Sl W W.heap.size 2 q.B q.p.length (forkV q.p)
  la : q.c.length ≤ q.ca ∧ q.ca ≤ maxLen
  lb : q.p.length ≤ q.cb ∧ q.cb ≤ maxLen
theorem SgnOk.go {W W' : World} {q : Sgn} (h : SgnOk W q) (k : Below W.heap.size W W') : SgnOk W' q := ⟨h.wf, h.sa.go k, h.sb.go k, h.la, h.lb⟩
theorem tr_u64s {H : Type} {enc : TypeId × Value → H} {W : World} {n : Nat} {v : Value} {y : DataW H × List MemPlace} (h : DataW.trod enc Tryz.prog W 0 (fun _ => true) true n 31 [v] = some y) :
    ∃ (A : Option Addr) (c : Nat) (l : List UInt64), v = .slice A l.length c ∧ Sl W W.heap.size 1 A l.length (u64V l) ∧ (l.length ≤ c ∧ c ≤ maxLen) := by
  rcases open_ints Tryz.underlying31 Tryz.underlying25 cells_digest h with ⟨hcs, hx⟩ | ⟨a, len, cap, zs, hcs, _, hl, hm, hz, hx, hcell, hws⟩
  · obtain rfl : v = .slice none 0 0 := by simpa using hcs
    exact ⟨none, 0, [], rfl, Sl.nil _ 1, ⟨Nat.le_refl _, Nat.zero_le _⟩⟩
  · obtain rfl : v = .slice (some a) len cap := by simpa using hcs
    simp only [if_true] at hz
    have hlen : ((zs.take len).map fun z => UInt64.ofNat z.toNat).length = len := by rw [List.length_map, List.length_take]; omega
    refine ⟨some a, cap, (zs.take len).map fun z => UInt64.ofNat z.toNat, by rw [hlen], ?_, ⟨by omega, by omega⟩⟩
    refine sl_of_row (by simp [u64V]) (fun _ => Nat.one_pos) ?_
    intro j u hu
    obtain ⟨hj, e⟩ := List.getElem?_eq_some_iff.1 hu
    have hj' : j < len := by simp [u64V] at hj; omega
    have hw := bounds_u64 (hws (zs.getD j 0) (by simp [List.getD, show j < zs.length by omega]))
    rw [hcell j (by omega), ← e]
    simp [u64V, List.getD, show j < zs.length by omega] at hw ⊢
    omega
theorem tr_forks {H : Type} {enc : TypeId × Value → H} {W : World} {n : Nat} {v : Value} {y : DataW H × List MemPlace} (h : DataW.trod enc Tryz.prog W 0 (fun _ => true) true n 32 [v] = some y) :
    ∃ (A : Option Addr) (c : Nat) (l : Forks), v = .slice A l.length c ∧ Sl W W.heap.size 2 A l.length (forkV l) ∧ (l.length ≤ c ∧ c ≤ maxLen) := by
  rcases open_slice_pairs Tryz.underlying32 Tryz.underlying93 cells_fork rfl rfl cells_digest cells_bool h with ⟨hcs, hx⟩ | ⟨a, len, cap, m, n', V0, V1, D0, D1, P0, P1, hcs, _, hl, hm, hmm, hx, hall⟩
  · obtain rfl : v = .slice none 0 0 := by simpa using hcs
    exact ⟨none, 0, [], rfl, Sl.nil _ 2, ⟨Nat.le_refl _, Nat.zero_le _⟩⟩
  · obtain rfl : v = .slice (some a) len cap := by simpa using hcs
    simp only [if_true] at hmm
    subst hmm
    have each : ∀ i, i < m → ∃ x : UInt64 × Bool, V0 i = .int .u64 x.1.toNat ∧ V1 i = .bool x.2 := by
      intro i hi
      obtain ⟨_, _, h0, h1⟩ := hall i hi
      obtain ⟨z, hz, _, hw⟩ := DataW.trod_int Tryz.underlying25 h0
      obtain ⟨b, hb, _⟩ := DataW.trod_bool Tryz.underlying4 h1
      obtain ⟨u, rfl⟩ := u64_of_wf hw
      exact ⟨(u, b), by simpa using hz, by simpa using hb⟩
    obtain ⟨X, hX⟩ := choose_lt each
    have ht : ((List.range len).map X).length = len := by simp
    refine ⟨some a, m, (List.range len).map X, by rw [ht], ?_, ⟨by omega, by omega⟩⟩
    refine sl_of_row (by rw [forkV_len]) (fun _ => by omega) ?_
    intro j u hu
    obtain ⟨hj, e⟩ := List.getElem?_eq_some_iff.1 hu
    rw [forkV_len, ht] at hj
    have hq : j / 2 < len := by omega
    obtain ⟨c0, c1, _, _⟩ := hall (j / 2) (by omega)
    obtain ⟨e0, e1⟩ := hX (j / 2) (by omega)
    have hql : j / 2 < ((List.range len).map X).length := by rw [ht]; exact hq
    by_cases h2 : j % 2 = 0
    · have hjj : j = j / 2 * 2 := by omega
      have g := forkV_get1 ((List.range len).map X) (j / 2) hql
      rw [← hjj, hu] at g
      rw [hjj, c0, e0]
      rw [← Option.some.inj g.symm]
      simp
    · have hjj : j = j / 2 * 2 + 1 := by omega
      have g := forkV_get2 ((List.range len).map X) (j / 2) hql
      rw [← hjj, hu] at g
      rw [hjj, c1, e1]
      rw [← Option.some.inj g.symm]
      simp
theorem open_sig {H : Type} {enc : TypeId × Value → H} {W : World} {base : Nat} {v : Value} {d : DataW H} {p : List MemPlace} (hv : Value.okWide Tryz.prog W .any base 34 v) (h : DataW.Trod enc Tryz.prog W 0 (fun _ => true) true 34 v d p) :
    ∃ q : Sgn, v = sgnV q ∧ SgnOk W q := by
  obtain ⟨v0, v1, v2, y0, y1, y2, n, rfl, _, _, h0, h1, h2⟩ := Joins.open_agg3 Tryz.underlying34 (by kernel_rfl) (by kernel_rfl) hv h
  obtain ⟨i, hi, _, wi⟩ := DataW.trod_int Tryz.underlying3 h0
  obtain rfl : v0 = .int .i64 i := by simpa using hi
  obtain ⟨A, ca, c, rfl, hA, hlA⟩ := tr_u64s h1
  obtain ⟨B, cb, q, rfl, hB, hlB⟩ := tr_forks h2
  exact ⟨⟨i, A, ca, c, B, cb, q⟩, rfl, wi, hA, hB, hlA, hlB⟩
def climbB (c : List UInt64) (d : UInt64) (k : Nat) : ByteArray := bytesOf (On.climbTo c d k)
theorem climbB_size (c : List UInt64) (d : UInt64) (k : Nat) : (climbB c d k).size = 16 * k := by rw [climbB, bytesOf_size, On.climbTo_len]
theorem climbB_snoc (c : List UInt64) (d : UInt64) (k : Nat) (y : UInt64) (h : On.steps (15 - On.dg d k) (c.getD k 0) = y) : climbB c d k ++ textB y = climbB c d (k + 1) := by
  apply WideShapes.bytes_inj
  rw [app_data]
  show On.climbTo c d k ++ Dig.text y = On.climbTo c d k ++ Dig.text _
  rw [h]
end Go.Proofs.YtfjkmhbipkoefaaGreatDoor
namespace Go.Proofs.YtfjkmhbipkoefaaGreatDoor
open Go.RowKit Go.Shelf
set_option linter.unusedVariables false
/-- The row's block is not the one of the list that grows. -/
def Apart (A : Option Addr) (v : Value) : Prop := ∀ b off, A = some ⟨b, off, none⟩ → v.ownBlock ≠ some b
theorem Sl.heap {W W' : World} {size n b off : Nat} {xs : List Value} (h : Sl W W.heap.size size (some ⟨b, off, none⟩) n xs) (hb : W'.heap[b]? = W.heap[b]?) (hs : W.heap.size ≤ W'.heap.size) : Sl W' W'.heap.size size (some ⟨b, off, none⟩) n xs := by
  refine ⟨h.1, fun hn => ?_⟩
  obtain ⟨b', off', e, hB, hc⟩ := h.2 hn
  injection e with e
  injection e with e1 e2 e3
  subst e1 e2
  exact ⟨b, off, rfl, by omega, fun j u hu => (World.cell?_of_block hb).trans (hc j u hu)⟩
theorem own_block_lt {W : World} {base : Nat} {e : TypeId} {size n : Nat} {v : Value} {xs : List Value} (h : W.ownsRow base e size v n xs) (b : Nat) (hb : v.ownBlock = some b) : base ≤ b ∧ b < W.heap.size := h.lt b hb
theorem pathTo_step (l : List UInt64) (i k : Nat) : Mk.pathTo l i (k + 1) = Mk.pathTo l i k ++ Mk.stepOf (Mk.rowN l k) (i / 2 ^ k) := rfl
theorem wrong_at' (A : Option Addr) (n c : Nat) (w : World) (e : Int) (hn : n ≤ maxLen) (he : checkE n = e) : Calls Tryz.prog 59 #[.slice A n c] w fun r w' => r = .returned (.int .i64 e) ∧ w = w' := wrong_any A n c w e hn he
set_option maxRecDepth 100000 in
set_option maxHeartbeats 2000000 in
theorem rpath_ok (A : Option Addr) (c : Nat) (ss : List ByteArray) (i : Nat) (w : World) (hA : Sl w w.heap.size 1 A ss.length (strV ss)) (hs : ∀ s ∈ ss, s.size ≤ 140737488355328) (h2 : ss.length ≤ 1024) (hi : i < ss.length) :
    Calls Tryz.prog 30 #[.slice A ss.length c, .int .i64 (i : Int)] w fun e w' => ∃ v, e = .returned (.tuple #[v, .int .i64 0]) ∧ w'.ownsRow w.heap.size 93 2 v (Mk.pathF 10 (leavesD ss) i).length (forkV (Mk.pathF 10 (leavesD ss) i)) ∧ Below w.heap.size w w' := by
  obtain ⟨i0, hj0, hz0, hz1, hz2⟩ := info_parts info_fork
  have hok := checkE_ok ss.length (by omega) h2
  have Hok := Lib.hid hok
  have HA := Lib.hid hA
  have Hs := Lib.hid hs
  clear hok hA hs
  have hi1 : ¬ ((i : Int) < 0) := by omega
  have hi2 : ¬ ((ss.length : Int) ≤ (i : Int)) := by omega
  go_enter Tryz.func30, Tryz.ntmps30
  go_wp2_with fail
  refine (wrong_any _ _ _ _ 0 (by unfold maxLen; omega) Hok.out).mono ?_
  rintro e w' ⟨rfl, rfl⟩
  go_wp2_with fail
  refine (rfirst_any _ _ _ _ HA.out Hs.out h2).mono ?_
  rintro e w1 ⟨v, rfl, hown1, hB1⟩
  have HO := Lib.hid hown1
  clear hown1
  go_wp2
  go_loopw [1, 7, 8] (fun vi vo v wx => ∃ (k n q : Nat) (A : Option Addr) (c : Nat), vi = .int .i64 (q : Int) ∧ q = i / 2 ^ k ∧ v = .slice A n c ∧ (Mk.rowN (leavesD ss) k).length = n ∧ q < n ∧ n ≤ 1024 ∧ (∀ j, j < k → 1 < (Mk.rowN (leavesD ss) j).length) ∧ Sl wx wx.heap.size 1 A n (u64V (Mk.rowN (leavesD ss) k)) ∧ wx.ownsRow w.heap.size 93 2 vo (Mk.pathTo (leavesD ss) i k).length (forkV (Mk.pathTo (leavesD ss) i k)) ∧ Apart A vo ∧ Below w.heap.size w wx) (fun _ _ v _ => sliceLen v)
  case atStart =>
    obtain ⟨A1, c1, hv, hS⟩ := own_slice HO.out
    exact ⟨0, ss.length, i, A1, c1, rfl, by simp, hv, leavesD_len ss, hi, h2, fun j hj => absurd hj (Nat.not_lt_zero j), hS, ⟨rfl, .inl ⟨rfl, rfl⟩⟩, fun b off e h => by simp [Value.ownBlock] at h, hB1⟩
  case round =>
    clear HO hB1 hi1 hi2
    obtain ⟨k, n, q, A1, c1, rfl, hq, rfl, hkn, hqn, hn2, hj, hS, hown, hap, hB⟩ := hrel
    obtain ⟨R, hR⟩ : ∃ R, Mk.rowN (leavesD ss) k = R := ⟨_, rfl⟩
    have hps := pathTo_step (leavesD ss) i k
    obtain ⟨P, hP⟩ : ∃ P, Mk.pathTo (leavesD ss) i k = P := ⟨_, rfl⟩
    rw [hP] at hown hps
    rw [hR] at hkn hS hps
    rw [← hq] at hps
    have hk10 : k ≤ 10 := rows_bound _ (by rw [leavesD_len]; exact h2) k hj
    have hPl : P.length ≤ 10 := by rw [← hP]; exact Nat.le_trans (pathTo_len _ _ _) hk10
    have F := Lib.hid (And.intro hps (And.intro hR (And.intro hkn (And.intro hj (And.intro hq hP)))))
    have HS := Lib.hid hS
    have Hown := Lib.hid hown
    have Hap := Lib.hid hap
    clear hS hj hR hkn hps hq hown hap hP
    have hq0 : (0 : Int) ≤ (q : Int) := Int.natCast_nonneg _
    by_cases hgt : 1 < n
    · have hgt' : (1 : Int) < (n : Int) := by omega
      obtain ⟨b, off, rfl, hb, hcell0⟩ := (HS.out).2 (by omega)
      have hcell : ∀ j, j < n → wr.cell? ⟨b, off + j, none⟩ = some (.int .u64 (R.getD j 0).toNat) := fun j hj => hcell0 j _ (u64V_get R j (by rw [F.out.2.2.1]; exact hj))
      clear hcell0
      have hnext : ∀ (W : World) (vo : Value), Sl W W.heap.size 1 (some ⟨b, off, none⟩) n (u64V R) → W.ownsRow w.heap.size 93 2 vo (Mk.pathTo (leavesD ss) i (k + 1)).length (forkV (Mk.pathTo (leavesD ss) i (k + 1))) → ∀ W2 v, W2.ownsRow W.heap.size 25 1 v (Mk.nextRow R).length (u64V (Mk.nextRow R)) → Below W.heap.size W W2 → Below w.heap.size w W → (∃ (k' n' q' : Nat) (A : Option Addr) (c : Nat), (.int .i64 ((q : Int) / 2) : Value) = .int .i64 (q' : Int) ∧ q' = i / 2 ^ k' ∧ v = .slice A n' c ∧ (Mk.rowN (leavesD ss) k').length = n' ∧ q' < n' ∧ n' ≤ 1024 ∧ (∀ j, j < k' → 1 < (Mk.rowN (leavesD ss) j).length) ∧ Sl W2 W2.heap.size 1 A n' (u64V (Mk.rowN (leavesD ss) k')) ∧ W2.ownsRow w.heap.size 93 2 vo (Mk.pathTo (leavesD ss) i k').length (forkV (Mk.pathTo (leavesD ss) i k')) ∧ Apart A vo ∧ Below w.heap.size w W2) ∧ sliceLen v < n := by
        intro W vo hSW howo W2 v hown2 hB2 hBW
        obtain ⟨hps, hR, hkn, hj, hq, hP⟩ := F.out
        have hrow : Mk.rowN (leavesD ss) (k + 1) = Mk.nextRow R := by rw [Mk.rowN, hR]
        have hnl := Mk.nextRow_length R
        obtain ⟨A2, c2, hv, hS2⟩ := own_slice hown2
        refine ⟨⟨k + 1, (Mk.nextRow R).length, q / 2, A2, c2, by rw [show (q : Int) / 2 = ((q / 2 : Nat) : Int) by omega], by rw [hq, Nat.pow_succ, Nat.div_div_eq_div_mul], hv, by rw [hrow], by omega, by omega, ?_, by rw [hrow]; exact hS2, own_below howo hB2, ?_, bgo hBW hB2⟩, by rw [own_len hown2]; omega⟩
        · intro j hj'
          rcases Nat.lt_succ_iff_lt_or_eq.1 hj' with h | h
          · exact hj j h
          · rw [h, hR, hkn]; exact hgt
        · intro b' off' e h
          have h1 := (howo.lt b' h).2
          have h2 := (hown2.lt b' (by rw [hv, e]; rfl)).1
          omega
      have Hnext := Lib.hid hnext
      clear hnext
      by_cases hodd : q % 2 = 1
      · have hd1 : (((q : Int) % 2) == 1) = true := by simp; omega
        have hc := hcell (q - 1) (by omega)
        have hstep : Mk.stepOf R q = [(R.getD (q - 1) 0, true)] := by unfold Mk.stepOf; rw [if_pos hodd]
        obtain ⟨x, hx⟩ : ∃ x, R.getD (q - 1) 0 = x := ⟨_, rfl⟩
        rw [hx] at hc hstep
        have Hstep := Lib.hid hstep
        have hqt : ((q : Int) - 1).toNat = q - 1 := by omega
        have hq1 : (1 : Int) ≤ (q : Int) := by omega
        have hq2 : (q : Int) - 1 < (n : Int) := by omega
        clear hcell hx hstep
        go_wp2_with (at_builtin; refine app_one rfl _ _ 32 rfl 93 i0 (.agg #[.int .u64 0, .bool false]) 2 16 Tryz.underlying32 hj0 hz0 hz1 hz2 rfl (by decide) _ P.length _ rfl Hown.out hB [.int .u64 x.toNat, .bool true] _ _ rfl rfl (by simp [Value.oneCell']) (by unfold maxLen; omega) (by omega) ?_)
        intro v2 w2 hown2 hB2 hoth
        have hS2 : Sl w2 w2.heap.size 1 (some ⟨b, off, none⟩) n (u64V R) := HS.out.heap (hoth.2 b hb (Hap.out b off rfl)) hoth.1
        have howo : w2.ownsRow w.heap.size 93 2 v2 (Mk.pathTo (leavesD ss) i (k + 1)).length (forkV (Mk.pathTo (leavesD ss) i (k + 1))) := by
          rw [F.out.1, Hstep.out, forkV_snoc, List.length_append]
          exact hown2
        have G := Lib.hid (And.intro hS2 howo)
        clear hS2 howo hown2 hoth hc
        go_wp2_with fail
        refine (rnext_at _ _ n R _ F.out.2.2.1 G.out.1 hn2).mono ?_
        rintro e w3 ⟨v3, rfl, hown3, hB3⟩
        obtain ⟨hrel, hmea⟩ := Hnext.out w2 v2 G.out.1 G.out.2 w3 v3 hown3 hB3 hB2
        have HX := Lib.hid (And.intro hrel hmea)
        clear hrel hmea hown3 hB3
        go_wp2
        go_roundw
        case rel => exact HX.out.1
        case measure => exact HX.out.2
      · have hd1 : (((q : Int) % 2) == 1) = false := by simp; omega
        by_cases hmore : q + 1 < n
        · have hc := hcell (q + 1) hmore
          have hstep : Mk.stepOf R q = [(R.getD (q + 1) 0, false)] := by unfold Mk.stepOf; rw [if_neg hodd, if_pos (by rw [F.out.2.2.1]; exact hmore)]
          obtain ⟨x, hx⟩ : ∃ x, R.getD (q + 1) 0 = x := ⟨_, rfl⟩
          rw [hx] at hc hstep
          have Hstep := Lib.hid hstep
          have hqt : ((q : Int) + 1).toNat = q + 1 := by omega
          have hq2 : (q : Int) + 1 < (n : Int) := by omega
          clear hcell hx hstep
          go_wp2_with (at_builtin; refine app_one rfl _ _ 32 rfl 93 i0 (.agg #[.int .u64 0, .bool false]) 2 16 Tryz.underlying32 hj0 hz0 hz1 hz2 rfl (by decide) _ P.length _ rfl Hown.out hB [.int .u64 x.toNat, .bool false] _ _ rfl rfl (by simp [Value.oneCell']) (by unfold maxLen; omega) (by omega) ?_)
          intro v2 w2 hown2 hB2 hoth
          have hS2 : Sl w2 w2.heap.size 1 (some ⟨b, off, none⟩) n (u64V R) := HS.out.heap (hoth.2 b hb (Hap.out b off rfl)) hoth.1
          have howo : w2.ownsRow w.heap.size 93 2 v2 (Mk.pathTo (leavesD ss) i (k + 1)).length (forkV (Mk.pathTo (leavesD ss) i (k + 1))) := by
            rw [F.out.1, Hstep.out, forkV_snoc, List.length_append]
            exact hown2
          have G := Lib.hid (And.intro hS2 howo)
          clear hS2 howo hown2 hoth hc
          go_wp2_with fail
          refine (rnext_at _ _ n R _ F.out.2.2.1 G.out.1 hn2).mono ?_
          rintro e w3 ⟨v3, rfl, hown3, hB3⟩
          obtain ⟨hrel, hmea⟩ := Hnext.out w2 v2 G.out.1 G.out.2 w3 v3 hown3 hB3 hB2
          have HX := Lib.hid (And.intro hrel hmea)
          clear hrel hmea hown3 hB3
          go_wp2
          go_roundw
          case rel => exact HX.out.1
          case measure => exact HX.out.2
        · have hd2 : decide ((q : Int) + 1 < (n : Int)) = false := decide_eq_false (by omega)
          have hstep : Mk.stepOf R q = [] := by unfold Mk.stepOf; rw [if_neg hodd, if_neg (by rw [F.out.2.2.1]; exact hmore)]
          have howo : wr.ownsRow w.heap.size 93 2 u7 (Mk.pathTo (leavesD ss) i (k + 1)).length (forkV (Mk.pathTo (leavesD ss) i (k + 1))) := by
            rw [F.out.1, hstep, List.append_nil]
            exact Hown.out
          have G := Lib.hid howo
          clear howo hstep hcell
          go_wp2_with fail
          refine (rnext_at _ _ n R _ F.out.2.2.1 HS.out hn2).mono ?_
          rintro e w3 ⟨v3, rfl, hown3, hB3⟩
          obtain ⟨hrel, hmea⟩ := Hnext.out wr u7 HS.out G.out w3 v3 hown3 hB3 hB
          have HX := Lib.hid (And.intro hrel hmea)
          clear hrel hmea hown3 hB3
          go_wp2
          go_roundw
          case rel => exact HX.out.1
          case measure => exact HX.out.2
    · have hgt' : decide ((1 : Int) < (n : Int)) = false := decide_eq_false (by omega)
      have hfin : Mk.pathF 10 (leavesD ss) i = P := by
        obtain ⟨hps, hR, hkn, hj, hq, hP⟩ := F.out
        rw [Mk.path_row k 10 (leavesD ss) i hk10 (by rw [hR, hkn]; omega) hj (by rw [leavesD_len]; exact hi), hps]
        have : Mk.stepOf R q = [] := by unfold Mk.stepOf; rw [if_neg (by omega), if_neg (by rw [hkn]; omega)]
        rw [this, List.append_nil]
      have Hfin := Lib.hid hfin
      clear hfin
      go_wp2
      go_ret2
      rw [Hfin.out]
      exact ⟨_, rfl, Hown.out, hB⟩
set_option maxRecDepth 100000 in
theorem rpath_any (A : Option Addr) (c : Nat) (ss : List ByteArray) (i : Int) (w : World) (hA : Sl w w.heap.size 1 A ss.length (strV ss)) (hs : ∀ s ∈ ss, s.size ≤ 140737488355328) (hl : ss.length ≤ maxLen) :
    Calls Tryz.prog 30 #[.slice A ss.length c, .int .i64 i] w fun e w' => ∃ v, e = .returned (.tuple #[v, .int .i64 (pathE ss.length i)]) ∧ w'.ownsRow w.heap.size 93 2 v (pathL ss i).length (forkV (pathL ss i)) ∧ Below w.heap.size w w' := by
  by_cases hok : checkE ss.length = 0
  · have h1 : 1 ≤ ss.length ∧ ss.length ≤ 1024 := by
      unfold checkE at hok
      split at hok
      · cases hok
      · split at hok
        · cases hok
        · omega
    by_cases hi : 0 ≤ i ∧ i < ss.length
    · obtain ⟨j, rfl⟩ : ∃ j : Nat, i = (j : Int) := ⟨i.toNat, by omega⟩
      rw [pathE_ok ss.length j h1.2 (by omega), pathL_ok ss j h1.2 (by omega)]
      exact rpath_ok A c ss j w hA hs h1.2 (by omega)
    · have he : pathE ss.length i = 1 := by unfold pathE; rw [if_pos hok, if_neg hi]
      have hp : pathL ss i = [] := by unfold pathL; rw [if_neg (by rw [he]; decide)]
      rw [he, hp]
      have Hok := Lib.hid hok
      clear he hp hok
      by_cases hneg : i < 0
      · go_enter Tryz.func30, Tryz.ntmps30
        go_wp2_with fail
        refine (wrong_any _ _ _ _ 0 hl Hok.out).mono ?_
        rintro e w' ⟨rfl, rfl⟩
        go_wp2_with fail
        go_ret2
        exact ⟨_, rfl, ⟨rfl, .inl ⟨rfl, rfl⟩⟩, Below.refl _ _⟩
      · have hge : (ss.length : Int) ≤ i := by omega
        go_enter Tryz.func30, Tryz.ntmps30
        go_wp2_with fail
        refine (wrong_any _ _ _ _ 0 hl Hok.out).mono ?_
        rintro e w' ⟨rfl, rfl⟩
        go_wp2_with fail
        go_ret2
        exact ⟨_, rfl, ⟨rfl, .inl ⟨rfl, rfl⟩⟩, Below.refl _ _⟩
  · have he : pathE ss.length i = checkE ss.length := by unfold pathE; rw [if_neg hok]
    have hp : pathL ss i = [] := by unfold pathL; rw [if_neg (by rw [he]; exact hok)]
    rw [he, hp]
    obtain ⟨e, hee⟩ : ∃ e, checkE ss.length = e := ⟨_, rfl⟩
    rw [hee] at hok ⊢
    have hne : (e != 0) = true := by simpa using hok
    have He := Lib.hid hee
    clear he hp hok hee
    go_enter Tryz.func30, Tryz.ntmps30
    go_wp2_with fail
    refine (wrong_any _ _ _ _ e hl He.out).mono ?_
    rintro e w' ⟨rfl, rfl⟩
    go_wp2_with fail
    go_ret2
    exact ⟨_, rfl, ⟨rfl, .inl ⟨rfl, rfl⟩⟩, Below.refl _ _⟩
end Go.Proofs.YtfjkmhbipkoefaaGreatDoor
namespace Go.Proofs.YtfjkmhbipkoefaaGreatDoor
open Go.RowKit Go.Shelf
set_option linter.unusedVariables false
theorem climbS_last (s : ByteArray) (hs : s.size ≤ 140737488355328) (p : Forks) : ∃ t, (climbS s p)[p.length]? = some t ∧ Dig.sum t.data.toList = Mk.climbD (Mk.leafD s.data.toList) p ∧ t.size ≤ maxLen := by
  obtain ⟨t, ht⟩ : ∃ t, (climbS s p)[p.length]? = some t := ⟨_, List.getElem?_eq_getElem (by rw [climbS_len]; omega)⟩
  refine ⟨t, ht, ?_, climbS_size s hs p t (List.mem_of_getElem? ht)⟩
  rcases List.eq_nil_or_concat p with rfl | ⟨q, x, rfl⟩
  · simp [climbS, Mk.climbT] at ht
    rw [← ht]; rfl
  · rw [List.concat_eq_append] at ht ⊢
    rw [climbS_snoc, List.length_append, List.getElem?_append_right (by rw [climbS_len]; simp), climbS_len] at ht
    simp at ht
    rw [← ht, bytesOf_data, Mk.sum_upT]
    simp [Mk.climbD]
def TextsOut (w : World) (n i : Int) (s : ByteArray) (p : Forks) (e : Ending) (w' : World) : Prop :=
  ∃ v, e = .returned (.tuple #[v, .bool (properB n i p)]) ∧ (properB n i p = true → w'.ownsRow w.heap.size 9 1 v (p.length + 1) (strV (climbS s p))) ∧ Below w.heap.size w w'
theorem texts_no {w w' : World} {n i : Int} {s : ByteArray} {p : Forks} (h : ¬ (sidesOk n i ∧ sidesL n i = p.map (·.2))) (hB : Below w.heap.size w w') : TextsOut w n i s p (.returned (.tuple #[.slice none 0 0, .bool false])) w' := by
  have hf : properB n i p = false := decide_eq_false h
  exact ⟨_, by rw [hf], (fun e => by rw [hf] at e; cases e), hB⟩
theorem base_mono {W : World} {B B' : Nat} {e : TypeId} {size n : Nat} {v : Value} {xs : List Value} (h : W.ownsRow B e size v n xs) (hb : B' ≤ B) : W.ownsRow B' e size v n xs := by
  refine ⟨h.1, ?_⟩
  rcases h.2 with h0 | ⟨g, cap, cur, hv, h1, h2⟩
  · exact .inl h0
  · exact .inr ⟨g, cap, cur, hv, by omega, h2⟩
theorem sidesL_le (n i : Int) : (sidesL n i).length ≤ 10 := sidesL_len n i
end Go.Proofs.YtfjkmhbipkoefaaGreatDoor
namespace Go.Proofs.YtfjkmhbipkoefaaGreatDoor
open Go.RowKit Go.Shelf
set_option linter.unusedVariables false
set_option linter.unusedSimpArgs false
set_option maxRecDepth 100000
theorem rfits_any (seed : ByteArray) (h : Int) (w : World) (hs : seed.size ≤ maxLen) : Calls Tryz.prog 62 #[.string seed, .int .i64 h] w fun e w' => e = .returned (.bool (okB seed h)) ∧ w = w' := by
  unfold maxLen at hs
  by_cases h1 : seed.size ≤ 64
  · have h1' : (seed.size : Int) ≤ 64 := by omega
    by_cases h2 : 0 ≤ h
    · by_cases h3 : h ≤ 8
      · have e : okB seed h = true := decide_eq_true ⟨h1, h2, h3⟩
        rw [e]
        clear e
        go_enter Tryz.func62, Tryz.ntmps62
        go_wp2
        go_ret
        exact ⟨rfl, rfl⟩
      · have e : okB seed h = false := decide_eq_false (fun k => h3 k.2.2)
        rw [e]
        clear e
        go_enter Tryz.func62, Tryz.ntmps62
        go_wp2
        go_ret
        exact ⟨rfl, rfl⟩
    · have e : okB seed h = false := decide_eq_false (fun k => h2 k.2.1)
      rw [e]
      clear e
      go_enter Tryz.func62, Tryz.ntmps62
      go_wp2
      go_ret
      exact ⟨rfl, rfl⟩
  · have e : okB seed h = false := decide_eq_false (fun k => h1 k.1)
    rw [e]
    clear e
    have h1' : ¬ ((seed.size : Int) ≤ 64) := by omega
    go_enter Tryz.func62, Tryz.ntmps62
    go_wp2
    go_ret
    exact ⟨rfl, rfl⟩
def leafOB (seed : ByteArray) (i : Int) (k : Nat) : ByteArray := bytesOf (On.leafTo seed.data.toList i k)
theorem leafOB_size (seed : ByteArray) (i : Int) (k : Nat) : (leafOB seed i k).size = 16 * k := by rw [leafOB, bytesOf_size, On.leafTo_len]
theorem leafOB_snoc (seed : ByteArray) (i : Int) (k : Nat) (y : UInt64) (h : On.steps 15 (On.secret seed.data.toList i (k : Nat)) = y) : leafOB seed i k ++ textB y = leafOB seed i (k + 1) := by
  apply WideShapes.bytes_inj
  rw [app_data]
  show On.leafTo seed.data.toList i k ++ Dig.text y = On.leafTo seed.data.toList i k ++ Dig.text _
  rw [h]
set_option maxHeartbeats 4000000 in
theorem roleaves_any (seed : ByteArray) (h n : Nat) (hh : h ≤ 8) (hn : 2 ^ h = n) (hs : seed.size ≤ 100) (w : World) (hT : OTabs w) :
    Calls Tryz.prog 66 #[.string seed, .int .i64 (h : Int)] w fun e w' => ∃ v, e = .returned v ∧ w'.ownsRow w.heap.size 9 1 v n (strV (leavesB seed n)) ∧ Below w.heap.size w w' := by
  obtain ⟨i0, hi0, hz0, hz1, hz2⟩ := info_parts info_string
  have hn256 : n ≤ 256 := by
    rw [← hn]
    exact Nat.pow_le_pow_right (by omega) hh
  have eN : (2 : Int) ^ h = (n : Int) := by rw [← hn, Int.natCast_pow]; rfl
  have hw : wrap64 (2 ^ h) = (n : Int) := by rw [eN, IntWalk.wrap64_in _ (by omega)]
  have hw' : IntKind.i64.wrap (2 ^ h) = (n : Int) := by rw [eN, IntWalk.i64_in _ (by omega)]
  have Hn := Lib.hid hn
  clear hn eN
  go_enter Tryz.func66, Tryz.ntmps66
  go_wp2
  go_loopw [5, 6] (fun v i wr => ∃ k : Nat, k ≤ n ∧ i = .int .i64 k ∧ wr.ownsRow w.heap.size 9 1 v k (strV (leavesB seed k)) ∧ Below w.heap.size w wr) (fun _ i _ => n - (intOf i).toNat)
  case atStart => exact ⟨0, Nat.zero_le _, rfl, ⟨rfl, .inl ⟨rfl, rfl⟩⟩, Below.refl _ _⟩
  case round =>
    obtain ⟨W0, hW0⟩ : ∃ W0, W0 = wr := ⟨_, rfl⟩
    subst hW0
    obtain ⟨k, hk, rfl, hown, hB⟩ := hrel
    have Hown := Lib.hid hown
    have hT1 := hT.go hB
    clear hown
    by_cases hlt : k < n
    · have hlt' : (k : Int) < (n : Int) := by omega
      have hd1 : decide ((k : Int) < (n : Int)) = true := decide_eq_true hlt'
      go_wp2
      go_loopw [7, 8] (fun s i wx => ∃ j : Nat, j ≤ 18 ∧ i = .int .i64 j ∧ s = .string (leafOB seed (k : Int) j) ∧ Below W0.heap.size W0 wx) (fun _ i _ => 18 - (intOf i).toNat)
      case atStart => exact ⟨0, by omega, rfl, rfl, Below.refl _ _⟩
      case round =>
        obtain ⟨j, hj, rfl, rfl, hBx⟩ := hrel
        have hT2 := hT1.go hBx
        obtain ⟨s, hs'⟩ : ∃ s, leafOB seed (k : Int) j = s := ⟨_, rfl⟩
        have hss : s.size = 16 * j := by rw [← hs', leafOB_size]
        rw [hs']
        have Hs := Lib.hid hs'
        clear hs'
        by_cases hj18 : j < 18
        · have hj' : (j : Int) < 18 := by omega
          obtain ⟨x, hx⟩ : ∃ x, On.secret seed.data.toList (k : Int) (j : Int) = x := ⟨_, rfl⟩
          obtain ⟨y, hy⟩ : ∃ y, On.steps 15 x = y := ⟨_, rfl⟩
          have hap := leafOB_snoc seed (k : Int) j y (by rw [hx]; exact hy)
          have hzz : ¬ (9223372036854775807 < s.size + (textB y).size) := by rw [textB_size, hss]; omega
          have hz1' : (textB y).size = 16 := rfl
          have Hx := Lib.hid hx
          have Hy := Lib.hid hy
          have Hap := Lib.hid hap
          clear hx hy hap hw hw'
          go_wp2_with fail
          refine (rsecret_any seed (k : Int) (j : Int) x Hx _ hT2.2 hs (by omega) (by omega)).mono ?_
          rintro e w1 ⟨rfl, hB1⟩
          go_wp2_with fail
          refine (rsteps_any x 15 y Hy (by omega) _).mono ?_
          rintro e w' ⟨rfl, rfl⟩
          go_wp2_with fail
          refine (rtext_b y _).mono ?_
          rintro e w' ⟨rfl, rfl⟩
          have hB5 := bgo hBx hB1
          go_wp2
          go_roundw
          case rel => exact ⟨j + 1, by omega, by go_num, by rw [← Hap.out, Hs.out], hB5⟩
          case measure => simp [intOf]; omega
        · obtain rfl : j = 18 := by omega
          have Hown2 := Lib.hid (own_below Hown.out hBx)
          have hB3 : Below w.heap.size w wr := bgo hB hBx
          clear hw hw'
          go_wp2_with (at_builtin; refine app_one rfl _ _ 51 rfl 9 i0 _ 1 16 Tryz.underlying51 hi0 hz0 hz1 hz2 rfl (by decide) _ _ _ rfl Hown2.out hB3 [.string s] _ _ rfl rfl ?c1 ?c2 ?c3 ?_)
          case c1 => simp [Value.oneCell']
          case c2 => simp [maxLen]; omega
          case c3 => omega
          intro v' w2 hown2 hB4 _
          have HR := Lib.hid hown2
          clear hown2
          go_wp2
          go_roundw
          case rel =>
            refine ⟨k + 1, by omega, by go_num, ?_, hB4⟩
            rw [leavesB_snoc, show bytesOf (On.leaf seed.data.toList (k : Nat)) = s from Hs.out]
            exact HR.out
          case measure => simp [intOf]; omega
    · obtain rfl : n = k := by omega
      go_wp2
      go_ret
      exact ⟨_, rfl, Hown.out, hB⟩
end Go.Proofs.YtfjkmhbipkoefaaGreatDoor
namespace Go.Proofs.YtfjkmhbipkoefaaGreatDoor
open Go.RowKit Go.Shelf
set_option linter.unusedVariables false
set_option linter.unusedSimpArgs false
set_option maxRecDepth 100000
structure BoxAt25 (W : World) (b : Nat) (i : Int) (A : Option Addr) (n ca : Nat) (B : Option Addr) (m cb : Nat) : Prop where
  lt : b < W.heap.size
  c0 : W.cell? ⟨b, 0, none⟩ = some (.int .i64 i)
  c1 : W.cell? ⟨b, 1, none⟩ = some (.slice A n ca)
  c2 : W.cell? ⟨b, 2, none⟩ = some (.slice B m cb)
theorem boxAt25_of {W : World} {b : Nat} {i : Int} {A : Option Addr} {n ca : Nat} {B : Option Addr} {m cb : Nat} {t : TypeId} {fr : Nat × Nat} (hb : W.heap[b]? = some (.cells #[.int .i64 i, .slice A n ca, .slice B m cb] t fr)) : BoxAt25 W b i A n ca B m cb :=
  ⟨(Array.getElem?_eq_some_iff.1 hb).1, by rw [Lib.cell_of_heap hb]; rfl, by rw [Lib.cell_of_heap hb]; rfl, by rw [Lib.cell_of_heap hb]; rfl⟩
theorem rroot_at (A : Option Addr) (c n : Nat) (ss : List ByteArray) (d : UInt64) (e : Int) (w : World) (hn : ss.length = n) (hd : rootV ss = d) (he : checkE n = e) (hA : Sl w w.heap.size 1 A n (strV ss)) (hs : ∀ s ∈ ss, s.size ≤ 140737488355328) (hl : n ≤ 1100) :
    Calls Tryz.prog 56 #[.slice A n c] w fun r w' => r = .returned (.tuple #[.int .u64 d.toNat, .int .i64 e]) ∧ Below w.heap.size w w' := by
  subst hn hd he
  exact rroot_any A c ss w hA hs (by unfold maxLen; omega)
end Go.Proofs.YtfjkmhbipkoefaaGreatDoor
