/- Arguments that are signatures, opened as plain data; the walk of the law package's leaf. -/
import Derived.Test.YthgkjcofmkkdcaaDoorOnR1
import Derived.Test.YthgkjcofmkkdcaaDoorMkOpen
import Derived.ChangeSlices
import Derived.Lib.SmallJoins
namespace Go.Proofs.YthgkjcofmkkdcaaDoor
open Go.RowKit Go.ChangeShapes Go.WideShapes Go.Deep Go.Shelf
set_option linter.unusedVariables false
set_option maxRecDepth 100000
/-- A signature as an argument. -/
structure Sgn where
  i : Int
  A : Option Addr
  ca : Nat
  c : List UInt64
  B : Option Addr
  cb : Nat
  p : Forks
def sgnV (q : Sgn) : Value := .agg #[.int .i64 q.i, .slice q.A q.c.length q.ca, .slice q.B q.p.length q.cb]
structure SgnOk (W : World) (q : Sgn) : Prop where
  wf : (Lit.int .i64 q.i).wf = true
  sa : Sl W W.heap.size 1 q.A q.c.length (u64V q.c)
  sb : Sl W W.heap.size 2 q.B q.p.length (forkV q.p)
  la : q.c.length ≤ q.ca ∧ q.ca ≤ maxLen
  lb : q.p.length ≤ q.cb ∧ q.cb ≤ maxLen
theorem SgnOk.go {W W' : World} {q : Sgn} (h : SgnOk W q) (k : Below W.heap.size W W') : SgnOk W' q := ⟨h.wf, h.sa.go k, h.sb.go k, h.la, h.lb⟩
theorem tr_u64s {H : Type} {enc : TypeId × Value → H} {W : World} {n : Nat} {v : Value} {y : DataW H × List MemPlace} (h : DataW.trod enc Tryd.prog W 0 (fun _ => true) true n 24 [v] = some y) :
    ∃ (A : Option Addr) (c : Nat) (l : List UInt64), v = .slice A l.length c ∧ Sl W W.heap.size 1 A l.length (u64V l) ∧ (l.length ≤ c ∧ c ≤ maxLen) := by
  rcases open_ints Tryd.underlying24 Tryd.underlying23 cells_digest h with ⟨hcs, hx⟩ | ⟨a, len, cap, zs, hcs, _, hl, hm, hz, hx, hcell, hws⟩
  · obtain rfl : v = .slice none 0 0 := by simpa using hcs
    exact ⟨none, 0, [], rfl, Sl.nil _ 1, ⟨Nat.le_refl _, Nat.zero_le _⟩⟩
  · obtain rfl : v = .slice (some a) len cap := by simpa using hcs
    simp only [if_true] at hz
    have hlen : ((zs.take len).map fun z => UInt64.ofNat z.toNat).length = len := by rw [List.length_map, List.length_take]; omega
    refine ⟨some a, cap, (zs.take len).map fun z => UInt64.ofNat z.toNat, by rw [hlen], ?_, ⟨by omega, by omega⟩⟩
    refine sl_of_row (by simp [u64V]) (fun _ => Nat.one_pos) ?_
    intro j u hu
    obtain ⟨hj, e⟩ := List.getElem?_eq_some_iff.1 hu
    have hj' : j < len := by simp [u64V] at hj; omega
    have hw := bounds_u64 (hws (zs.getD j 0) (by simp [List.getD, show j < zs.length by omega]))
    rw [hcell j (by omega), ← e]
    simp [u64V, List.getD, show j < zs.length by omega] at hw ⊢
    omega
theorem tr_forks {H : Type} {enc : TypeId × Value → H} {W : World} {n : Nat} {v : Value} {y : DataW H × List MemPlace} (h : DataW.trod enc Tryd.prog W 0 (fun _ => true) true n 25 [v] = some y) :
    ∃ (A : Option Addr) (c : Nat) (l : Forks), v = .slice A l.length c ∧ Sl W W.heap.size 2 A l.length (forkV l) ∧ (l.length ≤ c ∧ c ≤ maxLen) := by
  rcases open_slice_pairs Tryd.underlying25 Tryd.underlying48 cells_fork rfl rfl cells_digest cells_bool h with ⟨hcs, hx⟩ | ⟨a, len, cap, m, n', V0, V1, D0, D1, P0, P1, hcs, _, hl, hm, hmm, hx, hall⟩
  · obtain rfl : v = .slice none 0 0 := by simpa using hcs
    exact ⟨none, 0, [], rfl, Sl.nil _ 2, ⟨Nat.le_refl _, Nat.zero_le _⟩⟩
  · obtain rfl : v = .slice (some a) len cap := by simpa using hcs
    simp only [if_true] at hmm
    subst hmm
    have each : ∀ i, i < m → ∃ x : UInt64 × Bool, V0 i = .int .u64 x.1.toNat ∧ V1 i = .bool x.2 := by
      intro i hi
      obtain ⟨_, _, h0, h1⟩ := hall i hi
      obtain ⟨z, hz, _, hw⟩ := DataW.trod_int Tryd.underlying23 h0
      obtain ⟨b, hb, _⟩ := DataW.trod_bool Tryd.underlying4 h1
      obtain ⟨u, rfl⟩ := u64_of_wf hw
      exact ⟨(u, b), by simpa using hz, by simpa using hb⟩
    obtain ⟨X, hX⟩ := choose_lt each
    have ht : ((List.range len).map X).length = len := by simp
    refine ⟨some a, m, (List.range len).map X, by rw [ht], ?_, ⟨by omega, by omega⟩⟩
    refine sl_of_row (by rw [forkV_len]) (fun _ => by omega) ?_
    intro j u hu
    obtain ⟨hj, e⟩ := List.getElem?_eq_some_iff.1 hu
    rw [forkV_len, ht] at hj
    have hq : j / 2 < len := by omega
    obtain ⟨c0, c1, _, _⟩ := hall (j / 2) (by omega)
    obtain ⟨e0, e1⟩ := hX (j / 2) (by omega)
    have hql : j / 2 < ((List.range len).map X).length := by rw [ht]; exact hq
    by_cases h2 : j % 2 = 0
    · have hjj : j = j / 2 * 2 := by omega
      have g := forkV_get1 ((List.range len).map X) (j / 2) hql
      rw [← hjj, hu] at g
      rw [hjj, c0, e0]
      rw [← Option.some.inj g.symm]
      simp
    · have hjj : j = j / 2 * 2 + 1 := by omega
      have g := forkV_get2 ((List.range len).map X) (j / 2) hql
      rw [← hjj, hu] at g
      rw [hjj, c1, e1]
      rw [← Option.some.inj g.symm]
      simp
theorem open_sig {H : Type} {enc : TypeId × Value → H} {W : World} {base : Nat} {v : Value} {d : DataW H} {p : List MemPlace} (hv : Value.okWide Tryd.prog W .any base 27 v) (h : DataW.Trod enc Tryd.prog W 0 (fun _ => true) true 27 v d p) :
    ∃ q : Sgn, v = sgnV q ∧ SgnOk W q := by
  obtain ⟨v0, v1, v2, y0, y1, y2, n, rfl, _, _, h0, h1, h2⟩ := Joins.open_agg3 Tryd.underlying27 (by kernel_rfl) (by kernel_rfl) hv h
  obtain ⟨i, hi, _, wi⟩ := DataW.trod_int Tryd.underlying3 h0
  obtain rfl : v0 = .int .i64 i := by simpa using hi
  obtain ⟨A, ca, c, rfl, hA, hlA⟩ := tr_u64s h1
  obtain ⟨B, cb, q, rfl, hB, hlB⟩ := tr_forks h2
  exact ⟨⟨i, A, ca, c, B, cb, q⟩, rfl, wi, hA, hB, hlA, hlB⟩
def climbB (c : List UInt64) (d : UInt64) (k : Nat) : ByteArray := bytesOf (On.climbTo c d k)
theorem climbB_size (c : List UInt64) (d : UInt64) (k : Nat) : (climbB c d k).size = 16 * k := by rw [climbB, bytesOf_size, On.climbTo_len]
theorem climbB_snoc (c : List UInt64) (d : UInt64) (k : Nat) (y : UInt64) (h : On.steps (15 - On.dg d k) (c.getD k 0) = y) : climbB c d k ++ textB y = climbB c d (k + 1) := by
  apply WideShapes.bytes_inj
  rw [app_data]
  show On.climbTo c d k ++ Dig.text y = On.climbTo c d k ++ Dig.text _
  rw [h]
set_option maxHeartbeats 4000000 in
theorem lleaf25_any (text : ByteArray) (d : UInt64) (hd : Hid (Dig.sum text.data.toList = d)) (ht : text.size ≤ maxLen) (i : Int) (A B : Option Addr) (ca cb m : Nat) (c : List UInt64) (hc : c.length = 18) (r : ByteArray) (hr : Hid (climbB c d 18 = r)) (w : World) (hT : OTabs w) (hA : Sl w w.heap.size 1 A 18 (u64V c)) :
    Calls Tryd.prog 32 #[.string text, .agg #[.int .i64 i, .slice A 18 ca, .slice B m cb]] w fun e w' => e = .returned (.string r) ∧ Below w.heap.size w w' := by
  rw [← hr.out]
  clear hr
  obtain ⟨b0, off, rfl, hb0, hcell⟩ := hA.2 (by omega)
  have Hcell := Lib.hid hcell
  clear hA hcell
  go_enter Tryd.func32, Tryd.ntmps32
  go_wp2_with fail
  refine (rdigits_any text d hd _ ht).mono ?_
  rintro e W0 ⟨v, rfl, hown, hB0⟩
  obtain ⟨X, cX, rfl, hX⟩ := own_slice hown
  obtain ⟨bX, oX, rfl, hbX, hcX⟩ := hX.2 (by decide)
  have hBw := bgo (bal (Below.refl w.heap.size w) _) hB0
  have k1 : W0.cell? ⟨w.heap.size, 1, none⟩ = some (.slice (some ⟨b0, off, none⟩) 18 ca) := (hB0.cell (p := ⟨w.heap.size, 1, none⟩) (by simp)).trans (by simp [go_sem])
  have hsz : w.heap.size < W0.heap.size := by have := hB0.size; simp at this; omega
  have K := Lib.hid (And.intro k1 hcX)
  have hT0 := hT.go hBw
  clear k1 hcX hX hown hB0
  go_wp2
  go_loopw [5, 12] (fun s q wr => ∃ k : Nat, k ≤ 18 ∧ q = .int .i64 k ∧ s = .string (climbB c d k) ∧ Below W0.heap.size W0 wr) (fun _ q _ => 18 - (intOf q).toNat)
  case atStart => exact ⟨0, by omega, rfl, rfl, Below.refl _ _⟩
  case round =>
    obtain ⟨k, hk, rfl, rfl, hB⟩ := hrel
    obtain ⟨s, hs⟩ : ∃ s, climbB c d k = s := ⟨_, rfl⟩
    have hss : s.size = 16 * k := by rw [← hs, climbB_size]
    rw [hs]
    have Hs := Lib.hid hs
    clear hs
    by_cases hk18 : k < 18
    · have hk' : (k : Int) < 18 := by omega
      have hT1 := hT0.go hB
      have hbX' := hbX
      obtain ⟨x, hx⟩ : ∃ x, c.getD k 0 = x := ⟨_, rfl⟩
      have hdl := On.dg_le d k
      obtain ⟨m1, hm1⟩ : ∃ m, On.dg d k = m := ⟨_, rfl⟩
      obtain ⟨N, hN⟩ : ∃ N, 15 - m1 = N := ⟨_, rfl⟩
      have c1 : wr.cell? ⟨w.heap.size, 1, none⟩ = some (.slice (some ⟨b0, off, none⟩) 18 ca) := (hB.cell (p := ⟨w.heap.size, 1, none⟩) hsz).trans K.out.1
      have c2 : wr.cell? ⟨b0, off + k, none⟩ = some (.int .u64 x.toNat) := ((bgo hBw hB).cell (p := ⟨b0, off + k, none⟩) hb0).trans (Hcell.out k _ (by rw [u64V_get c k (by omega), hx]))
      have c3 : wr.cell? ⟨bX, oX + k, none⟩ = some (.int .i64 (m1 : Int)) := (hB.cell (p := ⟨bX, oX + k, none⟩) hbX).trans (K.out.2 k _ (by rw [digR_get d k hk18, hm1]))
      rw [hm1] at hdl
      have e15 : (15 : Int) - (m1 : Int) = (N : Int) := by omega
      have hN15 : N ≤ 15 := by omega
      have HX := Lib.hid (And.intro hx (And.intro hm1 hN))
      clear hx hm1 hN
      go_wp2
      go_loopw [8, 24] (fun y q wx => ∃ j : Nat, j ≤ N ∧ q = .int .i64 j ∧ y = .int .u64 (On.steps j x).toNat ∧ Below wr.heap.size wr wx) (fun _ q _ => N - (intOf q).toNat)
      case atStart => exact ⟨0, by omega, rfl, rfl, Below.refl _ _⟩
      case round =>
        clear c1 c2 c3
        obtain ⟨j, hj, rfl, rfl, hBx⟩ := hrel
        have hT2 := hT1.go hBx
        obtain ⟨z, hz⟩ : ∃ z, On.steps j x = z := ⟨_, rfl⟩
        rw [hz]
        have Hz := Lib.hid hz
        clear hz
        by_cases hlt : j < N
        · have hlt' : (j : Int) < (N : Int) := by omega
          have hstep : Hid (Dig.sum ((⟨#[2]⟩ : ByteArray) ++ textB z).data.toList = On.step z) := Lib.hid (step_eq z)
          have hsz2 := step_size z
          have hzz : ¬ (9223372036854775807 < 1 + (textB z).size) := by rw [textB_size]; decide
          go_wp2_with fail
          refine (text_b z _ hT2.1).mono ?_
          rintro e w2 ⟨rfl, hB2⟩
          go_wp2_with fail
          refine (sum_at _ _ _ hstep hsz2).mono ?_
          rintro e w' ⟨rfl, rfl⟩
          have hB3 := bgo hBx hB2
          go_wp2
          go_roundw
          case rel => exact ⟨j + 1, by omega, by go_num, by rw [← Hz.out]; rfl, hB3⟩
          case measure => simp [intOf]; omega
        · obtain rfl : j = N := by omega
          have hap := climbB_snoc c d k z (by rw [HX.out.1, HX.out.2.1, HX.out.2.2]; exact Hz.out)
          have hzz : ¬ (9223372036854775807 < s.size + (textB z).size) := by rw [textB_size, hss]; omega
          have hz1 : (textB z).size = 16 := rfl
          have Hap := Lib.hid hap
          clear hap
          go_wp2_with fail
          refine (text_b z _ hT2.1).mono ?_
          rintro e w2 ⟨rfl, hB2⟩
          have hB3 := bgo hB (bgo hBx hB2)
          go_wp2
          go_roundw
          case rel => exact ⟨k + 1, by omega, by go_num, by rw [← Hap.out, Hs.out], hB3⟩
          case measure => simp [intOf]; omega
    · obtain rfl : k = 18 := by omega
      go_wp2
      go_ret
      exact ⟨by rw [Hs.out]; rfl, bgo hBw hB⟩
end Go.Proofs.YthgkjcofmkkdcaaDoor
