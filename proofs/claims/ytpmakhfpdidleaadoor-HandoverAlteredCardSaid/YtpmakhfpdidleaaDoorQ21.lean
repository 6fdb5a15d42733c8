/- The walk of the reference package of digest: Text. The walks of the reference of onetime: Digits, Step, Steps, Secret; and after, leaf of the law package. Arguments that are signatures, opened as plain data; the walk of the law package's leaf. The walks of the reference of merkle, first part: LeafText, word, NodeText, Leaf, Node, wrong. The walks of the reference of merkle, second part: first, next, Root. -/
import Derived.Test.YtpmakhfpdidleaaDoorQ20
import Derived.Test.YtpmakhfpdidleaaDoorQ10
import Derived.Test.YtpmakhfpdidleaaDoorQ02
import Derived.Test.YtpmakhfpdidleaaDoorQ06
import Derived.ChangeSlices
import Derived.Lib.SmallJoins
import Derived.Test.YtpmakhfpdidleaaDoorQ11
import Derived.Test.YtpmakhfpdidleaaDoorQ05
namespace Go.Proofs.YtpmakhfpdidleaaDoor
open Go.RowKit
def hexS : ByteArray := ⟨#[48, 49, 50, 51, 52, 53, 54, 55, 56, 57, 97, 98, 99, 100, 101, 102]⟩
theorem hexS_at (m : Nat) (h : m < 16) : (⟨#[48, 49, 50, 51, 52, 53, 54, 55, 56, 57, 97, 98, 99, 100, 101, 102]⟩ : ByteArray).extract m (m + 1) = ⟨[Dig.hexd m].toArray⟩ := by
  rcases lt16 m h with rfl | rfl | rfl | rfl | rfl | rfl | rfl | rfl | rfl | rfl | rfl | rfl | rfl | rfl | rfl | rfl <;> decide +kernel
set_option maxHeartbeats 1000000 in
theorem rtext_any (d : UInt64) (w : World) : Calls Tryd.prog 32 #[.int .u64 d.toNat] w fun e w' => e = .returned (.string ⟨(Dig.text d).toArray⟩) ∧ w = w' := by
  go_enter Tryd.func32, Tryd.ntmps32
  go_wp2
  go_loop [0, 3, 4] (fun x s i => ∃ k x0 : Nat, k ≤ 16 ∧ i = .int .i64 k ∧ x = .int .u64 x0 ∧ x0 = d.toNat / 16 ^ k ∧ s = .string ⟨(Dig.ttail d k).toArray⟩) (fun _ _ i => 16 - (intOf i).toNat)
  case atStart => exact ⟨0, _, by omega, rfl, rfl, by simp, rfl⟩
  case round =>
    obtain ⟨k, x0, hk, rfl, rfl, hx, rfl⟩ := hrel
    have hx0 : x0 < 18446744073709551616 := by rw [hx]; exact Nat.lt_of_le_of_lt (Nat.div_le_self _ _) d.toNat_lt
    have Hx := Lib.hid hx
    clear hx
    by_cases hlt : k < 16
    · have hl := Dig.ttail_len d k
      obtain ⟨m, hm⟩ : ∃ m : Nat, m = x0 % 16 := ⟨_, rfl⟩
      have hm16 : m < 16 := by omega
      have hc : (x0 : Int) % 16 = (m : Int) := by omega
      have Hm := Lib.hid hm
      clear hm
      have hxs := hexS_at m hm16
      go_wp2
      go_round
      case rel => exact ⟨k + 1, x0 / 16, by omega, by go_num, by go_num, by rw [Hx.out, Nat.div_div_eq_div_mul, Nat.pow_succ], by rw [cons_bytes, Hm.out, Hx.out]; rfl⟩
      case measure => simp [intOf]; omega
    · obtain rfl : k = 16 := by omega
      rw [Dig.ttail_16]
      go_wp2
      go_ret
      exact ⟨rfl, rfl⟩
end Go.Proofs.YtpmakhfpdidleaaDoor
namespace Go.Proofs.YtpmakhfpdidleaaDoor
open Go.RowKit Go.Shelf
set_option linter.unusedVariables false
set_option maxRecDepth 100000
theorem text_index (d : UInt64) (k : Nat) (hk : k < 16) (w : World) : (Instr.index 9 (.string (textB d)) (.int .i64 (k : Int))).run Tryd.prog w = .ok (.int .u8 ((Dig.hexd (On.digit d k)).toNat : Int)) w := by
  rcases lt16 k hk with rfl | rfl | rfl | rfl | rfl | rfl | rfl | rfl | rfl | rfl | rfl | rfl | rfl | rfl | rfl | rfl <;> kernel_rfl
theorem hexd_lo (m : Nat) (h : m < 10) : ((Dig.hexd m).toNat : Int) = 48 + (m : Int) := by
  unfold Dig.hexd; rw [if_pos h, UInt8.toNat_ofNat']; omega
theorem hexd_hi (m : Nat) (h : ¬ m < 10) (h' : m < 16) : ((Dig.hexd m).toNat : Int) = 87 + (m : Int) := by
  unfold Dig.hexd; rw [if_neg h, UInt8.toNat_ofNat']; omega
def digI (d : UInt64) (k : Nat) : List Value := (List.range k).map fun j => Value.int .i64 (On.digit d j : Int)
theorem digI_snoc (d : UInt64) (k : Nat) : digI d (k + 1) = digI d k ++ [.int .i64 (On.digit d k : Int)] := by simp [digI, List.range_succ]
def digR (d : UInt64) : List Value := (On.digs d).map fun (m : Nat) => Value.int .i64 (m : Int)
theorem digR_eq (d : UInt64) : digI d 16 ++ [.int .i64 ((On.csum d 16 / 16 : Nat) : Int), .int .i64 ((On.csum d 16 % 16 : Nat) : Int)] = digR d := rfl
theorem digR_get (d : UInt64) (k : Nat) (h : k < 18) : (digR d)[k]? = some (.int .i64 (On.dg d k : Int)) := by
  rcases On.lt18 h with rfl | rfl | rfl | rfl | rfl | rfl | rfl | rfl | rfl | rfl | rfl | rfl | rfl | rfl | rfl | rfl | rfl | rfl <;> rfl
theorem info_int25 : (Tryd.prog.info? 3).map (fun i => (i.zero, i.size, i.bytes)) = some (some (.int .i64 0), 1, 8) := by kernel_rfl
theorem rsum_at (s : ByteArray) (v : UInt64) (w : World) (hv : Hid (Dig.sum s.data.toList = v)) (hs : s.size ≤ maxLen) : Calls Tryd.prog 30 #[.string s] w fun e w' => e = .returned (.int .u64 v.toNat) ∧ w = w' := by
  rw [← hv.out]; exact rsum_any s w hs
theorem rtext_b (d : UInt64) (w : World) : Calls Tryd.prog 32 #[.int .u64 d.toNat] w fun e w' => e = .returned (.string (textB d)) ∧ w = w' := rtext_any d w
set_option maxHeartbeats 4000000 in
theorem rdigits_any (t : ByteArray) (d : UInt64) (hd : Hid (Dig.sum t.data.toList = d)) (w : World) (ht : t.size ≤ maxLen) :
    Calls Tryd.prog 31 #[.string t] w fun e w' => ∃ v, e = .returned v ∧ w'.ownsRow w.heap.size 3 1 v 18 (digR d) ∧ Below w.heap.size w w' := by
  obtain ⟨i0, hi0, hz0, hz1, hz2⟩ := info_parts info_int25
  go_enter Tryd.func31, Tryd.ntmps31
  go_wp2_with fail
  refine (rsum_at _ _ _ hd ht).mono ?_
  rintro e w' ⟨rfl, rfl⟩
  go_wp2_with fail
  refine (rtext_b d _).mono ?_
  rintro e w' ⟨rfl, rfl⟩
  go_wp2
  go_loopw [4, 5, 6] (fun v c i wr => ∃ k : Nat, k ≤ 16 ∧ i = .int .i64 k ∧ c = .int .i64 (On.csum d k : Int) ∧ wr.ownsRow w.heap.size 3 1 v k (digI d k) ∧ Below w.heap.size w wr) (fun _ _ i _ => 16 - (intOf i).toNat)
  case atStart => exact ⟨0, by omega, rfl, rfl, ⟨rfl, .inl ⟨rfl, rfl⟩⟩, Below.refl _ _⟩
  case round =>
    obtain ⟨k, hk, rfl, rfl, hown, hB⟩ := hrel
    have Hown := Lib.hid hown
    have hcs := On.csum_le d k
    clear hown
    by_cases hlt : k < 16
    · have hlt' : (k : Int) < 16 := by omega
      have hidx : ∀ W, (Instr.index 9 (.string (textB d)) (.int .i64 (k : Int))).run Tryd.prog W = .ok (.int .u8 ((Dig.hexd (On.digit d k)).toNat : Int)) W := fun W => text_index d k hlt W
      have hm16 := On.digit_lt d k
      have hcn : On.csum d (k + 1) = On.csum d k + (15 - On.digit d k) := rfl
      obtain ⟨m, hm⟩ : ∃ m, On.digit d k = m := ⟨_, rfl⟩
      obtain ⟨q, hq⟩ : ∃ q, On.csum d k = q := ⟨_, rfl⟩
      rw [hm] at hidx hm16 hcn
      rw [hq] at hcs hcn ⊢
      have Hm := Lib.hid (And.intro hm hcn)
      clear hm hq hcn
      by_cases h10 : m < 10
      · rw [hexd_lo m h10] at hidx
        have e1 : (48 : Int) + (m : Int) - 48 = (m : Int) := by omega
        have e2 : decide ((97 : Int) ≤ 48 + (m : Int)) = false := decide_eq_false (by omega)
        go_wp2_with (at_builtin; refine app_one rfl _ _ 78 rfl 3 i0 _ 1 8 Tryd.underlying78 hi0 hz0 hz1 hz2 rfl (by decide) _ _ _ rfl Hown.out hB [.int .i64 (m : Int)] _ _ rfl rfl ?c1 ?c2 ?c3 ?_)
        case c1 => simp [Value.oneCell']
        case c2 => simp [maxLen]; omega
        case c3 => omega
        intro v' w2 hown2 hB2 _
        have HR := Lib.hid hown2
        clear hown2 hidx
        go_wp2
        go_roundw
        case rel =>
          refine ⟨k + 1, by omega, by go_num, by rw [Hm.out.2]; go_num, ?_, hB2⟩
          rw [digI_snoc, Hm.out.1]
          exact HR.out
        case measure => simp [intOf]; omega
      · rw [hexd_hi m h10 hm16] at hidx
        have e1 : (87 : Int) + (m : Int) - 97 + 10 = (m : Int) := by omega
        have e2 : decide ((97 : Int) ≤ 87 + (m : Int)) = true := decide_eq_true (by omega)
        go_wp2_with (at_builtin; refine app_one rfl _ _ 78 rfl 3 i0 _ 1 8 Tryd.underlying78 hi0 hz0 hz1 hz2 rfl (by decide) _ _ _ rfl Hown.out hB [.int .i64 (m : Int)] _ _ rfl rfl ?c1 ?c2 ?c3 ?_)
        case c1 => simp [Value.oneCell']
        case c2 => simp [maxLen]; omega
        case c3 => omega
        intro v' w2 hown2 hB2 _
        have HR := Lib.hid hown2
        clear hown2 hidx
        go_wp2
        go_roundw
        case rel =>
          refine ⟨k + 1, by omega, by go_num, by rw [Hm.out.2]; go_num, ?_, hB2⟩
          rw [digI_snoc, Hm.out.1]
          exact HR.out
        case measure => simp [intOf]; omega
    · obtain rfl : k = 16 := by omega
      obtain ⟨q, hq⟩ : ∃ q, On.csum d 16 = q := ⟨_, rfl⟩
      rw [hq] at hcs ⊢
      have Hq := Lib.hid hq
      clear hq
      go_wp2_with (at_builtin; refine app_src (w0 := w) rfl _ _ 78 rfl 3 i0 _ 1 8 Tryd.underlying78 hi0 hz0 hz1 hz2 rfl (by decide) _ 16 (digI d 16) rfl (Hown.out.alloc _) (bal hB _) _ 2 [.int .i64 ((q : Int) / 16), .int .i64 ((q : Int) % 16)] rfl (block_src _ _ _ _ _ _ _ rfl) ?c1 ?c2 ?c3 ?_)
      case c1 => simp [Value.oneCell']
      case c2 => decide
      case c3 => decide
      intro v' w2 hown2 hB2 _
      have HR := Lib.hid hown2
      clear hown2
      go_wp2
      go_ret
      refine ⟨_, rfl, ?_, hB2⟩
      have := HR.out
      rw [show (q : Int) / 16 = ((On.csum d 16 / 16 : Nat) : Int) by rw [Hq.out]; omega, show (q : Int) % 16 = ((On.csum d 16 % 16 : Nat) : Int) by rw [Hq.out]; omega, digR_eq] at this
      exact this
set_option maxHeartbeats 1000000 in
theorem rstep_any (x : UInt64) (w : World) : Calls Tryd.prog 61 #[.int .u64 x.toNat] w fun e w' => e = .returned (.int .u64 (On.step x).toNat) ∧ w = w' := by
  have hstep : Hid (Dig.sum ((⟨#[2]⟩ : ByteArray) ++ textB x).data.toList = On.step x) := Lib.hid (step_eq x)
  have hsz := step_size x
  have hz : ¬ (9223372036854775807 < 1 + (textB x).size) := by rw [textB_size]; decide
  go_enter Tryd.func61, Tryd.ntmps61
  go_wp2_with fail
  refine (rtext_b x _).mono ?_
  rintro e w' ⟨rfl, rfl⟩
  go_wp2_with fail
  refine (rsum_at _ _ _ hstep hsz).mono ?_
  rintro e w' ⟨rfl, rfl⟩
  go_wp2_with fail
  go_ret
  exact ⟨rfl, rfl⟩
set_option maxHeartbeats 1000000 in
theorem rsteps_any (x : UInt64) (N : Nat) (y : UInt64) (hy : Hid (On.steps N x = y)) (hN : N < 9223372036854775807) (w : World) : Calls Tryd.prog 33 #[.int .u64 x.toNat, .int .i64 (N : Int)] w fun e w' => e = .returned (.int .u64 y.toNat) ∧ w = w' := by
  rw [← hy.out]
  clear hy
  go_enter Tryd.func33, Tryd.ntmps33
  go_wp2
  go_loopw [0, 5] (fun v i wr => ∃ k : Nat, k ≤ N ∧ i = .int .i64 k ∧ v = .int .u64 (On.steps k x).toNat ∧ w = wr) (fun _ i _ => N - (intOf i).toNat)
  case atStart => exact ⟨0, Nat.zero_le _, rfl, rfl, rfl⟩
  case round =>
    obtain ⟨k, hk, rfl, rfl, hw⟩ := hrel
    have Hw := Lib.hid hw
    clear hw
    obtain ⟨z, hz⟩ : ∃ z, On.steps k x = z := ⟨_, rfl⟩
    rw [hz]
    have Hz := Lib.hid hz
    clear hz
    by_cases hlt : k < N
    · have hlt' : (k : Int) < (N : Int) := by omega
      go_wp2_with fail
      refine (rstep_any z _).mono ?_
      rintro e w' ⟨rfl, rfl⟩
      go_wp2
      go_roundw
      case rel => exact ⟨k + 1, by omega, by go_num, by rw [← Hz.out]; rfl, Hw.out⟩
      case measure => simp [intOf]; omega
    · obtain rfl : k = N := by omega
      go_wp2
      go_ret
      exact ⟨by rw [← Hz.out]; rfl, Hw.out⟩
set_option maxHeartbeats 1000000 in
theorem rsecret_any (seed : ByteArray) (i k : Int) (x : UInt64) (hx : Hid (On.secret seed.data.toList i k = x)) (w : World) (hT : PTab w) (hs : seed.size ≤ 100) (hi : -9223372036854775808 ≤ i ∧ i ≤ 9223372036854775807) (hk : -9223372036854775808 ≤ k ∧ k ≤ 9223372036854775807) :
    Calls Tryd.prog 51 #[.string seed, .int .i64 i, .int .i64 k] w fun e w' => e = .returned (.int .u64 x.toNat) ∧ Below w.heap.size w w' := by
  rw [← hx.out]
  clear hx
  obtain ⟨t1, ht1⟩ : ∃ t, itoaB i = t := ⟨_, rfl⟩
  obtain ⟨t2, ht2⟩ : ∃ t, itoaB k = t := ⟨_, rfl⟩
  have s1 := itoaB_size i hi.1 hi.2
  have s2 := itoaB_size k hk.1 hk.2
  rw [ht1] at s1
  rw [ht2] at s2
  have hv : Hid (Dig.sum ((⟨#[3]⟩ : ByteArray) ++ t1 ++ ⟨#[32]⟩ ++ t2 ++ ⟨#[32]⟩ ++ seed).data.toList = On.secret seed.data.toList i k) := by
    refine Lib.hid ?_
    rw [secret_data, ← ht1, ← ht2]
    rfl
  have H1 := Lib.hid ht1
  have H2 := Lib.hid ht2
  clear ht1 ht2
  have q1 : ((⟨#[3]⟩ : ByteArray) ++ t1).size ≤ 22 := by rw [app_size]; show 1 + _ ≤ _; omega
  have q2 : ((⟨#[3]⟩ : ByteArray) ++ t1 ++ ⟨#[32]⟩).size ≤ 23 := by rw [app_size]; show _ + 1 ≤ _; omega
  have q3 : ((⟨#[3]⟩ : ByteArray) ++ t1 ++ ⟨#[32]⟩ ++ t2).size ≤ 44 := by rw [app_size]; omega
  have q4 : ((⟨#[3]⟩ : ByteArray) ++ t1 ++ ⟨#[32]⟩ ++ t2 ++ ⟨#[32]⟩).size ≤ 45 := by rw [app_size]; show _ + 1 ≤ _; omega
  have q5 : ((⟨#[3]⟩ : ByteArray) ++ t1 ++ ⟨#[32]⟩ ++ t2 ++ ⟨#[32]⟩ ++ seed).size ≤ maxLen := by rw [app_size]; unfold maxLen; omega
  go_enter Tryd.func51, Tryd.ntmps51
  go_wp2_with fail
  refine (itoa_any i hi.1 hi.2 t1 H1 _ hT).mono ?_
  rintro e w1 ⟨rfl, hB1⟩
  have hT1 := hT.go hB1
  go_wp2_with fail
  refine (itoa_any k hk.1 hk.2 t2 H2 _ hT1).mono ?_
  rintro e w2 ⟨rfl, hB2⟩
  go_wp2_with fail
  refine (rsum_at _ _ _ hv q5).mono ?_
  rintro e w3 ⟨rfl, rfl⟩
  go_wp2_with fail
  go_ret
  exact ⟨rfl, bgo hB1 hB2⟩
end Go.Proofs.YtpmakhfpdidleaaDoor
namespace Go.Proofs.YtpmakhfpdidleaaDoor
open Go.RowKit Go.ChangeShapes Go.WideShapes Go.Deep Go.Shelf
set_option linter.unusedVariables false
set_option maxRecDepth 100000
/-- A signature as an argument. -/
structure Sgn where
  i : Int
  A : Option Addr
  ca : Nat
  c : List UInt64
  B : Option Addr
  cb : Nat
  p : Forks
def sgnV (q : Sgn) : Value := .agg #[.int .i64 q.i, .slice q.A q.c.length q.ca, .slice q.B q.p.length q.cb]
structure SgnOk (W : World) (q : Sgn) : Prop where
  wf : (Lit.int .i64 q.i).wf = true
  sa : Sl W W.heap.size 1 q.A q.c.length (u64V q.c)
  sb : Sl W W.heap.size 2 q.B q.p.length (forkV q.p)
  la : q.c.length ≤ q.ca ∧ q.ca ≤ maxLen
  lb : q.p.length ≤ q.cb ∧ q.cb ≤ maxLen
theorem SgnOk.go {W W' : World} {q : Sgn} (h : SgnOk W q) (k : Below W.heap.size W W') : SgnOk W' q := ⟨h.wf, h.sa.go k, h.sb.go k, h.la, h.lb⟩
theorem tr_u64s {H : Type} {enc : TypeId × Value → H} {W : World} {n : Nat} {v : Value} {y : DataW H × List MemPlace} (h : DataW.trod enc Tryd.prog W 0 (fun _ => true) true n 33 [v] = some y) :
    ∃ (A : Option Addr) (c : Nat) (l : List UInt64), v = .slice A l.length c ∧ Sl W W.heap.size 1 A l.length (u64V l) ∧ (l.length ≤ c ∧ c ≤ maxLen) := by
  rcases open_ints Tryd.underlying33 Tryd.underlying29 cells_digest h with ⟨hcs, hx⟩ | ⟨a, len, cap, zs, hcs, _, hl, hm, hz, hx, hcell, hws⟩
  · obtain rfl : v = .slice none 0 0 := by simpa using hcs
    exact ⟨none, 0, [], rfl, Sl.nil _ 1, ⟨Nat.le_refl _, Nat.zero_le _⟩⟩
  · obtain rfl : v = .slice (some a) len cap := by simpa using hcs
    simp only [if_true] at hz
    have hlen : ((zs.take len).map fun z => UInt64.ofNat z.toNat).length = len := by rw [List.length_map, List.length_take]; omega
    refine ⟨some a, cap, (zs.take len).map fun z => UInt64.ofNat z.toNat, by rw [hlen], ?_, ⟨by omega, by omega⟩⟩
    refine sl_of_row (by simp [u64V]) (fun _ => Nat.one_pos) ?_
    intro j u hu
    obtain ⟨hj, e⟩ := List.getElem?_eq_some_iff.1 hu
    have hj' : j < len := by simp [u64V] at hj; omega
    have hw := bounds_u64 (hws (zs.getD j 0) (by simp [List.getD, show j < zs.length by omega]))
    rw [hcell j (by omega), ← e]
    simp [u64V, List.getD, show j < zs.length by omega] at hw ⊢
    omega
theorem tr_forks {H : Type} {enc : TypeId × Value → H} {W : World} {n : Nat} {v : Value} {y : DataW H × List MemPlace} (h : DataW.trod enc Tryd.prog W 0 (fun _ => true) true n 34 [v] = some y) :
    ∃ (A : Option Addr) (c : Nat) (l : Forks), v = .slice A l.length c ∧ Sl W W.heap.size 2 A l.length (forkV l) ∧ (l.length ≤ c ∧ c ≤ maxLen) := by
  rcases open_slice_pairs Tryd.underlying34 Tryd.underlying41 cells_fork rfl rfl cells_digest cells_bool h with ⟨hcs, hx⟩ | ⟨a, len, cap, m, n', V0, V1, D0, D1, P0, P1, hcs, _, hl, hm, hmm, hx, hall⟩
  · obtain rfl : v = .slice none 0 0 := by simpa using hcs
    exact ⟨none, 0, [], rfl, Sl.nil _ 2, ⟨Nat.le_refl _, Nat.zero_le _⟩⟩
  · obtain rfl : v = .slice (some a) len cap := by simpa using hcs
    simp only [if_true] at hmm
    subst hmm
    have each : ∀ i, i < m → ∃ x : UInt64 × Bool, V0 i = .int .u64 x.1.toNat ∧ V1 i = .bool x.2 := by
      intro i hi
      obtain ⟨_, _, h0, h1⟩ := hall i hi
      obtain ⟨z, hz, _, hw⟩ := DataW.trod_int Tryd.underlying29 h0
      obtain ⟨b, hb, _⟩ := DataW.trod_bool Tryd.underlying4 h1
      obtain ⟨u, rfl⟩ := u64_of_wf hw
      exact ⟨(u, b), by simpa using hz, by simpa using hb⟩
    obtain ⟨X, hX⟩ := choose_lt each
    have ht : ((List.range len).map X).length = len := by simp
    refine ⟨some a, m, (List.range len).map X, by rw [ht], ?_, ⟨by omega, by omega⟩⟩
    refine sl_of_row (by rw [forkV_len]) (fun _ => by omega) ?_
    intro j u hu
    obtain ⟨hj, e⟩ := List.getElem?_eq_some_iff.1 hu
    rw [forkV_len, ht] at hj
    have hq : j / 2 < len := by omega
    obtain ⟨c0, c1, _, _⟩ := hall (j / 2) (by omega)
    obtain ⟨e0, e1⟩ := hX (j / 2) (by omega)
    have hql : j / 2 < ((List.range len).map X).length := by rw [ht]; exact hq
    by_cases h2 : j % 2 = 0
    · have hjj : j = j / 2 * 2 := by omega
      have g := forkV_get1 ((List.range len).map X) (j / 2) hql
      rw [← hjj, hu] at g
      rw [hjj, c0, e0]
      rw [← Option.some.inj g.symm]
      simp
    · have hjj : j = j / 2 * 2 + 1 := by omega
      have g := forkV_get2 ((List.range len).map X) (j / 2) hql
      rw [← hjj, hu] at g
      rw [hjj, c1, e1]
      rw [← Option.some.inj g.symm]
      simp
theorem open_sig {H : Type} {enc : TypeId × Value → H} {W : World} {base : Nat} {v : Value} {d : DataW H} {p : List MemPlace} (hv : Value.okWide Tryd.prog W .any base 36 v) (h : DataW.Trod enc Tryd.prog W 0 (fun _ => true) true 36 v d p) :
    ∃ q : Sgn, v = sgnV q ∧ SgnOk W q := by
  obtain ⟨v0, v1, v2, y0, y1, y2, n, rfl, _, _, h0, h1, h2⟩ := Joins.open_agg3 Tryd.underlying36 (by kernel_rfl) (by kernel_rfl) hv h
  obtain ⟨i, hi, _, wi⟩ := DataW.trod_int Tryd.underlying3 h0
  obtain rfl : v0 = .int .i64 i := by simpa using hi
  obtain ⟨A, ca, c, rfl, hA, hlA⟩ := tr_u64s h1
  obtain ⟨B, cb, q, rfl, hB, hlB⟩ := tr_forks h2
  exact ⟨⟨i, A, ca, c, B, cb, q⟩, rfl, wi, hA, hB, hlA, hlB⟩
def climbB (c : List UInt64) (d : UInt64) (k : Nat) : ByteArray := bytesOf (On.climbTo c d k)
theorem climbB_size (c : List UInt64) (d : UInt64) (k : Nat) : (climbB c d k).size = 16 * k := by rw [climbB, bytesOf_size, On.climbTo_len]
theorem climbB_snoc (c : List UInt64) (d : UInt64) (k : Nat) (y : UInt64) (h : On.steps (15 - On.dg d k) (c.getD k 0) = y) : climbB c d k ++ textB y = climbB c d (k + 1) := by
  apply WideShapes.bytes_inj
  rw [app_data]
  show On.climbTo c d k ++ Dig.text y = On.climbTo c d k ++ Dig.text _
  rw [h]
end Go.Proofs.YtpmakhfpdidleaaDoor
namespace Go.Proofs.YtpmakhfpdidleaaDoor
open Go.RowKit Go.Shelf
set_option linter.unusedVariables false
theorem info_u8 : (Tryd.prog.info? 5).map (fun i => (i.zero, i.size, i.bytes)) = some (some (.int .u8 0), 1, 1) := by kernel_rfl
def u8V (l : List UInt8) : List Value := l.map fun b => Value.int .u8 b.toNat
theorem own_back {W : World} {base g cap n : Nat} {l : List UInt8} (hn : l.length = n) (h : W.ownsRow base 5 1 (.slice (some ⟨g, 0, none⟩) n cap) n (u8V l)) :
    (convert 97 9 (.slice (some ⟨g, 0, none⟩) n cap)).run Tryd.prog W = .ok (.string ⟨l.toArray⟩) W := by
  subst hn
  refine run_convert_bytes_back (P := Tryd.prog) W 97 9 5 ⟨g, 0, none⟩ cap l Tryd.underlying97 Tryd.underlying5 Tryd.underlying9 ?_
  intro j hj
  rw [Addr.add_lit, Nat.zero_add]
  exact (h.cellAt j (by omega)).trans (by simp [u8V, hj])
theorem rleafText_any (s : ByteArray) (w : World) (hs : s.size ≤ 140737488355328) : Calls Tryd.prog 57 #[.string s] w fun e w' => e = .returned (.string ⟨(0 :: s.data.toList).toArray⟩) ∧ Below w.heap.size w w' := by
  have h1 : ¬ (9223372036854775807 < 1 + s.size) := by omega
  have k := byte_back (w.alloc (.cells #[.int .u8 0] 5)) w.heap.size 0 (by simp [go_sem])
  have e : (⟨[(0 : UInt8)].toArray⟩ : ByteArray) ++ s = ⟨(0 :: s.data.toList).toArray⟩ := by apply ByteArray.ext; simp [ByteArray.data_append]
  have He := Lib.hid e
  clear e
  have hsz : (⟨[(0 : UInt8)].toArray⟩ : ByteArray).size = 1 := rfl
  go_enter Tryd.func57, Tryd.ntmps57
  go_wp2
  go_ret
  refine ⟨?_, (Below.refl _ _).alloc (Nat.le_refl _) _⟩
  rw [← He.out]
  rfl
set_option maxHeartbeats 2000000 in
theorem word_any (d : UInt64) (w : World) : Calls Tryd.prog 74 #[.int .u64 d.toNat] w fun e w' => e = .returned (.slice (some ⟨w.heap.size, 0, none⟩) 8 8) ∧ w' = w.alloc (.cells #[.int .u8 (Dig.byte d 7).toNat, .int .u8 (Dig.byte d 6).toNat, .int .u8 (Dig.byte d 5).toNat, .int .u8 (Dig.byte d 4).toNat, .int .u8 (Dig.byte d 3).toNat, .int .u8 (Dig.byte d 2).toNat, .int .u8 (Dig.byte d 1).toNat, .int .u8 (Dig.byte d 0).toNat] 5) := by
  have hd0 : (0 : Int) ≤ (d.toNat : Int) := Int.natCast_nonneg _
  have hd1 : (d.toNat : Int) ≤ 18446744073709551615 := by have := d.toNat_lt; omega
  have hmk : ∀ w : World, (Instr.makeSlice 97 (.int .i64 8) (.int .i64 8)).run Tryd.prog w = .ok (.slice (some ⟨w.heap.size, 0, none⟩) 8 8) (w.alloc (.cells #[.int .u8 0, .int .u8 0, .int .u8 0, .int .u8 0, .int .u8 0, .int .u8 0, .int .u8 0, .int .u8 0] 5)) := fun _ => by kernel_rfl
  go_enter Tryd.func74, Tryd.ntmps74
  go_wp2
  go_rounds 9
  go_ret
  simp only [byteV0, byteV1, byteV2, byteV3, byteV4, byteV5, byteV6, byteV7]
  exact ⟨rfl, trivial⟩
theorem nodeT_split (a b : UInt64) : u8V (Mk.nodeT a b) = .int .u8 1 :: (u8V (Dig.be8 a) ++ u8V (Dig.be8 b)) := by simp [u8V, Mk.nodeT]
set_option maxRecDepth 100000 in
set_option maxHeartbeats 1000000 in
theorem rnodeText_any (a b : UInt64) (w : World) : Calls Tryd.prog 58 #[.int .u64 a.toNat, .int .u64 b.toNat] w fun e w' => e = .returned (.string ⟨(Mk.nodeT a b).toArray⟩) ∧ Below w.heap.size w w' := by
  obtain ⟨i0, hi0, hz0, hz1, hz2⟩ := info_parts info_u8
  have hown0 : (w.alloc (.cells #[.int .u8 1] 5)).ownsRow w.heap.size 5 1 (.slice (some ⟨w.heap.size, 0, none⟩) 1 1) 1 [.int .u8 1] := ⟨rfl, .inr ⟨w.heap.size, 1, #[.int .u8 1], rfl, Nat.le_refl _, World.alloc_heap_new w _, Nat.le_refl _, by unfold maxLen; omega, rfl, rfl⟩⟩
  have hB0 : Below w.heap.size w (w.alloc (.cells #[.int .u8 1] 5)) := (Below.refl _ _).alloc (Nat.le_refl _) _
  have G := Lib.hid (And.intro hown0 hB0)
  clear hown0 hB0
  go_enter Tryd.func58, Tryd.ntmps58
  go_wp2_with fail
  obtain ⟨w1, hw1⟩ : ∃ w1, w1 = w.alloc (.cells #[.int .u8 1] 5) := ⟨_, rfl⟩
  rw [← hw1] at G ⊢
  have hz : w1.heap.size = w.heap.size + 1 := by rw [hw1]; simp
  have Hz := Lib.hid hz
  clear hw1 hz
  refine (word_any _ _).mono ?_
  rintro e w2 ⟨rfl, rfl⟩
  go_wp2_with (at_builtin; refine app_all rfl _ _ 97 rfl 5 i0 (.int .u8 0) 1 1 Tryd.underlying97 hi0 hz0 hz1 hz2 rfl (by decide) _ 1 _ rfl (G.out.1.alloc _) (bal G.out.2 _) ⟨w1.heap.size, 0, none⟩ 8 8 (u8V (Dig.be8 a)) rfl rfl (World.news_of_block (World.alloc_heap_new _ _)) (by simp [u8V, Dig.be8, Value.oneCell']) (by unfold maxLen; omega) (by omega) ?_)
  intro v3 w3 hown3 hB3 hoth
  clear hoth
  obtain ⟨g3, cap3, hv3⟩ := ownsRow_succ hown3
  subst hv3
  have H3 := Lib.hid (And.intro hown3 hB3)
  clear hown3 hB3
  go_wp2_with fail
  refine (word_any _ _).mono ?_
  rintro e w4 ⟨rfl, rfl⟩
  go_wp2_with (at_builtin; refine app_all rfl _ _ 97 rfl 5 i0 (.int .u8 0) 1 1 Tryd.underlying97 hi0 hz0 hz1 hz2 rfl (by decide) _ 9 _ rfl (H3.out.1.alloc _) (bal H3.out.2 _) ⟨w3.heap.size, 0, none⟩ 8 8 (u8V (Dig.be8 b)) rfl rfl (World.news_of_block (World.alloc_heap_new _ _)) (by simp [u8V, Dig.be8, Value.oneCell']) (by unfold maxLen; omega) (by omega) ?_)
  intro v5 w5 hown5 hB5 hoth
  clear hoth
  obtain ⟨g5, cap5, hv5⟩ := ownsRow_succ hown5
  subst hv5
  rw [← nodeT_split] at hown5
  have hconv := own_back (show (Mk.nodeT a b).length = 17 from rfl) hown5
  clear hown5
  go_wp2
  go_ret
  exact ⟨rfl, hB5⟩
theorem rleaf_any (s : ByteArray) (w : World) (hs : s.size ≤ 140737488355328) : Calls Tryd.prog 69 #[.string s] w fun e w' => e = .returned (.int .u64 (Mk.leafD s.data.toList).toNat) ∧ Below w.heap.size w w' := by
  go_enter Tryd.func69, Tryd.ntmps69
  go_wp2_with fail
  refine (rleafText_any _ _ hs).mono ?_
  rintro e w1 ⟨rfl, hB1⟩
  go_wp2_with fail
  refine (rsum_any _ _ (leaf_size _ hs)).mono ?_
  rintro e w' ⟨rfl, rfl⟩
  go_wp2
  go_ret
  exact ⟨rfl, hB1⟩
theorem rnode_any (a b : UInt64) (w : World) : Calls Tryd.prog 70 #[.int .u64 a.toNat, .int .u64 b.toNat] w fun e w' => e = .returned (.int .u64 (Dig.pair a b).toNat) ∧ Below w.heap.size w w' := by
  go_enter Tryd.func70, Tryd.ntmps70
  go_wp2_with fail
  refine (rnodeText_any _ _ _).mono ?_
  rintro e w1 ⟨rfl, hB1⟩
  go_wp2_with fail
  refine (rsum_any _ _ (node_size _ _)).mono ?_
  rintro e w' ⟨rfl, rfl⟩
  go_wp2
  go_ret
  exact ⟨rfl, hB1⟩
theorem wrong_any (A : Option Addr) (n c : Nat) (w : World) (e : Int) (hn : n ≤ maxLen) (he : checkE n = e) : Calls Tryd.prog 48 #[.slice A n c] w fun r w' => r = .returned (.int .i64 e) ∧ w = w' := by
  subst he
  unfold maxLen at hn
  by_cases h0 : n = 0
  · have h1 : ((n : Int) == 0) = true := by simp [h0]
    have h2 : checkE n = 1 := by unfold checkE; rw [if_pos h0]
    rw [h2]
    go_enter Tryd.func48, Tryd.ntmps48
    go_wp2
    go_ret
    exact ⟨rfl, rfl⟩
  · have h1 : ((n : Int) == 0) = false := by simp; omega
    by_cases h3 : 1024 < n
    · have h2 : checkE n = 2 := by unfold checkE; rw [if_neg h0, if_pos h3]
      rw [h2]
      go_enter Tryd.func48, Tryd.ntmps48
      go_wp2
      go_ret
      exact ⟨rfl, rfl⟩
    · have h2 : checkE n = 0 := by unfold checkE; rw [if_neg h0, if_neg h3]
      rw [h2]
      go_enter Tryd.func48, Tryd.ntmps48
      go_wp2
      go_ret
      exact ⟨rfl, rfl⟩
end Go.Proofs.YtpmakhfpdidleaaDoor
namespace Go.Proofs.YtpmakhfpdidleaaDoor
open Go.RowKit Go.Shelf
set_option linter.unusedVariables false
set_option maxRecDepth 100000 in
theorem rfirst_any (A : Option Addr) (c : Nat) (ss : List ByteArray) (w : World) (hA : Sl w w.heap.size 1 A ss.length (strV ss)) (hs : ∀ s ∈ ss, s.size ≤ 140737488355328) (hn : ss.length ≤ 1024) :
    Calls Tryd.prog 49 #[.slice A ss.length c] w fun e w' => ∃ v, e = .returned v ∧ w'.ownsRow w.heap.size 29 1 v ss.length (u64V (leavesD ss)) ∧ Below w.heap.size w w' := by
  obtain ⟨i0, hi0, hz0, hz1, hz2⟩ := info_parts info_digest
  have Hs := Lib.hid hs
  have HA := Lib.hid hA
  clear hs hA
  go_enter Tryd.func49, Tryd.ntmps49
  go_wp2
  go_loopw [3, 4] (fun v i wr => ∃ k : Nat, k ≤ ss.length ∧ i = .int .i64 (k : Int) ∧ wr.ownsRow w.heap.size 29 1 v k (u64V (leavesD (ss.take k))) ∧ Below w.heap.size w wr) (fun _ i _ => ss.length - (intOf i).toNat)
  case atStart => exact ⟨0, Nat.zero_le _, rfl, ⟨rfl, .inl ⟨rfl, rfl⟩⟩, Below.refl _ _⟩
  case round =>
    obtain ⟨k, hk, rfl, hown, hB⟩ := hrel
    have Hown := Lib.hid hown
    clear hown
    by_cases hlt : k < ss.length
    · obtain ⟨b, off, rfl, hb, hcell⟩ := (HA.out).2 (by omega)
      have hc : wr.cell? ⟨b, off + k, none⟩ = some (.string ss[k]) := (hB.cell (p := ⟨b, off + k, none⟩) hb).trans (hcell k _ (by simp [strV, hlt]))
      have hsz := Hs.out ss[k] (List.getElem_mem hlt)
      have hsn := leavesD_snoc ss k hlt
      obtain ⟨x, hx⟩ : ∃ x, ss[k] = x := ⟨_, rfl⟩
      rw [hx] at hc hsz hsn
      have Hsn := Lib.hid hsn
      have hlt' : (k : Int) < (ss.length : Int) := by omega
      clear hcell hx hsn
      go_wp2_with fail
      refine (rleaf_any _ _ hsz).mono ?_
      rintro e w1 ⟨rfl, hB1⟩
      have hBn := bgo hB hB1
      have Hown1 := Lib.hid (own_below Hown.out hB1)
      clear hB hB1 Hown
      go_wp2_with (at_builtin; refine app_one rfl _ _ 33 rfl 29 i0 (.int .u64 0) 1 8 Tryd.underlying33 hi0 hz0 hz1 hz2 rfl (by decide) _ k _ rfl Hown1.out hBn [.int .u64 (Mk.leafD x.data.toList).toNat] _ _ rfl rfl (by simp [Value.oneCell']) (by unfold maxLen; omega) (by omega) ?_)
      intro v' w2 hown2 hB2 hoth
      clear hoth
      have HR := Lib.hid hown2
      clear hown2
      go_wp2
      go_roundw
      case rel => exact ⟨k + 1, by omega, by go_num, by rw [Hsn.out, u64V_snoc]; exact HR.out, hB2⟩
      case measure => simp [intOf]; omega
    · obtain rfl : k = ss.length := by omega
      rw [List.take_length] at Hown
      go_wp2
      go_ret
      exact ⟨_, rfl, Hown.out, hB⟩
set_option maxRecDepth 100000 in
set_option maxHeartbeats 1000000 in
theorem rnext_any (A : Option Addr) (c : Nat) (r : List UInt64) (w : World) (hA : Sl w w.heap.size 1 A r.length (u64V r)) (hn : r.length ≤ 1024) :
    Calls Tryd.prog 50 #[.slice A r.length c] w fun e w' => ∃ v, e = .returned v ∧ w'.ownsRow w.heap.size 29 1 v (Mk.nextRow r).length (u64V (Mk.nextRow r)) ∧ Below w.heap.size w w' := by
  obtain ⟨i0, hi0, hz0, hz1, hz2⟩ := info_parts info_digest
  have HA := Lib.hid hA
  clear hA
  go_enter Tryd.func50, Tryd.ntmps50
  go_wp2
  go_loopw [3, 4] (fun v i wr => ∃ q p : Nat, p = 2 * q ∧ p ≤ r.length + 1 ∧ i = .int .i64 (p : Int) ∧ wr.ownsRow w.heap.size 29 1 v q (u64V ((Mk.nextRow r).take q)) ∧ Below w.heap.size w wr) (fun _ i _ => r.length + 2 - (intOf i).toNat)
  case atStart => exact ⟨0, 0, rfl, by omega, rfl, ⟨rfl, .inl ⟨rfl, rfl⟩⟩, Below.refl _ _⟩
  case round =>
    obtain ⟨q, p, hp, hpr, rfl, hownq, hBq⟩ := hrel
    have Hownq := Lib.hid hownq
    clear hownq
    have Hp := Lib.hid hp
    clear hp
    by_cases hlt : p < r.length
    · obtain ⟨g, off, rfl, hgl, hcell0⟩ := (HA.out).2 (by omega)
      have hcell : ∀ j, j < r.length → wr.cell? ⟨g, off + j, none⟩ = some (.int .u64 (r.getD j 0).toNat) := fun j hj => (hBq.cell (p := ⟨g, off + j, none⟩) hgl).trans (hcell0 j _ (u64V_get r j hj))
      clear hcell0
      have hi1 : (p : Int) < (r.length : Int) := by omega
      by_cases hq2 : p + 1 < r.length
      · have hc0 := hcell p (by omega)
        have hc1 := hcell (p + 1) hq2
        clear hcell
        obtain ⟨x, hx⟩ : ∃ x, x = r.getD p 0 := ⟨_, rfl⟩
        obtain ⟨y, hy1⟩ : ∃ y, y = r.getD (p + 1) 0 := ⟨_, rfl⟩
        rw [← hx] at hc0
        rw [← hy1] at hc1
        have Hx := Lib.hid hx
        have Hy := Lib.hid hy1
        clear hx hy1
        have hi2 : (p : Int) + 1 < (r.length : Int) := by omega
        go_wp2
        have hi3 : (0 : Int) ≤ (p : Int) := Int.natCast_nonneg _
        have hi4 : (0 : Int) ≤ (p : Int) + 1 := by omega
        have hgw : g < wr.heap.size := Nat.lt_of_lt_of_le hgl hBq.size
        have hne : some g ≠ Value.ownBlock u3 := fun e => by have := (Hownq.out.lt g e.symm).1; omega
        have hml : q + 1 ≤ maxLen := by have := Hp.out; unfold maxLen; omega
        have hmb : (q + 1) * 8 ≤ 140737488355328 := by have := Hp.out; omega
        have hwr : IntKind.i64.wrap ((p : Int) + 1) = (p : Int) + 1 := IntWalk.i64_in _ (by omega)
        have htn : ((p : Int) + 1).toNat = p + 1 := by omega
        go_region_held3 (fun w' => w'.cell? ⟨g, off + p, none⟩ = some (.int .u64 x.toNat) ∧ w'.cell? ⟨g, off + (p + 1), none⟩ = some (.int .u64 y.toNat))
          (go_keep)
          (first
            | (go_at_call 70; refine (rnode_any _ _ _).mono ?_; rintro e wp ⟨rfl, hbp⟩; have hp0 := (hbp.cell (p := ⟨g, off + p, none⟩) hgw).trans hc0; have hp1 := (hbp.cell (p := ⟨g, off + (p + 1), none⟩) hgw).trans hc1; have hgp := Nat.lt_of_lt_of_le hgw hbp.size)
            | (refine step_append_lies _ (by rfl) _ _ _ (by rfl) w.heap.size 29 i0 (.int .u64 0) 1 8 Tryd.underlying33 hi0 hz0 hz1 hz2 (by rfl) Nat.one_pos u3 q (u64V ((Mk.nextRow r).take q)) (by rfl) ((own_below (w := wr.drew) Hownq.out hbp).alloc _)
                ⟨wp.heap.size, 0, none⟩ 1 1 [.int .u64 (Dig.pair x y).toNat] (by rfl) (by rfl) (World.news_of_block (cs := #[.int .u64 (Dig.pair x y).toNat]) (t := 29) (fr := (0, 0)) (heap_alloc_new wp _)) (by simp [Value.oneCell'])
                Nat.one_pos hml hmb (Nat.le_trans (Nat.le_trans hBq.size hbp.size) (by simp)) (wp.heap.size + 1) (by simp) ?_; intro gg cap2 w1 hown1 hgrow hat hlt
               have hq0 : w1.cell? ⟨g, off + p, none⟩ = some (.int .u64 x.toNat) := (World.cell?_of_block (hgrow.block g (by simp; omega) hne)).trans ((World.cell?_alloc_lt wp _ ⟨g, off + p, none⟩ hgp).trans hp0)
               have hq1 : w1.cell? ⟨g, off + (p + 1), none⟩ = some (.int .u64 y.toNat) := (World.cell?_of_block (hgrow.block g (by simp; omega) hne)).trans ((World.cell?_alloc_lt wp _ ⟨g, off + (p + 1), none⟩ hgp).trans hp1)))
        clear hwr htn hq0 hq1 hp0 hp1 hc0 hc1 hi1 hi2 hi3 hi4
        have hB1 : Below w.heap.size w w1 := ((hBq.trans (below_undrew (hbp.mono hBq.size))).alloc (Nat.le_trans hBq.size hbp.size) _).grown hgrow (Nat.le_trans (Nat.le_trans hBq.size hbp.size) (by simp)) (fun k hk => (Hownq.out.lt k hk).1)
        have HO := Lib.hid hown1
        clear hown1 hgrow hat
        go_wp2
        go_roundw
        case rel => exact ⟨q + 1, p + 2, by have := Hp.out; omega, by omega, by go_num, by rw [Mk.take_pair r q (by have := Hp.out; omega), u64V_snoc, ← Hp.out, ← Hx.out, ← Hy.out]; exact HO.out, hB1⟩
        case measure => simp [intOf]; omega
      · have hcl := hcell p hlt
        have hto := Mk.take_odd r (by have := Hp.out; omega)
        have hnl := Mk.nextRow_length r
        have hq' := Hp.out
        have hqe : r.length / 2 = q := by omega
        have hpe : r.length - 1 = p := by omega
        have hfull : (Mk.nextRow r).take (q + 1) = Mk.nextRow r := List.take_of_length_le (by omega)
        rw [hqe, hpe] at hto
        obtain ⟨x, hx⟩ : ∃ x, r.getD p 0 = x := ⟨_, rfl⟩
        rw [hx] at hcl hto
        have Hto := Lib.hid (And.intro hto hfull)
        have hd2 : decide ((p : Int) + 1 < (r.length : Int)) = false := decide_eq_false (by omega)
        clear hx hto hfull hqe hpe hq' hcell hnl
        go_wp2_with (at_builtin; refine app_one rfl _ _ 33 rfl 29 i0 (.int .u64 0) 1 8 Tryd.underlying33 hi0 hz0 hz1 hz2 rfl (by decide) _ q _ rfl Hownq.out hBq [.int .u64 x.toNat] _ _ rfl rfl (by simp [Value.oneCell']) (by have := Hp.out; unfold maxLen; omega) (by have := Hp.out; omega) ?_)
        intro v' w2 hown2 hB2 hoth
        clear hoth
        have HR := Lib.hid hown2
        clear hown2
        go_wp2
        go_roundw
        case rel => exact ⟨q + 1, p + 2, by have := Hp.out; omega, by omega, by go_num, by rw [Hto.out.2, Hto.out.1, u64V_snoc]; exact HR.out, hB2⟩
        case measure => simp [intOf]; omega
    · have hnl := Mk.nextRow_length r
      have hq' := Hp.out
      have hqe : (Mk.nextRow r).length = q := by omega
      have ht : (Mk.nextRow r).take q = Mk.nextRow r := List.take_of_length_le (by omega)
      rw [ht] at Hownq
      have Hqe := Lib.hid hqe
      clear hnl hq' hqe ht
      go_wp2
      go_ret
      rw [Hqe.out]
      exact ⟨_, rfl, Hownq.out, hBq⟩
theorem rnext_at (A : Option Addr) (c n : Nat) (r : List UInt64) (w : World) (hr : r.length = n) (hA : Sl w w.heap.size 1 A n (u64V r)) (hn : n ≤ 1024) :
    Calls Tryd.prog 50 #[.slice A n c] w fun e w' => ∃ v, e = .returned v ∧ w'.ownsRow w.heap.size 29 1 v (Mk.nextRow r).length (u64V (Mk.nextRow r)) ∧ Below w.heap.size w w' := by
  subst hr
  exact rnext_any A c r w hA hn
set_option maxRecDepth 100000 in
set_option maxHeartbeats 1000000 in
theorem rroot_any (A : Option Addr) (c : Nat) (ss : List ByteArray) (w : World) (hA : Sl w w.heap.size 1 A ss.length (strV ss)) (hs : ∀ s ∈ ss, s.size ≤ 140737488355328) (hl : ss.length ≤ maxLen) :
    Calls Tryd.prog 26 #[.slice A ss.length c] w fun e w' => e = .returned (.tuple #[.int .u64 (rootV ss).toNat, .int .i64 (checkE ss.length)]) ∧ Below w.heap.size w w' := by
  by_cases hok : checkE ss.length = 0
  · have h1 : 1 ≤ ss.length ∧ ss.length ≤ 1024 := by
      unfold checkE at hok
      split at hok
      · cases hok
      · split at hok
        · cases hok
        · omega
    obtain ⟨h1, h2⟩ := h1
    have hroot : rootV ss = Mk.rootF 10 (leavesD ss) := rootV_ok ss h1 h2
    obtain ⟨r, hr⟩ : ∃ r, rootV ss = r := ⟨_, rfl⟩
    rw [hr] at hroot ⊢
    have Hr := Lib.hid hroot
    have Hok := Lib.hid hok
    have HA := Lib.hid hA
    have Hs := Lib.hid hs
    rw [hok]
    clear hok hr hroot hA hs
    go_enter Tryd.func26, Tryd.ntmps26
    go_wp2_with fail
    refine (wrong_any _ _ _ _ 0 hl Hok.out).mono ?_
    rintro e w' ⟨rfl, rfl⟩
    go_wp2_with fail
    refine (rfirst_any _ _ _ _ HA.out Hs.out h2).mono ?_
    rintro e w1 ⟨v, rfl, hown1, hB1⟩
    have HO := Lib.hid hown1
    clear hown1
    go_wp2
    go_loopw [5] (fun v wx => ∃ (k n : Nat) (A : Option Addr) (c : Nat), v = .slice A n c ∧ (Mk.rowN (leavesD ss) k).length = n ∧ 1 ≤ n ∧ n ≤ 1024 ∧ (∀ j, j < k → 1 < (Mk.rowN (leavesD ss) j).length) ∧ Sl wx wx.heap.size 1 A n (u64V (Mk.rowN (leavesD ss) k)) ∧ Below w.heap.size w wx) (fun v _ => sliceLen v)
    case atStart =>
      obtain ⟨A1, c1, hv, hS⟩ := own_slice HO.out
      exact ⟨0, ss.length, A1, c1, hv, leavesD_len ss, h1, h2, fun j hj => absurd hj (Nat.not_lt_zero j), hS, hB1⟩
    case round =>
      clear HO hB1
      obtain ⟨k, n, A1, c1, rfl, hkn, hn1, hn2, hj, hS, hB⟩ := hrel
      obtain ⟨R, hR⟩ : ∃ R, Mk.rowN (leavesD ss) k = R := ⟨_, rfl⟩
      rw [hR] at hkn hS
      have HS := Lib.hid hS
      have HJ := Lib.hid hj
      have HR := Lib.hid hR
      have Hkn := Lib.hid hkn
      clear hS hj hR hkn
      by_cases hgt : 1 < n
      · have hgt' : (1 : Int) < (n : Int) := by omega
        go_wp2_with fail
        refine (rnext_at _ _ n R _ Hkn.out HS.out hn2).mono ?_
        rintro e w2 ⟨v, rfl, hown2, hB2⟩
        have hB2' := bgo hB hB2
        have HO := Lib.hid hown2
        clear hown2 hB hB2
        go_wp2
        go_roundw
        case rel =>
          obtain ⟨A2, c2, hv, hS2⟩ := own_slice HO.out
          have hrow : Mk.rowN (leavesD ss) (k + 1) = Mk.nextRow R := by rw [Mk.rowN, HR.out]
          have hnl := Mk.nextRow_length R
          have hk' := Hkn.out
          refine ⟨k + 1, (Mk.nextRow R).length, A2, c2, hv, by rw [hrow], by omega, by omega, ?_, by rw [hrow]; exact hS2, hB2'⟩
          intro j hj
          rcases Nat.lt_succ_iff_lt_or_eq.1 hj with h | h
          · exact HJ.out j h
          · rw [h, HR.out, Hkn.out]; exact hgt
        case measure =>
          rw [own_len HO.out, Mk.nextRow_length, Hkn.out]
          show (n + 1) / 2 < n
          omega
      · have hgt' : decide ((1 : Int) < (n : Int)) = false := decide_eq_false (by omega)
        obtain ⟨b, off, rfl, hb, hcell⟩ := (HS.out).2 (by omega)
        have hc := hcell 0 _ (u64V_get R 0 (by have := Hkn.out; omega))
        rw [Nat.add_zero] at hc
        have hk10 : k ≤ 10 := rows_bound _ (by rw [leavesD_len]; exact h2) k HJ.out
        have hroot := Mk.root_row k 10 (leavesD ss) hk10 (by rw [HR.out, Hkn.out]; omega) HJ.out
        rw [HR.out, ← Hr.out] at hroot
        rw [← hroot] at hc
        have hn0 : (0 : Int) < (n : Int) := by omega
        clear hcell hroot
        go_wp2
        go_ret2
        exact ⟨rfl, hB⟩
  · have h0 : rootV ss = 0 := by unfold rootV; rw [if_neg hok]
    rw [h0]
    obtain ⟨e, he⟩ : ∃ e, checkE ss.length = e := ⟨_, rfl⟩
    rw [he] at hok ⊢
    have hne : (e != 0) = true := by simpa using hok
    have He := Lib.hid he
    clear hok h0 he
    go_enter Tryd.func26, Tryd.ntmps26
    go_wp2_with fail
    refine (wrong_any _ _ _ _ e hl He.out).mono ?_
    rintro e w' ⟨rfl, rfl⟩
    go_wp2_with fail
    go_ret2
    exact ⟨rfl, Below.refl _ _⟩
end Go.Proofs.YtpmakhfpdidleaaDoor
