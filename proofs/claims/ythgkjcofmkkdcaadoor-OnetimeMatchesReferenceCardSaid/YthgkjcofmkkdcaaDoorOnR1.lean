/- The walks of the reference of onetime: Digits, Step, Steps, Secret; and after, leaf of the law package. -/
import Derived.Test.YthgkjcofmkkdcaaDoorOnHead
import Derived.Test.YthgkjcofmkkdcaaDoorDigRefT
import Derived.Test.YthgkjcofmkkdcaaDoorApp2
namespace Go.Proofs.YthgkjcofmkkdcaaDoor
open Go.RowKit Go.Shelf
set_option linter.unusedVariables false
set_option maxRecDepth 100000
theorem text_index (d : UInt64) (k : Nat) (hk : k < 16) (w : World) : (Instr.index 9 (.string (textB d)) (.int .i64 (k : Int))).run Tryd.prog w = .ok (.int .u8 ((Dig.hexd (On.digit d k)).toNat : Int)) w := by
  rcases lt16 k hk with rfl | rfl | rfl | rfl | rfl | rfl | rfl | rfl | rfl | rfl | rfl | rfl | rfl | rfl | rfl | rfl <;> kernel_rfl
theorem hexd_lo (m : Nat) (h : m < 10) : ((Dig.hexd m).toNat : Int) = 48 + (m : Int) := by
  unfold Dig.hexd; rw [if_pos h, UInt8.toNat_ofNat']; omega
theorem hexd_hi (m : Nat) (h : ¬ m < 10) (h' : m < 16) : ((Dig.hexd m).toNat : Int) = 87 + (m : Int) := by
  unfold Dig.hexd; rw [if_neg h, UInt8.toNat_ofNat']; omega
def digI (d : UInt64) (k : Nat) : List Value := (List.range k).map fun j => Value.int .i64 (On.digit d j : Int)
theorem digI_snoc (d : UInt64) (k : Nat) : digI d (k + 1) = digI d k ++ [.int .i64 (On.digit d k : Int)] := by simp [digI, List.range_succ]
def digR (d : UInt64) : List Value := (On.digs d).map fun (m : Nat) => Value.int .i64 (m : Int)
theorem digR_eq (d : UInt64) : digI d 16 ++ [.int .i64 ((On.csum d 16 / 16 : Nat) : Int), .int .i64 ((On.csum d 16 % 16 : Nat) : Int)] = digR d := rfl
theorem digR_get (d : UInt64) (k : Nat) (h : k < 18) : (digR d)[k]? = some (.int .i64 (On.dg d k : Int)) := by
  rcases On.lt18 h with rfl | rfl | rfl | rfl | rfl | rfl | rfl | rfl | rfl | rfl | rfl | rfl | rfl | rfl | rfl | rfl | rfl | rfl <;> rfl
theorem info_int : (Tryd.prog.info? 3).map (fun i => (i.zero, i.size, i.bytes)) = some (some (.int .i64 0), 1, 8) := by kernel_rfl
theorem rsum_at (s : ByteArray) (v : UInt64) (w : World) (hv : Hid (Dig.sum s.data.toList = v)) (hs : s.size ≤ maxLen) : Calls Tryd.prog 54 #[.string s] w fun e w' => e = .returned (.int .u64 v.toNat) ∧ w = w' := by
  rw [← hv.out]; exact rsum_any s w hs
theorem rtext_b (d : UInt64) (w : World) : Calls Tryd.prog 53 #[.int .u64 d.toNat] w fun e w' => e = .returned (.string (textB d)) ∧ w = w' := rtext_any d w
set_option maxHeartbeats 4000000 in
theorem rdigits_any (t : ByteArray) (d : UInt64) (hd : Hid (Dig.sum t.data.toList = d)) (w : World) (ht : t.size ≤ maxLen) :
    Calls Tryd.prog 29 #[.string t] w fun e w' => ∃ v, e = .returned v ∧ w'.ownsRow w.heap.size 3 1 v 18 (digR d) ∧ Below w.heap.size w w' := by
  obtain ⟨i0, hi0, hz0, hz1, hz2⟩ := info_parts info_int
  go_enter Tryd.func29, Tryd.ntmps29
  go_wp2_with fail
  refine (rsum_at _ _ _ hd ht).mono ?_
  rintro e w' ⟨rfl, rfl⟩
  go_wp2_with fail
  refine (rtext_b d _).mono ?_
  rintro e w' ⟨rfl, rfl⟩
  go_wp2
  go_loopw [4, 5, 6] (fun v c i wr => ∃ k : Nat, k ≤ 16 ∧ i = .int .i64 k ∧ c = .int .i64 (On.csum d k : Int) ∧ wr.ownsRow w.heap.size 3 1 v k (digI d k) ∧ Below w.heap.size w wr) (fun _ _ i _ => 16 - (intOf i).toNat)
  case atStart => exact ⟨0, by omega, rfl, rfl, ⟨rfl, .inl ⟨rfl, rfl⟩⟩, Below.refl _ _⟩
  case round =>
    obtain ⟨k, hk, rfl, rfl, hown, hB⟩ := hrel
    have Hown := Lib.hid hown
    have hcs := On.csum_le d k
    clear hown
    by_cases hlt : k < 16
    · have hlt' : (k : Int) < 16 := by omega
      have hidx : ∀ W, (Instr.index 9 (.string (textB d)) (.int .i64 (k : Int))).run Tryd.prog W = .ok (.int .u8 ((Dig.hexd (On.digit d k)).toNat : Int)) W := fun W => text_index d k hlt W
      have hm16 := On.digit_lt d k
      have hcn : On.csum d (k + 1) = On.csum d k + (15 - On.digit d k) := rfl
      obtain ⟨m, hm⟩ : ∃ m, On.digit d k = m := ⟨_, rfl⟩
      obtain ⟨q, hq⟩ : ∃ q, On.csum d k = q := ⟨_, rfl⟩
      rw [hm] at hidx hm16 hcn
      rw [hq] at hcs hcn ⊢
      have Hm := Lib.hid (And.intro hm hcn)
      clear hm hq hcn
      by_cases h10 : m < 10
      · rw [hexd_lo m h10] at hidx
        have e1 : (48 : Int) + (m : Int) - 48 = (m : Int) := by omega
        have e2 : decide ((97 : Int) ≤ 48 + (m : Int)) = false := decide_eq_false (by omega)
        go_wp2_with (at_builtin; refine app_one rfl _ _ 50 rfl 3 i0 _ 1 8 Tryd.underlying50 hi0 hz0 hz1 hz2 rfl (by decide) _ _ _ rfl Hown.out hB [.int .i64 (m : Int)] _ _ rfl rfl ?c1 ?c2 ?c3 ?_)
        case c1 => simp [Value.oneCell']
        case c2 => simp [maxLen]; omega
        case c3 => omega
        intro v' w2 hown2 hB2 _
        have HR := Lib.hid hown2
        clear hown2 hidx
        go_wp2
        go_roundw
        case rel =>
          refine ⟨k + 1, by omega, by go_num, by rw [Hm.out.2]; go_num, ?_, hB2⟩
          rw [digI_snoc, Hm.out.1]
          exact HR.out
        case measure => simp [intOf]; omega
      · rw [hexd_hi m h10 hm16] at hidx
        have e1 : (87 : Int) + (m : Int) - 97 + 10 = (m : Int) := by omega
        have e2 : decide ((97 : Int) ≤ 87 + (m : Int)) = true := decide_eq_true (by omega)
        go_wp2_with (at_builtin; refine app_one rfl _ _ 50 rfl 3 i0 _ 1 8 Tryd.underlying50 hi0 hz0 hz1 hz2 rfl (by decide) _ _ _ rfl Hown.out hB [.int .i64 (m : Int)] _ _ rfl rfl ?c1 ?c2 ?c3 ?_)
        case c1 => simp [Value.oneCell']
        case c2 => simp [maxLen]; omega
        case c3 => omega
        intro v' w2 hown2 hB2 _
        have HR := Lib.hid hown2
        clear hown2 hidx
        go_wp2
        go_roundw
        case rel =>
          refine ⟨k + 1, by omega, by go_num, by rw [Hm.out.2]; go_num, ?_, hB2⟩
          rw [digI_snoc, Hm.out.1]
          exact HR.out
        case measure => simp [intOf]; omega
    · obtain rfl : k = 16 := by omega
      obtain ⟨q, hq⟩ : ∃ q, On.csum d 16 = q := ⟨_, rfl⟩
      rw [hq] at hcs ⊢
      have Hq := Lib.hid hq
      clear hq
      go_wp2_with (at_builtin; refine app_src (w0 := w) rfl _ _ 50 rfl 3 i0 _ 1 8 Tryd.underlying50 hi0 hz0 hz1 hz2 rfl (by decide) _ 16 (digI d 16) rfl (Hown.out.alloc _) (bal hB _) _ 2 [.int .i64 ((q : Int) / 16), .int .i64 ((q : Int) % 16)] rfl (block_src _ _ _ _ _ _ _ rfl) ?c1 ?c2 ?c3 ?_)
      case c1 => simp [Value.oneCell']
      case c2 => decide
      case c3 => decide
      intro v' w2 hown2 hB2 _
      have HR := Lib.hid hown2
      clear hown2
      go_wp2
      go_ret
      refine ⟨_, rfl, ?_, hB2⟩
      have := HR.out
      rw [show (q : Int) / 16 = ((On.csum d 16 / 16 : Nat) : Int) by rw [Hq.out]; omega, show (q : Int) % 16 = ((On.csum d 16 % 16 : Nat) : Int) by rw [Hq.out]; omega, digR_eq] at this
      exact this
set_option maxHeartbeats 1000000 in
theorem rstep_any (x : UInt64) (w : World) : Calls Tryd.prog 69 #[.int .u64 x.toNat] w fun e w' => e = .returned (.int .u64 (On.step x).toNat) ∧ w = w' := by
  have hstep : Hid (Dig.sum ((⟨#[2]⟩ : ByteArray) ++ textB x).data.toList = On.step x) := Lib.hid (step_eq x)
  have hsz := step_size x
  have hz : ¬ (9223372036854775807 < 1 + (textB x).size) := by rw [textB_size]; decide
  go_enter Tryd.func69, Tryd.ntmps69
  go_wp2_with fail
  refine (rtext_b x _).mono ?_
  rintro e w' ⟨rfl, rfl⟩
  go_wp2_with fail
  refine (rsum_at _ _ _ hstep hsz).mono ?_
  rintro e w' ⟨rfl, rfl⟩
  go_wp2_with fail
  go_ret
  exact ⟨rfl, rfl⟩
set_option maxHeartbeats 1000000 in
theorem rsteps_any (x : UInt64) (N : Nat) (y : UInt64) (hy : Hid (On.steps N x = y)) (hN : N < 9223372036854775807) (w : World) : Calls Tryd.prog 44 #[.int .u64 x.toNat, .int .i64 (N : Int)] w fun e w' => e = .returned (.int .u64 y.toNat) ∧ w = w' := by
  rw [← hy.out]
  clear hy
  go_enter Tryd.func44, Tryd.ntmps44
  go_wp2
  go_loopw [0, 5] (fun v i wr => ∃ k : Nat, k ≤ N ∧ i = .int .i64 k ∧ v = .int .u64 (On.steps k x).toNat ∧ w = wr) (fun _ i _ => N - (intOf i).toNat)
  case atStart => exact ⟨0, Nat.zero_le _, rfl, rfl, rfl⟩
  case round =>
    obtain ⟨k, hk, rfl, rfl, hw⟩ := hrel
    have Hw := Lib.hid hw
    clear hw
    obtain ⟨z, hz⟩ : ∃ z, On.steps k x = z := ⟨_, rfl⟩
    rw [hz]
    have Hz := Lib.hid hz
    clear hz
    by_cases hlt : k < N
    · have hlt' : (k : Int) < (N : Int) := by omega
      go_wp2_with fail
      refine (rstep_any z _).mono ?_
      rintro e w' ⟨rfl, rfl⟩
      go_wp2
      go_roundw
      case rel => exact ⟨k + 1, by omega, by go_num, by rw [← Hz.out]; rfl, Hw.out⟩
      case measure => simp [intOf]; omega
    · obtain rfl : k = N := by omega
      go_wp2
      go_ret
      exact ⟨by rw [← Hz.out]; rfl, Hw.out⟩
set_option maxHeartbeats 1000000 in
theorem rsecret_any (seed : ByteArray) (i k : Int) (x : UInt64) (hx : Hid (On.secret seed.data.toList i k = x)) (w : World) (hT : PTab w) (hs : seed.size ≤ 100) (hi : -9223372036854775808 ≤ i ∧ i ≤ 9223372036854775807) (hk : -9223372036854775808 ≤ k ∧ k ≤ 9223372036854775807) :
    Calls Tryd.prog 45 #[.string seed, .int .i64 i, .int .i64 k] w fun e w' => e = .returned (.int .u64 x.toNat) ∧ Below w.heap.size w w' := by
  rw [← hx.out]
  clear hx
  obtain ⟨t1, ht1⟩ : ∃ t, itoaB i = t := ⟨_, rfl⟩
  obtain ⟨t2, ht2⟩ : ∃ t, itoaB k = t := ⟨_, rfl⟩
  have s1 := itoaB_size i hi.1 hi.2
  have s2 := itoaB_size k hk.1 hk.2
  rw [ht1] at s1
  rw [ht2] at s2
  have hv : Hid (Dig.sum ((⟨#[3]⟩ : ByteArray) ++ t1 ++ ⟨#[32]⟩ ++ t2 ++ ⟨#[32]⟩ ++ seed).data.toList = On.secret seed.data.toList i k) := by
    refine Lib.hid ?_
    rw [secret_data, ← ht1, ← ht2]
    rfl
  have H1 := Lib.hid ht1
  have H2 := Lib.hid ht2
  clear ht1 ht2
  have q1 : ((⟨#[3]⟩ : ByteArray) ++ t1).size ≤ 22 := by rw [app_size]; show 1 + _ ≤ _; omega
  have q2 : ((⟨#[3]⟩ : ByteArray) ++ t1 ++ ⟨#[32]⟩).size ≤ 23 := by rw [app_size]; show _ + 1 ≤ _; omega
  have q3 : ((⟨#[3]⟩ : ByteArray) ++ t1 ++ ⟨#[32]⟩ ++ t2).size ≤ 44 := by rw [app_size]; omega
  have q4 : ((⟨#[3]⟩ : ByteArray) ++ t1 ++ ⟨#[32]⟩ ++ t2 ++ ⟨#[32]⟩).size ≤ 45 := by rw [app_size]; show _ + 1 ≤ _; omega
  have q5 : ((⟨#[3]⟩ : ByteArray) ++ t1 ++ ⟨#[32]⟩ ++ t2 ++ ⟨#[32]⟩ ++ seed).size ≤ maxLen := by rw [app_size]; unfold maxLen; omega
  go_enter Tryd.func45, Tryd.ntmps45
  go_wp2_with fail
  refine (itoa_any i hi.1 hi.2 t1 H1 _ hT).mono ?_
  rintro e w1 ⟨rfl, hB1⟩
  have hT1 := hT.go hB1
  go_wp2_with fail
  refine (itoa_any k hk.1 hk.2 t2 H2 _ hT1).mono ?_
  rintro e w2 ⟨rfl, hB2⟩
  go_wp2_with fail
  refine (rsum_at _ _ _ hv q5).mono ?_
  rintro e w3 ⟨rfl, rfl⟩
  go_wp2_with fail
  go_ret
  exact ⟨rfl, bgo hB1 hB2⟩
set_option maxHeartbeats 1000000 in
theorem after_any (x : UInt64) (N : Nat) (y : UInt64) (hy : Hid (On.steps N x = y)) (hN : N < 9223372036854775807) (w : World) (hT : Tab w) : Calls Tryd.prog 30 #[.int .u64 x.toNat, .int .i64 (N : Int)] w fun e w' => e = .returned (.int .u64 y.toNat) ∧ Below w.heap.size w w' := by
  rw [← hy.out]
  clear hy
  go_enter Tryd.func30, Tryd.ntmps30
  go_wp2
  go_loopw [0, 6] (fun v i wr => ∃ k : Nat, k ≤ N ∧ i = .int .i64 k ∧ v = .int .u64 (On.steps k x).toNat ∧ Below w.heap.size w wr) (fun _ i _ => N - (intOf i).toNat)
  case atStart => exact ⟨0, Nat.zero_le _, rfl, rfl, Below.refl _ _⟩
  case round =>
    obtain ⟨k, hk, rfl, rfl, hB⟩ := hrel
    have hT1 := hT.below hB
    obtain ⟨z, hz⟩ : ∃ z, On.steps k x = z := ⟨_, rfl⟩
    rw [hz]
    have Hz := Lib.hid hz
    clear hz
    by_cases hlt : k < N
    · have hlt' : (k : Int) < (N : Int) := by omega
      have hstep : Hid (Dig.sum ((⟨#[2]⟩ : ByteArray) ++ textB z).data.toList = On.step z) := Lib.hid (step_eq z)
      have hsz := step_size z
      have hzz : ¬ (9223372036854775807 < 1 + (textB z).size) := by rw [textB_size]; decide
      go_wp2_with fail
      refine (text_b z _ hT1).mono ?_
      rintro e w2 ⟨rfl, hB2⟩
      go_wp2_with fail
      refine (sum_at _ _ _ hstep hsz).mono ?_
      rintro e w' ⟨rfl, rfl⟩
      have hB3 := bgo hB hB2
      go_wp2
      go_roundw
      case rel => exact ⟨k + 1, by omega, by go_num, by rw [← Hz.out]; rfl, hB3⟩
      case measure => simp [intOf]; omega
    · obtain rfl : k = N := by omega
      go_wp2
      go_ret
      exact ⟨by rw [← Hz.out]; rfl, hB⟩
end Go.Proofs.YthgkjcofmkkdcaaDoor
