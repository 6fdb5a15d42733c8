/- The walks of package calendar, fourth part: Parse. -/
import Derived.Test.YtnfjpmchdbgonaaDoorCalW3
namespace Go.Proofs.YtnfjpmchdbgonaaDoor
open Go.RowKit Go.Sort
set_option linter.unusedVariables false
def isD (c : UInt8) : Bool := decide (48 ≤ c.toNat ∧ c.toNat ≤ 57)
def dv (c : UInt8) : Nat := c.toNat - 48
/-- A text has the form of a date. -/
def okAt (l : List UInt8) (k : Nat) : Bool := if k = 4 ∨ k = 7 then l.getD k 0 == 45 else isD (l.getD k 0)
def okF (l : List UInt8) : Bool := decide (l.length = 10) && (List.range 10).all (okAt l)
def yOf (l : List UInt8) : Nat := ((dv (l.getD 0 0) * 10 + dv (l.getD 1 0)) * 10 + dv (l.getD 2 0)) * 10 + dv (l.getD 3 0)
def mOf (l : List UInt8) : Nat := dv (l.getD 5 0) * 10 + dv (l.getD 6 0)
def dOf (l : List UInt8) : Nat := dv (l.getD 8 0) * 10 + dv (l.getD 9 0)
def parI (l : List UInt8) : Int := if okF l then dayI (yOf l) (mOf l) (dOf l) else 0
def parE (l : List UInt8) : Int := if okF l then dayE (yOf l) (mOf l) (dOf l) else 12
theorem sub8 (c : UInt8) (h1 : 48 ≤ c.toNat) : IntKind.u8.wrap ((c.toNat : Int) - 48) = ((dv c : Nat) : Int) := by
  have := c.toNat_lt
  unfold dv
  rw [IntKind.wrap_u8]
  omega
theorem day_at (y m d i e : Int) (hi : dayI y m d = i) (he : dayE y m d = e) (w : World) (hT : BTab w) (hd : -9223372036854775808 ≤ d ∧ d ≤ 9223372036854775807) : Calls Tryd.prog 25 #[.int .i64 y, .int .i64 m, .int .i64 d] w fun r w' => r = .returned (.tuple #[.int .i64 i, .int .i64 e]) ∧ Below w.heap.size w w' := by
  subst hi he
  exact day_any y m d w hT hd
theorem isD_b {c : UInt8} (h : isD c = true) : 48 ≤ c.toNat ∧ c.toNat ≤ 57 := of_decide_eq_true h
set_option maxRecDepth 100000 in
set_option maxHeartbeats 2000000 in
theorem parse_good (c0 c1 c2 c3 c5 c6 c8 c9 : UInt8) (h0 : isD c0 = true) (h1 : isD c1 = true) (h2 : isD c2 = true) (h3 : isD c3 = true) (h5 : isD c5 = true) (h6 : isD c6 = true) (h8 : isD c8 = true) (h9 : isD c9 = true) (w : World) (hT : BTab w) (i e : Int)
    (hi : dayI ((((dv c0 : Int) * 10 + (dv c1 : Int)) * 10 + (dv c2 : Int)) * 10 + (dv c3 : Int)) ((dv c5 : Int) * 10 + (dv c6 : Int)) ((dv c8 : Int) * 10 + (dv c9 : Int)) = i) (he : dayE ((((dv c0 : Int) * 10 + (dv c1 : Int)) * 10 + (dv c2 : Int)) * 10 + (dv c3 : Int)) ((dv c5 : Int) * 10 + (dv c6 : Int)) ((dv c8 : Int) * 10 + (dv c9 : Int)) = e) :
    Calls Tryd.prog 27 #[.string ⟨#[c0, c1, c2, c3, 45, c5, c6, 45, c8, c9]⟩] w fun r w' => r = .returned (.tuple #[.int .i64 i, .int .i64 e]) ∧ Below w.heap.size w w' := by
  have HT := Lib.hid hT
  have HI := Lib.hid (And.intro hi he)
  replace h0 := isD_b h0
  replace h1 := isD_b h1
  replace h2 := isD_b h2
  replace h3 := isD_b h3
  replace h5 := isD_b h5
  replace h6 := isD_b h6
  replace h8 := isD_b h8
  replace h9 := isD_b h9
  have s0 := sub8 c0 h0.1
  have s1 := sub8 c1 h1.1
  have s2 := sub8 c2 h2.1
  have s3 := sub8 c3 h3.1
  have s5 := sub8 c5 h5.1
  have s6 := sub8 c6 h6.1
  have s8 := sub8 c8 h8.1
  have s9 := sub8 c9 h9.1
  have b0 : dv c0 ≤ 9 := by unfold dv; omega
  have b1 : dv c1 ≤ 9 := by unfold dv; omega
  have b2 : dv c2 ≤ 9 := by unfold dv; omega
  have b3 : dv c3 ≤ 9 := by unfold dv; omega
  have b5 : dv c5 ≤ 9 := by unfold dv; omega
  have b6 : dv c6 ≤ 9 := by unfold dv; omega
  have b8 : dv c8 ≤ 9 := by unfold dv; omega
  have b9 : dv c9 ≤ 9 := by unfold dv; omega
  have g0 : (⟨#[c0, c1, c2, c3, 45, c5, c6, 45, c8, c9]⟩ : ByteArray)[0]'(show 0 < 10 by decide) = c0 := rfl
  have g1 : (⟨#[c0, c1, c2, c3, 45, c5, c6, 45, c8, c9]⟩ : ByteArray)[1]'(show 1 < 10 by decide) = c1 := rfl
  have g2 : (⟨#[c0, c1, c2, c3, 45, c5, c6, 45, c8, c9]⟩ : ByteArray)[2]'(show 2 < 10 by decide) = c2 := rfl
  have g3 : (⟨#[c0, c1, c2, c3, 45, c5, c6, 45, c8, c9]⟩ : ByteArray)[3]'(show 3 < 10 by decide) = c3 := rfl
  have g4 : (⟨#[c0, c1, c2, c3, 45, c5, c6, 45, c8, c9]⟩ : ByteArray)[4]'(show 4 < 10 by decide) = 45 := rfl
  have g5 : (⟨#[c0, c1, c2, c3, 45, c5, c6, 45, c8, c9]⟩ : ByteArray)[5]'(show 5 < 10 by decide) = c5 := rfl
  have g6 : (⟨#[c0, c1, c2, c3, 45, c5, c6, 45, c8, c9]⟩ : ByteArray)[6]'(show 6 < 10 by decide) = c6 := rfl
  have g7 : (⟨#[c0, c1, c2, c3, 45, c5, c6, 45, c8, c9]⟩ : ByteArray)[7]'(show 7 < 10 by decide) = 45 := rfl
  have g8 : (⟨#[c0, c1, c2, c3, 45, c5, c6, 45, c8, c9]⟩ : ByteArray)[8]'(show 8 < 10 by decide) = c8 := rfl
  have g9 : (⟨#[c0, c1, c2, c3, 45, c5, c6, 45, c8, c9]⟩ : ByteArray)[9]'(show 9 < 10 by decide) = c9 := rfl
  clear hT hi he
  go_enter Tryd.func27, Tryd.ntmps27
  go_wp2_with fail
  refine wp_loop_rounds 11 ?_
  iterate 11 (rw [rounds_succ]; go_wp2_with fail)
  refine (day_at _ _ _ i e HI.out.1 HI.out.2 _ (HT.out.go (bal (Below.refl _ _) _)) (by omega)).mono ?_
  rintro r w1 ⟨rfl, hB⟩
  go_wp2_with fail
  go_ret2
  exact ⟨rfl, bgo (bal (Below.refl _ _) _) hB⟩
theorem ok_next {l : List UInt8} {k : Nat} (h : ∀ q, q < k → okAt l q = true) (hk : okAt l k = true) : ∀ q, q < k + 1 → okAt l q = true := by
  intro q hq
  rcases Nat.lt_succ_iff_lt_or_eq.1 hq with h' | h'
  · exact h q h'
  · rw [h']; exact hk
def pk (k : Nat) : Int := if k ≤ 4 then 0 else if k ≤ 7 then 1 else 2
theorem getD_byte (s : ByteArray) (k : Nat) (h : k < s.size) : s.data.toList.getD k 0 = s[k] := by
  rw [List.getD_eq_getElem?_getD, List.getElem?_eq_getElem (by simpa using h)]
  rfl
set_option maxRecDepth 100000 in
set_option maxHeartbeats 4000000 in
theorem parse_bad (s : ByteArray) (hs : s.size ≤ maxLen) (h : okF s.data.toList = false) (w : World) :
    Calls Tryd.prog 27 #[.string s] w fun r w' => r = .returned (.tuple #[.int .i64 0, .int .i64 12]) ∧ Below w.heap.size w w' := by
  unfold maxLen at hs
  by_cases h10 : s.size = 10
  · have hlen : s.data.toList.length = 10 := by rw [Array.length_toList]; exact h10
    obtain ⟨l, hll⟩ : ∃ l, l = s.data.toList := ⟨_, rfl⟩
    have hl : ∀ k (hk : k < 10), l.getD k 0 = s[k]'(by omega) := fun k hk => by rw [hll]; exact getD_byte s k (by omega)
    rw [← hll] at h hlen
    have Hl := Lib.hid hl
    have Hbad := Lib.hid (And.intro h hlen)
    have hne : ((s.size : Int) != 10) = false := by rw [h10]; rfl
    clear hl h hlen hll
    go_enter Tryd.func27, Tryd.ntmps27
    go_wp2_with fail
    go_loopw [5, 14] (fun p i wr => ∃ k : Nat, k ≤ 10 ∧ i = .int .i64 (k : Int) ∧ p = .int .i64 (pk k) ∧ (∀ q, q < k → okAt l q = true) ∧ ∃ a b c : Int, wr = w.alloc (.cells #[.int .i64 a, .int .i64 b, .int .i64 c] 22)) (fun _ i _ => 10 - (intOf i).toNat)
    case atStart => exact ⟨0, by omega, rfl, rfl, fun q hq => absurd hq (Nat.not_lt_zero q), 0, 0, 0, rfl⟩
    case round =>
      obtain ⟨k, hk, rfl, rfl, hall, a, b, c, rfl⟩ := hrel
      have Hall := Lib.hid hall
      clear hall
      rcases (show k = 0 ∨ k = 1 ∨ k = 2 ∨ k = 3 ∨ k = 4 ∨ k = 5 ∨ k = 6 ∨ k = 7 ∨ k = 8 ∨ k = 9 ∨ k = 10 by omega) with rfl | rfl | rfl | rfl | rfl | rfl | rfl | rfl | rfl | rfl | rfl
      · rw [show pk 0 = 0 from rfl]
        have hl0 : l.getD 0 0 = s[0]'(by omega) := Hl.out 0 (by omega)
        by_cases hb : 48 ≤ (s[0]'(by omega)).toNat ∧ (s[0]'(by omega)).toNat ≤ 57
        · have hok : okAt l 0 = true := by unfold okAt; rw [if_neg (by omega), hl0]; exact decide_eq_true hb
          have HK := Lib.hid hok
          have hb1 : (48 : Int) ≤ ((s[0]'(by omega)).toNat : Int) := by omega
          have hb2 : ((s[0]'(by omega)).toNat : Int) ≤ 57 := by omega
          clear hok hl0 hb
          go_wp2_with fail
          go_roundw
          case rel => exact ⟨1, by omega, rfl, rfl, fun q hq => ok_next Hall.out HK.out q hq, _, _, _, rfl⟩
          case measure => simp [intOf]
        · by_cases hb0 : (s[0]'(by omega)).toNat < 48
          · have hb1 : ((s[0]'(by omega)).toNat : Int) < 48 := by omega
            clear hl0 hb
            go_wp2_with fail
            go_ret2
            exact ⟨rfl, bal (Below.refl _ _) _⟩
          · have hb1 : ¬ (((s[0]'(by omega)).toNat : Int) < 48) := by omega
            have hb2 : (57 : Int) < ((s[0]'(by omega)).toNat : Int) := by omega
            clear hl0 hb
            go_wp2_with fail
            go_ret2
            exact ⟨rfl, bal (Below.refl _ _) _⟩
      · rw [show pk 1 = 0 from rfl]
        have hl1 : l.getD 1 0 = s[1]'(by omega) := Hl.out 1 (by omega)
        by_cases hb : 48 ≤ (s[1]'(by omega)).toNat ∧ (s[1]'(by omega)).toNat ≤ 57
        · have hok : okAt l 1 = true := by unfold okAt; rw [if_neg (by omega), hl1]; exact decide_eq_true hb
          have HK := Lib.hid hok
          have hb1 : (48 : Int) ≤ ((s[1]'(by omega)).toNat : Int) := by omega
          have hb2 : ((s[1]'(by omega)).toNat : Int) ≤ 57 := by omega
          clear hok hl1 hb
          go_wp2_with fail
          go_roundw
          case rel => exact ⟨2, by omega, rfl, rfl, fun q hq => ok_next Hall.out HK.out q hq, _, _, _, rfl⟩
          case measure => simp [intOf]
        · by_cases hb0 : (s[1]'(by omega)).toNat < 48
          · have hb1 : ((s[1]'(by omega)).toNat : Int) < 48 := by omega
            clear hl1 hb
            go_wp2_with fail
            go_ret2
            exact ⟨rfl, bal (Below.refl _ _) _⟩
          · have hb1 : ¬ (((s[1]'(by omega)).toNat : Int) < 48) := by omega
            have hb2 : (57 : Int) < ((s[1]'(by omega)).toNat : Int) := by omega
            clear hl1 hb
            go_wp2_with fail
            go_ret2
            exact ⟨rfl, bal (Below.refl _ _) _⟩
      · rw [show pk 2 = 0 from rfl]
        have hl2 : l.getD 2 0 = s[2]'(by omega) := Hl.out 2 (by omega)
        by_cases hb : 48 ≤ (s[2]'(by omega)).toNat ∧ (s[2]'(by omega)).toNat ≤ 57
        · have hok : okAt l 2 = true := by unfold okAt; rw [if_neg (by omega), hl2]; exact decide_eq_true hb
          have HK := Lib.hid hok
          have hb1 : (48 : Int) ≤ ((s[2]'(by omega)).toNat : Int) := by omega
          have hb2 : ((s[2]'(by omega)).toNat : Int) ≤ 57 := by omega
          clear hok hl2 hb
          go_wp2_with fail
          go_roundw
          case rel => exact ⟨3, by omega, rfl, rfl, fun q hq => ok_next Hall.out HK.out q hq, _, _, _, rfl⟩
          case measure => simp [intOf]
        · by_cases hb0 : (s[2]'(by omega)).toNat < 48
          · have hb1 : ((s[2]'(by omega)).toNat : Int) < 48 := by omega
            clear hl2 hb
            go_wp2_with fail
            go_ret2
            exact ⟨rfl, bal (Below.refl _ _) _⟩
          · have hb1 : ¬ (((s[2]'(by omega)).toNat : Int) < 48) := by omega
            have hb2 : (57 : Int) < ((s[2]'(by omega)).toNat : Int) := by omega
            clear hl2 hb
            go_wp2_with fail
            go_ret2
            exact ⟨rfl, bal (Below.refl _ _) _⟩
      · rw [show pk 3 = 0 from rfl]
        have hl3 : l.getD 3 0 = s[3]'(by omega) := Hl.out 3 (by omega)
        by_cases hb : 48 ≤ (s[3]'(by omega)).toNat ∧ (s[3]'(by omega)).toNat ≤ 57
        · have hok : okAt l 3 = true := by unfold okAt; rw [if_neg (by omega), hl3]; exact decide_eq_true hb
          have HK := Lib.hid hok
          have hb1 : (48 : Int) ≤ ((s[3]'(by omega)).toNat : Int) := by omega
          have hb2 : ((s[3]'(by omega)).toNat : Int) ≤ 57 := by omega
          clear hok hl3 hb
          go_wp2_with fail
          go_roundw
          case rel => exact ⟨4, by omega, rfl, rfl, fun q hq => ok_next Hall.out HK.out q hq, _, _, _, rfl⟩
          case measure => simp [intOf]
        · by_cases hb0 : (s[3]'(by omega)).toNat < 48
          · have hb1 : ((s[3]'(by omega)).toNat : Int) < 48 := by omega
            clear hl3 hb
            go_wp2_with fail
            go_ret2
            exact ⟨rfl, bal (Below.refl _ _) _⟩
          · have hb1 : ¬ (((s[3]'(by omega)).toNat : Int) < 48) := by omega
            have hb2 : (57 : Int) < ((s[3]'(by omega)).toNat : Int) := by omega
            clear hl3 hb
            go_wp2_with fail
            go_ret2
            exact ⟨rfl, bal (Below.refl _ _) _⟩
      · rw [show pk 4 = 0 from rfl]
        have hl4 : l.getD 4 0 = s[4]'(by omega) := Hl.out 4 (by omega)
        by_cases hb : s[4]'(by omega) = 45
        · have hok : okAt l 4 = true := by unfold okAt; rw [if_pos (by omega), hl4, hb]; rfl
          have HK := Lib.hid hok
          have hbt : (((s[4]'(by omega)).toNat : Int) != 45) = false := by rw [hb]; rfl
          clear hok hl4 hb
          go_wp2_with fail
          go_roundw
          case rel => exact ⟨5, by omega, rfl, rfl, fun q hq => ok_next Hall.out HK.out q hq, a, b, c, rfl⟩
          case measure => simp [intOf]
        · have hbt : (((s[4]'(by omega)).toNat : Int) != 45) = true := by
            simp only [bne_iff_ne, ne_eq]
            exact fun e => hb (UInt8.toNat_inj.1 (by have : (45 : UInt8).toNat = 45 := rfl; omega))
          clear hl4 hb
          go_wp2_with fail
          go_ret2
          exact ⟨rfl, bal (Below.refl _ _) _⟩
      · rw [show pk 5 = 1 from rfl]
        have hl5 : l.getD 5 0 = s[5]'(by omega) := Hl.out 5 (by omega)
        by_cases hb : 48 ≤ (s[5]'(by omega)).toNat ∧ (s[5]'(by omega)).toNat ≤ 57
        · have hok : okAt l 5 = true := by unfold okAt; rw [if_neg (by omega), hl5]; exact decide_eq_true hb
          have HK := Lib.hid hok
          have hb1 : (48 : Int) ≤ ((s[5]'(by omega)).toNat : Int) := by omega
          have hb2 : ((s[5]'(by omega)).toNat : Int) ≤ 57 := by omega
          clear hok hl5 hb
          go_wp2_with fail
          go_roundw
          case rel => exact ⟨6, by omega, rfl, rfl, fun q hq => ok_next Hall.out HK.out q hq, _, _, _, rfl⟩
          case measure => simp [intOf]
        · by_cases hb0 : (s[5]'(by omega)).toNat < 48
          · have hb1 : ((s[5]'(by omega)).toNat : Int) < 48 := by omega
            clear hl5 hb
            go_wp2_with fail
            go_ret2
            exact ⟨rfl, bal (Below.refl _ _) _⟩
          · have hb1 : ¬ (((s[5]'(by omega)).toNat : Int) < 48) := by omega
            have hb2 : (57 : Int) < ((s[5]'(by omega)).toNat : Int) := by omega
            clear hl5 hb
            go_wp2_with fail
            go_ret2
            exact ⟨rfl, bal (Below.refl _ _) _⟩
      · rw [show pk 6 = 1 from rfl]
        have hl6 : l.getD 6 0 = s[6]'(by omega) := Hl.out 6 (by omega)
        by_cases hb : 48 ≤ (s[6]'(by omega)).toNat ∧ (s[6]'(by omega)).toNat ≤ 57
        · have hok : okAt l 6 = true := by unfold okAt; rw [if_neg (by omega), hl6]; exact decide_eq_true hb
          have HK := Lib.hid hok
          have hb1 : (48 : Int) ≤ ((s[6]'(by omega)).toNat : Int) := by omega
          have hb2 : ((s[6]'(by omega)).toNat : Int) ≤ 57 := by omega
          clear hok hl6 hb
          go_wp2_with fail
          go_roundw
          case rel => exact ⟨7, by omega, rfl, rfl, fun q hq => ok_next Hall.out HK.out q hq, _, _, _, rfl⟩
          case measure => simp [intOf]
        · by_cases hb0 : (s[6]'(by omega)).toNat < 48
          · have hb1 : ((s[6]'(by omega)).toNat : Int) < 48 := by omega
            clear hl6 hb
            go_wp2_with fail
            go_ret2
            exact ⟨rfl, bal (Below.refl _ _) _⟩
          · have hb1 : ¬ (((s[6]'(by omega)).toNat : Int) < 48) := by omega
            have hb2 : (57 : Int) < ((s[6]'(by omega)).toNat : Int) := by omega
            clear hl6 hb
            go_wp2_with fail
            go_ret2
            exact ⟨rfl, bal (Below.refl _ _) _⟩
      · rw [show pk 7 = 1 from rfl]
        have hl7 : l.getD 7 0 = s[7]'(by omega) := Hl.out 7 (by omega)
        by_cases hb : s[7]'(by omega) = 45
        · have hok : okAt l 7 = true := by unfold okAt; rw [if_pos (by omega), hl7, hb]; rfl
          have HK := Lib.hid hok
          have hbt : (((s[7]'(by omega)).toNat : Int) != 45) = false := by rw [hb]; rfl
          clear hok hl7 hb
          go_wp2_with fail
          go_roundw
          case rel => exact ⟨8, by omega, rfl, rfl, fun q hq => ok_next Hall.out HK.out q hq, a, b, c, rfl⟩
          case measure => simp [intOf]
        · have hbt : (((s[7]'(by omega)).toNat : Int) != 45) = true := by
            simp only [bne_iff_ne, ne_eq]
            exact fun e => hb (UInt8.toNat_inj.1 (by have : (45 : UInt8).toNat = 45 := rfl; omega))
          clear hl7 hb
          go_wp2_with fail
          go_ret2
          exact ⟨rfl, bal (Below.refl _ _) _⟩
      · rw [show pk 8 = 2 from rfl]
        have hl8 : l.getD 8 0 = s[8]'(by omega) := Hl.out 8 (by omega)
        by_cases hb : 48 ≤ (s[8]'(by omega)).toNat ∧ (s[8]'(by omega)).toNat ≤ 57
        · have hok : okAt l 8 = true := by unfold okAt; rw [if_neg (by omega), hl8]; exact decide_eq_true hb
          have HK := Lib.hid hok
          have hb1 : (48 : Int) ≤ ((s[8]'(by omega)).toNat : Int) := by omega
          have hb2 : ((s[8]'(by omega)).toNat : Int) ≤ 57 := by omega
          clear hok hl8 hb
          go_wp2_with fail
          go_roundw
          case rel => exact ⟨9, by omega, rfl, rfl, fun q hq => ok_next Hall.out HK.out q hq, _, _, _, rfl⟩
          case measure => simp [intOf]
        · by_cases hb0 : (s[8]'(by omega)).toNat < 48
          · have hb1 : ((s[8]'(by omega)).toNat : Int) < 48 := by omega
            clear hl8 hb
            go_wp2_with fail
            go_ret2
            exact ⟨rfl, bal (Below.refl _ _) _⟩
          · have hb1 : ¬ (((s[8]'(by omega)).toNat : Int) < 48) := by omega
            have hb2 : (57 : Int) < ((s[8]'(by omega)).toNat : Int) := by omega
            clear hl8 hb
            go_wp2_with fail
            go_ret2
            exact ⟨rfl, bal (Below.refl _ _) _⟩
      · rw [show pk 9 = 2 from rfl]
        have hl9 : l.getD 9 0 = s[9]'(by omega) := Hl.out 9 (by omega)
        by_cases hb : 48 ≤ (s[9]'(by omega)).toNat ∧ (s[9]'(by omega)).toNat ≤ 57
        · have hok : okAt l 9 = true := by unfold okAt; rw [if_neg (by omega), hl9]; exact decide_eq_true hb
          have HK := Lib.hid hok
          have hb1 : (48 : Int) ≤ ((s[9]'(by omega)).toNat : Int) := by omega
          have hb2 : ((s[9]'(by omega)).toNat : Int) ≤ 57 := by omega
          clear hok hl9 hb
          go_wp2_with fail
          go_roundw
          case rel => exact ⟨10, by omega, rfl, rfl, fun q hq => ok_next Hall.out HK.out q hq, _, _, _, rfl⟩
          case measure => simp [intOf]
        · by_cases hb0 : (s[9]'(by omega)).toNat < 48
          · have hb1 : ((s[9]'(by omega)).toNat : Int) < 48 := by omega
            clear hl9 hb
            go_wp2_with fail
            go_ret2
            exact ⟨rfl, bal (Below.refl _ _) _⟩
          · have hb1 : ¬ (((s[9]'(by omega)).toNat : Int) < 48) := by omega
            have hb2 : (57 : Int) < ((s[9]'(by omega)).toNat : Int) := by omega
            clear hl9 hb
            go_wp2_with fail
            go_ret2
            exact ⟨rfl, bal (Below.refl _ _) _⟩
      · exfalso
        obtain ⟨h1, h2⟩ := Hbad.out
        unfold okF at h1
        rw [decide_eq_true h2, Bool.true_and] at h1
        have h3 : (List.range 10).all (okAt l) = true := List.all_eq_true.2 fun q hq => Hall.out q (List.mem_range.1 hq)
        rw [h3] at h1
        cases h1
  · have hne : ((s.size : Int) != 10) = true := by simp; omega
    clear h10
    go_enter Tryd.func27, Tryd.ntmps27
    go_wp2_with fail
    go_ret2
    exact ⟨rfl, Below.refl _ _⟩
end Go.Proofs.YtnfjpmchdbgonaaDoor
