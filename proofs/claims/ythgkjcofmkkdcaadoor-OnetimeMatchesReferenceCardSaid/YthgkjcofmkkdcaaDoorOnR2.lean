/- The walks of the reference of onetime: fits, leaves, Key, Leaf, Verify. -/
import Derived.Test.YthgkjcofmkkdcaaDoorOnOpen
import Derived.Test.YthgkjcofmkkdcaaDoorMkR4
import Derived.Deep.RegionHeld
namespace Go.Proofs.YthgkjcofmkkdcaaDoor
open Go.RowKit Go.Shelf
set_option linter.unusedVariables false
set_option linter.unusedSimpArgs false
set_option maxRecDepth 100000
theorem fits_any (seed : ByteArray) (h : Int) (w : World) (hs : seed.size ≤ maxLen) : Calls Tryd.prog 37 #[.string seed, .int .i64 h] w fun e w' => e = .returned (.bool (okB seed h)) ∧ w = w' := by
  unfold maxLen at hs
  by_cases h1 : seed.size ≤ 64
  · have h1' : (seed.size : Int) ≤ 64 := by omega
    by_cases h2 : 0 ≤ h
    · by_cases h3 : h ≤ 8
      · have e : okB seed h = true := decide_eq_true ⟨h1, h2, h3⟩
        rw [e]
        clear e
        go_enter Tryd.func37, Tryd.ntmps37
        go_wp2
        go_ret
        exact ⟨rfl, rfl⟩
      · have e : okB seed h = false := decide_eq_false (fun k => h3 k.2.2)
        rw [e]
        clear e
        go_enter Tryd.func37, Tryd.ntmps37
        go_wp2
        go_ret
        exact ⟨rfl, rfl⟩
    · have e : okB seed h = false := decide_eq_false (fun k => h2 k.2.1)
      rw [e]
      clear e
      go_enter Tryd.func37, Tryd.ntmps37
      go_wp2
      go_ret
      exact ⟨rfl, rfl⟩
  · have e : okB seed h = false := decide_eq_false (fun k => h1 k.1)
    rw [e]
    clear e
    have h1' : ¬ ((seed.size : Int) ≤ 64) := by omega
    go_enter Tryd.func37, Tryd.ntmps37
    go_wp2
    go_ret
    exact ⟨rfl, rfl⟩
def leafB (seed : ByteArray) (i : Int) (k : Nat) : ByteArray := bytesOf (On.leafTo seed.data.toList i k)
theorem leafB_size (seed : ByteArray) (i : Int) (k : Nat) : (leafB seed i k).size = 16 * k := by rw [leafB, bytesOf_size, On.leafTo_len]
theorem leafB_snoc (seed : ByteArray) (i : Int) (k : Nat) (y : UInt64) (h : On.steps 15 (On.secret seed.data.toList i (k : Nat)) = y) : leafB seed i k ++ textB y = leafB seed i (k + 1) := by
  apply WideShapes.bytes_inj
  rw [app_data]
  show On.leafTo seed.data.toList i k ++ Dig.text y = On.leafTo seed.data.toList i k ++ Dig.text _
  rw [h]
set_option maxHeartbeats 4000000 in
theorem rleaves_any (seed : ByteArray) (h n : Nat) (hh : h ≤ 8) (hn : 2 ^ h = n) (hs : seed.size ≤ 100) (w : World) (hT : OTabs w) :
    Calls Tryd.prog 39 #[.string seed, .int .i64 (h : Int)] w fun e w' => ∃ v, e = .returned v ∧ w'.ownsRow w.heap.size 9 1 v n (strV (leavesB seed n)) ∧ Below w.heap.size w w' := by
  obtain ⟨i0, hi0, hz0, hz1, hz2⟩ := info_parts info_string
  have hn256 : n ≤ 256 := by
    rw [← hn]
    exact Nat.pow_le_pow_right (by omega) hh
  have eN : (2 : Int) ^ h = (n : Int) := by rw [← hn, Int.natCast_pow]; rfl
  have hw : wrap64 (2 ^ h) = (n : Int) := by rw [eN, IntWalk.wrap64_in _ (by omega)]
  have hw' : IntKind.i64.wrap (2 ^ h) = (n : Int) := by rw [eN, IntWalk.i64_in _ (by omega)]
  have Hn := Lib.hid hn
  clear hn eN
  go_enter Tryd.func39, Tryd.ntmps39
  go_wp2
  go_loopw [5, 6] (fun v i wr => ∃ k : Nat, k ≤ n ∧ i = .int .i64 k ∧ wr.ownsRow w.heap.size 9 1 v k (strV (leavesB seed k)) ∧ Below w.heap.size w wr) (fun _ i _ => n - (intOf i).toNat)
  case atStart => exact ⟨0, Nat.zero_le _, rfl, ⟨rfl, .inl ⟨rfl, rfl⟩⟩, Below.refl _ _⟩
  case round =>
    obtain ⟨W0, hW0⟩ : ∃ W0, W0 = wr := ⟨_, rfl⟩
    subst hW0
    obtain ⟨k, hk, rfl, hown, hB⟩ := hrel
    have Hown := Lib.hid hown
    have hT1 := hT.go hB
    clear hown
    by_cases hlt : k < n
    · have hlt' : (k : Int) < (n : Int) := by omega
      have hd1 : decide ((k : Int) < (n : Int)) = true := decide_eq_true hlt'
      go_wp2
      go_loopw [7, 8] (fun s i wx => ∃ j : Nat, j ≤ 18 ∧ i = .int .i64 j ∧ s = .string (leafB seed (k : Int) j) ∧ Below W0.heap.size W0 wx) (fun _ i _ => 18 - (intOf i).toNat)
      case atStart => exact ⟨0, by omega, rfl, rfl, Below.refl _ _⟩
      case round =>
        obtain ⟨j, hj, rfl, rfl, hBx⟩ := hrel
        have hT2 := hT1.go hBx
        obtain ⟨s, hs'⟩ : ∃ s, leafB seed (k : Int) j = s := ⟨_, rfl⟩
        have hss : s.size = 16 * j := by rw [← hs', leafB_size]
        rw [hs']
        have Hs := Lib.hid hs'
        clear hs'
        by_cases hj18 : j < 18
        · have hj' : (j : Int) < 18 := by omega
          obtain ⟨x, hx⟩ : ∃ x, On.secret seed.data.toList (k : Int) (j : Int) = x := ⟨_, rfl⟩
          obtain ⟨y, hy⟩ : ∃ y, On.steps 15 x = y := ⟨_, rfl⟩
          have hap := leafB_snoc seed (k : Int) j y (by rw [hx]; exact hy)
          have hzz : ¬ (9223372036854775807 < s.size + (textB y).size) := by rw [textB_size, hss]; omega
          have hz1' : (textB y).size = 16 := rfl
          have Hx := Lib.hid hx
          have Hy := Lib.hid hy
          have Hap := Lib.hid hap
          clear hx hy hap hw hw'
          go_wp2_with fail
          refine (rsecret_any seed (k : Int) (j : Int) x Hx _ hT2.2 hs (by omega) (by omega)).mono ?_
          rintro e w1 ⟨rfl, hB1⟩
          go_wp2_with fail
          refine (rsteps_any x 15 y Hy (by omega) _).mono ?_
          rintro e w' ⟨rfl, rfl⟩
          go_wp2_with fail
          refine (rtext_b y _).mono ?_
          rintro e w' ⟨rfl, rfl⟩
          have hB5 := bgo hBx hB1
          go_wp2
          go_roundw
          case rel => exact ⟨j + 1, by omega, by go_num, by rw [← Hap.out, Hs.out], hB5⟩
          case measure => simp [intOf]; omega
        · obtain rfl : j = 18 := by omega
          have Hown2 := Lib.hid (own_below Hown.out hBx)
          have hB3 : Below w.heap.size w wr := bgo hB hBx
          clear hw hw'
          go_wp2_with (at_builtin; refine app_one rfl _ _ 28 rfl 9 i0 _ 1 16 Tryd.underlying28 hi0 hz0 hz1 hz2 rfl (by decide) _ _ _ rfl Hown2.out hB3 [.string s] _ _ rfl rfl ?c1 ?c2 ?c3 ?_)
          case c1 => simp [Value.oneCell']
          case c2 => simp [maxLen]; omega
          case c3 => omega
          intro v' w2 hown2 hB4 _
          have HR := Lib.hid hown2
          clear hown2
          go_wp2
          go_roundw
          case rel =>
            refine ⟨k + 1, by omega, by go_num, ?_, hB4⟩
            rw [leavesB_snoc, show bytesOf (On.leaf seed.data.toList (k : Nat)) = s from Hs.out]
            exact HR.out
          case measure => simp [intOf]; omega
    · obtain rfl : n = k := by omega
      go_wp2
      go_ret
      exact ⟨_, rfl, Hown.out, hB⟩
end Go.Proofs.YthgkjcofmkkdcaaDoor
