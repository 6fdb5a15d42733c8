/- The walks of package onetime: leaves, valid, Key. -/
import Derived.Test.YthgkjcofmkkdcaaDoorOnW2
import Derived.Test.YthgkjcofmkkdcaaDoorMkAt
namespace Go.Proofs.YthgkjcofmkkdcaaDoor
open Go.RowKit Go.Shelf
set_option linter.unusedVariables false
def OTabs (w : World) : Prop := Tab w ∧ PTab w
theorem OTabs.go {w w' : World} (h : OTabs w) (hb : Below w.heap.size w w') : OTabs w' := ⟨h.1.below hb, h.2.go hb⟩
def leavesB (seed : ByteArray) (n : Nat) : List ByteArray := (On.leaves seed.data.toList n).map bytesOf
theorem leavesB_len (seed : ByteArray) (n : Nat) : (leavesB seed n).length = n := by rw [leavesB, List.length_map, On.leaves_len]
theorem leavesB_snoc (seed : ByteArray) (n : Nat) : strV (leavesB seed (n + 1)) = strV (leavesB seed n) ++ [.string (bytesOf (On.leaf seed.data.toList (n : Nat)))] := by
  simp [leavesB, On.leaves, strV]
set_option maxRecDepth 100000 in
set_option maxHeartbeats 4000000 in
theorem leaves_any (seed : ByteArray) (h n : Nat) (hh : h ≤ 8) (hn : 2 ^ h = n) (hs : seed.size ≤ 100) (w : World) (hT : OTabs w) :
    Calls Tryd.prog 36 #[.string seed, .int .i64 (h : Int)] w fun e w' => ∃ v, e = .returned v ∧ w'.ownsRow w.heap.size 9 1 v n (strV (leavesB seed n)) ∧ Below w.heap.size w w' := by
  obtain ⟨i0, hi0, hz0, hz1, hz2⟩ := info_parts info_string
  have hn256 : n ≤ 256 := by
    rw [← hn]
    exact Nat.pow_le_pow_right (by omega) hh
  have hw : wrap64 (2 ^ h) = (n : Int) := by
    have e : (2 : Int) ^ h = (n : Int) := by rw [← hn, Int.natCast_pow]; rfl
    rw [e, IntWalk.wrap64_in _ (by omega)]
  have Hn := Lib.hid hn
  clear hn
  go_enter Tryd.func36, Tryd.ntmps36
  go_wp2
  rw [hw]
  clear hw
  go_loopw [5, 11] (fun v i wr => ∃ k : Nat, k ≤ n ∧ i = .int .i64 k ∧ wr.ownsRow w.heap.size 9 1 v k (strV (leavesB seed k)) ∧ Below w.heap.size w wr) (fun _ i _ => n - (intOf i).toNat)
  case atStart => exact ⟨0, Nat.zero_le _, rfl, ⟨rfl, .inl ⟨rfl, rfl⟩⟩, Below.refl _ _⟩
  case round =>
    obtain ⟨W0, hW0⟩ : ∃ W0, W0 = wr := ⟨_, rfl⟩
    subst hW0
    obtain ⟨k, hk, rfl, hown, hB⟩ := hrel
    have Hown := Lib.hid hown
    have hT1 := hT.go hB
    clear hown
    by_cases hlt : k < n
    · have hlt' : (k : Int) < (n : Int) := by omega
      go_wp2
      go_loopw [14] (fun i wx => ∃ j : Nat, j ≤ 18 ∧ i = .int .i64 j ∧ Bld W0.heap.size (On.leafTo seed.data.toList (k : Nat) j) wx ∧ Below W0.heap.size W0 wx) (fun i _ => 18 - (intOf i).toNat)
      case atStart => exact ⟨0, by omega, rfl, Bld.new W0, (Below.refl _ _).alloc (Nat.le_refl _) _⟩
      case round =>
        obtain ⟨j, hj, rfl, hb, hBx⟩ := hrel
        have hT2 := hT1.go hBx
        by_cases hj18 : j < 18
        · have hj' : (j : Int) < 18 := by omega
          have Hb := Lib.hid hb
          clear hb
          go_wp2_with fail
          refine (secret_any seed (k : Int) (j : Int) _ hT2.2 hs (by omega) (by omega)).mono ?_
          rintro e w1 ⟨rfl, hB1⟩
          obtain ⟨x, hx⟩ : ∃ x, On.secret seed.data.toList (k : Int) (j : Int) = x := ⟨_, rfl⟩
          rw [hx]
          have hT3 := hT2.go hB1
          have Hx := Lib.hid hx
          clear hx
          go_wp2_with fail
          refine (walk_any x 15 (by omega) _ hT3.1).mono ?_
          rintro e w2 ⟨rfl, hB2⟩
          obtain ⟨y, hy⟩ : ∃ y, On.steps 15 x = y := ⟨_, rfl⟩
          rw [hy]
          have hT4 := hT3.go hB2
          have Hy := Lib.hid hy
          clear hy
          go_wp2_with fail
          refine (text_b y _ hT4.1).mono ?_
          rintro e w3 ⟨rfl, hB3⟩
          have hB13 := bgo (bgo hB1 hB2) hB3
          go_wp2_with fail
          refine (bwrite W0.heap.size _ (Dig.text y) _ (Lib.hid rfl) _ (Hb.out.go hB13) (by rw [On.leafTo_len, On.text_len]; omega)).mono ?_
          rintro e w4 ⟨⟨v4, rfl⟩, hb4, hB4⟩
          have hB5 : Below W0.heap.size W0 w4 := (hBx.trans (hB13.mono hBx.size)).trans hB4
          have Hb4 := Lib.hid hb4
          clear hb4 hB1 hB2 hB3 hB4 hB13 hT3 hT4
          go_wp2
          go_roundw
          case rel =>
            refine ⟨j + 1, by omega, by go_num, ?_, hB5⟩
            have := Hb4.out
            rw [← Hy.out, ← Hx.out] at this
            exact this
          case measure => simp [intOf]; omega
        · have hE : j = 18 := by omega
          subst hE
          have Hb := Lib.hid hb
          clear hb
          go_wp2_with fail
          refine (bstring W0.heap.size _ (bytesOf (On.leaf seed.data.toList (k : Nat))) (Lib.hid rfl) _ Hb.out).mono ?_
          rintro e w1 ⟨rfl, hB1⟩
          have hB2 : Below W0.heap.size W0 w1 := hBx.trans hB1
          have Hown2 := Lib.hid (own_below Hown.out hB2)
          obtain ⟨t, htt⟩ : ∃ t, bytesOf (On.leaf seed.data.toList (k : Nat)) = t := ⟨_, rfl⟩
          rw [htt]
          have Htt := Lib.hid htt
          clear htt Hown
          have hB3 : Below w.heap.size w w1 := hB.trans (hB2.mono hB.size)
          go_wp2_with (at_builtin; refine wpList_append_own _ rfl _ _ 28 rfl w.heap.size 9 i0 (.string ⟨#[]⟩) 1 16 Tryd.underlying28 hi0 hz0 hz1 hz2 rfl (by decide) _ _ _ rfl (Hown2.out.alloc _) ⟨w1.heap.size, 0, none⟩ 1 1 [.string t] rfl rfl ?c1 ?c2 ?c3 ?c4 ?c5 ?_)
          case c1 => exact cell_one_new _ _ _
          case c2 => simp [Value.oneCell']
          case c3 => simp [maxLen]; omega
          case c4 => omega
          case c5 => have := hB3.size; simp; omega
          intro v' w2 hown1 hg1 _
          have hB4 : Below w.heap.size w w2 := (hB3.alloc hB3.size _).grown hg1 (by have := hB3.size; simp; omega) (fun k hk => (Hown2.out.lt k hk).1)
          have HR := Lib.hid hown1
          clear hown1 hg1
          go_wp2
          go_roundw
          case rel =>
            refine ⟨k + 1, by omega, by go_num, ?_, hB4⟩
            rw [leavesB_snoc, Htt.out]
            exact HR.out
          case measure => simp [intOf]; omega
    · have hE : k = n := by omega
      subst hE
      go_wp2
      go_ret
      exact ⟨_, rfl, Hown.out, hB⟩
end Go.Proofs.YthgkjcofmkkdcaaDoor
