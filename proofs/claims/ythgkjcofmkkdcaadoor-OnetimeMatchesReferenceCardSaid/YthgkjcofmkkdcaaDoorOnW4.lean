/- The walks of package onetime: valid, Key. -/
import Derived.Test.YthgkjcofmkkdcaaDoorOnW3
import Derived.Test.YthgkjcofmkkdcaaDoorMkPlain
namespace Go.Proofs.YthgkjcofmkkdcaaDoor
open Go.RowKit Go.Shelf
set_option linter.unusedVariables false
def okB (seed : ByteArray) (h : Int) : Bool := decide (seed.size ≤ 64 ∧ 0 ≤ h ∧ h ≤ 8)
theorem valid_any (seed : ByteArray) (h : Int) (w : World) (hs : seed.size ≤ maxLen) : Calls Tryd.prog 34 #[.string seed, .int .i64 h] w fun e w' => e = .returned (.bool (okB seed h)) ∧ w = w' := by
  unfold maxLen at hs
  by_cases h1 : seed.size ≤ 64
  · have h1' : (seed.size : Int) ≤ 64 := by omega
    by_cases h2 : 0 ≤ h
    · by_cases h3 : h ≤ 8
      · have e : okB seed h = true := decide_eq_true ⟨h1, h2, h3⟩
        rw [e]
        clear e
        go_enter Tryd.func34, Tryd.ntmps34
        go_wp2
        go_ret
        exact ⟨rfl, rfl⟩
      · have e : okB seed h = false := decide_eq_false (fun k => h3 k.2.2)
        rw [e]
        clear e
        go_enter Tryd.func34, Tryd.ntmps34
        go_wp2
        go_ret
        exact ⟨rfl, rfl⟩
    · have e : okB seed h = false := decide_eq_false (fun k => h2 k.2.1)
      rw [e]
      clear e
      go_enter Tryd.func34, Tryd.ntmps34
      go_wp2
      go_ret
      exact ⟨rfl, rfl⟩
  · have e : okB seed h = false := decide_eq_false (fun k => h1 k.1)
    rw [e]
    clear e
    have h1' : ¬ ((seed.size : Int) ≤ 64) := by omega
    go_enter Tryd.func34, Tryd.ntmps34
    go_wp2
    go_ret
    exact ⟨rfl, rfl⟩
theorem okB_out {seed : ByteArray} {h : Int} (k : okB seed h = true) : seed.size ≤ 64 ∧ 0 ≤ h ∧ h ≤ 8 := of_decide_eq_true k
def keyD (seed : ByteArray) (h : Int) : UInt64 := if okB seed h then rootV (leavesB seed (2 ^ h.toNat)) else 0
def keyE (seed : ByteArray) (h : Int) : Int := if okB seed h then 0 else 1
theorem bytesOf_size (l : List UInt8) : (bytesOf l).size = l.length := by simp [bytesOf, ByteArray.size]
theorem leaf_mem (seed : List UInt8) (n : Nat) : ∀ l ∈ On.leaves seed n, l.length = 288 := by
  induction n with
  | zero => intro l hl; cases hl
  | succ n ih =>
    intro l hl
    rw [On.leaves, List.mem_append] at hl
    rcases hl with h | h
    · exact ih l h
    · rw [List.mem_singleton] at h
      rw [h, On.leaf_len]
theorem leavesB_size (seed : ByteArray) (n : Nat) : ∀ s ∈ leavesB seed n, s.size ≤ 140737488355328 := by
  intro s hs
  obtain ⟨l, hl, rfl⟩ := List.mem_map.1 hs
  rw [bytesOf_size, leaf_mem _ _ l hl]
  omega
theorem pow_le (h : Int) (h1 : h ≤ 8) : 2 ^ h.toNat ≤ 256 := Nat.pow_le_pow_right (n := 2) (by omega) (show h.toNat ≤ 8 by omega)
theorem key_any (seed : ByteArray) (h : Int) (d : UInt64) (e : Int) (hd : Hid (keyD seed h = d)) (he : Hid (keyE seed h = e)) (w : World) (hs : seed.size ≤ maxLen) (hT : OTabs w) :
    Calls Tryd.prog 12 #[.string seed, .int .i64 h] w fun r w' => r = .returned (.tuple #[.int .u64 d.toNat, .int .i64 e]) ∧ Below w.heap.size w w' := by
  rw [← hd.out, ← he.out]
  clear hd he
  by_cases hok : okB seed h = true
  · obtain ⟨h1, h2, h3⟩ := okB_out hok
    obtain ⟨m, rfl⟩ := Int.eq_ofNat_of_zero_le h2
    obtain ⟨n, hn⟩ : ∃ n, 2 ^ m = n := ⟨_, rfl⟩
    have e1 : keyD seed (m : Int) = rootV (leavesB seed n) := by unfold keyD; rw [if_pos hok, Int.toNat_natCast, hn]
    have e2 : keyE seed (m : Int) = 0 := by unfold keyE; rw [if_pos hok]
    have hn1 : 1 ≤ n := by rw [← hn]; exact Nat.one_le_two_pow
    have hn2 : n ≤ 256 := by have := pow_le (m : Int) h3; rw [Int.toNat_natCast, hn] at this; exact this
    obtain ⟨x, hx⟩ : ∃ x, rootV (leavesB seed n) = x := ⟨_, rfl⟩
    rw [e1, e2, hx]
    have hc : checkE n = 0 := checkE_ok n hn1 (by omega)
    have Hn := Lib.hid hn
    have Hx := Lib.hid hx
    have Hc := Lib.hid hc
    have Hok := Lib.hid hok
    clear hn hx e1 e2 hc hok
    go_enter Tryd.func12, Tryd.ntmps12
    go_wp2_with fail
    refine (valid_any seed (m : Int) _ hs).mono ?_
    rintro e w' ⟨rfl, rfl⟩
    rw [Hok.out]
    go_wp2_with fail
    refine (leaves_any seed m n (by omega) Hn.out (by omega) _ hT).mono ?_
    rintro e w1 ⟨v, rfl, hown, hB1⟩
    obtain ⟨A, cap, rfl, hSl⟩ := own_slice hown
    have HS := Lib.hid hSl
    clear hown hSl
    go_wp2_with fail
    refine (root_at A cap n (leavesB seed n) x 0 _ (leavesB_len _ _) Hx.out Hc.out HS.out (leavesB_size _ _) (by omega)).mono ?_
    rintro e w2 ⟨rfl, hB2⟩
    go_wp2_with fail
    go_ret2
    exact ⟨rfl, bgo hB1 hB2⟩
  · have hok : okB seed h = false := by simpa using hok
    have e1 : keyD seed h = 0 := by unfold keyD; rw [hok]; rfl
    have e2 : keyE seed h = 1 := by unfold keyE; rw [hok]; rfl
    rw [e1, e2]
    have Hok := Lib.hid hok
    clear e1 e2 hok
    go_enter Tryd.func12, Tryd.ntmps12
    go_wp2_with fail
    refine (valid_any seed h _ hs).mono ?_
    rintro e w' ⟨rfl, rfl⟩
    rw [Hok.out]
    go_wp2_with fail
    go_ret2
    exact ⟨rfl, Below.refl _ _⟩
end Go.Proofs.YthgkjcofmkkdcaaDoor
