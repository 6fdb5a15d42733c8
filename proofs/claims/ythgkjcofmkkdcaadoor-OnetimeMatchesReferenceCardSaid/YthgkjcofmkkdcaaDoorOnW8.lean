/- Sign where there is no key; what a signature leads to; usable and light of the law package. -/
import Derived.Test.YthgkjcofmkkdcaaDoorOnW7
namespace Go.Proofs.YthgkjcofmkkdcaaDoor
open Go.RowKit Go.Shelf
set_option linter.unusedVariables false
def signB (seed : ByteArray) (h i : Int) : Bool := okB seed h && decide (0 ≤ i ∧ i < ((2 ^ h.toNat : Nat) : Int))
set_option maxRecDepth 100000 in
theorem sign_bad (seed : ByteArray) (h i : Int) (text : ByteArray) (hb : Hid (signB seed h i = false)) (hs : seed.size ≤ maxLen) (w : World) :
    Calls Tryd.prog 14 #[.string seed, .int .i64 h, .int .i64 i, .string text] w fun e w' => e = .returned (.tuple #[.agg #[.int .i64 0, .slice none 0 0, .slice none 0 0], .int .i64 1]) ∧ Below w.heap.size w w' := by
  by_cases hok : okB seed h = true
  · obtain ⟨h1, h2, h3⟩ := okB_out hok
    obtain ⟨m, rfl⟩ := Int.eq_ofNat_of_zero_le h2
    obtain ⟨n, hn⟩ : ∃ n, 2 ^ m = n := ⟨_, rfl⟩
    have hn2 : n ≤ 256 := by have := pow_le (m : Int) h3; rw [Int.toNat_natCast, hn] at this; exact this
    have hw : wrap64 (2 ^ m) = (n : Int) := by
      have e : (2 : Int) ^ m = (n : Int) := by rw [← hn, Int.natCast_pow]; rfl
      rw [e, IntWalk.wrap64_in _ (by omega)]
    have hi : ¬ (0 ≤ i ∧ i < (n : Int)) := by
      have := hb.out
      rw [signB, hok, Bool.true_and, Int.toNat_natCast, hn] at this
      exact of_decide_eq_false this
    have Hok := Lib.hid hok
    clear hok hn hb
    by_cases hi0 : i < 0
    · clear hi
      go_enter Tryd.func14, Tryd.ntmps14
      go_wp2_with fail
      refine (valid_any seed (m : Int) _ hs).mono ?_
      rintro e w' ⟨rfl, rfl⟩
      rw [Hok.out]
      go_wp2_with fail
      exact bodyPost_ret (v := .tuple #[.agg #[.int .i64 0, .slice none 0 0, .slice none 0 0], .int .i64 1]) (by simp [results, Tryd.results14, go_sem]) rfl ⟨rfl, (((Below.refl _ _).alloc (Nat.le_refl _) _))⟩
    · have hi1 : (n : Int) ≤ i := by omega
      clear hi
      go_enter Tryd.func14, Tryd.ntmps14
      go_wp2_with fail
      refine (valid_any seed (m : Int) _ hs).mono ?_
      rintro e w' ⟨rfl, rfl⟩
      rw [Hok.out]
      go_wp2_with fail
      exact bodyPost_ret (v := .tuple #[.agg #[.int .i64 0, .slice none 0 0, .slice none 0 0], .int .i64 1]) (by simp [results, Tryd.results14, go_sem]) rfl ⟨rfl, (((Below.refl _ _).alloc (Nat.le_refl _) _))⟩
  · have hok : okB seed h = false := by simpa using hok
    have Hok := Lib.hid hok
    clear hok hb
    go_enter Tryd.func14, Tryd.ntmps14
    go_wp2_with fail
    refine (valid_any seed h _ hs).mono ?_
    rintro e w' ⟨rfl, rfl⟩
    rw [Hok.out]
    go_wp2_with fail
    exact bodyPost_ret (v := .tuple #[.agg #[.int .i64 0, .slice none 0 0, .slice none 0 0], .int .i64 1]) (by simp [results, Tryd.results14, go_sem]) rfl ⟨rfl, (((Below.refl _ _).alloc (Nat.le_refl _) _))⟩
/-- The path of a key's leaf. -/
def keyP (seed : ByteArray) (n : Nat) (i : Int) : Forks := pathL (leavesB seed n) i
theorem keyP_map (seed : ByteArray) (n i : Nat) (hn : n ≤ 1024) (hi : i < n) : (keyP seed n (i : Int)).map (·.2) = sidesL (n : Int) (i : Int) := by
  have := path_map (leavesB seed n) i (by rw [leavesB_len]; exact hn) (by rw [leavesB_len]; exact hi)
  rw [leavesB_len] at this
  exact this
theorem sidesL_ok (n i : Nat) (hn : n ≤ 1024) (hi : i < n) : sidesL (n : Int) (i : Int) = Mk.sidesF 10 n i := by
  unfold sidesL
  rw [if_pos (sidesOk_ok n i hn hi), Int.toNat_natCast, Int.toNat_natCast]
theorem sides_pow : ∀ h : Fin 9, ∀ i : Fin 256, i.val < 2 ^ h.val → (Mk.sidesF 10 (2 ^ h.val) i.val).length = h.val := by decide +kernel
theorem keyP_len (seed : ByteArray) (h n i : Nat) (hh : h ≤ 8) (hn : 2 ^ h = n) (hi : i < n) : (keyP seed n (i : Int)).length = h := by
  have hn2 : n ≤ 256 := by rw [← hn]; exact Nat.pow_le_pow_right (n := 2) (by omega) hh
  have h1 := congrArg List.length (keyP_map seed n i (by omega) hi)
  rw [List.length_map, sidesL_ok n i (by omega) hi, ← hn] at h1
  rw [← hn, h1]
  exact sides_pow ⟨h, by omega⟩ ⟨i, by omega⟩ (by rw [hn]; exact hi)
theorem leavesB_get (seed : ByteArray) (n i : Nat) (hi : i < n) : (leavesB seed n)[i]'(by rw [leavesB_len]; exact hi) = bytesOf (On.leaf seed.data.toList (i : Nat)) := by
  have h1 := On.leaves_get seed.data.toList n i hi
  have h2 : (leavesB seed n)[i]? = some (bytesOf (On.leaf seed.data.toList (i : Nat))) := by rw [leavesB, List.getElem?_map, h1]; rfl
  exact (List.getElem?_eq_some_iff.1 h2).2
theorem signed_over (seed : ByteArray) (h n i : Nat) (hh : h ≤ 8) (hs : seed.size ≤ 64) (hn : 2 ^ h = n) (hi : i < n) (d : UInt64) :
    overB (keyD seed (h : Int)) (h : Int) d (i : Int) (On.chains seed.data.toList (i : Int) d 18) (keyP seed n (i : Int)) = true := by
  have hn2 : n ≤ 256 := by rw [← hn]; exact Nat.pow_le_pow_right (n := 2) (by omega) hh
  have hok : okB seed (h : Int) = true := decide_eq_true ⟨hs, by omega, by omega⟩
  unfold overB
  rw [decide_eq_true (⟨by omega, by omega, On.chains_len _ _ _ _⟩ : 0 ≤ (h : Int) ∧ (h : Int) ≤ 8 ∧ (On.chains seed.data.toList (i : Int) d 18).length = 18), Bool.true_and, Int.toNat_natCast, hn]
  unfold keyD
  rw [if_pos hok, Int.toNat_natCast, hn, On.climb_chains _ _ _ 18 18 (Nat.le_refl _)]
  have := paths_verify (leavesB seed n) i (by rw [leavesB_len]; omega) (by rw [leavesB_len]; exact hi)
  rw [leavesB_get seed n i hi, leavesB_len] at this
  exact this
/-- No signature is valid with a path of another form. -/
theorem over_no (root : UInt64) (h : Int) (d : UInt64) (i : Int) (c : List UInt64) (p : Forks) (hno : ¬ (0 ≤ h ∧ h ≤ 8 ∧ c.length = 18 ∧ sidesOk ((2 ^ h.toNat : Nat) : Int) i ∧ sidesL ((2 ^ h.toNat : Nat) : Int) i = p.map (·.2))) : overB root h d i c p = false := by
  unfold overB
  by_cases h1 : 0 ≤ h ∧ h ≤ 8 ∧ c.length = 18
  · rw [verify_no _ _ _ _ _ (fun k => hno ⟨h1.1, h1.2.1, h1.2.2, k.1, k.2⟩), Bool.and_false]
  · rw [decide_eq_false h1, Bool.false_and]
def usableB (seed : ByteArray) (h : Int) (ss : List ByteArray) : Bool := decide ((∀ s ∈ ss, s.size ≤ 1000) ∧ seed.size ≤ 100 ∧ (h ≤ 3 ∨ 8 < h))
set_option maxRecDepth 100000 in
theorem usable_any (seed : ByteArray) (h : Int) (A : Option Addr) (c n : Nat) (ss : List ByteArray) (hss : ss.length = n) (hl : n ≤ 1000) (r : Bool) (hr : Hid (usableB seed h ss = r)) (w : World) (hA : Sl w w.heap.size 1 A n (strV ss)) :
    Calls Tryd.prog 10 #[.string seed, .int .i64 h, .slice A n c] w fun e w' => e = .returned (.bool r) ∧ w = w' := by
  subst hss
  rw [← hr.out]
  have HA := Lib.hid hA
  clear hA hr
  go_enter Tryd.func10, Tryd.ntmps10
  go_wp2
  go_loopw [11] (fun i wr => ∃ k : Nat, k ≤ ss.length ∧ i = .int .i64 (k : Int) ∧ (∀ s ∈ ss.take k, s.size ≤ 1000) ∧ w = wr) (fun i _ => ss.length - (intOf i).toNat)
  case atStart => exact ⟨0, Nat.zero_le _, rfl, fun s h => by simp at h, rfl⟩
  case round =>
    obtain ⟨k, hk, rfl, hall, hw⟩ := hrel
    have Hall := Lib.hid hall
    have Hw := Lib.hid hw
    clear hall
    by_cases hlt : k < ss.length
    · obtain ⟨b, off, rfl, hb, hcell⟩ := (HA.out).2 (by omega)
      have hc : wr.cell? ⟨b, off + k, none⟩ = some (.string ss[k]) := by rw [← hw]; exact hcell k _ (by simp [strV, hlt])
      obtain ⟨x, hx⟩ : ∃ x, x = ss[k] := ⟨_, rfl⟩
      rw [← hx] at hc
      have Hx := Lib.hid hx
      have hlt' : (k : Int) < (ss.length : Int) := by omega
      clear hcell hw hx
      by_cases h60 : x.size ≤ 1000
      · have hd6 : decide ((1000 : Int) < (x.size : Int)) = false := by simp; omega
        go_wp2
        go_roundw
        case rel =>
          refine ⟨k + 1, by omega, by go_num, ?_, Hw.out⟩
          intro s hs
          rw [List.take_succ_eq_append_getElem hlt, List.mem_append] at hs
          rcases hs with hs | hs
          · exact Hall.out s hs
          · rw [List.mem_singleton.1 hs, ← Hx.out]; exact h60
        case measure => simp [intOf]; omega
      · have hd6 : decide ((1000 : Int) < (x.size : Int)) = true := by simp; omega
        go_wp2
        go_ret
        refine ⟨?_, Hw.out⟩
        have : usableB seed h ss = false := by
          unfold usableB
          rw [decide_eq_false]
          rintro ⟨h, _⟩
          exact h60 (by rw [Hx.out]; exact h _ (List.getElem_mem hlt))
        rw [this]
        rfl
    · have hkn : ss.take k = ss := List.take_of_length_le (by omega)
      rw [hkn] at Hall
      clear hkn hw
      have hE : usableB seed h ss = decide (seed.size ≤ 100 ∧ (h ≤ 3 ∨ 8 < h)) := by
        unfold usableB
        exact decide_eq_decide.2 ⟨fun k => k.2, fun k => ⟨Hall.out, k⟩⟩
      have HE := Lib.hid hE
      clear hE
      by_cases h1 : seed.size ≤ 100
      · have h1' : (seed.size : Int) ≤ 100 := by omega
        by_cases h2 : h ≤ 3
        · have HQ := Lib.hid (HE.out.trans (decide_eq_true (⟨h1, .inl h2⟩ : seed.size ≤ 100 ∧ (h ≤ 3 ∨ 8 < h))))
          clear HE
          go_wp2
          go_ret
          exact ⟨by rw [HQ.out]; rfl, Hw.out⟩
        · by_cases h3 : 8 < h
          · have HQ := Lib.hid (HE.out.trans (decide_eq_true (⟨h1, .inr h3⟩ : seed.size ≤ 100 ∧ (h ≤ 3 ∨ 8 < h))))
            clear HE
            go_wp2
            go_ret
            exact ⟨by rw [HQ.out]; rfl, Hw.out⟩
          · have HQ := Lib.hid (HE.out.trans (decide_eq_false (fun k : seed.size ≤ 100 ∧ (h ≤ 3 ∨ 8 < h) => by rcases k.2 with k | k <;> contradiction)))
            clear HE
            go_wp2
            go_ret
            exact ⟨by rw [HQ.out]; rfl, Hw.out⟩
      · have h1' : ¬ ((seed.size : Int) ≤ 100) := by omega
        have HQ := Lib.hid (HE.out.trans (decide_eq_false (fun k : seed.size ≤ 100 ∧ (h ≤ 3 ∨ 8 < h) => h1 k.1)))
        clear HE
        go_wp2
        go_ret
        exact ⟨by rw [HQ.out]; rfl, Hw.out⟩
theorem light_any (i : Int) (A B : Option Addr) (ca cb n m : Nat) (hn : n ≤ maxLen) (hm : m ≤ maxLen) (w : World) : Calls Tryd.prog 11 #[.agg #[.int .i64 i, .slice A n ca, .slice B m cb]] w fun e w' => e = .returned (.bool (decide (n ≤ 30 ∧ m ≤ 30))) ∧ Below w.heap.size w w' := by
  unfold maxLen at hn hm
  by_cases h1 : n ≤ 30
  · have h1' : (n : Int) ≤ 30 := by omega
    by_cases h2 : m ≤ 30
    · have h2' : (m : Int) ≤ 30 := by omega
      rw [decide_eq_true (⟨h1, h2⟩ : n ≤ 30 ∧ m ≤ 30)]
      go_enter Tryd.func11, Tryd.ntmps11
      go_wp2
      go_ret
      exact ⟨rfl, (Below.refl _ _).alloc (Nat.le_refl _) _⟩
    · have h2' : ¬ (m : Int) ≤ 30 := by omega
      rw [decide_eq_false (fun k : n ≤ 30 ∧ m ≤ 30 => h2 k.2)]
      go_enter Tryd.func11, Tryd.ntmps11
      go_wp2
      go_ret
      exact ⟨rfl, (Below.refl _ _).alloc (Nat.le_refl _) _⟩
  · have h1' : ¬ (n : Int) ≤ 30 := by omega
    rw [decide_eq_false (fun k : n ≤ 30 ∧ m ≤ 30 => h1 k.1)]
    go_enter Tryd.func11, Tryd.ntmps11
    go_wp2
    go_ret
    exact ⟨rfl, (Below.refl _ _).alloc (Nat.le_refl _) _⟩
end Go.Proofs.YthgkjcofmkkdcaaDoor
