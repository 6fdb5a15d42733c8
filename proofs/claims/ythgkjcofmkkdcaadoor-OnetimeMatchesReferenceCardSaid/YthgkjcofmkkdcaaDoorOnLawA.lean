/- The walk of OnetimeSigned. -/
import Derived.Test.YthgkjcofmkkdcaaDoorOnHead
namespace Go.Proofs.YthgkjcofmkkdcaaDoor
open Go.RowKit Go.Shelf
set_option linter.unusedVariables false
theorem usable_out {seed : ByteArray} {h : Int} {ss : List ByteArray} (k : usableB seed h ss = true) : (∀ s ∈ ss, s.size ≤ 1000) ∧ seed.size ≤ 100 ∧ (h ≤ 3 ∨ 8 < h) := of_decide_eq_true k
theorem signB_out {seed : ByteArray} {h i : Int} (k : signB seed h i = true) : ∃ m n j : Nat, h = (m : Int) ∧ i = (j : Int) ∧ m ≤ 8 ∧ seed.size ≤ 64 ∧ 2 ^ m = n ∧ j < n ∧ n ≤ 256 := by
  unfold signB at k
  rw [Bool.and_eq_true] at k
  obtain ⟨h1, h2, h3⟩ := okB_out k.1
  obtain ⟨h4, h5⟩ := of_decide_eq_true k.2
  obtain ⟨m, rfl⟩ := Int.eq_ofNat_of_zero_le h2
  obtain ⟨j, rfl⟩ := Int.eq_ofNat_of_zero_le h4
  rw [Int.toNat_natCast] at h5
  refine ⟨m, 2 ^ m, j, rfl, rfl, by omega, h1, rfl, by omega, by have := pow_le (m : Int) h3; rwa [Int.toNat_natCast] at this⟩
set_option maxRecDepth 100000 in
set_option maxHeartbeats 1000000 in
theorem onetimeSigned_walk (seed : ByteArray) (h i : Int) (text : ByteArray) (w : World) (hs : seed.size ≤ maxLen) (wh : (Lit.int .i64 h).wf = true) (wi : (Lit.int .i64 i).wf = true) (ht : text.size ≤ maxLen) (hT : OTabs w) :
    Calls Tryd.prog 4 #[.string seed, .int .i64 h, .int .i64 i, .string text] w fun e w' => e = .returned (.bool true) ∧ Below w.heap.size w w' := by
  obtain ⟨u, hu⟩ : ∃ u, usableB seed h [text] = u := ⟨_, rfl⟩
  have Hu := Lib.hid hu
  clear hu wh wi
  cases u
  · go_enter Tryd.func4, Tryd.ntmps4
    go_wp2_with fail
    refine (head_any _ hT).mono ?_
    rintro e w1 ⟨rfl, hB1⟩
    go_wp2_with fail
    refine (usable_any seed h _ 1 1 [text] rfl (by decide) false Hu _ (sl_cells (World.alloc_heap_new _ _) rfl rfl)).mono ?_
    rintro e w' ⟨rfl, rfl⟩
    go_wp2_with fail
    go_ret
    exact ⟨rfl, bal hB1 _⟩
  · obtain ⟨ut, us, uh⟩ := usable_out Hu.out
    obtain ⟨kd, hkd⟩ : ∃ kd, keyD seed h = kd := ⟨_, rfl⟩
    obtain ⟨ke, hke⟩ : ∃ ke, keyE seed h = ke := ⟨_, rfl⟩
    have Hkd := Lib.hid hkd
    have Hke := Lib.hid hke
    obtain ⟨b, hb⟩ : ∃ b, signB seed h i = b := ⟨_, rfl⟩
    cases b
    · have Hb := Lib.hid hb
      clear hkd ut uh
      by_cases hok : okB seed h = true
      · have hke0 : ke = 0 := by rw [← hke]; unfold keyE; rw [if_pos hok]
        obtain ⟨h1, h2, h3⟩ := okB_out hok
        obtain ⟨m, rfl⟩ := Int.eq_ofNat_of_zero_le h2
        obtain ⟨n, hn⟩ : ∃ n, 2 ^ m = n := ⟨_, rfl⟩
        have hn2 : n ≤ 256 := by have := pow_le (m : Int) h3; rw [Int.toNat_natCast, hn] at this; exact this
        have hw : wrap64 (2 ^ m) = (n : Int) := by
          have e : (2 : Int) ^ m = (n : Int) := by rw [← hn, Int.natCast_pow]; rfl
          rw [e, IntWalk.wrap64_in _ (by omega)]
        have hi : ¬ (0 ≤ i ∧ i < (n : Int)) := by
          have := hb
          rw [signB, hok, Bool.true_and, Int.toNat_natCast, hn] at this
          exact of_decide_eq_false this
        subst hke0
        clear hok hn hb hke
        by_cases hi0 : i < 0
        · clear hi
          go_enter Tryd.func4, Tryd.ntmps4
          go_wp2_with fail
          refine (head_any _ hT).mono ?_
          rintro e w1 ⟨rfl, hB1⟩
          go_wp2_with fail
          refine (usable_any seed _ _ 1 1 [text] rfl (by decide) true Hu _ (sl_cells (World.alloc_heap_new _ _) rfl rfl)).mono ?_
          rintro e w' ⟨rfl, rfl⟩
          have hB1' := bal hB1 (.cells #[.string text] 9)
          have hT1 := hT.go hB1'
          go_wp2_with fail
          refine (key_any seed _ kd 0 Hkd Hke _ hs hT1).mono ?_
          rintro e w2 ⟨rfl, hB2⟩
          have hB2' := bgo hB1' hB2
          clear hB1 hB1' hT1 hB2
          go_wp2_with fail
          refine (sign_bad seed _ i text Hb hs _).mono ?_
          rintro e w3 ⟨rfl, hB3⟩
          have hB3' := bgo hB2' hB3
          clear hB2' hB3
          go_wp2_with fail
          go_ret
          exact ⟨rfl, bal hB3' _⟩
        · have hi1 : (n : Int) ≤ i := by omega
          clear hi
          go_enter Tryd.func4, Tryd.ntmps4
          go_wp2_with fail
          refine (head_any _ hT).mono ?_
          rintro e w1 ⟨rfl, hB1⟩
          go_wp2_with fail
          refine (usable_any seed _ _ 1 1 [text] rfl (by decide) true Hu _ (sl_cells (World.alloc_heap_new _ _) rfl rfl)).mono ?_
          rintro e w' ⟨rfl, rfl⟩
          have hB1' := bal hB1 (.cells #[.string text] 9)
          have hT1 := hT.go hB1'
          go_wp2_with fail
          refine (key_any seed _ kd 0 Hkd Hke _ hs hT1).mono ?_
          rintro e w2 ⟨rfl, hB2⟩
          have hB2' := bgo hB1' hB2
          clear hB1 hB1' hT1 hB2
          go_wp2_with fail
          refine (sign_bad seed _ i text Hb hs _).mono ?_
          rintro e w3 ⟨rfl, hB3⟩
          have hB3' := bgo hB2' hB3
          clear hB2' hB3
          go_wp2_with fail
          go_ret
          exact ⟨rfl, bal hB3' _⟩
      · have hke1 : ke = 1 := by rw [← hke]; unfold keyE; rw [if_neg hok]
        subst hke1
        clear hok hb hke
        go_enter Tryd.func4, Tryd.ntmps4
        go_wp2_with fail
        refine (head_any _ hT).mono ?_
        rintro e w1 ⟨rfl, hB1⟩
        go_wp2_with fail
        refine (usable_any seed _ _ 1 1 [text] rfl (by decide) true Hu _ (sl_cells (World.alloc_heap_new _ _) rfl rfl)).mono ?_
        rintro e w' ⟨rfl, rfl⟩
        have hB1' := bal hB1 (.cells #[.string text] 9)
        have hT1 := hT.go hB1'
        go_wp2_with fail
        refine (key_any seed _ kd 1 Hkd Hke _ hs hT1).mono ?_
        rintro e w2 ⟨rfl, hB2⟩
        have hB2' := bgo hB1' hB2
        clear hB1 hB1' hT1 hB2
        go_wp2_with fail
        refine (sign_bad seed _ i text Hb hs _).mono ?_
        rintro e w3 ⟨rfl, hB3⟩
        have hB3' := bgo hB2' hB3
        clear hB2' hB3
        go_wp2_with fail
        go_ret
        exact ⟨rfl, bal hB3' _⟩
    · obtain ⟨m, n, j, rfl, rfl, hm, hs64, hn, hj, hn2⟩ := signB_out hb
      have hok : okB seed (m : Int) = true := decide_eq_true ⟨hs64, by omega, by omega⟩
      have hke0 : ke = 0 := by rw [← hke]; unfold keyE; rw [if_pos hok]
      subst hke0
      obtain ⟨d, hd⟩ : ∃ d, Dig.sum text.data.toList = d := ⟨_, rfl⟩
      obtain ⟨c, hc⟩ : ∃ c, On.chains seed.data.toList (j : Int) d 18 = c := ⟨_, rfl⟩
      obtain ⟨p, hp⟩ : ∃ p, keyP seed n (j : Int) = p := ⟨_, rfl⟩
      have hv : overB kd (m : Int) d (j : Int) c p = true := by
        rw [← hkd, ← hc, ← hp]; exact signed_over seed m n j hm hs64 hn hj d
      have hpl : p.length = m := by rw [← hp]; exact keyP_len seed m n j hm hn hj
      have hcl : c.length = 18 := by rw [← hc]; exact On.chains_len _ _ _ _
      have Hd := Lib.hid hd
      have Hc := Lib.hid hc
      have Hp := Lib.hid hp
      have Hv := Lib.hid hv
      have Hn := Lib.hid hn
      have Hcl := Lib.hid hcl
      have Hpl := Lib.hid hpl
      clear hd hc hp hv hn hke hkd hok hb uh ut hcl hpl
      go_enter Tryd.func4, Tryd.ntmps4
      go_wp2_with fail
      refine (head_any _ hT).mono ?_
      rintro e w1 ⟨rfl, hB1⟩
      go_wp2_with fail
      refine (usable_any seed _ _ 1 1 [text] rfl (by decide) true Hu _ (sl_cells (World.alloc_heap_new _ _) rfl rfl)).mono ?_
      rintro e w' ⟨rfl, rfl⟩
      have hB1' := bal hB1 (.cells #[.string text] 9)
      have hT1 := hT.go hB1'
      go_wp2_with fail
      refine (key_any seed _ kd 0 Hkd Hke _ hs hT1).mono ?_
      rintro e w2 ⟨rfl, hB2⟩
      have hB2' := bgo hB1' hB2
      have hT2 := hT.go hB2'
      clear hB1 hB1' hT1 hB2
      go_wp2_with fail
      refine (sign_ok seed m j n hm Hn hj hs64 text d Hd ht p (Lib.hid Hp.out) w2 hT2).mono ?_
      rintro e w3 ⟨A, ca, B, cb, rfl, hca, hcb, hSA, hSB, hB3⟩
      rw [Hc.out] at hSA
      rw [Hpl.out] at hSB hcb ⊢
      have hB3' := bgo hB2' hB3
      clear hB3 hB2' hT2
      have K := Lib.hid (And.intro hSA hSB)
      clear hSA hSB
      have hT3 := hT.go (bal hB3' (.cells #[.int .i64 (j : Int), .slice A 18 ca, .slice B m cb] 27))
      go_wp2_with fail
      refine (over_at kd (m : Int) text d Hd ht (j : Int) A B ca cb 18 m c p Hcl.out Hpl.out (by decide) true Hv _ hT3 (K.out.1.al _) (K.out.2.al _)).mono ?_
      rintro e w4 ⟨rfl, hB4⟩
      have c0 : w4.cell? ⟨w3.heap.size, 0, none⟩ = some (.int .i64 (j : Int)) := (hB4.cell (p := ⟨w3.heap.size, 0, none⟩) (by simp)).trans (by simp [go_sem])
      have c1 : w4.cell? ⟨w3.heap.size, 1, none⟩ = some (.slice A 18 ca) := (hB4.cell (p := ⟨w3.heap.size, 1, none⟩) (by simp)).trans (by simp [go_sem])
      have c2 : w4.cell? ⟨w3.heap.size, 2, none⟩ = some (.slice B m cb) := (hB4.cell (p := ⟨w3.heap.size, 2, none⟩) (by simp)).trans (by simp [go_sem])
      have hB4' := bgo (bal hB3' _) hB4
      clear hB4 hB3' hT3
      go_wp2_with fail
      go_ret
      exact ⟨rfl, hB4'⟩
end Go.Proofs.YthgkjcofmkkdcaaDoor
