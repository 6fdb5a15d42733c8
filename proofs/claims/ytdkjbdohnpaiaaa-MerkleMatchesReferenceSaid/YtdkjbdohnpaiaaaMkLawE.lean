/- The walk of MerkleMatchesReference. -/
import Derived.Test.YtdkjbdohnpaiaaaMkR4
namespace Go.Proofs.Ytdkjbdohnpaiaaa
open Go.RowKit Go.Shelf
set_option linter.unusedVariables false
theorem pathL_len_any (ss : List ByteArray) (i : Int) : (pathL ss i).length ≤ 10 := by
  unfold pathL
  by_cases h : pathE ss.length i = 0
  · rw [if_pos h]
    unfold pathE at h
    by_cases h1 : checkE ss.length = 0
    · rw [if_pos h1] at h
      by_cases h2 : 0 ≤ i ∧ i < ss.length
      · have h3 : ss.length ≤ 1024 := by
          unfold checkE at h1
          split at h1
          · cases h1
          · split at h1
            · cases h1
            · omega
        have h4 := pathL_len ss i.toNat h3 (by omega)
        rw [pathL_ok ss i.toNat h3 (by omega)] at h4
        exact h4
      · rw [if_neg h2] at h; cases h
    · rw [if_neg h1] at h; exact absurd h h1
  · rw [if_neg h]; exact Nat.zero_le _
theorem rpath_at (A : Option Addr) (c n : Nat) (ss : List ByteArray) (i : Int) (p : Forks) (e : Int) (w : World) (hn : ss.length = n) (hp : pathL ss i = p) (he : pathE n i = e) (hA : Sl w w.heap.size 1 A n (strV ss)) (hs : ∀ s ∈ ss, s.size ≤ 140737488355328) (hl : n ≤ 1100) :
    Calls Try.prog 16 #[.slice A n c, .int .i64 i] w fun r w' => ∃ B cap, r = .returned (.tuple #[.slice B p.length cap, .int .i64 e]) ∧ Sl w' w'.heap.size 2 B p.length (forkV p) ∧ Below w.heap.size w w' := by
  subst hn hp he
  refine (rpath_any A c ss i w hA hs (by unfold maxLen; omega)).mono ?_
  rintro r w' ⟨v, rfl, h, hB⟩
  obtain ⟨B, cap, rfl, hS⟩ := own_slice h
  exact ⟨B, cap, rfl, hS, hB⟩
theorem rroot_at (A : Option Addr) (c n : Nat) (ss : List ByteArray) (d : UInt64) (e : Int) (w : World) (hn : ss.length = n) (hd : rootV ss = d) (he : checkE n = e) (hA : Sl w w.heap.size 1 A n (strV ss)) (hs : ∀ s ∈ ss, s.size ≤ 140737488355328) (hl : n ≤ 1100) :
    Calls Try.prog 14 #[.slice A n c] w fun r w' => r = .returned (.tuple #[.int .u64 d.toNat, .int .i64 e]) ∧ Below w.heap.size w w' := by
  subst hn hd he
  exact rroot_any A c ss w hA hs (by unfold maxLen; omega)
set_option maxRecDepth 100000 in
set_option maxHeartbeats 1000000 in
theorem merkleMatchesReference_walk (A : Option Addr) (c : Nat) (ss : List ByteArray) (j root n : Int) (a : ByteArray) (A1 : Option Addr) (c1 : Nat) (p : Forks) (b : ByteArray) (A2 : Option Addr) (c2 : Nat) (q : Forks) (w : World) (hA : Sl w w.heap.size 1 A ss.length (strV ss)) (hlc : ss.length ≤ c ∧ c ≤ maxLen) (hs : ∀ s ∈ ss, s.size ≤ maxLen)
    (hj : (Lit.int .i64 j).wf = true) (hroot : (Lit.int .u64 root).wf = true) (hn : (Lit.int .i64 n).wf = true) (ha : a.size ≤ maxLen) (hA1 : Sl w w.heap.size 2 A1 p.length (forkV p)) (hp : p.length ≤ c1 ∧ c1 ≤ maxLen) (hb : b.size ≤ maxLen) (hA2 : Sl w w.heap.size 2 A2 q.length (forkV q)) (hq : q.length ≤ c2 ∧ c2 ≤ maxLen) :
    Calls Try.prog 3 #[.slice A ss.length c, .int .i64 j, .int .u64 root, .int .i64 n, .string a, .slice A1 p.length c1, .string b, .slice A2 q.length c2] w fun e w' => e = .returned (.bool true) ∧ Below w.heap.size w w' := by
  obtain ⟨u, rfl⟩ := u64_of_wf hroot
  have HA := Lib.hid hA
  have HA1 := Lib.hid hA1
  have HA2 := Lib.hid hA2
  replace hp := Nat.le_trans hp.1 hp.2
  replace hq := Nat.le_trans hq.1 hq.2
  clear hA hA1 hA2 hroot hn hj hs hlc
  unfold maxLen at hp hq ha hb
  by_cases hsm : smallB ss = true
  · have Hs := Lib.hid (small_lens hsm)
    have h80 : ss.length ≤ 80 := Hs.out.1
    by_cases h0 : a.size ≤ 60 ∧ b.size ≤ 60 ∧ p.length ≤ 20 ∧ q.length ≤ 20
    · obtain ⟨h1, h2, h3, h4⟩ := h0
      have d1 : decide ((60 : Int) < (a.size : Int)) = false := decide_eq_false (by omega)
      have d2 : decide ((60 : Int) < (b.size : Int)) = false := decide_eq_false (by omega)
      have d3 : decide ((20 : Int) < (p.length : Int)) = false := decide_eq_false (by omega)
      have d4 : decide ((20 : Int) < (q.length : Int)) = false := decide_eq_false (by omega)
      obtain ⟨r, hr⟩ : ∃ r, rootV ss = r := ⟨_, rfl⟩
      obtain ⟨e0, he0⟩ : ∃ e, checkE ss.length = e := ⟨_, rfl⟩
      obtain ⟨P, hP⟩ : ∃ P, pathL ss j = P := ⟨_, rfl⟩
      obtain ⟨e1, he1⟩ : ∃ e, pathE ss.length j = e := ⟨_, rfl⟩
      obtain ⟨v, hv⟩ : ∃ v, verifyB u n j a p = v := ⟨_, rfl⟩
      obtain ⟨o, ho⟩ : ∃ o, collO n j a p b q = o := ⟨_, rfl⟩
      obtain ⟨x, hx⟩ : ∃ x, (collS o).1 = x := ⟨_, rfl⟩
      obtain ⟨y, hy⟩ : ∃ y, (collS o).2 = y := ⟨_, rfl⟩
      obtain ⟨s, hsome⟩ : ∃ s, o.isSome = s := ⟨_, rfl⟩
      have eT : collT o = .tuple #[.string x, .string y, .bool s] := by rw [collT_eq, hx, hy, hsome]
      have hPl := pathL_len_any ss j
      rw [hP] at hPl
      have F := Lib.hid (And.intro hr (And.intro he0 (And.intro hP (And.intro he1 (And.intro hv (And.intro ho eT))))))
      clear hr he0 hP he1 hv ho eT hx hy hsome
      go_enter Try.func3, Try.ntmps3
      go_wp2_with fail
      refine (head_any _).mono ?_
      rintro e w1 ⟨rfl, hB1⟩
      go_wp2_with fail
      refine (small_any _ _ _ _ (HA.out.go hB1)).mono ?_
      rintro e w' ⟨rfl, rfl⟩
      go_wp2_with fail
      refine (root_at A c ss.length ss r e0 w1 rfl F.out.1 F.out.2.1 (HA.out.go hB1) Hs.out.2 (by omega)).mono ?_
      rintro e w2 ⟨rfl, hB⟩
      have hB2 := bgo hB1 hB
      clear hB1 hB
      go_wp2_with fail
      refine (rroot_at A c ss.length ss r e0 w2 rfl F.out.1 F.out.2.1 (HA.out.go hB2) Hs.out.2 (by omega)).mono ?_
      rintro e w3 ⟨rfl, hB⟩
      have hB3 := bgo hB2 hB
      clear hB2 hB
      go_wp2_with fail
      refine (path_at A c ss.length ss j P e1 w3 rfl F.out.2.2.1 F.out.2.2.2.1 (HA.out.go hB3) Hs.out.2 (by omega)).mono ?_
      rintro e w4 ⟨B4, cap4, rfl, hS4, hB⟩
      have hB4 := bgo hB3 hB
      clear hB3 hB
      go_wp2_with fail
      refine (rpath_at A c ss.length ss j P e1 w4 rfl F.out.2.2.1 F.out.2.2.2.1 (HA.out.go hB4) Hs.out.2 (by omega)).mono ?_
      rintro e w5 ⟨B5, cap5, rfl, hS5, hB⟩
      have hB5 := bgo hB4 hB
      have hS45 := hS4.go hB
      clear hB4 hB hS4
      go_wp2_with fail
      refine (same_at _ _ _ _ P.length P.length P P true w5 rfl rfl (by simp) hS45 hS5 (by omega) (by omega)).mono ?_
      rintro e w6 ⟨rfl, hB⟩
      have hB6 := bgo hB5 hB
      clear hB5 hB hS45 hS5
      go_wp2_with fail
      refine (verify_at A1 c1 p.length u n j a p v w6 rfl F.out.2.2.2.2.1 (HA1.out.go hB6) (by omega)).mono ?_
      rintro e w7 ⟨rfl, hB⟩
      have hB7 := bgo hB6 hB
      clear hB6 hB
      go_wp2_with fail
      refine (rverify_any A1 c1 p.length u n j a p v w7 rfl F.out.2.2.2.2.1 (HA1.out.go hB7) h3 (by omega)).mono ?_
      rintro e w8 ⟨rfl, hB⟩
      have hB8 := bgo hB7 hB
      clear hB7 hB
      go_wp2_with fail
      refine (coll_at A1 A2 c1 c2 p.length q.length n j a p b q o w8 rfl rfl F.out.2.2.2.2.2.1 (HA1.out.go hB8) (HA2.out.go hB8) (by omega) (by omega)).mono ?_
      rintro e w9 ⟨rfl, hB⟩
      have hB9 := bgo hB8 hB
      clear hB8 hB
      rw [F.out.2.2.2.2.2.2]
      go_wp2_with fail
      refine (rcollision_any A1 A2 c1 c2 p.length q.length n j a p b q o w9 rfl rfl F.out.2.2.2.2.2.1 (HA1.out.go hB9) (HA2.out.go hB9) h3 h4 (by omega) (by omega)).mono ?_
      rintro e w10 ⟨rfl, hB⟩
      have hB10 := bgo hB9 hB
      clear hB9 hB
      rw [F.out.2.2.2.2.2.2]
      go_wp2_with fail
      go_ret
      exact ⟨rfl, hB10⟩
    · go_enter Try.func3, Try.ntmps3
      go_wp2_with fail
      refine (head_any _).mono ?_
      rintro e w1 ⟨rfl, hB1⟩
      go_wp2_with fail
      refine (small_any _ _ _ _ (HA.out.go hB1)).mono ?_
      rintro e w' ⟨rfl, rfl⟩
      by_cases h1 : a.size ≤ 60
      · have d1 : decide ((60 : Int) < (a.size : Int)) = false := decide_eq_false (by omega)
        by_cases h2 : b.size ≤ 60
        · have d2 : decide ((60 : Int) < (b.size : Int)) = false := decide_eq_false (by omega)
          by_cases h3 : p.length ≤ 20
          · have d3 : decide ((20 : Int) < (p.length : Int)) = false := decide_eq_false (by omega)
            have d4 : decide ((20 : Int) < (q.length : Int)) = true := decide_eq_true (by omega)
            go_wp2_with fail
            go_ret
            exact ⟨rfl, hB1⟩
          · have d3 : decide ((20 : Int) < (p.length : Int)) = true := decide_eq_true (by omega)
            go_wp2_with fail
            go_ret
            exact ⟨rfl, hB1⟩
        · have d2 : decide ((60 : Int) < (b.size : Int)) = true := decide_eq_true (by omega)
          go_wp2_with fail
          go_ret
          exact ⟨rfl, hB1⟩
      · have d1 : decide ((60 : Int) < (a.size : Int)) = true := decide_eq_true (by omega)
        go_wp2_with fail
        go_ret
        exact ⟨rfl, hB1⟩
  · have hsm' : smallB ss = false := by simpa using hsm
    clear hsm
    go_enter Try.func3, Try.ntmps3
    go_wp2_with fail
    refine (head_any _).mono ?_
    rintro e w1 ⟨rfl, hB1⟩
    go_wp2_with fail
    refine (small_any _ _ _ _ (HA.out.go hB1)).mono ?_
    rintro e w' ⟨rfl, rfl⟩
    go_wp2_with fail
    go_ret
    exact ⟨rfl, hB1⟩
end Go.Proofs.Ytdkjbdohnpaiaaa
