/- The walks of MerkleLimits and MerkleLengths. -/
import Derived.Test.YtdkjbdohnpaiaaaMkLawB
import Derived.Deep.RegionWith
namespace Go.Proofs.Ytdkjbdohnpaiaaa
open Go.RowKit Go.Shelf
set_option linter.unusedVariables false
theorem made_strs (n : Nat) : (madeCells #[Value.string ⟨#[]⟩] n).toList = strV (List.replicate n ⟨#[]⟩) := by
  apply List.ext_getElem?
  intro j
  by_cases h : j < n
  · simp [madeCells, strV, h, Nat.mod_one]
  · simp [madeCells, strV, h]
theorem u16_lt {a : Int} (h : (Lit.int .u16 a).wf = true) : ∃ k : Nat, a = (k : Int) ∧ k < 65536 := by
  have := bounds_u16 h
  exact ⟨a.toNat, by omega, by omega⟩
theorem rep_mem (n : Nat) : ∀ s ∈ List.replicate n (⟨#[]⟩ : ByteArray), s.size ≤ 140737488355328 := by
  intro s h
  rw [(List.mem_replicate.1 h).2]
  exact Nat.zero_le _
theorem own_sl {W : World} {base g : Nat} {e : TypeId} {size n cap : Nat} {xs : List Value} (h : W.ownsRow base e size (.slice (some ⟨g, 0, none⟩) n cap) n xs) : Sl W W.heap.size size (some ⟨g, 0, none⟩) n xs := by
  obtain ⟨A, c, hv, hS⟩ := own_slice h
  injection hv with h1 h2 h3
  subst h1
  exact hS
set_option maxRecDepth 100000 in
set_option maxHeartbeats 1000000 in
theorem merkleLimits_walk (a b : Int) (w : World) (ha : (Lit.int .u16 a).wf = true) (hb : (Lit.int .u16 b).wf = true) :
    Calls Try.prog 4 #[.int .u16 a, .int .u16 b] w fun e w' => e = .returned (.bool true) ∧ Below w.heap.size w w' := by
  obtain ⟨i0, hj0, hz0, hz1, hz2⟩ := info_parts info_string
  obtain ⟨a, rfl, ha⟩ := u16_lt ha
  obtain ⟨b, rfl, hb⟩ := u16_lt hb
  obtain ⟨n, hn, hn1, hn2⟩ : ∃ n : Nat, (1020 : Int) + (a : Int) % (9 : Int) = (n : Int) ∧ 1020 ≤ n ∧ n ≤ 1028 := ⟨1020 + a % 9, by omega, by omega, by omega⟩
  obtain ⟨i, hi, hin⟩ : ∃ i : Nat, (b : Int) % (n : Int) = (i : Int) ∧ i < n := ⟨b % n, by omega, Nat.mod_lt _ (by omega)⟩
  have ha' : (a : Int) ≤ 65535 := by omega
  have hb' : (b : Int) ≤ 65535 := by omega
  have lr : (List.replicate n (⟨#[]⟩ : ByteArray)).length = n := List.length_replicate
  have Hin := Lib.hid hi
  have Hlr := Lib.hid lr
  clear lr
  go_enter Try.func4, Try.ntmps4
  go_wp2_with fail
  refine (head_any _).mono ?_
  rintro e w1 ⟨rfl, hB1⟩
  go_wp2_with (at_make; refine wpList_make_full _ rfl _ _ 22 rfl w1.heap.size 9 i0 (.string ⟨#[]⟩) 1 Try.underlying22 hj0 hz0 hz1 _ _ _ _ n rfl rfl ?c1 ?c2 ?c3 ?c4 ?c5 ?_)
  case c1 => first | rfl | omega
  case c2 => first | rfl | omega
  case c3 => rw [hz2]; omega
  case c4 => unfold maxLen; omega
  case c5 => exact Nat.le_refl _
  intro w2 hown2 hg2
  have hB2 : Below w1.heap.size w1 w2 := (Below.refl _ _).grown hg2 (Nat.le_refl _) (fun k hk => by cases hk)
  rw [made_strs] at hown2
  have hS2 := own_sl hown2
  have hB2' := bgo hB1 hB2
  clear hB1 hB2 hown2 hg2
  by_cases h1024 : n ≤ 1024
  · have hd : decide ((1024 : Int) < (n : Int)) = false := decide_eq_false (by omega)
    have hv := paths_verify (List.replicate n ⟨#[]⟩) i (by rw [Hlr.out]; omega) (by rw [Hlr.out]; exact hin)
    rw [List.getElem_replicate, Hlr.out] at hv
    have hL := pathL_len (List.replicate n ⟨#[]⟩) i (by rw [Hlr.out]; omega) (by rw [Hlr.out]; exact hin)
    have e0 := checkE_ok n (by omega) (by omega)
    have e1 := pathE_ok n i (by omega) hin
    obtain ⟨r, hr⟩ : ∃ r, rootV (List.replicate n ⟨#[]⟩) = r := ⟨_, rfl⟩
    obtain ⟨p, hp⟩ : ∃ p, pathL (List.replicate n ⟨#[]⟩) (i : Int) = p := ⟨_, rfl⟩
    rw [hr, hp] at hv
    rw [hp] at hL
    have F := Lib.hid (And.intro hv (And.intro e0 (And.intro e1 (And.intro hr hp))))
    clear hv e0 e1 hr hp
    go_wp2_with fail
    refine (root_at _ _ n _ r 0 w2 Hlr.out F.out.2.2.2.1 F.out.2.1 hS2 (rep_mem n) (by omega)).mono ?_
    rintro e w3 ⟨rfl, hB3⟩
    have hB3' := bgo hB2' hB3
    have hS3 := hS2.go hB3
    clear hB3 hB2' hS2
    go_wp2_with fail
    refine (path_at _ _ n _ (i : Int) p 0 w3 Hlr.out F.out.2.2.2.2 F.out.2.2.1 hS3 (rep_mem n) (by omega)).mono ?_
    rintro e w4 ⟨B4, cap4, rfl, hS4, hB4⟩
    have hB4' := bgo hB3' hB4
    clear hB4 hB3' hS3
    go_wp2_with fail
    refine (verify_at _ _ p.length r (n : Int) (i : Int) ⟨#[]⟩ p true w4 rfl F.out.1 hS4 (by decide)).mono ?_
    rintro e w5 ⟨rfl, hB5⟩
    have hB5' := bgo hB4' hB5
    clear hB5 hB4'
    go_wp2_with fail
    go_ret
    exact ⟨rfl, hB5'⟩
  · have hd : decide ((1024 : Int) < (n : Int)) = true := decide_eq_true (by omega)
    have e0 : checkE n = 2 := by unfold checkE; rw [if_neg (by omega), if_pos (by omega)]
    have e1 : pathE n (i : Int) = 2 := by unfold pathE; rw [if_neg (by rw [e0]; decide)]; exact e0
    have hr : rootV (List.replicate n ⟨#[]⟩) = 0 := by unfold rootV; rw [if_neg (by rw [Hlr.out, e0]; decide)]
    have hp : pathL (List.replicate n ⟨#[]⟩) (i : Int) = [] := by unfold pathL; rw [if_neg (by rw [Hlr.out, e1]; decide)]
    have F := Lib.hid (And.intro e0 (And.intro e1 (And.intro hr hp)))
    clear e0 e1 hr hp
    go_wp2_with fail
    refine (root_at _ _ n _ 0 2 w2 Hlr.out F.out.2.2.1 F.out.1 hS2 (rep_mem n) (by omega)).mono ?_
    rintro e w3 ⟨rfl, hB3⟩
    have hB3' := bgo hB2' hB3
    have hS3 := hS2.go hB3
    clear hB3 hB2' hS2
    go_wp2_with fail
    refine (path_at _ _ n _ (i : Int) [] 2 w3 Hlr.out F.out.2.2.2 F.out.2.1 hS3 (rep_mem n) (by omega)).mono ?_
    rintro e w4 ⟨B4, cap4, rfl, hS4, hB4⟩
    have hB4' := bgo hB3' hB4
    clear hB4 hB3' hS3
    go_wp2_with fail
    go_ret
    exact ⟨rfl, hB4'⟩
theorem path_rep_len (n i : Nat) (h2 : n ≤ 1024) (hi : i < n) : (pathL (List.replicate n (⟨#[]⟩ : ByteArray)) (i : Int)).length = (Mk.sidesF 10 n i).length := by
  have lr : (List.replicate n (⟨#[]⟩ : ByteArray)).length = n := List.length_replicate
  have h := Mk.path_sides 10 (leavesD (List.replicate n (⟨#[]⟩ : ByteArray))) i
  rw [leavesD_len, lr] at h
  rw [pathL_ok _ i (by rw [lr]; exact h2) (by rw [lr]; exact hi), ← h, List.length_map]
set_option maxRecDepth 100000 in
set_option maxHeartbeats 1000000 in
theorem merkleLengths_walk (a b : Int) (w : World) (ha : (Lit.int .u8 a).wf = true) (hb : (Lit.int .u8 b).wf = true) :
    Calls Try.prog 10 #[.int .u8 a, .int .u8 b] w fun e w' => e = .returned (.bool true) ∧ Below w.heap.size w w' := by
  obtain ⟨i0, hj0, hz0, hz1, hz2⟩ := info_parts info_string
  obtain ⟨a, rfl, ha⟩ : ∃ k : Nat, a = (k : Int) ∧ k < 256 := ⟨a.toNat, by have := bounds_u8 ha; omega, by have := bounds_u8 ha; omega⟩
  obtain ⟨b, rfl, hb⟩ : ∃ k : Nat, b = (k : Int) ∧ k < 256 := ⟨b.toNat, by have := bounds_u8 hb; omega, by have := bounds_u8 hb; omega⟩
  obtain ⟨n, hn, hn1, hn2⟩ : ∃ n : Nat, (a : Int) % (64 : Int) + 1 = (n : Int) ∧ 1 ≤ n ∧ n ≤ 64 := ⟨a % 64 + 1, by omega, by omega, by omega⟩
  obtain ⟨i, hi, hin⟩ : ∃ i : Nat, (b : Int) % (n : Int) = (i : Int) ∧ i < n := ⟨b % n, by omega, Nat.mod_lt _ (by omega)⟩
  have ha' : (a : Int) ≤ 255 := by omega
  have hb' : (b : Int) ≤ 255 := by omega
  have lr : (List.replicate n (⟨#[]⟩ : ByteArray)).length = n := List.length_replicate
  have hpl := path_rep_len n i (by omega) hin
  have hL := pathL_len (List.replicate n ⟨#[]⟩) i (by rw [lr]; omega) (by rw [lr]; exact hin)
  have e1 := pathE_ok n i (by omega) hin
  obtain ⟨p, hp⟩ : ∃ p, pathL (List.replicate n ⟨#[]⟩) (i : Int) = p := ⟨_, rfl⟩
  rw [hp] at hL hpl
  have F := Lib.hid (And.intro lr (And.intro e1 (And.intro hp hpl)))
  clear lr e1 hp hpl
  have hnz : ((n : Int) == 0) = false := beq_eq_false_iff_ne.2 (by omega)
  go_enter Try.func10, Try.ntmps10
  go_wp2_with fail
  refine (head_any _).mono ?_
  rintro e w1 ⟨rfl, hB1⟩
  go_wp2_with fail
  obtain ⟨w2, hrun, hown2, hg2⟩ := run_make_full (P := Try.prog) w1.drew w1.heap.size 22 9 i0 (.string ⟨#[]⟩) 1 Try.underlying22 hj0 hz0 hz1 .i64 .i64 n (by rw [hz2]; omega) (by unfold maxLen; omega) (Nat.le_refl _)
  have hB2 : Below w1.heap.size w1 w2 := (below_undrew ((Below.refl _ _).grown hg2 (Nat.le_refl _) (fun k hk => by cases hk)))
  have ec : (Value.string ⟨#[]⟩).cells = #[Value.string ⟨#[]⟩] := rfl
  rw [Nat.mul_one, ec, made_strs] at hown2
  have hS2 := own_sl hown2
  have HS2 := Lib.hid hS2
  have hB2' := bgo hB1 hB2
  clear hB1 hB2 hown2 hg2 ec hS2
  go_region_with ((go_at_call 15; refine (path_at _ _ n _ (i : Int) p 0 w2 F.out.1 F.out.2.2.1 F.out.2.1 HS2.out (rep_mem n) (by omega)).mono ?_; rintro e w4 ⟨B4, cap4, rfl, hS4, hB4⟩))
  all_goals
    have hB4' := bgo hB2' hB4
    clear hB4 hB2' hS4 hrun
    go_wp2
    go_loop [9, 10] (fun kk pp => ∃ k m : Nat, m = 2 ^ k ∧ k ≤ 6 ∧ m ≤ 64 ∧ 1 ≤ m ∧ (k = 0 ∨ 2 ^ (k - 1) < n) ∧ kk = .int .i64 (k : Int) ∧ pp = .int .i64 (m : Int)) (fun _ pp => n - (intOf pp).toNat)
    case atStart => exact ⟨0, 1, rfl, by omega, by omega, by omega, .inl rfl, rfl, rfl⟩
    case round =>
      obtain ⟨k, m, hm, hk6, hm64, hm1, hor, rfl, rfl⟩ := hrel
      have Hm := Lib.hid hm
      have Hor := Lib.hid hor
      clear hm hor
      by_cases hlt : m < n
      · have hk5 : k < 6 := by
          rcases Nat.lt_or_ge k 6 with h | h
          · exact h
          · have : k = 6 := by omega
            have h2 := Hm.out
            rw [this] at h2
            omega
        go_wp2
        go_round
        case rel => exact ⟨k + 1, 2 * m, by rw [Hm.out, Nat.pow_succ]; omega, by omega, by have := Nat.pow_le_pow_right (show 0 < 2 by omega) (show k + 1 ≤ 6 by omega); rw [Nat.pow_succ] at this; have := Hm.out; omega, by omega, .inr (by rw [Nat.add_sub_cancel, ← Hm.out]; exact hlt), by go_num, by go_num⟩
        case measure => simp [intOf]; omega
      · have hlen := lengths ⟨n, by omega⟩ ⟨i, by omega⟩ hin ⟨k, by omega⟩ (by have := Hm.out; show n ≤ 2 ^ k; omega) Hor.out
        dsimp only at hlen
        rw [← F.out.2.2.2, ← Hm.out] at hlen
        have hle : p.length ≤ k := hlen.1
        have Hl := Lib.hid hlen
        clear hlen
        by_cases hmn : m = n
        · have hpk := Hl.out.2 hmn
          have q1 : ((m : Int) != (n : Int)) = false := by rw [hmn]; simp
          have q2 : ((p.length : Int) == (k : Int)) = true := by rw [hpk]; simp
          have HX := Lib.hid (And.intro hmn hpk)
          clear hmn hpk
          go_wp2
          go_ret
          exact ⟨rfl, hB4'⟩
        · have q1 : ((m : Int) != (n : Int)) = true := by simp; omega
          go_wp2
          go_ret
          exact ⟨rfl, hB4'⟩
end Go.Proofs.Ytdkjbdohnpaiaaa
