/- The walks of MerklePaths and MerkleBinding. -/
import Derived.Test.YtdkjbdohnpaiaaaMkPlain
import Derived.Test.YtdkjbdohnpaiaaaMkOpen
namespace Go.Proofs.Ytdkjbdohnpaiaaa
open Go.RowKit Go.Shelf
set_option linter.unusedVariables false
theorem small_lens {ss : List ByteArray} (h : smallB ss = true) : ss.length ≤ 80 ∧ ∀ s ∈ ss, s.size ≤ 140737488355328 := by
  obtain ⟨h80, h60⟩ := of_decide_eq_true h
  exact ⟨h80, fun s hs => by have := h60 s hs; omega⟩
theorem u8_mod (u : UInt8) (n : Nat) (h : 0 < n) : ∃ j : Nat, ((u.toNat : Int) % (n : Int)) = (j : Int) ∧ j < n := ⟨u.toNat % n, by omega, Nat.mod_lt _ h⟩
set_option maxRecDepth 100000 in
set_option maxHeartbeats 400000 in
theorem merklePaths_walk (A : Option Addr) (c : Nat) (ss : List ByteArray) (k : Int) (w : World) (hA : Sl w w.heap.size 1 A ss.length (strV ss)) (hlc : ss.length ≤ c ∧ c ≤ maxLen) (hs : ∀ s ∈ ss, s.size ≤ maxLen) (hk : (Lit.int .u8 k).wf = true) :
    Calls Try.prog 5 #[.slice A ss.length c, .int .u8 k] w fun e w' => e = .returned (.bool true) ∧ Below w.heap.size w w' := by
  obtain ⟨u, rfl⟩ := u8_of_wf hk
  have hl : ss.length ≤ maxLen := Nat.le_trans hlc.1 hlc.2
  clear hlc
  have HA := Lib.hid hA
  clear hA hs hk
  have hu0 : (0 : Int) ≤ (u.toNat : Int) := Int.natCast_nonneg _
  have hu1 : (u.toNat : Int) ≤ 255 := by have := u.toNat_lt; omega
  by_cases hsm : smallB ss = true
  · have Hs := Lib.hid (small_lens hsm)
    by_cases h0 : ss.length = 0
    · have hd0 : ((ss.length : Int) == 0) = true := by simp [h0]
      clear h0
      go_enter Try.func5, Try.ntmps5
      go_wp2_with fail
      refine (head_any _).mono ?_
      rintro e w1 ⟨rfl, hB1⟩
      go_wp2_with fail
      refine (small_any _ _ _ _ (HA.out.go hB1)).mono ?_
      rintro e w' ⟨rfl, rfl⟩
      go_wp2_with fail
      go_ret
      exact ⟨rfl, hB1⟩
    · have hd0 : ((ss.length : Int) == 0) = false := beq_eq_false_iff_ne.2 (by omega)
      have hpos : 0 < ss.length := by omega
      have h80 : ss.length ≤ 80 := Hs.out.1
      obtain ⟨j, hj, hjn⟩ := u8_mod u ss.length hpos
      have hji : (j : Int) < (ss.length : Int) := by omega
      have hv := paths_verify ss j (by omega) hjn
      have hL := pathL_len ss j (by omega) hjn
      have h1 : (decide ((1 : Int) < (ss.length : Int)) || (((pathL ss (j : Int)).length : Int) == 0)) = true := by
        by_cases h : ss.length ≤ 1
        · rw [paths_one ss j h hjn]; simp
        · have : (1 : Int) < (ss.length : Int) := by omega
          simp [this]
      have he0 := checkE_ok ss.length hpos (by omega)
      have he1 := pathE_ok ss.length j (by omega) hjn
      obtain ⟨r, hr⟩ : ∃ r, rootV ss = r := ⟨_, rfl⟩
      obtain ⟨p, hp⟩ : ∃ p, pathL ss (j : Int) = p := ⟨_, rfl⟩
      rw [hr, hp] at hv
      rw [hp] at hL h1
      have Hr := Lib.hid hr
      have Hp := Lib.hid hp
      have Hv := Lib.hid hv
      have H1 := Lib.hid h1
      have He0 := Lib.hid he0
      have He1 := Lib.hid he1
      clear h1 h0 hr hp hv he0 he1
      go_enter Try.func5, Try.ntmps5
      go_wp2_with fail
      refine (head_any _).mono ?_
      rintro e w1 ⟨rfl, hB1⟩
      go_wp2_with fail
      refine (small_any _ _ _ _ (HA.out.go hB1)).mono ?_
      rintro e w' ⟨rfl, rfl⟩
      go_wp2_with fail
      refine (root_at A c ss.length ss r 0 w1 rfl Hr.out He0.out (HA.out.go hB1) Hs.out.2 (by omega)).mono ?_
      rintro e w2 ⟨rfl, hB2⟩
      have hB2' := bgo hB1 hB2
      clear hB1 hB2
      go_wp2_with fail
      refine (path_at A c ss.length ss (j : Int) p 0 w2 rfl Hp.out He1.out (HA.out.go hB2') Hs.out.2 (by omega)).mono ?_
      rintro e w3 ⟨B3, cap3, rfl, hS3, hB3⟩
      have hB3' := bgo hB2' hB3
      obtain ⟨b, off, rfl, hb, hcell⟩ := (HA.out.go hB3').2 hpos
      have hc : w3.cell? ⟨b, off + j, none⟩ = some (.string ss[j]) := hcell j _ (by simp [strV, hjn])
      have hsz : ss[j].size ≤ 140737488355328 := Hs.out.2 _ (List.getElem_mem hjn)
      obtain ⟨x, hx⟩ : ∃ x, ss[j] = x := ⟨_, rfl⟩
      rw [hx] at hc hsz
      have hv := Hv.out
      rw [hx] at hv
      have Hv2 := Lib.hid hv
      clear hB3 hB2' hcell hv hx Hv
      go_wp2_with fail
      refine (verify_at B3 cap3 p.length r (ss.length : Int) (j : Int) x p true w3 rfl Hv2.out hS3 hsz).mono ?_
      rintro e w4 ⟨rfl, hB4⟩
      have hB4' := bgo hB3' hB4
      clear hB4 hB3'
      by_cases h2 : (1 : Int) < (ss.length : Int)
      · go_wp2_with fail
        go_ret
        exact ⟨rfl, hB4'⟩
      · have h3 := H1.out
        rw [decide_eq_false h2, Bool.false_or] at h3
        have h2' : decide ((1 : Int) < (ss.length : Int)) = false := decide_eq_false h2
        go_wp2_with fail
        go_ret
        exact ⟨rfl, hB4'⟩
  · have hsm' : smallB ss = false := by simpa using hsm
    clear hsm
    go_enter Try.func5, Try.ntmps5
    go_wp2_with fail
    refine (head_any _).mono ?_
    rintro e w1 ⟨rfl, hB1⟩
    go_wp2_with fail
    refine (small_any _ _ _ _ (HA.out.go hB1)).mono ?_
    rintro e w' ⟨rfl, rfl⟩
    go_wp2_with fail
    go_ret
    exact ⟨rfl, hB1⟩
def collS (o : Option (ByteArray × ByteArray)) : ByteArray × ByteArray := (o.getD (⟨#[]⟩, ⟨#[]⟩))
theorem collT_eq (o : Option (ByteArray × ByteArray)) : collT o = .tuple #[.string (collS o).1, .string (collS o).2, .bool o.isSome] := by
  cases o with
  | none => rfl
  | some x => rfl
theorem collS_size (n i : Int) (a : ByteArray) (p : Forks) (b : ByteArray) (q : Forks) (ha : a.size ≤ 60) (hb : b.size ≤ 60) : (collS (collO n i a p b q)).1.size ≤ maxLen ∧ (collS (collO n i a p b q)).2.size ≤ maxLen := by
  unfold collO
  split
  · have key : ∀ (xs ys : List ByteArray), (∀ x ∈ xs, x.size ≤ maxLen) → (∀ y ∈ ys, y.size ≤ maxLen) → (collS (collF xs ys)).1.size ≤ maxLen ∧ (collS (collF xs ys)).2.size ≤ maxLen := by
      intro xs
      induction xs with
      | nil => intro ys _ _; cases ys <;> exact ⟨Nat.zero_le _, Nat.zero_le _⟩
      | cons x xs ih =>
        intro ys hx hy
        cases ys with
        | nil => exact ⟨Nat.zero_le _, Nat.zero_le _⟩
        | cons y ys =>
          have ih' := ih ys (fun z hz => hx z (List.mem_cons_of_mem _ hz)) (fun z hz => hy z (List.mem_cons_of_mem _ hz))
          rw [collF]
          split
          · exact ih'
          · split
            · exact ⟨hx x (List.mem_cons_self ..), hy y (List.mem_cons_self ..)⟩
            · exact ih'
    exact key _ _ (fun x hx => climbS_size a (by omega) p x hx) (fun x hx => climbS_size b (by omega) q x hx)
  · exact ⟨Nat.zero_le _, Nat.zero_le _⟩
set_option maxRecDepth 100000 in
set_option maxHeartbeats 1000000 in
theorem merkleBinding_walk (root n i : Int) (a : ByteArray) (A : Option Addr) (c : Nat) (p : Forks) (b : ByteArray) (A' : Option Addr) (c' : Nat) (q : Forks) (w : World) (hroot : (Lit.int .u64 root).wf = true) (hn : (Lit.int .i64 n).wf = true) (hi : (Lit.int .i64 i).wf = true) (ha : a.size ≤ maxLen) (hA : Sl w w.heap.size 2 A p.length (forkV p)) (hp : p.length ≤ c ∧ c ≤ maxLen) (hb : b.size ≤ maxLen) (hA' : Sl w w.heap.size 2 A' q.length (forkV q)) (hq : q.length ≤ c' ∧ c' ≤ maxLen) :
    Calls Try.prog 7 #[.int .u64 root, .int .i64 n, .int .i64 i, .string a, .slice A p.length c, .string b, .slice A' q.length c'] w fun e w' => e = .returned (.bool true) ∧ Below w.heap.size w w' := by
  obtain ⟨u, rfl⟩ := u64_of_wf hroot
  have HA := Lib.hid hA
  have HA' := Lib.hid hA'
  replace hp := Nat.le_trans hp.1 hp.2
  replace hq := Nat.le_trans hq.1 hq.2
  clear hA hA' hroot hn hi
  unfold maxLen at hp hq ha hb
  by_cases h0 : a.size ≤ 60 ∧ b.size ≤ 60 ∧ p.length ≤ 20 ∧ q.length ≤ 20
  · obtain ⟨h1, h2, h3, h4⟩ := h0
    have d1 : decide ((60 : Int) < (a.size : Int)) = false := decide_eq_false (by omega)
    have d2 : decide ((60 : Int) < (b.size : Int)) = false := decide_eq_false (by omega)
    have d3 : decide ((20 : Int) < (p.length : Int)) = false := decide_eq_false (by omega)
    have d4 : decide ((20 : Int) < (q.length : Int)) = false := decide_eq_false (by omega)
    obtain ⟨o, ho⟩ : ∃ o, collO n i a p b q = o := ⟨_, rfl⟩
    have hs := collS_size n i a p b q h1 h2
    rw [ho] at hs
    have Ho := Lib.hid ho
    clear ho
    obtain ⟨x, hx⟩ : ∃ x, (collS o).1 = x := ⟨_, rfl⟩
    obtain ⟨y, hy⟩ : ∃ y, (collS o).2 = y := ⟨_, rfl⟩
    obtain ⟨s, hsome⟩ : ∃ s, o.isSome = s := ⟨_, rfl⟩
    have eT : collT o = .tuple #[.string x, .string y, .bool s] := by rw [collT_eq, hx, hy, hsome]
    rw [hx, hy] at hs
    obtain ⟨hsx, hsy⟩ := hs
    have hcase : (s = false ∧ (x.toList == y.toList) = true ∧ x.toList = y.toList) ∨ (s = true ∧ (x.toList == y.toList) = false ∧ ((Dig.sum x.data.toList).toNat : Int) = ((Dig.sum y.data.toList).toNat : Int)) := by
      cases o with
      | none => left; subst hx hy hsome; exact ⟨rfl, by simp [collS], rfl⟩
      | some z =>
        right
        obtain ⟨z1, z2⟩ := z
        obtain ⟨hne, hsum⟩ := coll_some n i a p b q z1 z2 Ho.out
        subst hx hy hsome
        refine ⟨rfl, ?_, by show ((Dig.sum z1.data.toList).toNat : Int) = ((Dig.sum z2.data.toList).toNat : Int); rw [hsum]⟩
        rw [ByteArray.toList_eq, ByteArray.toList_eq]
        exact beq_eq_false_iff_ne.2 fun e => hne (bytes_inj e)
    have hbind := binding u n i a p b q
    rw [Ho.out, hsome] at hbind
    obtain ⟨v1, hv1⟩ : ∃ v, verifyB u n i a p = v := ⟨_, rfl⟩
    obtain ⟨v2, hv2⟩ : ∃ v, verifyB u n i b q = v := ⟨_, rfl⟩
    rw [hv1, hv2] at hbind
    have Hv1 := Lib.hid hv1
    have Hv2 := Lib.hid hv2
    have Hbind := Lib.hid hbind
    have HeT := Lib.hid eT
    clear eT hx hy hsome hv1 hv2 hbind
    go_enter Try.func7, Try.ntmps7
    go_wp2_with fail
    refine (head_any _).mono ?_
    rintro e w1 ⟨rfl, hB1⟩
    go_wp2_with fail
    refine (coll_at A A' c c' p.length q.length n i a p b q o w1 rfl rfl Ho.out (HA.out.go hB1) (HA'.out.go hB1) (by omega) (by omega)).mono ?_
    rintro e w2 ⟨rfl, hB2⟩
    have hB2' := bgo hB1 hB2
    clear hB1 hB2
    rw [HeT.out]
    clear HeT
    rcases hcase with ⟨rfl, hxy, hxe⟩ | ⟨rfl, hxy, hse⟩
    · go_wp2_with fail
      refine (verify_at A c p.length u n i a p v1 w2 rfl Hv1.out (HA.out.go hB2') (by omega)).mono ?_
      rintro e w3 ⟨rfl, hB3⟩
      have hB3' := bgo hB2' hB3
      clear hB3 hB2'
      cases v1 with
      | false =>
        go_wp2_with fail
        go_ret
        exact ⟨rfl, hB3'⟩
      | true =>
        go_wp2_with fail
        refine (verify_at A' c' q.length u n i b q v2 w3 rfl Hv2.out (HA'.out.go hB3') (by omega)).mono ?_
        rintro e w4 ⟨rfl, hB4⟩
        have hB4' := bgo hB3' hB4
        clear hB4 hB3'
        cases v2 with
        | false =>
          go_wp2_with fail
          go_ret
          exact ⟨rfl, hB4'⟩
        | true =>
          have hb0 := Hbind.out (by first | trivial | rfl) (by first | trivial | rfl)
          have hab : a = b := by
            by_cases h : a = b
            · exact h
            · rw [decide_eq_true (show a ≠ b from h)] at hb0; simp at hb0
          have hpq : decide (p = q) = true := by
            by_cases h : p = q
            · exact decide_eq_true h
            · rw [decide_eq_false h] at hb0; simp at hb0
          have hab' : (a.toList == b.toList) = true := by rw [hab]; simp
          have Hpq := Lib.hid hpq
          have hab2 : a.toList = b.toList := by rw [hab]
          clear hb0 hab hpq
          go_wp2_with fail
          refine (same_at A A' c c' p.length q.length p q true w4 rfl rfl Hpq.out (HA.out.go hB4') (HA'.out.go hB4') (by omega) (by omega)).mono ?_
          rintro e w5 ⟨rfl, hB5⟩
          go_wp2_with fail
          go_ret
          exact ⟨rfl, bgo hB4' hB5⟩
    · go_wp2_with fail
      refine (sum_any _ _ hsx).mono ?_
      rintro e w' ⟨rfl, rfl⟩
      go_wp2_with fail
      refine (sum_any _ _ hsy).mono ?_
      rintro e w' ⟨rfl, rfl⟩
      go_wp2_with fail
      refine (verify_at A c p.length u n i a p v1 w2 rfl Hv1.out (HA.out.go hB2') (by omega)).mono ?_
      rintro e w3 ⟨rfl, hB3⟩
      have hB3' := bgo hB2' hB3
      clear hB3 hB2'
      cases v1 with
      | false =>
        go_wp2_with fail
        go_ret
        exact ⟨rfl, hB3'⟩
      | true =>
        go_wp2_with fail
        refine (verify_at A' c' q.length u n i b q v2 w3 rfl Hv2.out (HA'.out.go hB3') (by omega)).mono ?_
        rintro e w4 ⟨rfl, hB4⟩
        have hB4' := bgo hB3' hB4
        clear hB4 hB3'
        cases v2 with
        | false =>
          go_wp2_with fail
          go_ret
          exact ⟨rfl, hB4'⟩
        | true =>
          have hb0 := Hbind.out (by first | trivial | rfl) (by first | trivial | rfl)
          by_cases hab : a = b
          · have hpq : decide (p = q) = false := by
              by_cases h : p = q
              · rw [decide_eq_true h, hab] at hb0; simp at hb0
              · exact decide_eq_false h
            have hab' : (a.toList == b.toList) = true := by rw [hab]; simp
            have Hpq := Lib.hid hpq
            have hab2 : a.toList = b.toList := by rw [hab]
            clear hb0 hab hpq
            go_wp2_with fail
            refine (same_at A A' c c' p.length q.length p q false w4 rfl rfl Hpq.out (HA.out.go hB4') (HA'.out.go hB4') (by omega) (by omega)).mono ?_
            rintro e w5 ⟨rfl, hB5⟩
            go_wp2_with fail
            go_ret
            exact ⟨rfl, bgo hB4' hB5⟩
          · have hab' : (a.toList == b.toList) = false := by
              rw [ByteArray.toList_eq, ByteArray.toList_eq]
              exact beq_eq_false_iff_ne.2 fun e => hab (bytes_inj e)
            have hab2 : ¬ a.toList = b.toList := by simpa using hab'
            clear hb0 hab
            go_wp2_with fail
            go_ret
            exact ⟨rfl, hB4'⟩
  · go_enter Try.func7, Try.ntmps7
    go_wp2_with fail
    refine (head_any _).mono ?_
    rintro e w1 ⟨rfl, hB1⟩
    by_cases h1 : a.size ≤ 60
    · have d1 : decide ((60 : Int) < (a.size : Int)) = false := decide_eq_false (by omega)
      by_cases h2 : b.size ≤ 60
      · have d2 : decide ((60 : Int) < (b.size : Int)) = false := decide_eq_false (by omega)
        by_cases h3 : p.length ≤ 20
        · have d3 : decide ((20 : Int) < (p.length : Int)) = false := decide_eq_false (by omega)
          have d4 : decide ((20 : Int) < (q.length : Int)) = true := decide_eq_true (by omega)
          go_wp2_with fail
          go_ret
          exact ⟨rfl, hB1⟩
        · have d3 : decide ((20 : Int) < (p.length : Int)) = true := decide_eq_true (by omega)
          go_wp2_with fail
          go_ret
          exact ⟨rfl, hB1⟩
      · have d2 : decide ((60 : Int) < (b.size : Int)) = true := decide_eq_true (by omega)
        go_wp2_with fail
        go_ret
        exact ⟨rfl, hB1⟩
    · have d1 : decide ((60 : Int) < (a.size : Int)) = true := decide_eq_true (by omega)
      go_wp2_with fail
      go_ret
      exact ⟨rfl, hB1⟩
end Go.Proofs.Ytdkjbdohnpaiaaa
