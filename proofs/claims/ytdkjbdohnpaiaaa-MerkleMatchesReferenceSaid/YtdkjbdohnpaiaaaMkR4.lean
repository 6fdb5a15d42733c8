/- The walks of the reference of merkle, fourth part: Texts, Verify, Collision. -/
import Derived.Test.YtdkjbdohnpaiaaaMkR3
namespace Go.Proofs.Ytdkjbdohnpaiaaa
open Go.RowKit Go.Shelf
set_option linter.unusedVariables false
theorem climbS_last (s : ByteArray) (hs : s.size ≤ 140737488355328) (p : Forks) : ∃ t, (climbS s p)[p.length]? = some t ∧ Dig.sum t.data.toList = Mk.climbD (Mk.leafD s.data.toList) p ∧ t.size ≤ maxLen := by
  obtain ⟨t, ht⟩ : ∃ t, (climbS s p)[p.length]? = some t := ⟨_, List.getElem?_eq_getElem (by rw [climbS_len]; omega)⟩
  refine ⟨t, ht, ?_, climbS_size s hs p t (List.mem_of_getElem? ht)⟩
  rcases List.eq_nil_or_concat p with rfl | ⟨q, x, rfl⟩
  · simp [climbS, Mk.climbT] at ht
    rw [← ht]; rfl
  · rw [List.concat_eq_append] at ht ⊢
    rw [climbS_snoc, List.length_append, List.getElem?_append_right (by rw [climbS_len]; simp), climbS_len] at ht
    simp at ht
    rw [← ht, bytesOf_data, Mk.sum_upT]
    simp [Mk.climbD]
def TextsOut (w : World) (n i : Int) (s : ByteArray) (p : Forks) (e : Ending) (w' : World) : Prop :=
  ∃ v, e = .returned (.tuple #[v, .bool (properB n i p)]) ∧ (properB n i p = true → w'.ownsRow w.heap.size 9 1 v (p.length + 1) (strV (climbS s p))) ∧ Below w.heap.size w w'
theorem texts_no {w w' : World} {n i : Int} {s : ByteArray} {p : Forks} (h : ¬ (sidesOk n i ∧ sidesL n i = p.map (·.2))) (hB : Below w.heap.size w w') : TextsOut w n i s p (.returned (.tuple #[.slice none 0 0, .bool false])) w' := by
  have hf : properB n i p = false := decide_eq_false h
  exact ⟨_, by rw [hf], (fun e => by rw [hf] at e; cases e), hB⟩
theorem base_mono {W : World} {B B' : Nat} {e : TypeId} {size n : Nat} {v : Value} {xs : List Value} (h : W.ownsRow B e size v n xs) (hb : B' ≤ B) : W.ownsRow B' e size v n xs := by
  refine ⟨h.1, ?_⟩
  rcases h.2 with h0 | ⟨g, cap, cur, hv, h1, h2⟩
  · exact .inl h0
  · exact .inr ⟨g, cap, cur, hv, by omega, h2⟩
theorem sidesL_ok (n i : Int) : (sidesL n i).length ≤ 10 := sidesL_len n i
set_option maxRecDepth 100000 in
set_option maxHeartbeats 2000000 in
theorem rtexts_any (A : Option Addr) (c : Nat) (n i : Int) (s : ByteArray) (p : Forks) (w : World) (hA : Sl w w.heap.size 2 A p.length (forkV p)) (hp : p.length ≤ 20) (hs : s.size ≤ 140737488355328) :
    Calls Try.prog 32 #[.int .i64 n, .int .i64 i, .string s, .slice A p.length c] w (TextsOut w n i s p) := by
  obtain ⟨i0, hj0, hz0, hz1, hz2⟩ := info_parts info_string
  have HA := Lib.hid hA
  clear hA
  by_cases hok : sidesOk n i
  · have Hok := Lib.hid hok
    obtain ⟨⟨h1, h2⟩, h3, h4⟩ := hok
    have h1' : ¬ (n < 1) := by omega
    have h2' : ¬ ((1024 : Int) < n) := by omega
    have h3' : ¬ (i < 0) := by omega
    have h4' : ¬ (n ≤ i) := by omega
    obtain ⟨L, hL⟩ : ∃ L, sidesL n i = L := ⟨_, rfl⟩
    have hl10 := sidesL_len n i
    rw [hL] at hl10
    have HL := Lib.hid hL
    clear hL
    go_enter Try.func32, Try.ntmps32
    go_wp2_with fail
    refine (rsides_any n i _ Hok.out).mono ?_
    rintro e w1 ⟨v, rfl, hown1, hB1⟩
    rw [HL.out] at hown1
    obtain ⟨A1, c1, rfl, hS1⟩ := own_slice hown1
    have HS1 := Lib.hid hS1
    clear hown1 hS1
    by_cases hlen : L.length = p.length
    · have hne : ((L.length : Int) != (p.length : Int)) = false := by rw [hlen]; simp
      have Hlen := Lib.hid hlen
      clear hlen
      go_wp2_with fail
      refine (rleafText_any _ _ hs).mono ?_
      rintro e w2 ⟨rfl, hB2⟩
      have hown2 : (w2.alloc (.cells #[.string ⟨(0 :: s.data.toList).toArray⟩] 9)).ownsRow w1.heap.size 9 1 (.slice (some ⟨w2.heap.size, 0, none⟩) 1 1) 1 (strV (climbS s [])) := ⟨rfl, .inr ⟨w2.heap.size, 1, #[.string ⟨(0 :: s.data.toList).toArray⟩], rfl, hB2.size, World.alloc_heap_new w2 _, Nat.le_refl _, by unfold maxLen; omega, rfl, rfl⟩⟩
      have hB2' := bal hB2 (.cells #[.string ⟨(0 :: s.data.toList).toArray⟩] 9)
      have HO := Lib.hid hown2
      clear hown2 hB2
      go_wp2
      go_loopw [11, 12] (fun v iv wr => ∃ k : Nat, k ≤ p.length ∧ iv = .int .i64 (k : Int) ∧ wr.ownsRow w1.heap.size 9 1 v (k + 1) (strV (climbS s (p.take k))) ∧ (∀ j, j < k → L[j]? = (p.map (·.2))[j]?) ∧ Below w1.heap.size w1 wr) (fun _ iv _ => p.length - (intOf iv).toNat)
      case atStart => exact ⟨0, Nat.zero_le _, rfl, HO.out, fun j hj => absurd hj (Nat.not_lt_zero j), hB2'⟩
      case round =>
        clear HO hB2'
        obtain ⟨k, hk, rfl, hown, hall, hB⟩ := hrel
        obtain ⟨g, cap, hv⟩ := ownsRow_succ hown
        subst hv
        have Hown := Lib.hid hown
        have Hall := Lib.hid hall
        clear hown hall
        have hBw := bgo hB1 hB
        by_cases hlt : k < p.length
        · have hltL : k < L.length := by rw [Hlen.out]; exact hlt
          obtain ⟨b, off, rfl, hb, hcell⟩ := (HA.out.go hBw).2 (by omega)
          obtain ⟨b1, off1, rfl, hb1, hcell1⟩ := (HS1.out.go hB).2 (by omega)
          obtain ⟨x, hx⟩ : ∃ x, p[k].1 = x := ⟨_, rfl⟩
          obtain ⟨y, hy⟩ : ∃ y, p[k].2 = y := ⟨_, rfl⟩
          obtain ⟨y1, hy1⟩ : ∃ y, L[k] = y := ⟨_, rfl⟩
          have hc1 : wr.cell? ⟨b, off + k * 2, none⟩ = some (.int .u64 x.toNat) := by rw [← hx]; exact hcell _ _ (forkV_get1 p k hlt)
          have hc2 : wr.cell? ⟨b, off + k * 2 + 1, none⟩ = some (.bool y) := by rw [Nat.add_assoc, ← hy]; exact hcell _ _ (forkV_get2 p k hlt)
          have hc3 : wr.cell? ⟨b1, off1 + k, none⟩ = some (.bool y1) := by rw [← hy1]; exact hcell1 k _ (by simp [boolV, hltL])
          obtain ⟨t, ht, hts, htz⟩ := climbS_last s hs (p.take k)
          rw [List.length_take, Nat.min_eq_left hk] at ht
          have hc4 : wr.cell? ⟨g, k, none⟩ = some (.string t) := (Hown.out.cellAt k (by omega)).trans (by simp [strV, ht])
          obtain ⟨d, hd⟩ : ∃ d, Mk.climbD (Mk.leafD s.data.toList) (p.take k) = d := ⟨_, rfl⟩
          rw [hd] at hts
          have HX := Lib.hid (And.intro hx (And.intro hy (And.intro hy1 hd)))
          have Hts := Lib.hid hts
          have hlt' : (k : Int) < (p.length : Int) := by omega
          have hlt1 : (k : Int) < (L.length : Int) := by omega
          have hlt2 : (k : Int) < ((k + 1 : Nat) : Int) := by omega
          have hk0 : (0 : Int) ≤ (k : Int) := Int.natCast_nonneg _
          clear hcell hcell1 hx hy hy1 hd ht hts
          by_cases hyy : y = y1
          · have hall2 : ∀ j, j < k + 1 → L[j]? = (p.map (·.2))[j]? := by
              intro j hj
              rcases Nat.lt_succ_iff_lt_or_eq.1 hj with h | h
              · exact Hall.out j h
              · obtain ⟨_, e2, e3, _⟩ := HX.out
                rw [h, List.getElem?_eq_getElem hltL, e3, List.getElem?_map, List.getElem?_eq_getElem hlt, Option.map_some, e2, hyy]
            have Hall2 := Lib.hid hall2
            clear hall2
            subst hyy
            have ht1 : p.take (k + 1) = p.take k ++ [(x, y)] := by
              obtain ⟨e1, e2, _, _⟩ := HX.out
              rw [List.take_succ_eq_append_getElem hlt, ← e1, ← e2]
            have hcs : climbS s (p.take (k + 1)) = climbS s (p.take k) ++ [bytesOf (Mk.upT d (x, y))] := by
              rw [ht1, climbS_snoc, HX.out.2.2.2]
            have Hcs := Lib.hid hcs
            clear ht1 hcs
            go_wp2
            go_quiet (fail)
            go_wp2_with fail
            refine (rsum_any _ _ htz).mono ?_
            rintro e w3 ⟨rfl, rfl⟩
            rw [Hts.out]
            cases y
            · go_wp2_with fail
              refine (rnodeText_any _ _ _).mono ?_
              rintro e w3 ⟨rfl, hB3⟩
              have hB3' := bgo (below_drewN hB nq) hB3
              have Hown3 := Lib.hid (own_below (w := wr.drewN nq) Hown.out hB3)
              clear hB3
              go_wp2_with (at_builtin; refine app_one rfl _ _ 22 rfl 9 i0 (.string ⟨#[]⟩) 1 16 Try.underlying22 hj0 hz0 hz1 hz2 rfl (by decide) _ (k + 1) _ rfl Hown3.out hB3' [.string ⟨(Mk.nodeT d x).toArray⟩] _ _ rfl rfl (by simp [Value.oneCell']) (by unfold maxLen; omega) (by omega) ?_)
              intro v' w4 hown4 hB4 hoth
              clear hoth
              have HR := Lib.hid hown4
              clear hown4
              go_wp2
              go_roundw
              case rel => exact ⟨k + 1, by omega, by go_num, by rw [Hcs.out]; have := HR.out; simpa [strV, bytesOf, Mk.upT] using this, Hall2.out, hB4⟩
              case measure => simp [intOf]; omega
            · go_wp2_with fail
              refine (rnodeText_any _ _ _).mono ?_
              rintro e w3 ⟨rfl, hB3⟩
              have hB3' := bgo (below_drewN hB nq) hB3
              have Hown3 := Lib.hid (own_below (w := wr.drewN nq) Hown.out hB3)
              clear hB3
              go_wp2_with (at_builtin; refine app_one rfl _ _ 22 rfl 9 i0 (.string ⟨#[]⟩) 1 16 Try.underlying22 hj0 hz0 hz1 hz2 rfl (by decide) _ (k + 1) _ rfl Hown3.out hB3' [.string ⟨(Mk.nodeT x d).toArray⟩] _ _ rfl rfl (by simp [Value.oneCell']) (by unfold maxLen; omega) (by omega) ?_)
              intro v' w4 hown4 hB4 hoth
              clear hoth
              have HR := Lib.hid hown4
              clear hown4
              go_wp2
              go_roundw
              case rel => exact ⟨k + 1, by omega, by go_num, by rw [Hcs.out]; have := HR.out; simpa [strV, bytesOf, Mk.upT] using this, Hall2.out, hB4⟩
              case measure => simp [intOf]; omega
          · have hbad : ¬ (sidesOk n i ∧ sidesL n i = p.map (·.2)) := by
              rintro ⟨_, e⟩
              rw [HL.out] at e
              obtain ⟨_, e2, e3, _⟩ := HX.out
              apply hyy
              have h5 : L[k]? = (p.map (·.2))[k]? := by rw [e]
              rw [List.getElem?_eq_getElem hltL, List.getElem?_map, List.getElem?_eq_getElem hlt, Option.map_some, Option.some.injEq, e3, e2] at h5
              exact h5.symm
            have Hbad := Lib.hid hbad
            obtain rfl : y1 = !y := by cases y <;> cases y1 <;> simp_all
            clear hbad hyy HX
            cases y
            · go_wp2
              go_quiet (fail)
              go_wp2
              go_ret2
              exact texts_no Hbad.out (below_drewN hBw nq)
            · go_wp2
              go_quiet (fail)
              go_wp2
              go_ret2
              exact texts_no Hbad.out (below_drewN hBw nq)
        · obtain rfl : k = p.length := by omega
          have hgood : properB n i p = true := by
            refine decide_eq_true ⟨Hok.out, ?_⟩
            rw [HL.out]
            apply List.ext_getElem?
            intro j
            by_cases hj : j < p.length
            · exact Hall.out j hj
            · rw [List.getElem?_eq_none (by rw [Hlen.out]; omega), List.getElem?_eq_none (by simp; omega)]
          have Hgood := Lib.hid hgood
          rw [List.take_length] at Hown
          clear hgood
          go_wp2
          go_ret2
          exact ⟨.slice (some ⟨g, 0, none⟩) (p.length + 1) cap, by simp only [Hgood.out]; rfl, fun _ => base_mono Hown.out hB1.size, hBw⟩
    · have hne : ((L.length : Int) != (p.length : Int)) = true := by simp; omega
      have hbad : ¬ (sidesOk n i ∧ sidesL n i = p.map (·.2)) := by
        rintro ⟨_, e⟩
        rw [HL.out] at e
        exact hlen (by rw [e, List.length_map])
      have Hbad := Lib.hid hbad
      clear hbad hlen
      go_wp2
      go_ret2
      exact texts_no Hbad.out hB1
  · have hbad : ¬ (sidesOk n i ∧ sidesL n i = p.map (·.2)) := fun h => hok h.1
    have Hbad := Lib.hid hbad
    clear hbad
    by_cases h1 : n < 1
    · clear hok
      go_enter Try.func32, Try.ntmps32
      go_wp2
      go_ret2
      exact texts_no Hbad.out (Below.refl _ _)
    · by_cases h2 : 1024 < n
      · clear hok
        go_enter Try.func32, Try.ntmps32
        go_wp2
        go_ret2
        exact texts_no Hbad.out (Below.refl _ _)
      · by_cases h3 : i < 0
        · clear hok
          go_enter Try.func32, Try.ntmps32
          go_wp2
          go_ret2
          exact texts_no Hbad.out (Below.refl _ _)
        · have h4 : n ≤ i := by unfold sidesOk at hok; omega
          clear hok
          go_enter Try.func32, Try.ntmps32
          go_wp2
          go_ret2
          exact texts_no Hbad.out (Below.refl _ _)
theorem rtexts_at (A : Option Addr) (c m : Nat) (n i : Int) (s : ByteArray) (p : Forks) (b : Bool) (w : World) (hm : p.length = m) (hb : properB n i p = b) (hA : Sl w w.heap.size 2 A m (forkV p)) (hp : p.length ≤ 20) (hs : s.size ≤ 140737488355328) :
    Calls Try.prog 32 #[.int .i64 n, .int .i64 i, .string s, .slice A m c] w fun e w' => ∃ v, e = .returned (.tuple #[v, .bool b]) ∧ (b = true → w'.ownsRow w.heap.size 9 1 v (m + 1) (strV (climbS s p))) ∧ Below w.heap.size w w' := by
  subst hm hb
  exact rtexts_any A c n i s p w hA hp hs
set_option maxRecDepth 100000 in
theorem rverify_any (A : Option Addr) (c m : Nat) (root : UInt64) (n i : Int) (s : ByteArray) (p : Forks) (r : Bool) (w : World) (hm : p.length = m) (hr : verifyB root n i s p = r) (hA : Sl w w.heap.size 2 A m (forkV p)) (hp : p.length ≤ 20) (hs : s.size ≤ 140737488355328) :
    Calls Try.prog 19 #[.int .u64 root.toNat, .int .i64 n, .int .i64 i, .string s, .slice A m c] w fun e w' => e = .returned (.bool r) ∧ Below w.heap.size w w' := by
  subst hm
  have HA := Lib.hid hA
  clear hA
  obtain ⟨pb, hpb⟩ : ∃ b, properB n i p = b := ⟨_, rfl⟩
  unfold verifyB at hr
  rw [hpb] at hr
  have Hpb := Lib.hid hpb
  clear hpb
  cases pb with
  | false =>
    rw [Bool.false_and] at hr
    subst hr
    go_enter Try.func19, Try.ntmps19
    go_wp2_with fail
    refine (rtexts_at A c p.length n i s p false _ rfl Hpb.out HA.out hp hs).mono ?_
    rintro e w1 ⟨v, rfl, hown, hB⟩
    clear hown
    go_wp2
    go_ret
    exact ⟨rfl, hB⟩
  | true =>
    rw [Bool.true_and] at hr
    obtain ⟨t, ht, hts, htz⟩ := climbS_last s hs p
    rw [← hts, ← u64_beq] at hr
    have Hr := Lib.hid hr
    have Ht := Lib.hid ht
    clear hr ht hts
    go_enter Try.func19, Try.ntmps19
    go_wp2_with fail
    refine (rtexts_at A c p.length n i s p true _ rfl Hpb.out HA.out hp hs).mono ?_
    rintro e w1 ⟨v, rfl, hown, hB⟩
    replace hown := hown rfl
    obtain ⟨g, cap, hv⟩ := ownsRow_succ hown
    subst hv
    have hc : w1.cell? ⟨g, p.length, none⟩ = some (.string t) := (hown.cellAt p.length (by omega)).trans (by simp [strV, Ht.out])
    clear hown
    go_wp2_with fail
    refine (rsum_any _ _ htz).mono ?_
    rintro e w3 ⟨rfl, rfl⟩
    go_wp2
    go_ret
    rw [Hr.out]
    exact ⟨rfl, hB⟩
set_option maxRecDepth 100000 in
set_option maxHeartbeats 2000000 in
theorem rcollision_any (A A' : Option Addr) (c c' m m' : Nat) (n i : Int) (a : ByteArray) (p : Forks) (b : ByteArray) (q : Forks) (o : Option (ByteArray × ByteArray)) (w : World) (hm : p.length = m) (hm' : q.length = m') (ho : collO n i a p b q = o) (hA : Sl w w.heap.size 2 A m (forkV p)) (hA' : Sl w w.heap.size 2 A' m' (forkV q)) (hp : p.length ≤ 20) (hq : q.length ≤ 20) (hs : a.size ≤ 140737488355328) (hs' : b.size ≤ 140737488355328) :
    Calls Try.prog 21 #[.int .i64 n, .int .i64 i, .string a, .slice A m c, .string b, .slice A' m' c'] w fun e w' => e = .returned (collT o) ∧ Below w.heap.size w w' := by
  subst hm hm'
  have HA := Lib.hid hA
  have HA' := Lib.hid hA'
  clear hA hA'
  obtain ⟨b1, hb1⟩ : ∃ b, properB n i p = b := ⟨_, rfl⟩
  obtain ⟨b2, hb2⟩ : ∃ b, properB n i q = b := ⟨_, rfl⟩
  unfold collO at ho
  rw [hb1, hb2] at ho
  have Hb1 := Lib.hid hb1
  have Hb2 := Lib.hid hb2
  clear hb1 hb2
  cases b1 with
  | false =>
    rw [if_neg (by simp)] at ho
    subst ho
    go_enter Try.func21, Try.ntmps21
    go_wp2_with fail
    refine (rtexts_at A c p.length n i a p false _ rfl Hb1.out HA.out hp hs).mono ?_
    rintro e w1 ⟨v1, rfl, hown1, hB1⟩
    clear hown1
    go_wp2_with fail
    refine (rtexts_at A' c' q.length n i b q b2 _ rfl Hb2.out (HA'.out.go hB1) hq hs').mono ?_
    rintro e w2 ⟨v2, rfl, hown2, hB2⟩
    have hB2' := bgo hB1 hB2
    clear hown2 hB1 hB2
    go_wp2
    go_quiet (fail)
    go_wp2
    go_ret3
    exact ⟨rfl, below_drewN hB2' nq⟩
  | true =>
    cases b2 with
    | false =>
      rw [if_neg (by simp)] at ho
      subst ho
      go_enter Try.func21, Try.ntmps21
      go_wp2_with fail
      refine (rtexts_at A c p.length n i a p true _ rfl Hb1.out HA.out hp hs).mono ?_
      rintro e w1 ⟨v1, rfl, hown1, hB1⟩
      clear hown1
      go_wp2_with fail
      refine (rtexts_at A' c' q.length n i b q false _ rfl Hb2.out (HA'.out.go hB1) hq hs').mono ?_
      rintro e w2 ⟨v2, rfl, hown2, hB2⟩
      have hB2' := bgo hB1 hB2
      clear hown2 hB1 hB2
      go_wp2
      go_quiet (fail)
      go_wp2
      go_ret3
      exact ⟨rfl, below_drewN hB2' nq⟩
    | true =>
      have hpq : q.length = p.length := by
        have h1 := proper_sides Hb1.out
        have h2 := proper_sides Hb2.out
        have := congrArg List.length (h1.symm.trans h2)
        simpa using this.symm
      obtain ⟨t, ht, hts, htz⟩ := climbS_last a hs p
      obtain ⟨t', ht', hts', htz'⟩ := climbS_last b hs' q
      rw [hpq] at ht'
      have hzs := climbS_size a hs p
      have hzt := climbS_size b hs' q
      have hls := climbS_len a p
      have hlt := climbS_len b q
      obtain ⟨ss, hss⟩ : ∃ ss, climbS a p = ss := ⟨_, rfl⟩
      obtain ⟨tt, htt⟩ : ∃ tt, climbS b q = tt := ⟨_, rfl⟩
      rw [hss] at ht hzs hls ho
      rw [htt] at ht' hzt hlt ho
      rw [hpq] at hlt
      rw [← hts, ← hts'] at ho
      have F := Lib.hid (And.intro hpq (And.intro ht (And.intro ht' (And.intro hzs (And.intro hzt (And.intro hls (And.intro hlt (And.intro hss htt))))))))
      clear hpq ht ht' hzs hzt hls hlt hss htt hts hts'
      go_enter Try.func21, Try.ntmps21
      go_wp2_with fail
      refine (rtexts_at A c p.length n i a p true _ rfl Hb1.out HA.out hp hs).mono ?_
      rintro e w1 ⟨v1, rfl, hown1, hB1⟩
      replace hown1 := hown1 rfl
      obtain ⟨g, cap, hv⟩ := ownsRow_succ hown1
      subst hv
      have H1 := Lib.hid hown1
      clear hown1
      go_wp2_with fail
      refine (rtexts_at A' c' q.length n i b q true _ rfl Hb2.out (HA'.out.go hB1) hq hs').mono ?_
      rintro e w2 ⟨v2, rfl, hown2, hB2⟩
      replace hown2 := hown2 rfl
      rw [F.out.1] at hown2
      obtain ⟨g', cap', hv'⟩ := ownsRow_succ hown2
      subst hv'
      have hB2' := bgo hB1 hB2
      have hown1 := own_below H1.out hB2
      rw [F.out.2.2.2.2.2.2.2.1] at hown1
      rw [F.out.2.2.2.2.2.2.2.2] at hown2
      have hc1 : w2.cell? ⟨g, p.length, none⟩ = some (.string t) := (hown1.cellAt p.length (by omega)).trans (by simp [strV, F.out.2.1])
      have hc2 : w2.cell? ⟨g', p.length, none⟩ = some (.string t') := (hown2.cellAt p.length (by omega)).trans (by simp [strV, F.out.2.2.1])
      have hS1 := own_sl hown1
      have hS2 := own_sl hown2
      have HS := Lib.hid (And.intro hS1 hS2)
      clear hown1 hown2 hB1 hB2 H1 hS1 hS2
      have k0 : (0 : Int) ≤ (p.length : Int) := Int.natCast_nonneg _
      have k1 : (p.length : Int) < ((p.length + 1 : Nat) : Int) := by omega
      have k2 : ((p.length + 1 : Nat) : Int) - 1 = (p.length : Int) := by omega
      by_cases hsum : Dig.sum t.data.toList = Dig.sum t'.data.toList
      · rw [if_pos ⟨trivial, trivial, hsum⟩] at ho
        have hsum' : (((Dig.sum t.data.toList).toNat : Int) != ((Dig.sum t'.data.toList).toNat : Int)) = false := by rw [hsum]; simp
        have Ho := Lib.hid ho
        have hwr : IntKind.i64.wrap (((p.length + 1 : Nat) : Int) - 1) = (p.length : Int) := by rw [k2]; exact IntWalk.i64_in _ (by omega)
        clear ho hsum
        go_wp2
        go_quiet ((go_at_call 33; first | exact quiet_left (rsum_any t _ htz) | exact quiet_left (rsum_any t' _ htz')))
        clear hwr k2 hc1 hc2 hsum'
        go_wp2
        go_loopw [19] (fun iv wr => ∃ k : Nat, k ≤ p.length + 1 ∧ iv = .int .i64 (k : Int) ∧ collF ss tt = collF (ss.drop k) (tt.drop k) ∧ Below w2.heap.size w2 wr) (fun iv _ => p.length + 1 - (intOf iv).toNat)
        case atStart => exact ⟨0, Nat.zero_le _, rfl, rfl, below_drewN (Below.refl _ _) _⟩
        case round =>
          obtain ⟨k, hk, rfl, hcf, hB⟩ := hrel
          have Hcf := Lib.hid hcf
          clear hcf
          have hBw := bgo hB2' hB
          by_cases hlt : k < p.length + 1
          · obtain ⟨hpq, _, _, hzs, hzt, hls, hltt, _, _⟩ := F.out
            obtain ⟨x, hx⟩ : ∃ x, ss[k]? = some x := ⟨_, List.getElem?_eq_getElem (by omega)⟩
            obtain ⟨y, hy⟩ : ∃ y, tt[k]? = some y := ⟨_, List.getElem?_eq_getElem (by omega)⟩
            have hc1 : wr.cell? ⟨g, k, none⟩ = some (.string x) := by
              obtain ⟨b0, off0, e, hb0, hc⟩ := (HS.out.1.go hB).2 (by omega)
              injection e with e; injection e with e1 e2 e3
              subst e1 e2
              have := hc k (.string x) (by simp [strV, hx])
              rwa [Nat.zero_add] at this
            have hc2 : wr.cell? ⟨g', k, none⟩ = some (.string y) := by
              obtain ⟨b0, off0, e, hb0, hc⟩ := (HS.out.2.go hB).2 (by omega)
              injection e with e; injection e with e1 e2 e3
              subst e1 e2
              have := hc k (.string y) (by simp [strV, hy])
              rwa [Nat.zero_add] at this
            have hzx := hzs x (List.mem_of_getElem? hx)
            have hzy := hzt y (List.mem_of_getElem? hy)
            have hdr := collF_drop ss tt k x y hx hy
            have hk0 : (0 : Int) ≤ (k : Int) := Int.natCast_nonneg _
            have hk1 : (k : Int) < ((p.length + 1 : Nat) : Int) := by omega
            clear hpq hzs hzt hls hltt hx hy
            by_cases hxy : x = y
            · rw [if_pos hxy, ← Hcf.out] at hdr
              have Hdr := Lib.hid hdr
              have e1 : (x.toList == y.toList) = true := by rw [hxy]; simp
              have e2 : x.toList = y.toList := by rw [hxy]
              clear hdr hxy
              go_wp2
              go_quiet ((go_at_call 33; first | exact quiet_left (rsum_any x _ hzx) | exact quiet_left (rsum_any y _ hzy)))
              go_wp2
              go_roundw
              case rel => exact ⟨k + 1, by omega, by go_num, Hdr.out, below_drewN hB nq⟩
              case measure => simp [intOf]; omega
            · have e1 : (x.toList == y.toList) = false := by
                rw [ByteArray.toList_eq, ByteArray.toList_eq]
                exact beq_eq_false_iff_ne.2 fun e => hxy (bytes_inj e)
              have e2 : ¬ x.toList = y.toList := by simpa using e1
              rw [if_neg hxy] at hdr
              by_cases hsum : Dig.sum x.data.toList = Dig.sum y.data.toList
              · rw [if_pos hsum, ← Hcf.out, Ho.out] at hdr
                have Hdr := Lib.hid hdr
                have e3 : (((Dig.sum x.data.toList).toNat : Int) == ((Dig.sum y.data.toList).toNat : Int)) = true := by rw [hsum]; simp
                have e4 : ((Dig.sum x.data.toList).toNat : Int) = ((Dig.sum y.data.toList).toNat : Int) := by rw [hsum]
                have He4 := Lib.hid e4
                clear hdr hxy hsum e4
                go_wp2
                go_quiet ((go_at_call 33; first | exact quiet_left (rsum_any x _ hzx) | exact quiet_left (rsum_any y _ hzy)))
                go_wp2
                go_quiet (fail)
                go_wp2
                go_ret3
                rw [Hdr.out]
                exact ⟨rfl, below_drewN (below_drewN hBw _) _⟩
              · rw [if_neg hsum, ← Hcf.out] at hdr
                have Hdr := Lib.hid hdr
                have e3 : (((Dig.sum x.data.toList).toNat : Int) == ((Dig.sum y.data.toList).toNat : Int)) = false := by rw [u64_beq]; simpa using hsum
                clear hdr hxy hsum
                go_wp2
                go_quiet ((go_at_call 33; first | exact quiet_left (rsum_any x _ hzx) | exact quiet_left (rsum_any y _ hzy)))
                go_wp2
                go_roundw
                case rel => exact ⟨k + 1, by omega, by go_num, Hdr.out, below_drewN hB nq⟩
                case measure => simp [intOf]; omega
          · have hend : o = none := by rw [← Ho.out, Hcf.out]; exact collF_end ss tt k (by have := F.out.2.2.2.2.2.1; omega)
            have Hend := Lib.hid hend
            clear hend
            go_wp2
            go_ret3
            rw [Hend.out]
            exact ⟨rfl, hBw⟩
      · rw [if_neg (fun h => hsum h.2.2)] at ho
        subst ho
        have hsum' : (((Dig.sum t.data.toList).toNat : Int) != ((Dig.sum t'.data.toList).toNat : Int)) = true := by
          have := u64_beq (Dig.sum t.data.toList) (Dig.sum t'.data.toList)
          simp only [bne, this]; simpa using hsum
        have hwr : IntKind.i64.wrap (((p.length + 1 : Nat) : Int) - 1) = (p.length : Int) := by rw [k2]; exact IntWalk.i64_in _ (by omega)
        clear hsum
        go_wp2
        go_quiet ((go_at_call 33; first | exact quiet_left (rsum_any t _ htz) | exact quiet_left (rsum_any t' _ htz')))
        clear hwr k2 hc1 hc2
        go_wp2
        go_ret3
        exact ⟨rfl, below_drewN hB2' _⟩
end Go.Proofs.Ytdkjbdohnpaiaaa
