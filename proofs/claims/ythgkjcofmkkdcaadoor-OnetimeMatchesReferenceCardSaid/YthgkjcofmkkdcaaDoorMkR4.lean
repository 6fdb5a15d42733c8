/- The walks of the reference of merkle, fourth part: Texts, Verify, Collision. -/
import Derived.Test.YthgkjcofmkkdcaaDoorMkR3
namespace Go.Proofs.YthgkjcofmkkdcaaDoor
open Go.RowKit Go.Shelf
set_option linter.unusedVariables false
theorem climbS_last (s : ByteArray) (hs : s.size ≤ 140737488355328) (p : Forks) : ∃ t, (climbS s p)[p.length]? = some t ∧ Dig.sum t.data.toList = Mk.climbD (Mk.leafD s.data.toList) p ∧ t.size ≤ maxLen := by
  obtain ⟨t, ht⟩ : ∃ t, (climbS s p)[p.length]? = some t := ⟨_, List.getElem?_eq_getElem (by rw [climbS_len]; omega)⟩
  refine ⟨t, ht, ?_, climbS_size s hs p t (List.mem_of_getElem? ht)⟩
  rcases List.eq_nil_or_concat p with rfl | ⟨q, x, rfl⟩
  · simp [climbS, Mk.climbT] at ht
    rw [← ht]; rfl
  · rw [List.concat_eq_append] at ht ⊢
    rw [climbS_snoc, List.length_append, List.getElem?_append_right (by rw [climbS_len]; simp), climbS_len] at ht
    simp at ht
    rw [← ht, bytesOf_data, Mk.sum_upT]
    simp [Mk.climbD]
def TextsOut (w : World) (n i : Int) (s : ByteArray) (p : Forks) (e : Ending) (w' : World) : Prop :=
  ∃ v, e = .returned (.tuple #[v, .bool (properB n i p)]) ∧ (properB n i p = true → w'.ownsRow w.heap.size 9 1 v (p.length + 1) (strV (climbS s p))) ∧ Below w.heap.size w w'
theorem texts_no {w w' : World} {n i : Int} {s : ByteArray} {p : Forks} (h : ¬ (sidesOk n i ∧ sidesL n i = p.map (·.2))) (hB : Below w.heap.size w w') : TextsOut w n i s p (.returned (.tuple #[.slice none 0 0, .bool false])) w' := by
  have hf : properB n i p = false := decide_eq_false h
  exact ⟨_, by rw [hf], (fun e => by rw [hf] at e; cases e), hB⟩
theorem base_mono {W : World} {B B' : Nat} {e : TypeId} {size n : Nat} {v : Value} {xs : List Value} (h : W.ownsRow B e size v n xs) (hb : B' ≤ B) : W.ownsRow B' e size v n xs := by
  refine ⟨h.1, ?_⟩
  rcases h.2 with h0 | ⟨g, cap, cur, hv, h1, h2⟩
  · exact .inl h0
  · exact .inr ⟨g, cap, cur, hv, by omega, h2⟩
theorem sidesL_le (n i : Int) : (sidesL n i).length ≤ 10 := sidesL_len n i
set_option maxRecDepth 100000 in
set_option maxHeartbeats 2000000 in
theorem rtexts_any (A : Option Addr) (c : Nat) (n i : Int) (s : ByteArray) (p : Forks) (w : World) (hA : Sl w w.heap.size 2 A p.length (forkV p)) (hp : p.length ≤ 30) (hs : s.size ≤ 140737488355328) :
    Calls Tryd.prog 71 #[.int .i64 n, .int .i64 i, .string s, .slice A p.length c] w (TextsOut w n i s p) := by
  obtain ⟨i0, hj0, hz0, hz1, hz2⟩ := info_parts info_string
  have HA := Lib.hid hA
  clear hA
  by_cases hok : sidesOk n i
  · have Hok := Lib.hid hok
    obtain ⟨⟨h1, h2⟩, h3, h4⟩ := hok
    have h1' : ¬ (n < 1) := by omega
    have h2' : ¬ ((1024 : Int) < n) := by omega
    have h3' : ¬ (i < 0) := by omega
    have h4' : ¬ (n ≤ i) := by omega
    obtain ⟨L, hL⟩ : ∃ L, sidesL n i = L := ⟨_, rfl⟩
    have hl10 := sidesL_len n i
    rw [hL] at hl10
    have HL := Lib.hid hL
    clear hL
    go_enter Tryd.func71, Tryd.ntmps71
    go_wp2_with fail
    refine (rsides_any n i _ Hok.out).mono ?_
    rintro e w1 ⟨v, rfl, hown1, hB1⟩
    rw [HL.out] at hown1
    obtain ⟨A1, c1, rfl, hS1⟩ := own_slice hown1
    have HS1 := Lib.hid hS1
    clear hown1 hS1
    by_cases hlen : L.length = p.length
    · have hne : ((L.length : Int) != (p.length : Int)) = false := by rw [hlen]; simp
      have Hlen := Lib.hid hlen
      clear hlen
      go_wp2_with fail
      refine (rleafText_any _ _ hs).mono ?_
      rintro e w2 ⟨rfl, hB2⟩
      have hown2 : (w2.alloc (.cells #[.string ⟨(0 :: s.data.toList).toArray⟩] 9)).ownsRow w1.heap.size 9 1 (.slice (some ⟨w2.heap.size, 0, none⟩) 1 1) 1 (strV (climbS s [])) := ⟨rfl, .inr ⟨w2.heap.size, 1, #[.string ⟨(0 :: s.data.toList).toArray⟩], rfl, hB2.size, World.alloc_heap_new w2 _, Nat.le_refl _, by unfold maxLen; omega, rfl, rfl⟩⟩
      have hB2' := bal hB2 (.cells #[.string ⟨(0 :: s.data.toList).toArray⟩] 9)
      have HO := Lib.hid hown2
      clear hown2 hB2
      go_wp2
      go_loopw [11, 12] (fun v iv wr => ∃ k : Nat, k ≤ p.length ∧ iv = .int .i64 (k : Int) ∧ wr.ownsRow w1.heap.size 9 1 v (k + 1) (strV (climbS s (p.take k))) ∧ (∀ j, j < k → L[j]? = (p.map (·.2))[j]?) ∧ Below w1.heap.size w1 wr) (fun _ iv _ => p.length - (intOf iv).toNat)
      case atStart => exact ⟨0, Nat.zero_le _, rfl, HO.out, fun j hj => absurd hj (Nat.not_lt_zero j), hB2'⟩
      case round =>
        clear HO hB2'
        obtain ⟨k, hk, rfl, hown, hall, hB⟩ := hrel
        obtain ⟨g, cap, hv⟩ := ownsRow_succ hown
        subst hv
        have Hown := Lib.hid hown
        have Hall := Lib.hid hall
        clear hown hall
        have hBw := bgo hB1 hB
        by_cases hlt : k < p.length
        · have hltL : k < L.length := by rw [Hlen.out]; exact hlt
          obtain ⟨b, off, rfl, hb, hcell⟩ := (HA.out.go hBw).2 (by omega)
          obtain ⟨b1, off1, rfl, hb1, hcell1⟩ := (HS1.out.go hB).2 (by omega)
          obtain ⟨x, hx⟩ : ∃ x, p[k].1 = x := ⟨_, rfl⟩
          obtain ⟨y, hy⟩ : ∃ y, p[k].2 = y := ⟨_, rfl⟩
          obtain ⟨y1, hy1⟩ : ∃ y, L[k] = y := ⟨_, rfl⟩
          have hc1 : wr.cell? ⟨b, off + k * 2, none⟩ = some (.int .u64 x.toNat) := by rw [← hx]; exact hcell _ _ (forkV_get1 p k hlt)
          have hc2 : wr.cell? ⟨b, off + k * 2 + 1, none⟩ = some (.bool y) := by rw [Nat.add_assoc, ← hy]; exact hcell _ _ (forkV_get2 p k hlt)
          have hc3 : wr.cell? ⟨b1, off1 + k, none⟩ = some (.bool y1) := by rw [← hy1]; exact hcell1 k _ (by simp [boolV, hltL])
          obtain ⟨t, ht, hts, htz⟩ := climbS_last s hs (p.take k)
          rw [List.length_take, Nat.min_eq_left hk] at ht
          have hc4 : wr.cell? ⟨g, k, none⟩ = some (.string t) := (Hown.out.cellAt k (by omega)).trans (by simp [strV, ht])
          obtain ⟨d, hd⟩ : ∃ d, Mk.climbD (Mk.leafD s.data.toList) (p.take k) = d := ⟨_, rfl⟩
          rw [hd] at hts
          have HX := Lib.hid (And.intro hx (And.intro hy (And.intro hy1 hd)))
          have Hts := Lib.hid hts
          have hlt' : (k : Int) < (p.length : Int) := by omega
          have hlt1 : (k : Int) < (L.length : Int) := by omega
          have hlt2 : (k : Int) < ((k + 1 : Nat) : Int) := by omega
          have hk0 : (0 : Int) ≤ (k : Int) := Int.natCast_nonneg _
          clear hcell hcell1 hx hy hy1 hd ht hts
          by_cases hyy : y = y1
          · have hall2 : ∀ j, j < k + 1 → L[j]? = (p.map (·.2))[j]? := by
              intro j hj
              rcases Nat.lt_succ_iff_lt_or_eq.1 hj with h | h
              · exact Hall.out j h
              · obtain ⟨_, e2, e3, _⟩ := HX.out
                rw [h, List.getElem?_eq_getElem hltL, e3, List.getElem?_map, List.getElem?_eq_getElem hlt, Option.map_some, e2, hyy]
            have Hall2 := Lib.hid hall2
            clear hall2
            subst hyy
            have ht1 : p.take (k + 1) = p.take k ++ [(x, y)] := by
              obtain ⟨e1, e2, _, _⟩ := HX.out
              rw [List.take_succ_eq_append_getElem hlt, ← e1, ← e2]
            have hcs : climbS s (p.take (k + 1)) = climbS s (p.take k) ++ [bytesOf (Mk.upT d (x, y))] := by
              rw [ht1, climbS_snoc, HX.out.2.2.2]
            have Hcs := Lib.hid hcs
            clear ht1 hcs
            go_wp2
            go_quiet (fail)
            go_wp2_with fail
            refine (rsum_any _ _ htz).mono ?_
            rintro e w3 ⟨rfl, rfl⟩
            rw [Hts.out]
            cases y
            · go_wp2_with fail
              refine (rnodeText_any _ _ _).mono ?_
              rintro e w3 ⟨rfl, hB3⟩
              have hB3' := bgo (below_drewN hB nq) hB3
              have Hown3 := Lib.hid (own_below (w := wr.drewN nq) Hown.out hB3)
              clear hB3
              go_wp2_with (at_builtin; refine app_one rfl _ _ 28 rfl 9 i0 (.string ⟨#[]⟩) 1 16 Tryd.underlying28 hj0 hz0 hz1 hz2 rfl (by decide) _ (k + 1) _ rfl Hown3.out hB3' [.string ⟨(Mk.nodeT d x).toArray⟩] _ _ rfl rfl (by simp [Value.oneCell']) (by unfold maxLen; omega) (by omega) ?_)
              intro v' w4 hown4 hB4 hoth
              clear hoth
              have HR := Lib.hid hown4
              clear hown4
              go_wp2
              go_roundw
              case rel => exact ⟨k + 1, by omega, by go_num, by rw [Hcs.out]; have := HR.out; simpa [strV, bytesOf, Mk.upT] using this, Hall2.out, hB4⟩
              case measure => simp [intOf]; omega
            · go_wp2_with fail
              refine (rnodeText_any _ _ _).mono ?_
              rintro e w3 ⟨rfl, hB3⟩
              have hB3' := bgo (below_drewN hB nq) hB3
              have Hown3 := Lib.hid (own_below (w := wr.drewN nq) Hown.out hB3)
              clear hB3
              go_wp2_with (at_builtin; refine app_one rfl _ _ 28 rfl 9 i0 (.string ⟨#[]⟩) 1 16 Tryd.underlying28 hj0 hz0 hz1 hz2 rfl (by decide) _ (k + 1) _ rfl Hown3.out hB3' [.string ⟨(Mk.nodeT x d).toArray⟩] _ _ rfl rfl (by simp [Value.oneCell']) (by unfold maxLen; omega) (by omega) ?_)
              intro v' w4 hown4 hB4 hoth
              clear hoth
              have HR := Lib.hid hown4
              clear hown4
              go_wp2
              go_roundw
              case rel => exact ⟨k + 1, by omega, by go_num, by rw [Hcs.out]; have := HR.out; simpa [strV, bytesOf, Mk.upT] using this, Hall2.out, hB4⟩
              case measure => simp [intOf]; omega
          · have hbad : ¬ (sidesOk n i ∧ sidesL n i = p.map (·.2)) := by
              rintro ⟨_, e⟩
              rw [HL.out] at e
              obtain ⟨_, e2, e3, _⟩ := HX.out
              apply hyy
              have h5 : L[k]? = (p.map (·.2))[k]? := by rw [e]
              rw [List.getElem?_eq_getElem hltL, List.getElem?_map, List.getElem?_eq_getElem hlt, Option.map_some, Option.some.injEq, e3, e2] at h5
              exact h5.symm
            have Hbad := Lib.hid hbad
            obtain rfl : y1 = !y := by cases y <;> cases y1 <;> simp_all
            clear hbad hyy HX
            cases y
            · go_wp2
              go_quiet (fail)
              go_wp2
              go_ret2
              exact texts_no Hbad.out (below_drewN hBw nq)
            · go_wp2
              go_quiet (fail)
              go_wp2
              go_ret2
              exact texts_no Hbad.out (below_drewN hBw nq)
        · obtain rfl : k = p.length := by omega
          have hgood : properB n i p = true := by
            refine decide_eq_true ⟨Hok.out, ?_⟩
            rw [HL.out]
            apply List.ext_getElem?
            intro j
            by_cases hj : j < p.length
            · exact Hall.out j hj
            · rw [List.getElem?_eq_none (by rw [Hlen.out]; omega), List.getElem?_eq_none (by simp; omega)]
          have Hgood := Lib.hid hgood
          rw [List.take_length] at Hown
          clear hgood
          go_wp2
          go_ret2
          exact ⟨.slice (some ⟨g, 0, none⟩) (p.length + 1) cap, by simp only [Hgood.out]; rfl, fun _ => base_mono Hown.out hB1.size, hBw⟩
    · have hne : ((L.length : Int) != (p.length : Int)) = true := by simp; omega
      have hbad : ¬ (sidesOk n i ∧ sidesL n i = p.map (·.2)) := by
        rintro ⟨_, e⟩
        rw [HL.out] at e
        exact hlen (by rw [e, List.length_map])
      have Hbad := Lib.hid hbad
      clear hbad hlen
      go_wp2
      go_ret2
      exact texts_no Hbad.out hB1
  · have hbad : ¬ (sidesOk n i ∧ sidesL n i = p.map (·.2)) := fun h => hok h.1
    have Hbad := Lib.hid hbad
    clear hbad
    by_cases h1 : n < 1
    · clear hok
      go_enter Tryd.func71, Tryd.ntmps71
      go_wp2
      go_ret2
      exact texts_no Hbad.out (Below.refl _ _)
    · by_cases h2 : 1024 < n
      · clear hok
        go_enter Tryd.func71, Tryd.ntmps71
        go_wp2
        go_ret2
        exact texts_no Hbad.out (Below.refl _ _)
      · by_cases h3 : i < 0
        · clear hok
          go_enter Tryd.func71, Tryd.ntmps71
          go_wp2
          go_ret2
          exact texts_no Hbad.out (Below.refl _ _)
        · have h4 : n ≤ i := by unfold sidesOk at hok; omega
          clear hok
          go_enter Tryd.func71, Tryd.ntmps71
          go_wp2
          go_ret2
          exact texts_no Hbad.out (Below.refl _ _)
theorem rtexts_at (A : Option Addr) (c m : Nat) (n i : Int) (s : ByteArray) (p : Forks) (b : Bool) (w : World) (hm : p.length = m) (hb : properB n i p = b) (hA : Sl w w.heap.size 2 A m (forkV p)) (hp : p.length ≤ 30) (hs : s.size ≤ 140737488355328) :
    Calls Tryd.prog 71 #[.int .i64 n, .int .i64 i, .string s, .slice A m c] w fun e w' => ∃ v, e = .returned (.tuple #[v, .bool b]) ∧ (b = true → w'.ownsRow w.heap.size 9 1 v (m + 1) (strV (climbS s p))) ∧ Below w.heap.size w w' := by
  subst hm hb
  exact rtexts_any A c n i s p w hA hp hs
set_option maxRecDepth 100000 in
theorem rverify_any (A : Option Addr) (c m : Nat) (root : UInt64) (n i : Int) (s : ByteArray) (p : Forks) (r : Bool) (w : World) (hm : p.length = m) (hr : verifyB root n i s p = r) (hA : Sl w w.heap.size 2 A m (forkV p)) (hp : p.length ≤ 30) (hs : s.size ≤ 140737488355328) :
    Calls Tryd.prog 51 #[.int .u64 root.toNat, .int .i64 n, .int .i64 i, .string s, .slice A m c] w fun e w' => e = .returned (.bool r) ∧ Below w.heap.size w w' := by
  subst hm
  have HA := Lib.hid hA
  clear hA
  obtain ⟨pb, hpb⟩ : ∃ b, properB n i p = b := ⟨_, rfl⟩
  unfold verifyB at hr
  rw [hpb] at hr
  have Hpb := Lib.hid hpb
  clear hpb
  cases pb with
  | false =>
    rw [Bool.false_and] at hr
    subst hr
    go_enter Tryd.func51, Tryd.ntmps51
    go_wp2_with fail
    refine (rtexts_at A c p.length n i s p false _ rfl Hpb.out HA.out hp hs).mono ?_
    rintro e w1 ⟨v, rfl, hown, hB⟩
    clear hown
    go_wp2
    go_ret
    exact ⟨rfl, hB⟩
  | true =>
    rw [Bool.true_and] at hr
    obtain ⟨t, ht, hts, htz⟩ := climbS_last s hs p
    rw [← hts, ← u64_beq] at hr
    have Hr := Lib.hid hr
    have Ht := Lib.hid ht
    clear hr ht hts
    go_enter Tryd.func51, Tryd.ntmps51
    go_wp2_with fail
    refine (rtexts_at A c p.length n i s p true _ rfl Hpb.out HA.out hp hs).mono ?_
    rintro e w1 ⟨v, rfl, hown, hB⟩
    replace hown := hown rfl
    obtain ⟨g, cap, hv⟩ := ownsRow_succ hown
    subst hv
    have hc : w1.cell? ⟨g, p.length, none⟩ = some (.string t) := (hown.cellAt p.length (by omega)).trans (by simp [strV, Ht.out])
    clear hown
    go_wp2_with fail
    refine (rsum_any _ _ htz).mono ?_
    rintro e w3 ⟨rfl, rfl⟩
    go_wp2
    go_ret
    rw [Hr.out]
    exact ⟨rfl, hB⟩
end Go.Proofs.YthgkjcofmkkdcaaDoor
