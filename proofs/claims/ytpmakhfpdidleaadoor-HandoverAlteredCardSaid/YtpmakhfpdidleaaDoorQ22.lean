/- The walks of the reference of merkle, third part: Path, Sides. The walks of the reference of merkle, fourth part: Texts, Verify, Collision. The walks of the reference of onetime: fits, leaves, Key, Leaf, Verify. -/
import Derived.Test.YtpmakhfpdidleaaDoorQ21
import Derived.Deep.RegionHeld
namespace Go.Proofs.YtpmakhfpdidleaaDoor
open Go.RowKit Go.Shelf
set_option linter.unusedVariables false
/-- The row's block is not the one of the list that grows. -/
def Apart (A : Option Addr) (v : Value) : Prop := ∀ b off, A = some ⟨b, off, none⟩ → v.ownBlock ≠ some b
theorem Sl.heap {W W' : World} {size n b off : Nat} {xs : List Value} (h : Sl W W.heap.size size (some ⟨b, off, none⟩) n xs) (hb : W'.heap[b]? = W.heap[b]?) (hs : W.heap.size ≤ W'.heap.size) : Sl W' W'.heap.size size (some ⟨b, off, none⟩) n xs := by
  refine ⟨h.1, fun hn => ?_⟩
  obtain ⟨b', off', e, hB, hc⟩ := h.2 hn
  injection e with e
  injection e with e1 e2 e3
  subst e1 e2
  exact ⟨b, off, rfl, by omega, fun j u hu => (World.cell?_of_block hb).trans (hc j u hu)⟩
theorem own_block_lt {W : World} {base : Nat} {e : TypeId} {size n : Nat} {v : Value} {xs : List Value} (h : W.ownsRow base e size v n xs) (b : Nat) (hb : v.ownBlock = some b) : base ≤ b ∧ b < W.heap.size := h.lt b hb
theorem pathTo_step (l : List UInt64) (i k : Nat) : Mk.pathTo l i (k + 1) = Mk.pathTo l i k ++ Mk.stepOf (Mk.rowN l k) (i / 2 ^ k) := rfl
theorem wrong_at' (A : Option Addr) (n c : Nat) (w : World) (e : Int) (hn : n ≤ maxLen) (he : checkE n = e) : Calls Tryd.prog 48 #[.slice A n c] w fun r w' => r = .returned (.int .i64 e) ∧ w = w' := wrong_any A n c w e hn he
set_option maxRecDepth 100000 in
set_option maxHeartbeats 1000000 in
theorem rsides_any (n i : Int) (w : World) (hok : sidesOk n i) :
    Calls Tryd.prog 56 #[.int .i64 n, .int .i64 i] w fun e w' => ∃ v, e = .returned v ∧ w'.ownsRow w.heap.size 4 1 v (sidesL n i).length (boolV (sidesL n i)) ∧ Below w.heap.size w w' := by
  obtain ⟨i0, hj0, hz0, hz1, hz2⟩ := info_parts info_bool
  have hL : sidesL n i = Mk.sidesF 10 n.toNat i.toNat := by unfold sidesL; rw [if_pos hok]
  rw [hL]
  obtain ⟨⟨h1, h2⟩, h3, h4⟩ := hok
  clear hL
  have h1' : ¬ (n < 1) := by omega
  have h2' : ¬ ((1024 : Int) < n) := by omega
  have h3' : ¬ (i < 0) := by omega
  have h4' : ¬ (n ≤ i) := by omega
  go_enter Tryd.func56, Tryd.ntmps56
  go_wp2
  go_loopw [0, 1, 5] (fun vn vi v wr => ∃ (f a b : Nat) (l : List Bool), vn = .int .i64 (a : Int) ∧ vi = .int .i64 (b : Int) ∧ 1 ≤ a ∧ a ≤ 1024 ∧ a ≤ 2 ^ f ∧ b < a ∧ l.length + f ≤ 10 ∧ l ++ Mk.sidesF f a b = Mk.sidesF 10 n.toNat i.toNat ∧ wr.ownsRow w.heap.size 4 1 v l.length (boolV l) ∧ Below w.heap.size w wr) (fun vn _ _ _ => (intOf vn).toNat)
  case atStart => exact ⟨10, n.toNat, i.toNat, [], by rw [Int.toNat_of_nonneg (by omega)], by rw [Int.toNat_of_nonneg h3], by omega, by omega, by omega, by omega, by decide, rfl, ⟨rfl, .inl ⟨rfl, rfl⟩⟩, Below.refl _ _⟩
  case round =>
    obtain ⟨f, a, b, l, rfl, rfl, ha1, ha2, haf, hba, hlf, hS, hown, hB⟩ := hrel
    have HS := Lib.hid hS
    have Hown := Lib.hid hown
    have Haf := Lib.hid haf
    clear hS hown haf h1 h2 h3 h4 h1' h2' h3' h4'
    by_cases hgt : 1 < a
    · obtain ⟨f', rfl⟩ : ∃ f', f = f' + 1 := by
        cases f with
        | zero => have := Haf.out; simp at this; omega
        | succ f' => exact ⟨f', rfl⟩
      have hS2 : l ++ (Mk.sideOf a b ++ Mk.sidesF f' ((a + 1) / 2) (b / 2)) = Mk.sidesF 10 n.toNat i.toNat := by rw [← HS.out]; conv => rhs; rw [Mk.sidesF, if_neg (by omega)]
      have hp : (a + 1) / 2 ≤ 2 ^ f' := by have := Haf.out; rw [Nat.pow_succ] at this; omega
      have hda : ((a : Int) + 1) / 2 = (((a + 1) / 2 : Nat) : Int) := by omega
      have hdb : (b : Int) / 2 = ((b / 2 : Nat) : Int) := by omega
      have Hp := Lib.hid hp
      have HS2 := Lib.hid hS2
      have Hda := Lib.hid hda
      have Hdb := Lib.hid hdb
      clear hp hS2 HS Haf hda hdb
      have hb0 : (0 : Int) ≤ (b : Int) := Int.natCast_nonneg _
      have hgd : decide ((1 : Int) < (a : Int)) = true := by simp; omega
      have both : (b % 2 = 1 ∨ b + 1 < a) ∨ ¬ (b % 2 = 1 ∨ b + 1 < a) := Classical.em _
      rcases both with hside | hside
      · have hsd : Mk.sideOf a b = [decide (b % 2 = 1)] := by unfold Mk.sideOf; rw [if_pos hside]
        have hbit : (((b : Int) % 2) == 1) = decide (b % 2 = 1) := by
          by_cases h : b % 2 = 1
          · rw [decide_eq_true h]; simp; omega
          · rw [decide_eq_false h]; simp; omega
        have hor : (decide (b % 2 = 1) = true) ∨ (decide (b % 2 = 1) = false ∧ decide ((b : Int) + 1 < (a : Int)) = true) := by
          by_cases h : b % 2 = 1
          · exact .inl (decide_eq_true h)
          · exact .inr ⟨decide_eq_false h, by simp; omega⟩
        have Hbit := Lib.hid hbit
        have Hsd := Lib.hid hsd
        obtain ⟨bt, hbt⟩ : ∃ bt, bt = decide (b % 2 = 1) := ⟨_, rfl⟩
        rw [← hbt] at hor hbit hsd
        have Hbt := Lib.hid hbt
        clear hside hbt Hbit Hsd
        have HSd := Lib.hid hsd
        clear hsd
        rcases hor with hq | ⟨hq, hq2⟩
        · subst hq
          go_wp2_with (at_builtin; refine wpList_append_own _ rfl _ _ 105 rfl w.heap.size 4 i0 (.bool false) 1 1 Tryd.underlying105 hj0 hz0 hz1 hz2 rfl (by decide) _ _ _ rfl (Hown.out.alloc _) ⟨wr.heap.size, 0, none⟩ 1 1 [.bool true] rfl rfl ?c1 ?c2 ?c3 ?c4 ?c5 ?_)
          case c1 => exact cell_one_new _ _ _
          case c2 => simp [Value.oneCell']
          case c3 => simp [maxLen]; omega
          case c4 => omega
          case c5 => have := hB.size; simp; omega
          intro v' w1 hown1 hg1 _
          have hB1 : Below w.heap.size w w1 := (hB.alloc hB.size _).grown hg1 (by have := hB.size; simp; omega) (fun k hk => (Hown.out.lt k hk).1)
          have HR := Lib.hid hown1
          clear hown1 hg1
          go_wp2
          go_roundw
          case rel => exact ⟨f', (a + 1) / 2, b / 2, l ++ [true], by rw [← Hda.out], by rw [← Hdb.out], by omega, by omega, Hp.out, by omega, by simp; omega, by rw [← HS2.out, HSd.out, List.append_assoc], by rw [List.length_append]; have := HR.out; simpa [boolV] using this, hB1⟩
          case measure => simp [intOf]; omega
        · subst hq
          go_wp2_with (at_builtin; refine wpList_append_own _ rfl _ _ 105 rfl w.heap.size 4 i0 (.bool false) 1 1 Tryd.underlying105 hj0 hz0 hz1 hz2 rfl (by decide) _ _ _ rfl (Hown.out.alloc _) ⟨wr.heap.size, 0, none⟩ 1 1 [.bool false] rfl rfl ?c1 ?c2 ?c3 ?c4 ?c5 ?_)
          case c1 => exact cell_one_new _ _ _
          case c2 => simp [Value.oneCell']
          case c3 => simp [maxLen]; omega
          case c4 => omega
          case c5 => have := hB.size; simp; omega
          intro v' w1 hown1 hg1 _
          have hB1 : Below w.heap.size w w1 := (hB.alloc hB.size _).grown hg1 (by have := hB.size; simp; omega) (fun k hk => (Hown.out.lt k hk).1)
          have HR := Lib.hid hown1
          clear hown1 hg1
          go_wp2
          go_roundw
          case rel => exact ⟨f', (a + 1) / 2, b / 2, l ++ [false], by rw [← Hda.out], by rw [← Hdb.out], by omega, by omega, Hp.out, by omega, by simp; omega, by rw [← HS2.out, HSd.out, List.append_assoc], by rw [List.length_append]; have := HR.out; simpa [boolV] using this, hB1⟩
          case measure => simp [intOf]; omega
      · have hsd : Mk.sideOf a b = [] := by unfold Mk.sideOf; rw [if_neg hside]
        have hbit : (((b : Int) % 2) == 1) = false := by simp; omega
        have hq2 : decide ((b : Int) + 1 < (a : Int)) = false := by simp; omega
        have HSd := Lib.hid hsd
        clear hside hsd
        go_wp2
        go_roundw
        case rel => exact ⟨f', (a + 1) / 2, b / 2, l, by rw [← Hda.out], by rw [← Hdb.out], by omega, by omega, Hp.out, by omega, by omega, by rw [← HS2.out, HSd.out, List.nil_append], Hown.out, hB⟩
        case measure => simp [intOf]; omega
    · have hlast : Mk.sidesF f a b = [] := by cases f with
        | zero => rfl
        | succ f' => rw [Mk.sidesF, if_pos (by omega)]
      have hS2 : l = Mk.sidesF 10 n.toNat i.toNat := by rw [← HS.out, hlast, List.append_nil]
      have HS2 := Lib.hid hS2
      have hgd : decide ((1 : Int) < (a : Int)) = false := by simp; omega
      clear hlast hS2 HS Haf
      go_wp2
      go_ret
      rw [← HS2.out]
      exact ⟨_, rfl, Hown.out, hB⟩
end Go.Proofs.YtpmakhfpdidleaaDoor
namespace Go.Proofs.YtpmakhfpdidleaaDoor
open Go.RowKit Go.Shelf
set_option linter.unusedVariables false
theorem climbS_last (s : ByteArray) (hs : s.size ≤ 140737488355328) (p : Forks) : ∃ t, (climbS s p)[p.length]? = some t ∧ Dig.sum t.data.toList = Mk.climbD (Mk.leafD s.data.toList) p ∧ t.size ≤ maxLen := by
  obtain ⟨t, ht⟩ : ∃ t, (climbS s p)[p.length]? = some t := ⟨_, List.getElem?_eq_getElem (by rw [climbS_len]; omega)⟩
  refine ⟨t, ht, ?_, climbS_size s hs p t (List.mem_of_getElem? ht)⟩
  rcases List.eq_nil_or_concat p with rfl | ⟨q, x, rfl⟩
  · simp [climbS, Mk.climbT] at ht
    rw [← ht]; rfl
  · rw [List.concat_eq_append] at ht ⊢
    rw [climbS_snoc, List.length_append, List.getElem?_append_right (by rw [climbS_len]; simp), climbS_len] at ht
    simp at ht
    rw [← ht, bytesOf_data, Mk.sum_upT]
    simp [Mk.climbD]
def TextsOut (w : World) (n i : Int) (s : ByteArray) (p : Forks) (e : Ending) (w' : World) : Prop :=
  ∃ v, e = .returned (.tuple #[v, .bool (properB n i p)]) ∧ (properB n i p = true → w'.ownsRow w.heap.size 9 1 v (p.length + 1) (strV (climbS s p))) ∧ Below w.heap.size w w'
theorem texts_no {w w' : World} {n i : Int} {s : ByteArray} {p : Forks} (h : ¬ (sidesOk n i ∧ sidesL n i = p.map (·.2))) (hB : Below w.heap.size w w') : TextsOut w n i s p (.returned (.tuple #[.slice none 0 0, .bool false])) w' := by
  have hf : properB n i p = false := decide_eq_false h
  exact ⟨_, by rw [hf], (fun e => by rw [hf] at e; cases e), hB⟩
theorem base_mono {W : World} {B B' : Nat} {e : TypeId} {size n : Nat} {v : Value} {xs : List Value} (h : W.ownsRow B e size v n xs) (hb : B' ≤ B) : W.ownsRow B' e size v n xs := by
  refine ⟨h.1, ?_⟩
  rcases h.2 with h0 | ⟨g, cap, cur, hv, h1, h2⟩
  · exact .inl h0
  · exact .inr ⟨g, cap, cur, hv, by omega, h2⟩
theorem sidesL_le (n i : Int) : (sidesL n i).length ≤ 10 := sidesL_len n i
set_option maxRecDepth 100000 in
set_option maxHeartbeats 2000000 in
theorem rtexts_any (A : Option Addr) (c : Nat) (n i : Int) (s : ByteArray) (p : Forks) (w : World) (hA : Sl w w.heap.size 2 A p.length (forkV p)) (hp : p.length ≤ 100) (hs : s.size ≤ 140737488355328) :
    Calls Tryd.prog 29 #[.int .i64 n, .int .i64 i, .string s, .slice A p.length c] w (TextsOut w n i s p) := by
  obtain ⟨i0, hj0, hz0, hz1, hz2⟩ := info_parts info_string
  have HA := Lib.hid hA
  clear hA
  by_cases hok : sidesOk n i
  · have Hok := Lib.hid hok
    obtain ⟨⟨h1, h2⟩, h3, h4⟩ := hok
    have h1' : ¬ (n < 1) := by omega
    have h2' : ¬ ((1024 : Int) < n) := by omega
    have h3' : ¬ (i < 0) := by omega
    have h4' : ¬ (n ≤ i) := by omega
    obtain ⟨L, hL⟩ : ∃ L, sidesL n i = L := ⟨_, rfl⟩
    have hl10 := sidesL_len n i
    rw [hL] at hl10
    have HL := Lib.hid hL
    clear hL
    go_enter Tryd.func29, Tryd.ntmps29
    go_wp2_with fail
    refine (rsides_any n i _ Hok.out).mono ?_
    rintro e w1 ⟨v, rfl, hown1, hB1⟩
    rw [HL.out] at hown1
    obtain ⟨A1, c1, rfl, hS1⟩ := own_slice hown1
    have HS1 := Lib.hid hS1
    clear hown1 hS1
    by_cases hlen : L.length = p.length
    · have hne : ((L.length : Int) != (p.length : Int)) = false := by rw [hlen]; simp
      have Hlen := Lib.hid hlen
      clear hlen
      go_wp2_with fail
      refine (rleafText_any _ _ hs).mono ?_
      rintro e w2 ⟨rfl, hB2⟩
      have hown2 : (w2.alloc (.cells #[.string ⟨(0 :: s.data.toList).toArray⟩] 9)).ownsRow w1.heap.size 9 1 (.slice (some ⟨w2.heap.size, 0, none⟩) 1 1) 1 (strV (climbS s [])) := ⟨rfl, .inr ⟨w2.heap.size, 1, #[.string ⟨(0 :: s.data.toList).toArray⟩], rfl, hB2.size, World.alloc_heap_new w2 _, Nat.le_refl _, by unfold maxLen; omega, rfl, rfl⟩⟩
      have hB2' := bal hB2 (.cells #[.string ⟨(0 :: s.data.toList).toArray⟩] 9)
      have HO := Lib.hid hown2
      clear hown2 hB2
      go_wp2
      go_loopw [11, 12] (fun v iv wr => ∃ k : Nat, k ≤ p.length ∧ iv = .int .i64 (k : Int) ∧ wr.ownsRow w1.heap.size 9 1 v (k + 1) (strV (climbS s (p.take k))) ∧ (∀ j, j < k → L[j]? = (p.map (·.2))[j]?) ∧ Below w1.heap.size w1 wr) (fun _ iv _ => p.length - (intOf iv).toNat)
      case atStart => exact ⟨0, Nat.zero_le _, rfl, HO.out, fun j hj => absurd hj (Nat.not_lt_zero j), hB2'⟩
      case round =>
        clear HO hB2'
        obtain ⟨k, hk, rfl, hown, hall, hB⟩ := hrel
        obtain ⟨g, cap, hv⟩ := ownsRow_succ hown
        subst hv
        have Hown := Lib.hid hown
        have Hall := Lib.hid hall
        clear hown hall
        have hBw := bgo hB1 hB
        by_cases hlt : k < p.length
        · have hltL : k < L.length := by rw [Hlen.out]; exact hlt
          obtain ⟨b, off, rfl, hb, hcell⟩ := (HA.out.go hBw).2 (by omega)
          obtain ⟨b1, off1, rfl, hb1, hcell1⟩ := (HS1.out.go hB).2 (by omega)
          obtain ⟨x, hx⟩ : ∃ x, p[k].1 = x := ⟨_, rfl⟩
          obtain ⟨y, hy⟩ : ∃ y, p[k].2 = y := ⟨_, rfl⟩
          obtain ⟨y1, hy1⟩ : ∃ y, L[k] = y := ⟨_, rfl⟩
          have hc1 : wr.cell? ⟨b, off + k * 2, none⟩ = some (.int .u64 x.toNat) := by rw [← hx]; exact hcell _ _ (forkV_get1 p k hlt)
          have hc2 : wr.cell? ⟨b, off + k * 2 + 1, none⟩ = some (.bool y) := by rw [Nat.add_assoc, ← hy]; exact hcell _ _ (forkV_get2 p k hlt)
          have hc3 : wr.cell? ⟨b1, off1 + k, none⟩ = some (.bool y1) := by rw [← hy1]; exact hcell1 k _ (by simp [boolV, hltL])
          obtain ⟨t, ht, hts, htz⟩ := climbS_last s hs (p.take k)
          rw [List.length_take, Nat.min_eq_left hk] at ht
          have hc4 : wr.cell? ⟨g, k, none⟩ = some (.string t) := (Hown.out.cellAt k (by omega)).trans (by simp [strV, ht])
          obtain ⟨d, hd⟩ : ∃ d, Mk.climbD (Mk.leafD s.data.toList) (p.take k) = d := ⟨_, rfl⟩
          rw [hd] at hts
          have HX := Lib.hid (And.intro hx (And.intro hy (And.intro hy1 hd)))
          have Hts := Lib.hid hts
          have hlt' : (k : Int) < (p.length : Int) := by omega
          have hlt1 : (k : Int) < (L.length : Int) := by omega
          have hlt2 : (k : Int) < ((k + 1 : Nat) : Int) := by omega
          have hk0 : (0 : Int) ≤ (k : Int) := Int.natCast_nonneg _
          clear hcell hcell1 hx hy hy1 hd ht hts
          by_cases hyy : y = y1
          · have hall2 : ∀ j, j < k + 1 → L[j]? = (p.map (·.2))[j]? := by
              intro j hj
              rcases Nat.lt_succ_iff_lt_or_eq.1 hj with h | h
              · exact Hall.out j h
              · obtain ⟨_, e2, e3, _⟩ := HX.out
                rw [h, List.getElem?_eq_getElem hltL, e3, List.getElem?_map, List.getElem?_eq_getElem hlt, Option.map_some, e2, hyy]
            have Hall2 := Lib.hid hall2
            clear hall2
            subst hyy
            have ht1 : p.take (k + 1) = p.take k ++ [(x, y)] := by
              obtain ⟨e1, e2, _, _⟩ := HX.out
              rw [List.take_succ_eq_append_getElem hlt, ← e1, ← e2]
            have hcs : climbS s (p.take (k + 1)) = climbS s (p.take k) ++ [bytesOf (Mk.upT d (x, y))] := by
              rw [ht1, climbS_snoc, HX.out.2.2.2]
            have Hcs := Lib.hid hcs
            clear ht1 hcs
            go_wp2
            go_quiet (fail)
            go_wp2_with fail
            refine (rsum_any _ _ htz).mono ?_
            rintro e w3 ⟨rfl, rfl⟩
            rw [Hts.out]
            cases y
            · go_wp2_with fail
              refine (rnodeText_any _ _ _).mono ?_
              rintro e w3 ⟨rfl, hB3⟩
              have hB3' := bgo (below_drewN hB nq) hB3
              have Hown3 := Lib.hid (own_below (w := wr.drewN nq) Hown.out hB3)
              clear hB3
              go_wp2_with (at_builtin; refine app_one rfl _ _ 53 rfl 9 i0 (.string ⟨#[]⟩) 1 16 Tryd.underlying53 hj0 hz0 hz1 hz2 rfl (by decide) _ (k + 1) _ rfl Hown3.out hB3' [.string ⟨(Mk.nodeT d x).toArray⟩] _ _ rfl rfl (by simp [Value.oneCell']) (by unfold maxLen; omega) (by omega) ?_)
              intro v' w4 hown4 hB4 hoth
              clear hoth
              have HR := Lib.hid hown4
              clear hown4
              go_wp2
              go_roundw
              case rel => exact ⟨k + 1, by omega, by go_num, by rw [Hcs.out]; have := HR.out; simpa [strV, bytesOf, Mk.upT] using this, Hall2.out, hB4⟩
              case measure => simp [intOf]; omega
            · go_wp2_with fail
              refine (rnodeText_any _ _ _).mono ?_
              rintro e w3 ⟨rfl, hB3⟩
              have hB3' := bgo (below_drewN hB nq) hB3
              have Hown3 := Lib.hid (own_below (w := wr.drewN nq) Hown.out hB3)
              clear hB3
              go_wp2_with (at_builtin; refine app_one rfl _ _ 53 rfl 9 i0 (.string ⟨#[]⟩) 1 16 Tryd.underlying53 hj0 hz0 hz1 hz2 rfl (by decide) _ (k + 1) _ rfl Hown3.out hB3' [.string ⟨(Mk.nodeT x d).toArray⟩] _ _ rfl rfl (by simp [Value.oneCell']) (by unfold maxLen; omega) (by omega) ?_)
              intro v' w4 hown4 hB4 hoth
              clear hoth
              have HR := Lib.hid hown4
              clear hown4
              go_wp2
              go_roundw
              case rel => exact ⟨k + 1, by omega, by go_num, by rw [Hcs.out]; have := HR.out; simpa [strV, bytesOf, Mk.upT] using this, Hall2.out, hB4⟩
              case measure => simp [intOf]; omega
          · have hbad : ¬ (sidesOk n i ∧ sidesL n i = p.map (·.2)) := by
              rintro ⟨_, e⟩
              rw [HL.out] at e
              obtain ⟨_, e2, e3, _⟩ := HX.out
              apply hyy
              have h5 : L[k]? = (p.map (·.2))[k]? := by rw [e]
              rw [List.getElem?_eq_getElem hltL, List.getElem?_map, List.getElem?_eq_getElem hlt, Option.map_some, Option.some.injEq, e3, e2] at h5
              exact h5.symm
            have Hbad := Lib.hid hbad
            obtain rfl : y1 = !y := by cases y <;> cases y1 <;> simp_all
            clear hbad hyy HX
            cases y
            · go_wp2
              go_quiet (fail)
              go_wp2
              go_ret2
              exact texts_no Hbad.out (below_drewN hBw nq)
            · go_wp2
              go_quiet (fail)
              go_wp2
              go_ret2
              exact texts_no Hbad.out (below_drewN hBw nq)
        · obtain rfl : k = p.length := by omega
          have hgood : properB n i p = true := by
            refine decide_eq_true ⟨Hok.out, ?_⟩
            rw [HL.out]
            apply List.ext_getElem?
            intro j
            by_cases hj : j < p.length
            · exact Hall.out j hj
            · rw [List.getElem?_eq_none (by rw [Hlen.out]; omega), List.getElem?_eq_none (by simp; omega)]
          have Hgood := Lib.hid hgood
          rw [List.take_length] at Hown
          clear hgood
          go_wp2
          go_ret2
          exact ⟨.slice (some ⟨g, 0, none⟩) (p.length + 1) cap, by simp only [Hgood.out]; rfl, fun _ => base_mono Hown.out hB1.size, hBw⟩
    · have hne : ((L.length : Int) != (p.length : Int)) = true := by simp; omega
      have hbad : ¬ (sidesOk n i ∧ sidesL n i = p.map (·.2)) := by
        rintro ⟨_, e⟩
        rw [HL.out] at e
        exact hlen (by rw [e, List.length_map])
      have Hbad := Lib.hid hbad
      clear hbad hlen
      go_wp2
      go_ret2
      exact texts_no Hbad.out hB1
  · have hbad : ¬ (sidesOk n i ∧ sidesL n i = p.map (·.2)) := fun h => hok h.1
    have Hbad := Lib.hid hbad
    clear hbad
    by_cases h1 : n < 1
    · clear hok
      go_enter Tryd.func29, Tryd.ntmps29
      go_wp2
      go_ret2
      exact texts_no Hbad.out (Below.refl _ _)
    · by_cases h2 : 1024 < n
      · clear hok
        go_enter Tryd.func29, Tryd.ntmps29
        go_wp2
        go_ret2
        exact texts_no Hbad.out (Below.refl _ _)
      · by_cases h3 : i < 0
        · clear hok
          go_enter Tryd.func29, Tryd.ntmps29
          go_wp2
          go_ret2
          exact texts_no Hbad.out (Below.refl _ _)
        · have h4 : n ≤ i := by unfold sidesOk at hok; omega
          clear hok
          go_enter Tryd.func29, Tryd.ntmps29
          go_wp2
          go_ret2
          exact texts_no Hbad.out (Below.refl _ _)
theorem rtexts_at (A : Option Addr) (c m : Nat) (n i : Int) (s : ByteArray) (p : Forks) (b : Bool) (w : World) (hm : p.length = m) (hb : properB n i p = b) (hA : Sl w w.heap.size 2 A m (forkV p)) (hp : p.length ≤ 100) (hs : s.size ≤ 140737488355328) :
    Calls Tryd.prog 29 #[.int .i64 n, .int .i64 i, .string s, .slice A m c] w fun e w' => ∃ v, e = .returned (.tuple #[v, .bool b]) ∧ (b = true → w'.ownsRow w.heap.size 9 1 v (m + 1) (strV (climbS s p))) ∧ Below w.heap.size w w' := by
  subst hm hb
  exact rtexts_any A c n i s p w hA hp hs
set_option maxRecDepth 100000 in
theorem rverify_any (A : Option Addr) (c m : Nat) (root : UInt64) (n i : Int) (s : ByteArray) (p : Forks) (r : Bool) (w : World) (hm : p.length = m) (hr : verifyB root n i s p = r) (hA : Sl w w.heap.size 2 A m (forkV p)) (hp : p.length ≤ 100) (hs : s.size ≤ 140737488355328) :
    Calls Tryd.prog 16 #[.int .u64 root.toNat, .int .i64 n, .int .i64 i, .string s, .slice A m c] w fun e w' => e = .returned (.bool r) ∧ Below w.heap.size w w' := by
  subst hm
  have HA := Lib.hid hA
  clear hA
  obtain ⟨pb, hpb⟩ : ∃ b, properB n i p = b := ⟨_, rfl⟩
  unfold verifyB at hr
  rw [hpb] at hr
  have Hpb := Lib.hid hpb
  clear hpb
  cases pb with
  | false =>
    rw [Bool.false_and] at hr
    subst hr
    go_enter Tryd.func16, Tryd.ntmps16
    go_wp2_with fail
    refine (rtexts_at A c p.length n i s p false _ rfl Hpb.out HA.out hp hs).mono ?_
    rintro e w1 ⟨v, rfl, hown, hB⟩
    clear hown
    go_wp2
    go_ret
    exact ⟨rfl, hB⟩
  | true =>
    rw [Bool.true_and] at hr
    obtain ⟨t, ht, hts, htz⟩ := climbS_last s hs p
    rw [← hts, ← u64_beq] at hr
    have Hr := Lib.hid hr
    have Ht := Lib.hid ht
    clear hr ht hts
    go_enter Tryd.func16, Tryd.ntmps16
    go_wp2_with fail
    refine (rtexts_at A c p.length n i s p true _ rfl Hpb.out HA.out hp hs).mono ?_
    rintro e w1 ⟨v, rfl, hown, hB⟩
    replace hown := hown rfl
    obtain ⟨g, cap, hv⟩ := ownsRow_succ hown
    subst hv
    have hc : w1.cell? ⟨g, p.length, none⟩ = some (.string t) := (hown.cellAt p.length (by omega)).trans (by simp [strV, Ht.out])
    clear hown
    go_wp2_with fail
    refine (rsum_any _ _ htz).mono ?_
    rintro e w3 ⟨rfl, rfl⟩
    go_wp2
    go_ret
    rw [Hr.out]
    exact ⟨rfl, hB⟩
end Go.Proofs.YtpmakhfpdidleaaDoor
namespace Go.Proofs.YtpmakhfpdidleaaDoor
open Go.RowKit Go.Shelf
set_option linter.unusedVariables false
set_option linter.unusedSimpArgs false
set_option maxRecDepth 100000
theorem rfits_any (seed : ByteArray) (h : Int) (w : World) (hs : seed.size ≤ maxLen) : Calls Tryd.prog 25 #[.string seed, .int .i64 h] w fun e w' => e = .returned (.bool (okB seed h)) ∧ w = w' := by
  unfold maxLen at hs
  by_cases h1 : seed.size ≤ 64
  · have h1' : (seed.size : Int) ≤ 64 := by omega
    by_cases h2 : 0 ≤ h
    · by_cases h3 : h ≤ 8
      · have e : okB seed h = true := decide_eq_true ⟨h1, h2, h3⟩
        rw [e]
        clear e
        go_enter Tryd.func25, Tryd.ntmps25
        go_wp2
        go_ret
        exact ⟨rfl, rfl⟩
      · have e : okB seed h = false := decide_eq_false (fun k => h3 k.2.2)
        rw [e]
        clear e
        go_enter Tryd.func25, Tryd.ntmps25
        go_wp2
        go_ret
        exact ⟨rfl, rfl⟩
    · have e : okB seed h = false := decide_eq_false (fun k => h2 k.2.1)
      rw [e]
      clear e
      go_enter Tryd.func25, Tryd.ntmps25
      go_wp2
      go_ret
      exact ⟨rfl, rfl⟩
  · have e : okB seed h = false := decide_eq_false (fun k => h1 k.1)
    rw [e]
    clear e
    have h1' : ¬ ((seed.size : Int) ≤ 64) := by omega
    go_enter Tryd.func25, Tryd.ntmps25
    go_wp2
    go_ret
    exact ⟨rfl, rfl⟩
def leafOB (seed : ByteArray) (i : Int) (k : Nat) : ByteArray := bytesOf (On.leafTo seed.data.toList i k)
theorem leafOB_size (seed : ByteArray) (i : Int) (k : Nat) : (leafOB seed i k).size = 16 * k := by rw [leafOB, bytesOf_size, On.leafTo_len]
theorem leafOB_snoc (seed : ByteArray) (i : Int) (k : Nat) (y : UInt64) (h : On.steps 15 (On.secret seed.data.toList i (k : Nat)) = y) : leafOB seed i k ++ textB y = leafOB seed i (k + 1) := by
  apply WideShapes.bytes_inj
  rw [app_data]
  show On.leafTo seed.data.toList i k ++ Dig.text y = On.leafTo seed.data.toList i k ++ Dig.text _
  rw [h]
set_option maxHeartbeats 4000000 in
theorem roleaves_any (seed : ByteArray) (h n : Nat) (hh : h ≤ 8) (hn : 2 ^ h = n) (hs : seed.size ≤ 100) (w : World) (hT : OTabs w) :
    Calls Tryd.prog 27 #[.string seed, .int .i64 (h : Int)] w fun e w' => ∃ v, e = .returned v ∧ w'.ownsRow w.heap.size 9 1 v n (strV (leavesB seed n)) ∧ Below w.heap.size w w' := by
  obtain ⟨i0, hi0, hz0, hz1, hz2⟩ := info_parts info_string
  have hn256 : n ≤ 256 := by
    rw [← hn]
    exact Nat.pow_le_pow_right (by omega) hh
  have eN : (2 : Int) ^ h = (n : Int) := by rw [← hn, Int.natCast_pow]; rfl
  have hw : wrap64 (2 ^ h) = (n : Int) := by rw [eN, IntWalk.wrap64_in _ (by omega)]
  have hw' : IntKind.i64.wrap (2 ^ h) = (n : Int) := by rw [eN, IntWalk.i64_in _ (by omega)]
  have Hn := Lib.hid hn
  clear hn eN
  go_enter Tryd.func27, Tryd.ntmps27
  go_wp2
  go_loopw [5, 6] (fun v i wr => ∃ k : Nat, k ≤ n ∧ i = .int .i64 k ∧ wr.ownsRow w.heap.size 9 1 v k (strV (leavesB seed k)) ∧ Below w.heap.size w wr) (fun _ i _ => n - (intOf i).toNat)
  case atStart => exact ⟨0, Nat.zero_le _, rfl, ⟨rfl, .inl ⟨rfl, rfl⟩⟩, Below.refl _ _⟩
  case round =>
    obtain ⟨W0, hW0⟩ : ∃ W0, W0 = wr := ⟨_, rfl⟩
    subst hW0
    obtain ⟨k, hk, rfl, hown, hB⟩ := hrel
    have Hown := Lib.hid hown
    have hT1 := hT.go hB
    clear hown
    by_cases hlt : k < n
    · have hlt' : (k : Int) < (n : Int) := by omega
      have hd1 : decide ((k : Int) < (n : Int)) = true := decide_eq_true hlt'
      go_wp2
      go_loopw [7, 8] (fun s i wx => ∃ j : Nat, j ≤ 18 ∧ i = .int .i64 j ∧ s = .string (leafOB seed (k : Int) j) ∧ Below W0.heap.size W0 wx) (fun _ i _ => 18 - (intOf i).toNat)
      case atStart => exact ⟨0, by omega, rfl, rfl, Below.refl _ _⟩
      case round =>
        obtain ⟨j, hj, rfl, rfl, hBx⟩ := hrel
        have hT2 := hT1.go hBx
        obtain ⟨s, hs'⟩ : ∃ s, leafOB seed (k : Int) j = s := ⟨_, rfl⟩
        have hss : s.size = 16 * j := by rw [← hs', leafOB_size]
        rw [hs']
        have Hs := Lib.hid hs'
        clear hs'
        by_cases hj18 : j < 18
        · have hj' : (j : Int) < 18 := by omega
          obtain ⟨x, hx⟩ : ∃ x, On.secret seed.data.toList (k : Int) (j : Int) = x := ⟨_, rfl⟩
          obtain ⟨y, hy⟩ : ∃ y, On.steps 15 x = y := ⟨_, rfl⟩
          have hap := leafOB_snoc seed (k : Int) j y (by rw [hx]; exact hy)
          have hzz : ¬ (9223372036854775807 < s.size + (textB y).size) := by rw [textB_size, hss]; omega
          have hz1' : (textB y).size = 16 := rfl
          have Hx := Lib.hid hx
          have Hy := Lib.hid hy
          have Hap := Lib.hid hap
          clear hx hy hap hw hw'
          go_wp2_with fail
          refine (rsecret_any seed (k : Int) (j : Int) x Hx _ hT2.2 hs (by omega) (by omega)).mono ?_
          rintro e w1 ⟨rfl, hB1⟩
          go_wp2_with fail
          refine (rsteps_any x 15 y Hy (by omega) _).mono ?_
          rintro e w' ⟨rfl, rfl⟩
          go_wp2_with fail
          refine (rtext_b y _).mono ?_
          rintro e w' ⟨rfl, rfl⟩
          have hB5 := bgo hBx hB1
          go_wp2
          go_roundw
          case rel => exact ⟨j + 1, by omega, by go_num, by rw [← Hap.out, Hs.out], hB5⟩
          case measure => simp [intOf]; omega
        · obtain rfl : j = 18 := by omega
          have Hown2 := Lib.hid (own_below Hown.out hBx)
          have hB3 : Below w.heap.size w wr := bgo hB hBx
          clear hw hw'
          go_wp2_with (at_builtin; refine app_one rfl _ _ 53 rfl 9 i0 _ 1 16 Tryd.underlying53 hi0 hz0 hz1 hz2 rfl (by decide) _ _ _ rfl Hown2.out hB3 [.string s] _ _ rfl rfl ?c1 ?c2 ?c3 ?_)
          case c1 => simp [Value.oneCell']
          case c2 => simp [maxLen]; omega
          case c3 => omega
          intro v' w2 hown2 hB4 _
          have HR := Lib.hid hown2
          clear hown2
          go_wp2
          go_roundw
          case rel =>
            refine ⟨k + 1, by omega, by go_num, ?_, hB4⟩
            rw [leavesB_snoc, show bytesOf (On.leaf seed.data.toList (k : Nat)) = s from Hs.out]
            exact HR.out
          case measure => simp [intOf]; omega
    · obtain rfl : n = k := by omega
      go_wp2
      go_ret
      exact ⟨_, rfl, Hown.out, hB⟩
end Go.Proofs.YtpmakhfpdidleaaDoor
