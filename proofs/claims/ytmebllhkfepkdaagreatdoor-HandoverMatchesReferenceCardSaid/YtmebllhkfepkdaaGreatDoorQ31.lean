/- The reference's Before (layer 29). Arguments of HandoverMatchesReference: totals, signed totals, and lists of them. Facts for HandoverMatchesReference: what an element's signature is worth, Before in any month, Accept of long lists. -/
import Derived.Test.YtmebllhkfepkdaaGreatDoorQ30
import Derived.Test.YtmebllhkfepkdaaGreatDoorQ26
import Derived.Test.YtmebllhkfepkdaaGreatDoorQ23
import Derived.Deep.Slices
import Derived.Deep.Fields
import Derived.ChangeSame
namespace Go.Proofs.YtmebllhkfepkdaaGreatDoor
open Go.RowKit Go.Shelf
set_option linter.unusedVariables false
set_option linter.unusedSimpArgs false
set_option maxRecDepth 100000
theorem totL5_cells {W : World} {b off : Nat} {ts : List TotD} (hc : ∀ j u, (ts.flatMap totL5)[j]? = some u → W.cell? ⟨b, off + j, none⟩ = some u) {k : Nat} {x : TotD} (hx : ts[k]? = some x) : ∀ j u, (totL5 x)[j]? = some u → j < 5 → W.cell? ⟨b, off + k * 5 + j, none⟩ = some u := by
  intro j u hu hj
  obtain ⟨hk, e⟩ := List.getElem?_eq_some_iff.1 hx
  have hget := flat_get totL5 5 (fun _ => rfl) ts k hk j hj
  rw [e] at hget
  rw [Nat.add_assoc]
  exact hc _ _ (hget.trans hu)
theorem bestL_len {p : ByteArray} {m : Int} {L : List TotD} {n : Nat} : ∀ k, (bestL p m L n k).length ≤ k := by
  intro k
  induction k with
  | zero => unfold bestL; simp
  | succ k ih =>
    unfold bestL
    rw [List.length_append]
    cases L[k]? with
    | none => simp; omega
    | some t =>
      dsimp only
      split <;> simp <;> omega
theorem bestL_cnt {p : ByteArray} {m : Int} {L : List TotD} {n k : Nat} {t : TotD} (h : t ∈ bestL p m L n k) : cntB p m t = true := by
  obtain ⟨i, _, _, hb⟩ := bestL_mem k h
  unfold bestT at hb
  rw [Bool.and_eq_true] at hb
  exact hb.1
theorem bestL_bound {p : ByteArray} {m : Int} {L : List TotD} {n k : Nat} (hk : k ≤ 100) : (-100000000000000 ≤ sumA TotD.g (bestL p m L n k) ∧ sumA TotD.g (bestL p m L n k) ≤ 100000000000000) ∧ (-100000000000000 ≤ sumA TotD.x (bestL p m L n k) ∧ sumA TotD.x (bestL p m L n k) ≤ 100000000000000) := by
  have hl := bestL_len (p := p) (m := m) (L := L) (n := n) k
  have h1 := sumA_bound TotD.g (l := bestL p m L n k) (B := 1000000000000) (fun t ht => by have := (valid_out (cnt_out (bestL_cnt ht)).1).2.2.2; omega) 100 (by omega) (by omega)
  have h2 := sumA_bound TotD.x (l := bestL p m L n k) (B := 1000000000000) (fun t ht => by have := (valid_out (cnt_out (bestL_cnt ht)).1).2.2.2; omega) 100 (by omega) (by omega)
  omega
theorem bestL_next {p : ByteArray} {m : Int} {L : List TotD} {n k : Nat} {t : TotD} (h : L[k]? = some t) : bestL p m L n (k + 1) = bestL p m L n k ++ (if bestT p m L n t k = true then [t] else []) := by
  conv => lhs; unfold bestL
  rw [h]
theorem best_zero {p : ByteArray} {m : Int} {L : List TotD} {t : TotD} {i : Nat} : bestT p m L 0 t i = cntB p m t := by
  unfold bestT holdsT
  simp
theorem rbefore_bad (A : Option Addr) (n c : Nat) (person : ByteArray) (m : Int) (hm : ¬ (0 ≤ m ∧ m ≤ 1199)) (w : World) :
    Calls Tryz.prog 16 #[.slice A n c, .string person, .int .i64 m] w fun e w' => e = .returned (.tuple #[.int .i64 0, .int .i64 0]) ∧ Below w.heap.size w w' := by
  by_cases h : m < 0
  · go_enter Tryz.func16, Tryz.ntmps16
    go_wp2
    go_ret2
    exact ⟨rfl, Below.refl _ _⟩
  · have h2 : (1199 : Int) < m := by omega
    go_enter Tryz.func16, Tryz.ntmps16
    go_wp2
    go_ret2
    exact ⟨rfl, Below.refl _ _⟩
set_option maxHeartbeats 16000000 in
theorem rbefore_ok (A : Option Addr) (n c : Nat) (ts : List TotD) (hn : ts.length = n) (hnl : n ≤ 100) (person : ByteArray) (mo : Nat) (hmo : mo ≤ 1199) (hwf : ∀ t ∈ ts, t.e.size ≤ maxLen ∧ t.p.size ≤ maxLen) (w : World) (hS : Sl w w.heap.size 5 A n (ts.flatMap totL5)) :
    Calls Tryz.prog 16 #[.slice A n c, .string person, .int .i64 (mo : Int)] w fun e w' => e = .returned (.tuple #[.int .i64 (sumA TotD.g (bestL person (mo : Int) ts n n)), .int .i64 (sumA TotD.x (bestL person (mo : Int) ts n n))]) ∧ Below w.heap.size w w' := by
  have HS := Lib.hid hS
  have Hwf := Lib.hid hwf
  have Hn := Lib.hid hn
  have hm1 : ¬ (mo : Int) < 0 := by omega
  have hm2 : ¬ (1199 : Int) < (mo : Int) := by omega
  clear hS hwf hn
  go_enter Tryz.func16, Tryz.ntmps16
  go_wp2_with fail
  go_loopw [8, 9, 10] (fun g x i wr => ∃ k : Nat, k ≤ n ∧ i = .int .i64 (k : Int) ∧ ∃ a b : Int, sumA TotD.g (bestL person (mo : Int) ts n k) = a ∧ sumA TotD.x (bestL person (mo : Int) ts n k) = b ∧ g = .int .i64 a ∧ x = .int .i64 b ∧ Below w.heap.size w wr) (fun _ _ i _ => n - (intOf i).toNat)
  case atStart => exact ⟨0, Nat.zero_le _, rfl, 0, 0, rfl, rfl, rfl, rfl, Below.refl _ _⟩
  case round =>
    obtain ⟨k, hk, rfl, a, b, ha, hb, rfl, rfl, hBr⟩ := hrel
    by_cases hlt : k < n
    · have hlt' : (k : Int) < (n : Int) := by omega
      have hkl : k < ts.length := by rw [Hn.out]; exact hlt
      obtain ⟨t, ht⟩ : ∃ t, ts[k]? = some t := ⟨_, List.getElem?_eq_getElem hkl⟩
      have hws := Hwf.out t (List.mem_of_getElem? ht)
      have hnx := bestL_next (p := person) (m := (mo : Int)) (n := n) ht
      have hbd := bestL_bound (p := person) (m := (mo : Int)) (L := ts) (n := n) (k := k) (by omega)
      rw [ha, hb] at hbd
      obtain ⟨tb, off, rfl, htb, hcell⟩ := HS.out.2 (by omega)
      obtain ⟨te, tp, tm, tg, tx⟩ := t
      dsimp only at hws
      obtain ⟨cb, hcb⟩ : ∃ q, cntB person (mo : Int) ⟨te, tp, tm, tg, tx⟩ = q := ⟨_, rfl⟩
      have hcl : ∀ (W : World), Below w.heap.size w W → ∀ j u, (totL5 ⟨te, tp, tm, tg, tx⟩)[j]? = some u → j < 5 → W.cell? ⟨tb, off + k * 5 + j, none⟩ = some u := fun W hW j u hu hj => (hW.cell (p := ⟨tb, off + k * 5 + j, none⟩) htb).trans (totL5_cells hcell ht j u hu hj)
      have HCL := Lib.hid hcl
      have HC := Lib.hid hcell
      have Ht := Lib.hid ht
      have Hnx := Lib.hid hnx
      have Hcb := Lib.hid hcb
      have Hab := Lib.hid (And.intro ha hb)
      have k0 : wr.cell? ⟨tb, off + k * 5, none⟩ = some (.string te) := hcl wr hBr 0 _ rfl (by decide)
      have k1 : wr.cell? ⟨tb, off + k * 5 + 1, none⟩ = some (.string tp) := hcl wr hBr 1 _ rfl (by decide)
      have k2 : wr.cell? ⟨tb, off + k * 5 + 2, none⟩ = some (.int .i64 tm) := hcl wr hBr 2 _ rfl (by decide)
      have k3 : wr.cell? ⟨tb, off + k * 5 + 3, none⟩ = some (.int .i64 tg) := hcl wr hBr 3 _ rfl (by decide)
      have k4 : wr.cell? ⟨tb, off + k * 5 + 4, none⟩ = some (.int .i64 tx) := hcl wr hBr 4 _ rfl (by decide)
      clear hcell ht hnx hcb ha hb hcl hkl
      go_wp2_with fail
      refine (rcounts_any te tp tm tg tx person mo hmo cb Hcb wr hws.1 hws.2).mono ?_
      rintro e w2 ⟨rfl, hB2⟩
      have hBw2 := bgo hBr hB2
      clear k0 k1 k2 k3 k4 hB2
      go_wp2_with fail
      go_loopw [11, 12] (fun bb i wi => ∃ q : Nat, q ≤ n ∧ i = .int .i64 (q : Int) ∧ ∃ s : Bool, bestT person (mo : Int) ts q ⟨te, tp, tm, tg, tx⟩ k = s ∧ bb = .bool s ∧ Below w2.heap.size w2 wi) (fun _ i _ => n - (intOf i).toNat)
      case atStart => exact ⟨0, Nat.zero_le _, rfl, cb, by rw [best_zero]; exact Hcb.out, rfl, Below.refl _ _⟩
      case round =>
        obtain ⟨q, hq, rfl, s, hs, rfl, hBq⟩ := hrel
        by_cases hqn : q < n
        · have hqn' : (q : Int) < (n : Int) := by omega
          have hql : q < ts.length := by rw [Hn.out]; exact hqn
          obtain ⟨u, hu⟩ : ∃ u, ts[q]? = some u := ⟨_, List.getElem?_eq_getElem hql⟩
          have hus := Hwf.out u (List.mem_of_getElem? hu)
          have hstep := best_succ (p := person) (m := (mo : Int)) (t := ⟨te, tp, tm, tg, tx⟩) (i := k) hu
          rw [hs] at hstep
          obtain ⟨ue, up, um, ug, ux⟩ := u
          dsimp only at hus
          obtain ⟨cu, hcu⟩ : ∃ z, cntB person (mo : Int) ⟨ue, up, um, ug, ux⟩ = z := ⟨_, rfl⟩
          have hcl2 : ∀ (W : World), Below w.heap.size w W → ∀ j v, (totL5 ⟨ue, up, um, ug, ux⟩)[j]? = some v → j < 5 → W.cell? ⟨tb, off + q * 5 + j, none⟩ = some v := fun W hW j v hv hj => (hW.cell (p := ⟨tb, off + q * 5 + j, none⟩) htb).trans (totL5_cells HC.out hu j v hv hj)
          have HCL2 := Lib.hid hcl2
          have Hcu := Lib.hid hcu
          have hBw3 := bgo hBw2 hBq
          have k0 : wr.cell? ⟨tb, off + q * 5, none⟩ = some (.string ue) := hcl2 wr hBw3 0 _ rfl (by decide)
          have k1 : wr.cell? ⟨tb, off + q * 5 + 1, none⟩ = some (.string up) := hcl2 wr hBw3 1 _ rfl (by decide)
          have k2 : wr.cell? ⟨tb, off + q * 5 + 2, none⟩ = some (.int .i64 um) := hcl2 wr hBw3 2 _ rfl (by decide)
          have k3 : wr.cell? ⟨tb, off + q * 5 + 3, none⟩ = some (.int .i64 ug) := hcl2 wr hBw3 3 _ rfl (by decide)
          have k4 : wr.cell? ⟨tb, off + q * 5 + 4, none⟩ = some (.int .i64 ux) := hcl2 wr hBw3 4 _ rfl (by decide)
          have Hstep := Lib.hid hstep
          clear hu hcu hcl2 hstep hs hql
          go_wp2_with fail
          refine (rcounts_any ue up um ug ux person mo hmo cu Hcu wr hus.1 hus.2).mono ?_
          rintro e w4 ⟨rfl, hBx⟩
          have hB4 := bgo hBq hBx
          have hBw4 := bgo hBw2 hB4
          have hstep := Hstep.out
          unfold beatsT at hstep
          rw [Hcu.out] at hstep
          dsimp only at hstep
          clear k0 k1 k2 k3 k4 hBx Hstep
          have k0 : w4.cell? ⟨tb, off + q * 5, none⟩ = some (.string ue) := HCL2.out w4 hBw4 0 _ rfl (by decide)
          have k2 : w4.cell? ⟨tb, off + q * 5 + 2, none⟩ = some (.int .i64 um) := HCL2.out w4 hBw4 2 _ rfl (by decide)
          have j0 : w4.cell? ⟨tb, off + k * 5, none⟩ = some (.string te) := HCL.out w4 hBw4 0 _ rfl (by decide)
          have j2 : w4.cell? ⟨tb, off + k * 5 + 2, none⟩ = some (.int .i64 tm) := HCL.out w4 hBw4 2 _ rfl (by decide)
          cases cu with
          | false =>
            have Hs := Lib.hid (show bestT person (mo : Int) ts (q + 1) ⟨te, tp, tm, tg, tx⟩ k = s by rw [hstep]; simp)
            clear hstep
            go_wp2_with fail
            go_quiet (fail)
            go_wp2_with fail
            go_roundw
            case rel => exact ⟨q + 1, by omega, by go_num, _, Hs.out, rfl, below_drewN hB4 _⟩
            case measure => simp [intOf]; omega
          | true =>
            rw [Bool.true_and] at hstep
            by_cases h1 : ue = te
            · have f1 : (ue.toList == te.toList) = true := str_eqs h1
              rw [decide_eq_true h1, Bool.true_and] at hstep
              by_cases h2 : um > tm
              · have f2 : tm < um := h2
                have Hs := Lib.hid (show bestT person (mo : Int) ts (q + 1) ⟨te, tp, tm, tg, tx⟩ k = false by rw [hstep, decide_eq_true h2]; simp)
                clear hstep h1 h2
                go_wp2_with fail
                go_quiet (fail)
                go_wp2_with fail
                go_roundw
                case rel => exact ⟨q + 1, by omega, by go_num, _, Hs.out, rfl, below_drewN hB4 _⟩
                case measure => simp [intOf]; omega
              · have f2 : ¬ tm < um := h2
                rw [decide_eq_false h2, Bool.false_or] at hstep
                by_cases h3 : um = tm
                · have f3 : (um == tm) = true := beq_iff_eq.2 h3
                  rw [decide_eq_true h3, Bool.true_and] at hstep
                  have H3x := Lib.hid h3
                  by_cases h4 : q > k
                  · have f4 : (k : Int) < (q : Int) := by omega
                    have Hs := Lib.hid (show bestT person (mo : Int) ts (q + 1) ⟨te, tp, tm, tg, tx⟩ k = false by rw [hstep, decide_eq_true h4]; simp)
                    clear hstep h1 h2 h3
                    go_wp2_with fail
                    go_quiet (fail)
                    go_wp2_with fail
                    go_roundw
                    case rel => exact ⟨q + 1, by omega, by go_num, _, Hs.out, rfl, below_drewN hB4 _⟩
                    case measure => simp [intOf]; omega
                  · have f4 : ¬ (k : Int) < (q : Int) := by omega
                    have Hs := Lib.hid (show bestT person (mo : Int) ts (q + 1) ⟨te, tp, tm, tg, tx⟩ k = s by rw [hstep, decide_eq_false h4]; simp)
                    clear hstep h1 h2 h3
                    go_wp2_with fail
                    go_quiet (fail)
                    go_wp2_with fail
                    go_roundw
                    case rel => exact ⟨q + 1, by omega, by go_num, _, Hs.out, rfl, below_drewN hB4 _⟩
                    case measure => simp [intOf]; omega
                · have f3 : (um == tm) = false := beq_eq_false_iff_ne.2 h3
                  have Hs := Lib.hid (show bestT person (mo : Int) ts (q + 1) ⟨te, tp, tm, tg, tx⟩ k = s by rw [hstep, decide_eq_false h3]; simp)
                  clear hstep h1 h2 h3
                  go_wp2_with fail
                  go_quiet (fail)
                  go_wp2_with fail
                  go_roundw
                  case rel => exact ⟨q + 1, by omega, by go_num, _, Hs.out, rfl, below_drewN hB4 _⟩
                  case measure => simp [intOf]; omega
            · have f1 : (ue.toList == te.toList) = false := str_nes h1
              have Hs := Lib.hid (show bestT person (mo : Int) ts (q + 1) ⟨te, tp, tm, tg, tx⟩ k = s by rw [hstep, decide_eq_false h1]; simp)
              clear hstep h1
              go_wp2_with fail
              go_quiet (fail)
              go_wp2_with fail
              go_roundw
              case rel => exact ⟨q + 1, by omega, by go_num, _, Hs.out, rfl, below_drewN hB4 _⟩
              case measure => simp [intOf]; omega
        · obtain rfl : n = q := by omega
          have hqn' : ¬ (n : Int) < (n : Int) := by omega
          have hBw3 := bgo hBw2 hBq
          have hnx := Hnx.out
          rw [hs] at hnx
          clear hs
          cases s with
          | false =>
            rw [if_neg (show ¬ false = true by decide), List.append_nil] at hnx
            have Hx := Lib.hid hnx
            clear hnx
            go_wp2_with fail
            go_roundw
            case rel => exact ⟨k + 1, by omega, by go_num, a, b, by rw [Hx.out]; exact Hab.out.1, by rw [Hx.out]; exact Hab.out.2, rfl, rfl, hBw3⟩
            case measure => simp [intOf]; omega
          | true =>
            rw [if_pos (show true = true from rfl)] at hnx
            have Hx := Lib.hid hnx
            have hcv : cntB person (mo : Int) ⟨te, tp, tm, tg, tx⟩ = true := bestL_cnt (n := n) (k := k + 1) (L := ts) (by rw [hnx]; simp)
            have hvo := (valid_out (cnt_out hcv).1).2.2.2
            dsimp only at hvo
            have k3 : wr.cell? ⟨tb, off + k * 5 + 3, none⟩ = some (.int .i64 tg) := HCL.out wr hBw3 3 _ rfl (by decide)
            have k4 : wr.cell? ⟨tb, off + k * 5 + 4, none⟩ = some (.int .i64 tx) := HCL.out wr hBw3 4 _ rfl (by decide)
            clear hnx hcv
            go_wp2_with fail
            go_roundw
            case rel => exact ⟨k + 1, by omega, by go_num, a + tg, b + tx, by rw [Hx.out, sumA_app, Hab.out.1]; simp [sumA], by rw [Hx.out, sumA_app, Hab.out.2]; simp [sumA], rfl, rfl, hBw3⟩
            case measure => simp [intOf]; omega
    · obtain rfl : n = k := by omega
      have hlt' : ¬ (n : Int) < (n : Int) := by omega
      have Hab := Lib.hid (And.intro ha hb)
      clear ha hb
      go_wp2_with fail
      go_ret2
      exact ⟨by rw [Hab.out.1, Hab.out.2]; rfl, hBr⟩
theorem rbefore_at (A : Option Addr) (n c : Nat) (ts : List TotD) (hn : ts.length = n) (hnl : n ≤ 100) (person : ByteArray) (m : Int) (G X : Int) (hG : Hid (sumA TotD.g (befT person m ts) = G)) (hX : Hid (sumA TotD.x (befT person m ts) = X)) (hm : 0 ≤ m ∧ m ≤ 1199) (hwf : ∀ t ∈ ts, t.e.size ≤ maxLen ∧ t.p.size ≤ maxLen) (w : World) (hS : Sl w w.heap.size 5 A n (ts.flatMap totL5)) :
    Calls Tryz.prog 16 #[.slice A n c, .string person, .int .i64 m] w fun e w' => e = .returned (.tuple #[.int .i64 G, .int .i64 X]) ∧ Below w.heap.size w w' := by
  obtain ⟨mo, rfl⟩ := Int.eq_ofNat_of_zero_le hm.1
  rw [← hG.out, ← hX.out, best_sum, best_sum, hn]
  exact rbefore_ok A n c ts hn hnl person mo (by omega) hwf w hS
end Go.Proofs.YtmebllhkfepkdaaGreatDoor
namespace Go.Proofs.YtmebllhkfepkdaaGreatDoor
open Go.RowKit Go.ChangeShapes Go.WideShapes Go.Deep Go.Shelf
set_option linter.unusedVariables false
set_option linter.unusedSimpArgs false
set_option maxRecDepth 100000
instance : Inhabited TotD := ⟨⟨⟨#[]⟩, ⟨#[]⟩, 0, 0, 0⟩⟩
instance : Inhabited ElM := ⟨⟨default, 0, none, 0, 0, none, 0, 0⟩⟩
/-- A row of structs that lies from an address on. -/
theorem sl_rows {α : Type} (f : α → List Value) (sz : Nat) (hf : ∀ x, (f x).length = sz) (hsz : 0 < sz) {W : World} {a : Addr} {len : Nat} (X : Nat → α) (h : ∀ i, i < len → ∀ j u, (f (X i))[j]? = some u → W.cell? (a.add (i * sz + j)) = some u) :
    Sl W W.heap.size sz (some a) len (((List.range len).map X).flatMap f) := by
  have ht : ((List.range len).map X).length = len := by simp
  have hfl : ∀ l : List α, (l.flatMap f).length = l.length * sz := by
    intro l
    induction l with
    | nil => simp
    | cons x l ih => rw [List.flatMap_cons, List.length_append, ih, List.length_cons, hf, Nat.add_mul]; omega
  refine sl_of_row (by rw [hfl, ht]) (fun _ => hsz) ?_
  · intro j u hu
    obtain ⟨hj, e⟩ := List.getElem?_eq_some_iff.1 hu
    rw [hfl, ht] at hj
    have hq : j / sz < len := Nat.div_lt_of_lt_mul (by rw [Nat.mul_comm]; exact hj)
    have hr : j % sz < sz := Nat.mod_lt _ hsz
    have hjj : j = j / sz * sz + j % sz := by rw [Nat.mul_comm]; exact (Nat.div_add_mod j sz).symm
    have hget := flat_get f sz hf ((List.range len).map X) (j / sz) (by rw [ht]; exact hq) (j % sz) hr
    rw [← hjj, hu] at hget
    have hx : ((List.range len).map X)[j / sz]'(by rw [ht]; exact hq) = X (j / sz) := by simp
    rw [hx] at hget
    rw [hjj]
    exact h _ hq _ _ hget.symm
theorem tr_tot {H : Type} {enc : TypeId × Value → H} {W : World} {n : Nat} {cs : List Value} {y : DataW H × List MemPlace} (h : DataW.trod enc Tryz.prog W 0 (fun _ => true) true n 25 cs = some y) : ∃ t : TotD, cs = totL5 t ∧ TotWf t := by
  obtain ⟨xs, n', _, _, hl, hlen, hf⟩ := DataW.trod_struct Tryz.underlying25 h
  rw [(by kernel_rfl : Tryz.prog.cellsOf 25 = 5)] at hl
  match cs, hl with
  | [c0, c1, c2, c3, c4], _ =>
    have k9 : Tryz.prog.cellsOf 9 = 1 := by kernel_rfl
    have k3 : Tryz.prog.cellsOf 3 = 1 := by kernel_rfl
    have h0 : DataW.trod enc Tryz.prog W 0 (fun _ => true) true n' 9 (List.take (Tryz.prog.cellsOf 9) (List.drop 0 [c0, c1, c2, c3, c4])) = xs[0]? := hf 0 _ rfl
    have h1 : DataW.trod enc Tryz.prog W 0 (fun _ => true) true n' 9 (List.take (Tryz.prog.cellsOf 9) (List.drop 1 [c0, c1, c2, c3, c4])) = xs[1]? := hf 1 _ rfl
    have h2 : DataW.trod enc Tryz.prog W 0 (fun _ => true) true n' 3 (List.take (Tryz.prog.cellsOf 3) (List.drop 2 [c0, c1, c2, c3, c4])) = xs[2]? := hf 2 _ rfl
    have h3 : DataW.trod enc Tryz.prog W 0 (fun _ => true) true n' 3 (List.take (Tryz.prog.cellsOf 3) (List.drop 3 [c0, c1, c2, c3, c4])) = xs[3]? := hf 3 _ rfl
    have h4 : DataW.trod enc Tryz.prog W 0 (fun _ => true) true n' 3 (List.take (Tryz.prog.cellsOf 3) (List.drop 4 [c0, c1, c2, c3, c4])) = xs[4]? := hf 4 _ rfl
    simp only [k9, k3, List.drop_succ_cons, List.drop_zero, List.take_succ_cons, List.take_zero] at h0 h1 h2 h3 h4
    have g : ∀ j : Nat, j < 5 → ∃ z, xs[j]? = some z := fun j hj => ⟨_, List.getElem?_eq_getElem (by rw [hlen]; exact hj)⟩
    obtain ⟨z0, e0⟩ := g 0 (by decide)
    obtain ⟨z1, e1⟩ := g 1 (by decide)
    obtain ⟨z2, e2⟩ := g 2 (by decide)
    obtain ⟨z3, e3⟩ := g 3 (by decide)
    obtain ⟨z4, e4⟩ := g 4 (by decide)
    rw [e0] at h0
    rw [e1] at h1
    rw [e2] at h2
    rw [e3] at h3
    rw [e4] at h4
    obtain ⟨s0, q0, _, w0⟩ := DataW.trod_string Tryz.underlying9 h0
    obtain ⟨s1, q1, _, w1⟩ := DataW.trod_string Tryz.underlying9 h1
    obtain ⟨i2, q2, _, w2⟩ := DataW.trod_int Tryz.underlying3 h2
    obtain ⟨i3, q3, _, w3⟩ := DataW.trod_int Tryz.underlying3 h3
    obtain ⟨i4, q4, _, w4⟩ := DataW.trod_int Tryz.underlying3 h4
    simp at q0 q1 q2 q3 q4
    subst q0 q1 q2 q3 q4
    exact ⟨⟨s0, s1, i2, i3, i4⟩, rfl, w0, w1, w2, w3, w4⟩
/-- What is known of a signed total that came in. -/
def ElIn (W : World) (x : ElM) : Prop := ∃ c p, c.length = x.an ∧ p.length = x.bn ∧ x.an ≤ maxLen ∧ Sl W W.heap.size 1 x.A x.an (u64V c) ∧ Sl W W.heap.size 2 x.B x.bn (forkV p) ∧ TotWf x.t ∧ I64 x.j
theorem ElIn.go {W W' : World} {x : ElM} (h : ElIn W x) (k : Below W.heap.size W W') : ElIn W' x := by
  obtain ⟨c, p, h1, h2, h3, h4, h5, h6, h7⟩ := h
  exact ⟨c, p, h1, h2, h3, h4.go k, h5.go k, h6, h7⟩
theorem tr_sgd {H : Type} {enc : TypeId × Value → H} {W : World} {n : Nat} {cs : List Value} {y : DataW H × List MemPlace} (h : DataW.trod enc Tryz.prog W 0 (fun _ => true) true n 33 cs = some y) : ∃ x : ElM, cs = elV x ∧ ElIn W x := by
  obtain ⟨xs, n', _, _, hl, hlen, hf⟩ := DataW.trod_struct Tryz.underlying33 h
  rw [(by kernel_rfl : Tryz.prog.cellsOf 33 = 8)] at hl
  match cs, hl with
  | [c0, c1, c2, c3, c4, c5, c6, c7], _ =>
    have k5 : Tryz.prog.cellsOf 25 = 5 := by kernel_rfl
    have k3 : Tryz.prog.cellsOf 31 = 3 := by kernel_rfl
    have h0 : DataW.trod enc Tryz.prog W 0 (fun _ => true) true n' 25 (List.take (Tryz.prog.cellsOf 25) (List.drop 0 [c0, c1, c2, c3, c4, c5, c6, c7])) = xs[0]? := hf 0 _ rfl
    have h1 : DataW.trod enc Tryz.prog W 0 (fun _ => true) true n' 31 (List.take (Tryz.prog.cellsOf 31) (List.drop 5 [c0, c1, c2, c3, c4, c5, c6, c7])) = xs[1]? := hf 1 _ rfl
    simp only [k5, k3, List.drop_succ_cons, List.drop_zero, List.take_succ_cons, List.take_zero] at h0 h1
    have g : ∀ j : Nat, j < 2 → ∃ z, xs[j]? = some z := fun j hj => ⟨_, List.getElem?_eq_getElem (by rw [hlen]; exact hj)⟩
    obtain ⟨z0, e0⟩ := g 0 (by decide)
    obtain ⟨z1, e1⟩ := g 1 (by decide)
    rw [e0] at h0
    rw [e1] at h1
    obtain ⟨t, q0, ht⟩ := tr_tot h0
    obtain ⟨ys, n2, _, _, hl2, hlen2, hf2⟩ := DataW.trod_struct Tryz.underlying31 h1
    have m3 : Tryz.prog.cellsOf 3 = 1 := by kernel_rfl
    have m1 : Tryz.prog.cellsOf 28 = 1 := by kernel_rfl
    have m2 : Tryz.prog.cellsOf 29 = 1 := by kernel_rfl
    have r0 : DataW.trod enc Tryz.prog W 0 (fun _ => true) true n2 3 (List.take (Tryz.prog.cellsOf 3) (List.drop 0 [c5, c6, c7])) = ys[0]? := hf2 0 _ rfl
    have r1 : DataW.trod enc Tryz.prog W 0 (fun _ => true) true n2 28 (List.take (Tryz.prog.cellsOf 28) (List.drop 1 [c5, c6, c7])) = ys[1]? := hf2 1 _ rfl
    have r2 : DataW.trod enc Tryz.prog W 0 (fun _ => true) true n2 29 (List.take (Tryz.prog.cellsOf 29) (List.drop 2 [c5, c6, c7])) = ys[2]? := hf2 2 _ rfl
    simp only [m1, m2, m3, List.drop_succ_cons, List.drop_zero, List.take_succ_cons, List.take_zero] at r0 r1 r2
    have g2 : ∀ j : Nat, j < 3 → ∃ z, ys[j]? = some z := fun j hj => ⟨_, List.getElem?_eq_getElem (by rw [hlen2]; exact hj)⟩
    obtain ⟨y0, f0⟩ := g2 0 (by decide)
    obtain ⟨y1, f1⟩ := g2 1 (by decide)
    obtain ⟨y2, f2⟩ := g2 2 (by decide)
    rw [f0] at r0
    rw [f1] at r1
    rw [f2] at r2
    obtain ⟨i, hi, _, wi⟩ := DataW.trod_int Tryz.underlying3 r0
    obtain ⟨A1, k1, l1, hA, s1, b1⟩ := tr_u64s r1
    obtain ⟨A2, k2, l2, hB, s2, b2⟩ := tr_forks r2
    simp at hi
    unfold totL5 at q0
    simp only [List.cons.injEq, and_true] at q0
    obtain ⟨q0, q1, q2, q3, q4⟩ := q0
    subst q0 q1 q2 q3 q4 hi hA hB
    exact ⟨⟨t, i, A1, l1.length, k1, A2, l2.length, k2⟩, rfl, l1, l2, rfl, rfl, Nat.le_trans b1.1 b1.2, s1, s2, ht, bounds_i64 wi⟩
theorem sl_tots {H : Type} {enc : TypeId × Value → H} {W : World} {base : Nat} {v : Value} {d : DataW H} {p : List MemPlace} (hv : Value.okWide Tryz.prog W .any base 23 v) (h : DataW.Trod enc Tryz.prog W 0 (fun _ => true) true 23 v d p) :
    ∃ (A : Option Addr) (c : Nat) (l : List TotD), v = .slice A l.length c ∧ Sl W W.heap.size 5 A l.length (l.flatMap totL5) ∧ (l.length ≤ c ∧ c ≤ maxLen) ∧ (∀ x ∈ l, TotWf x) ∧ (A = none → c = 0) := by
  obtain ⟨a0, len, cap, rfl⟩ := okWide_slice Tryz.underlying23 hv
  obtain ⟨fuel, hf⟩ := h
  rcases open_slice Tryz.underlying23 hf with ⟨hcs, _⟩ | ⟨a, len', cap', m, n', D, Pl, hcs, hb, hl, hm, hmm, hx, hi⟩
  · simp [Value.cells] at hcs
    obtain ⟨rfl, rfl, rfl⟩ := hcs
    exact ⟨none, 0, [], rfl, Sl.nil _ 5, ⟨Nat.le_refl _, Nat.zero_le _⟩, (fun x hx => by cases hx), fun _ => rfl⟩
  · simp [Value.cells] at hcs
    obtain ⟨rfl, rfl, rfl⟩ := hcs
    simp only [if_true] at hmm
    subst hmm
    have hC : Tryz.prog.cellsOf 25 = 5 := by kernel_rfl
    have each : ∀ i, i < m → ∃ x : TotD, (∀ j u, (totL5 x)[j]? = some u → W.cell? (a.add (i * 5 + j)) = some u) ∧ TotWf x := by
      intro i hi'
      obtain ⟨cs', hc, ht'⟩ := hi i hi'
      rw [hC] at hc
      obtain ⟨_, hcl, hat⟩ := World.cells?_some hc
      obtain ⟨t, e, hw⟩ := tr_tot ht'
      refine ⟨t, fun j u hu => ?_, hw⟩
      have hj : j < 5 := (List.getElem?_eq_some_iff.1 hu).1
      rw [← Go.Deep.add_add, hat j hj, e]
      exact hu
    obtain ⟨X, hX⟩ := choose_lt each
    have ht : ((List.range len).map X).length = len := by simp
    refine ⟨some a, m, (List.range len).map X, by rw [ht], ?_, ⟨by omega, by omega⟩, ?_, fun h => by cases h⟩
    · rw [ht]
      exact sl_rows totL5 5 (fun _ => rfl) (by decide) X (fun i hi' => (hX i (by omega)).1)
    · intro x hx
      obtain ⟨i, hi', rfl⟩ := List.mem_map.1 hx
      exact (hX i (by have := List.mem_range.1 hi'; omega)).2
theorem sl_sgds {H : Type} {enc : TypeId × Value → H} {W : World} {base : Nat} {v : Value} {d : DataW H} {p : List MemPlace} (hv : Value.okWide Tryz.prog W .any base 22 v) (h : DataW.Trod enc Tryz.prog W 0 (fun _ => true) true 22 v d p) :
    ∃ (A : Option Addr) (c : Nat) (l : List ElM), v = .slice A l.length c ∧ Sl W W.heap.size 8 A l.length (l.flatMap elV) ∧ (l.length ≤ c ∧ c ≤ maxLen) ∧ (∀ x ∈ l, ElIn W x) ∧ (A = none → c = 0) := by
  obtain ⟨a0, len, cap, rfl⟩ := okWide_slice Tryz.underlying22 hv
  obtain ⟨fuel, hf⟩ := h
  rcases open_slice Tryz.underlying22 hf with ⟨hcs, _⟩ | ⟨a, len', cap', m, n', D, Pl, hcs, hb, hl, hm, hmm, hx, hi⟩
  · simp [Value.cells] at hcs
    obtain ⟨rfl, rfl, rfl⟩ := hcs
    exact ⟨none, 0, [], rfl, Sl.nil _ 8, ⟨Nat.le_refl _, Nat.zero_le _⟩, (fun x hx => by cases hx), fun _ => rfl⟩
  · simp [Value.cells] at hcs
    obtain ⟨rfl, rfl, rfl⟩ := hcs
    simp only [if_true] at hmm
    subst hmm
    have hC : Tryz.prog.cellsOf 33 = 8 := by kernel_rfl
    have each : ∀ i, i < m → ∃ x : ElM, (∀ j u, (elV x)[j]? = some u → W.cell? (a.add (i * 8 + j)) = some u) ∧ ElIn W x := by
      intro i hi'
      obtain ⟨cs', hc, ht'⟩ := hi i hi'
      rw [hC] at hc
      obtain ⟨_, hcl, hat⟩ := World.cells?_some hc
      obtain ⟨t, e, hw⟩ := tr_sgd ht'
      refine ⟨t, fun j u hu => ?_, hw⟩
      have hj : j < 8 := (List.getElem?_eq_some_iff.1 hu).1
      rw [← Go.Deep.add_add, hat j hj, e]
      exact hu
    obtain ⟨X, hX⟩ := choose_lt each
    have ht : ((List.range len).map X).length = len := by simp
    refine ⟨some a, m, (List.range len).map X, by rw [ht], ?_, ⟨by omega, by omega⟩, ?_, fun h => by cases h⟩
    · rw [ht]
      exact sl_rows elV 8 (fun _ => rfl) (by decide) X (fun i hi' => (hX i (by omega)).1)
    · intro x hx
      obtain ⟨i, hi', rfl⟩ := List.mem_map.1 hx
      exact (hX i (by have := List.mem_range.1 hi'; omega)).2
theorem open_tot {H : Type} {enc : TypeId × Value → H} {W : World} {base : Nat} {v : Value} {d : DataW H} {p : List MemPlace} (hv : Value.okWide Tryz.prog W .any base 25 v) (h : DataW.Trod enc Tryz.prog W 0 (fun _ => true) true 25 v d p) :
    ∃ q : TotD, v = .agg #[.string q.e, .string q.p, .int .i64 q.m, .int .i64 q.g, .int .i64 q.x] ∧ TotWf q := by
  obtain ⟨cs, rfl, hsz⟩ := okWide_struct Tryz.underlying25 hv
  obtain ⟨fuel, hf⟩ := h
  obtain ⟨t, e, hw⟩ := tr_tot hf
  refine ⟨t, ?_, hw⟩
  obtain ⟨l⟩ := cs
  have : l = totL5 t := by simpa [Value.cells] using e
  rw [this]
  rfl
end Go.Proofs.YtmebllhkfepkdaaGreatDoor
namespace Go.Proofs.YtmebllhkfepkdaaGreatDoor
open Go.RowKit Go.Shelf
set_option linter.unusedVariables false
set_option linter.unusedSimpArgs false
set_option maxRecDepth 100000
theorem sl_unique {W : World} {B size n : Nat} {A : Option Addr} {xs ys : List Value} (h : Sl W B size A n xs) (k : Sl W B size A n ys) : xs = ys := by
  refine List.ext_getElem? fun j => ?_
  by_cases hj : j < n * size
  · have hn : 0 < n := by
      rcases Nat.eq_zero_or_pos n with h0 | h0
      · subst h0; omega
      · exact h0
    obtain ⟨b, off, e, _, hc⟩ := h.2 hn
    obtain ⟨b', off', e', _, hc'⟩ := k.2 hn
    rw [e] at e'
    injection e' with e'
    injection e' with e1 e2
    subst e1 e2
    have h1 := List.getElem?_eq_getElem (l := xs) (i := j) (by rw [h.1]; exact hj)
    have h2 := List.getElem?_eq_getElem (l := ys) (i := j) (by rw [k.1]; exact hj)
    rw [h1, h2]
    have c1 := hc j _ h1
    have c2 := hc' j _ h2
    rw [c1] at c2
    exact c2
  · rw [List.getElem?_eq_none (by rw [h.1]; omega), List.getElem?_eq_none (by rw [k.1]; omega)]
theorem u64V_inj : ∀ {a b : List UInt64}, u64V a = u64V b → a = b
  | [], [], _ => rfl
  | [], y :: b, h => by simp [u64V] at h
  | x :: a, [], h => by simp [u64V] at h
  | x :: a, y :: b, h => by
    unfold u64V at h
    rw [List.map_cons, List.map_cons] at h
    injection h with h1 h2
    injection h1 with _ h1
    have : x = y := by apply UInt64.toNat_inj.1; omega
    rw [this, u64V_inj (a := a) (b := b) h2]
theorem forkV_inj : ∀ {a b : Forks}, forkV a = forkV b → a = b
  | [], [], _ => rfl
  | [], y :: b, h => by simp [forkV] at h
  | x :: a, [], h => by simp [forkV] at h
  | x :: a, y :: b, h => by
    unfold forkV at h
    rw [List.flatMap_cons, List.flatMap_cons] at h
    simp only [List.cons_append, List.nil_append] at h
    injection h with h1 h2
    injection h2 with h2 h3
    injection h1 with _ h1
    injection h2 with h2
    have e1 : x.1 = y.1 := by apply UInt64.toNat_inj.1; omega
    rw [Prod.ext e1 h2, forkV_inj (a := a) (b := b) h3]
open Classical in
/-- Whether the signature of an element is valid, for the root and the height. -/
noncomputable def okIn (W : World) (root : UInt64) (h : Int) (x : ElM) : Bool := decide (∃ c p, Sl W W.heap.size 1 x.A x.an (u64V c) ∧ Sl W W.heap.size 2 x.B x.bn (forkV p) ∧ overB root h (Dig.sum (textT x.t).data.toList) x.j c p = true)
open Classical in
theorem okIn_el {W : World} {x : ElM} (root : UInt64) (h : Int) (hx : ElIn W x) : ElOk W root h (okIn W root h) x := by
  obtain ⟨c, p, h1, h2, h3, h4, h5, h6, _⟩ := hx
  refine ⟨c, p, h1, h2, h3, h4, h5, ?_, h6⟩
  unfold okIn
  cases hb : overB root h (Dig.sum (textT x.t).data.toList) x.j c p with
  | true => exact (decide_eq_true ⟨c, p, h4, h5, hb⟩).symm
  | false =>
    refine (decide_eq_false ?_).symm
    rintro ⟨c', p', k4, k5, hb'⟩
    have e1 := u64V_inj (sl_unique h4 k4)
    have e2 := forkV_inj (sl_unique h5 k5)
    subst e1 e2
    rw [hb] at hb'
    cases hb'
theorem accept_long (root : UInt64) (h : Int) (E : Option Addr) (ce n : Nat) (hn : 64 < n) (w : World) :
    Calls Tryz.prog 7 #[.int .u64 root.toNat, .int .i64 h, .slice E n ce] w fun e w' => e = .returned (.tuple #[.slice none 0 0, .int .i64 2]) ∧ Below w.heap.size w w' := by
  have hn64 : (64 : Int) < (n : Int) := by omega
  go_enter Tryz.func7, Tryz.ntmps7
  go_wp2
  go_ret2
  exact ⟨rfl, Below.refl _ _⟩
/-- Accept of any list, by the program and by the reference. -/
theorem accept_both (root : UInt64) (h : Int) (es : List ElM) (n : Nat) (hn : es.length = n) (W : World) (hel : ∀ x ∈ es, ElIn W x) (hbn : ∀ x ∈ es, x.bn ≤ 100) :
    ∃ (r : Int) (T : List TotD), T.length ≤ 64 ∧ (∀ (E : Option Addr) (ce : Nat) (w : World), Below W.heap.size W w → CaT.Tabs w → OTabs w → Sl w w.heap.size 8 E n (es.flatMap elV) → (n ≤ ce ∧ ce ≤ maxLen) → Calls Tryz.prog 7 #[.int .u64 root.toNat, .int .i64 h, .slice E n ce] w fun e w' => ∃ v, e = .returned (.tuple #[v, .int .i64 r]) ∧ w'.ownsRow w.heap.size 25 5 v T.length (T.flatMap totL5) ∧ Below w.heap.size w w') ∧
      (∀ (E : Option Addr) (ce : Nat) (w : World), Below W.heap.size W w → Sl w w.heap.size 8 E n (es.flatMap elV) → Calls Tryz.prog 8 #[.int .u64 root.toNat, .int .i64 h, .slice E n ce] w fun e w' => ∃ v, e = .returned (.tuple #[v, .int .i64 r]) ∧ w'.ownsRow w.heap.size 25 5 v T.length (T.flatMap totL5) ∧ Below w.heap.size w w') := by
  by_cases h64 : n ≤ 64
  · obtain ⟨r, T, hr⟩ : ∃ r T, accE (okIn W root h) [] es [] = (r, T) := ⟨_, _, rfl⟩
    have hTl : ∀ (l pre : List ElM) (acc : List TotD), (accE (okIn W root h) pre l acc).2.length ≤ acc.length + l.length := by
      intro l
      induction l with
      | nil => intro pre acc; unfold accE; simp
      | cons x l ih =>
        intro pre acc
        unfold accE
        split
        · refine Nat.le_trans (ih _ _) ?_
          split <;> simp <;> omega
        · simp
    have hT := hTl es [] []
    rw [hr] at hT
    simp at hT
    refine ⟨r, T, by omega, fun E ce w hB hT hO hE hc => ?_, fun E ce w hB hE => ?_⟩
    · exact accept_any root h E ce n es hn (okIn W root h) r T (Lib.hid hr) w hT hO hE (fun x hx => (okIn_el root h (hel x hx)).go hB) hc h64
    · exact raccept_any root h E ce n es hn (okIn W root h) r T (Lib.hid hr) w hE (fun x hx => (okIn_el root h (hel x hx)).go hB) hbn h64
  · refine ⟨2, [], by simp, fun E ce w hB hT hO hE hc => ?_, fun E ce w hB hE => ?_⟩
    · exact (accept_long root h E ce n (by omega) w).mono fun e w' ⟨h1, h2⟩ => ⟨_, h1, ⟨rfl, .inl ⟨rfl, rfl⟩⟩, h2⟩
    · exact (raccept_long root h E ce n (by omega) w).mono fun e w' ⟨h1, h2⟩ => ⟨_, h1, ⟨rfl, .inl ⟨rfl, rfl⟩⟩, h2⟩
/-- Before in any month, by the program and by the reference. -/
theorem before_both (ts : List TotD) (n : Nat) (hn : ts.length = n) (hnl : n ≤ 100) (person : ByteArray) (m : Int) (hwf : ∀ t ∈ ts, t.e.size ≤ maxLen ∧ t.p.size ≤ maxLen) :
    ∃ G X : Int, (∀ (A : Option Addr) (c : Nat) (w : World), Sl w w.heap.size 5 A n (ts.flatMap totL5) → Calls Tryz.prog 15 #[.slice A n c, .string person, .int .i64 m] w fun e w' => e = .returned (.tuple #[.int .i64 G, .int .i64 X]) ∧ Below w.heap.size w w') ∧
      (∀ (A : Option Addr) (c : Nat) (w : World), Sl w w.heap.size 5 A n (ts.flatMap totL5) → Calls Tryz.prog 16 #[.slice A n c, .string person, .int .i64 m] w fun e w' => e = .returned (.tuple #[.int .i64 G, .int .i64 X]) ∧ Below w.heap.size w w') := by
  by_cases hm : 0 ≤ m ∧ m ≤ 1199
  · exact ⟨_, _, fun A c w hS => bef_at A n c ts hn hnl person m _ _ (Lib.hid rfl) (Lib.hid rfl) hm hwf w hS, fun A c w hS => rbefore_at A n c ts hn hnl person m _ _ (Lib.hid rfl) (Lib.hid rfl) hm hwf w hS⟩
  · exact ⟨0, 0, fun A c w _ => before_bad A n c person m hm w, fun A c w _ => rbefore_bad A n c person m hm w⟩
theorem issEl_in {W : World} {t : TotD} {i : Nat} {x : ElM} (h : IssEl W t i x) : ElIn W x := by
  refine ⟨chT t i, paT i, ?_, ?_, ?_, h.sa, h.sb, ?_, ?_⟩
  · rw [h.an, chT_len]
  · rw [h.bn, paT_len h.i8]
  · rw [h.an]; decide
  · rw [h.t_]; exact valid_wf h.va
  · rw [h.j_]; unfold I64; have := h.i8; omega
theorem issL_in {W : World} {ts : List TotD} {es : List ElM} (h : IssL W ts es) : ∀ x ∈ es, ElIn W x ∧ x.bn ≤ 100 := by
  intro x hx
  obtain ⟨i, hi, rfl⟩ := List.getElem_of_mem hx
  have ht : i < ts.length := by have := h.1; omega
  have hI := h.2 i _ _ (List.getElem?_eq_getElem ht) (List.getElem?_eq_getElem hi)
  exact ⟨issEl_in hI, by rw [hI.bn]; decide⟩
theorem signB_seed (i : Int) : signB seedB 3 i = decide (0 ≤ i ∧ i < 8) := by
  unfold signB
  have h1 : okB seedB 3 = true := by decide +kernel
  rw [h1, Bool.true_and]
  rfl
/-- Issue, by the program and by the reference. -/
theorem issue_both (te tp : ByteArray) (tm tg tx : Int) (he : te.size ≤ maxLen) (hp : tp.size ≤ maxLen) (i : Int) :
    ∃ (er : Int) (s : TotD) (j : Int) (n m : Nat) (c : List UInt64) (p : Forks), c.length = n ∧ p.length = m ∧ n ≤ 100 ∧ m ≤ 100 ∧
      (∀ w : World, CaT.Tabs w → OTabs w → Calls Tryz.prog 10 #[.string ⟨#[115, 101, 101, 100]⟩, .int .i64 3, .int .i64 i, .agg #[.string te, .string tp, .int .i64 tm, .int .i64 tg, .int .i64 tx]] w fun e w' => ∃ A ca B cb, e = .returned (.tuple #[.agg #[.string s.e, .string s.p, .int .i64 s.m, .int .i64 s.g, .int .i64 s.x, .int .i64 j, .slice A n ca, .slice B m cb], .int .i64 er]) ∧ Sl w' w'.heap.size 1 A n (u64V c) ∧ Sl w' w'.heap.size 2 B m (forkV p) ∧ Below w.heap.size w w') ∧
      (∀ w : World, OTabs w → Calls Tryz.prog 11 #[.string ⟨#[115, 101, 101, 100]⟩, .int .i64 3, .int .i64 i, .agg #[.string te, .string tp, .int .i64 tm, .int .i64 tg, .int .i64 tx]] w fun e w' => ∃ A ca B cb, e = .returned (.tuple #[.agg #[.string s.e, .string s.p, .int .i64 s.m, .int .i64 s.g, .int .i64 s.x, .int .i64 j, .slice A n ca, .slice B m cb], .int .i64 er]) ∧ Sl w' w'.heap.size 1 A n (u64V c) ∧ Sl w' w'.heap.size 2 B m (forkV p) ∧ Below w.heap.size w w') := by
  have hs : seedB.size ≤ 64 := by decide
  have hs2 : seedB.size ≤ maxLen := by decide
  cases hv : validTB ⟨te, tp, tm, tg, tx⟩ with
  | false =>
    refine ⟨1, ⟨⟨#[]⟩, ⟨#[]⟩, 0, 0, 0⟩, 0, 0, 0, [], [], rfl, rfl, by decide, by decide, fun w hT hO => ?_, fun w hO => ?_⟩
    · exact (issue_no seedB 3 i te tp tm tg tx (Lib.hid hv) w he hp).mono fun e w' ⟨h1, h2⟩ => ⟨none, 0, none, 0, h1, Sl.nil _ 1, Sl.nil _ 2, h2⟩
    · exact (rissue_no seedB 3 i te tp tm tg tx (Lib.hid hv) w he hp).mono fun e w' ⟨h1, h2⟩ => ⟨none, 0, none, 0, h1, Sl.nil _ 1, Sl.nil _ 2, h2⟩
  | true =>
    by_cases hi : 0 ≤ i ∧ i < 8
    · obtain ⟨k, rfl⟩ := Int.eq_ofNat_of_zero_le hi.1
      have hk : k < 8 := by omega
      refine ⟨0, ⟨te, tp, tm, tg, tx⟩, (k : Int), 18, 3, chT ⟨te, tp, tm, tg, tx⟩ k, paT k, chT_len _ _, paT_len hk, by decide, by decide, fun w hT hO => ?_, fun w hO => ?_⟩
      · exact (issue_el te tp tm tg tx k hk (Lib.hid hv) w hT hO).mono fun e w' ⟨A, ca, B, cb, h1, h2, h3⟩ => ⟨A, ca, B, cb, h1, h2.sa, h2.sb, h3⟩
      · have h := rissue_ok seedB 3 k 8 (by decide) (Lib.hid rfl) hk hs te tp tm tg tx (Lib.hid hv) _ (Lib.hid rfl) _ (Lib.hid rfl) _ (Lib.hid rfl) w he hp hO
        have hl : (pathL (leavesB seedB 8) (k : Int)).length = 3 := paT_len hk
        rw [hl] at h
        exact h.mono fun e w' ⟨A, ca, B, cb, h1, h2, h3, h4⟩ => ⟨A, ca, B, cb, h1, h2, h3, h4⟩
    · have hb : signB seedB 3 i = false := by rw [signB_seed]; exact decide_eq_false hi
      refine ⟨1, ⟨⟨#[]⟩, ⟨#[]⟩, 0, 0, 0⟩, 0, 0, 0, [], [], rfl, rfl, by decide, by decide, fun w hT hO => ?_, fun w hO => ?_⟩
      · exact (issue_bad seedB 3 i te tp tm tg tx (Lib.hid hv) (Lib.hid hb) hs2 w he hp hT).mono fun e w' ⟨h1, h2⟩ => ⟨none, 0, none, 0, h1, Sl.nil _ 1, Sl.nil _ 2, h2⟩
      · exact (rissue_bad seedB 3 i te tp tm tg tx (Lib.hid hv) (Lib.hid hb) hs2 w he hp).mono fun e w' ⟨h1, h2⟩ => ⟨none, 0, none, 0, h1, Sl.nil _ 1, Sl.nil _ 2, h2⟩
end Go.Proofs.YtmebllhkfepkdaaGreatDoor
