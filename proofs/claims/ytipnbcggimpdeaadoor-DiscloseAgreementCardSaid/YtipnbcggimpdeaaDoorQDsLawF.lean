/- Shown rows that say the same are the same (layer 36's reference). -/
import Derived.Test.YtipnbcggimpdeaaDoorQDsLawH
import Derived.Test.YtipnbcggimpdeaaDoorQ05
import Derived.BigQuiet
namespace Go.Proofs.YtipnbcggimpdeaaDoor
open Go.RowKit Go.Shelf
set_option linter.unusedVariables false
set_option linter.unusedSimpArgs false
set_option maxRecDepth 100000
set_option maxRecDepth 100000 in
theorem same24_any (A A' : Option Addr) (c c' : Nat) (p q : Forks) (w : World) (hA : Sl w w.heap.size 2 A p.length (forkV p)) (hA' : Sl w w.heap.size 2 A' q.length (forkV q)) (hp : p.length ≤ 1024) (hq : q.length ≤ 9223372036854775807) :
    Calls Tryd.prog 36 #[.slice A p.length c, .slice A' q.length c'] w fun e w' => e = .returned (.bool (decide (p = q))) ∧ Below w.heap.size w w' := by
  have HA := Lib.hid hA
  have HA' := Lib.hid hA'
  clear hA hA'
  by_cases hlen : q.length = p.length
  · rw [hlen]
    have Hlen := Lib.hid hlen
    clear hlen hq
    go_enter Tryd.func36, Tryd.ntmps36
    go_wp2
    go_loopw [5] (fun i wr => ∃ k : Nat, k ≤ p.length ∧ i = .int .i64 (k : Int) ∧ (∀ j, j < k → p[j]? = q[j]?) ∧ Below w.heap.size w wr) (fun i _ => p.length - (intOf i).toNat)
    case atStart => exact ⟨0, Nat.zero_le _, rfl, fun j h => absurd h (Nat.not_lt_zero j), Below.refl _ _⟩
    case round =>
      obtain ⟨k, hk, rfl, hall, hB⟩ := hrel
      have Hall := Lib.hid hall
      clear hall
      by_cases hlt : k < p.length
      · have hltq : k < q.length := by rw [Hlen.out]; exact hlt
        obtain ⟨b, off, rfl, hb, hcell⟩ := (HA.out).2 (by omega)
        obtain ⟨b', off', rfl, hb', hcell'⟩ := (HA'.out).2 (by omega)
        obtain ⟨x, hx⟩ : ∃ x, x = (p[k]).1 := ⟨_, rfl⟩
        obtain ⟨y, hy⟩ : ∃ y, y = (p[k]).2 := ⟨_, rfl⟩
        obtain ⟨x', hx'⟩ : ∃ x, x = (q[k]).1 := ⟨_, rfl⟩
        obtain ⟨y', hy'⟩ : ∃ y, y = (q[k]).2 := ⟨_, rfl⟩
        have hc1 : wr.cell? ⟨b, off + k * 2, none⟩ = some (.int .u64 x.toNat) := (hB.cell (p := ⟨b, off + k * 2, none⟩) hb).trans (by rw [hx]; exact hcell _ _ (forkV_get1 p k hlt))
        have hc2 : wr.cell? ⟨b, off + k * 2 + 1, none⟩ = some (.bool y) := (hB.cell (p := ⟨b, off + k * 2 + 1, none⟩) hb).trans (by rw [Nat.add_assoc, hy]; exact hcell _ _ (forkV_get2 p k hlt))
        have hc3 : wr.cell? ⟨b', off' + k * 2, none⟩ = some (.int .u64 x'.toNat) := (hB.cell (p := ⟨b', off' + k * 2, none⟩) hb').trans (by rw [hx']; exact hcell' _ _ (forkV_get1 q k hltq))
        have hc4 : wr.cell? ⟨b', off' + k * 2 + 1, none⟩ = some (.bool y') := (hB.cell (p := ⟨b', off' + k * 2 + 1, none⟩) hb').trans (by rw [Nat.add_assoc, hy']; exact hcell' _ _ (forkV_get2 q k hltq))
        have Hx := Lib.hid (And.intro hx (And.intro hy (And.intro hx' hy')))
        have hlt' : (k : Int) < (p.length : Int) := by omega
        clear hcell hcell' hx hy hx' hy'
        by_cases hxx : x = x'
        · by_cases hyy : y = y'
          · have hpq : p[k]? = q[k]? := by
              obtain ⟨h1, h2, h3, h4⟩ := Hx.out
              rw [List.getElem?_eq_getElem hlt, List.getElem?_eq_getElem hltq]
              exact congrArg some (Prod.ext (by rw [← h1, ← h3]; exact hxx) (by rw [← h2, ← h4]; exact hyy))
            have Hpq := Lib.hid hpq
            clear hpq Hx
            subst hxx hyy
            go_wp2
            go_region
            go_wp2
            go_roundw
            case rel =>
              refine ⟨k + 1, by omega, by go_num, ?_, hB.drew⟩
              intro j hj
              by_cases hjk : j < k
              · exact Hall.out j hjk
              · have : j = k := by omega
                rw [this]; exact Hpq.out
            case measure => simp [intOf]; omega
          · have Hyy := Lib.hid hyy
            have hxn : (x.toNat : Int) = (x'.toNat : Int) := by rw [hxx]
            clear hxx
            go_wp2
            go_region
            go_wp2
            go_ret
            refine ⟨?_, hB.drew⟩
            have hf : ¬ p = q := by
              intro e
              obtain ⟨h1, h2, h3, h4⟩ := Hx.out
              subst e
              exact Hyy.out (h2.trans h4.symm)
            rw [decide_eq_false hf]
            rfl
        · have hxn : ¬ ((x.toNat : Int) = (x'.toNat : Int)) := fun e => hxx (UInt64.toNat_inj.1 (by omega))
          have Hxx := Lib.hid hxx
          clear hxx
          go_wp2
          go_region
          go_wp2
          go_ret
          refine ⟨?_, hB.drew⟩
          have hf : ¬ p = q := by
            intro e
            obtain ⟨h1, h2, h3, h4⟩ := Hx.out
            subst e
            exact Hxx.out (h1.trans h3.symm)
          rw [decide_eq_false hf]
          rfl
      · have hE : p = q := by
          apply List.ext_getElem?
          intro j
          by_cases hj : j < p.length
          · exact Hall.out j (by omega)
          · rw [List.getElem?_eq_none (by omega), List.getElem?_eq_none (by rw [Hlen.out]; omega)]
        have HE := Lib.hid hE
        clear hE
        go_wp2
        go_ret
        refine ⟨?_, hB⟩
        rw [decide_eq_true HE.out]
        rfl
  · have hne : ((p.length : Int) != (q.length : Int)) = true := by simp; omega
    have hf : decide (p = q) = false := by
      rw [decide_eq_false]
      exact fun e => hlen (by rw [e])
    rw [hf]
    clear hf
    go_enter Tryd.func36, Tryd.ntmps36
    go_wp2
    go_ret
    exact ⟨rfl, Below.refl _ _⟩
theorem same24_at (A A' : Option Addr) (c c' n : Nat) (p : Forks) (w : World) (hn : p.length = n) (hA : Sl w w.heap.size 2 A n (forkV p)) (hA' : Sl w w.heap.size 2 A' n (forkV p)) (hp : n ≤ 1024) :
    Calls Tryd.prog 36 #[.slice A n c, .slice A' n c'] w fun e w' => e = .returned (.bool true) ∧ Below w.heap.size w w' := by
  subst hn
  have := same24_any A A' c c' p p w hA hA' hp (by omega)
  rw [decide_eq_true (rfl : p = p)] at this
  exact this
set_option maxHeartbeats 4000000 in
theorem sameshown_ok (i : Int) (l : ByteArray) (c : Int) (r : ByteArray) (b : Int) (PA PA' : Option Addr) (pc pc' n : Nat) (p : Forks) (w : World) (hn : p.length = n) (hA : Sl w w.heap.size 2 PA n (forkV p)) (hA' : Sl w w.heap.size 2 PA' n (forkV p)) (hp : n ≤ 1024) :
    Calls Tryd.prog 13 #[.agg #[.int .i64 i, .string l, .int .i64 c, .string r, .int .i64 b, .slice PA n pc], .agg #[.int .i64 i, .string l, .int .i64 c, .string r, .int .i64 b, .slice PA' n pc']] w fun e w' => e = .returned (.bool true) ∧ Below w.heap.size w w' := by
  have HA := Lib.hid (hA.al (.cells #[.int .i64 i, .string l, .int .i64 c, .string r, .int .i64 b, .slice PA n pc] 45))
  have HA2 := Lib.hid (HA.out.al (.cells #[.int .i64 i, .string l, .int .i64 c, .string r, .int .i64 b, .slice PA' n pc'] 45))
  have HB := Lib.hid (hA'.al (.cells #[.int .i64 i, .string l, .int .i64 c, .string r, .int .i64 b, .slice PA n pc] 45))
  have HB2 := Lib.hid (HB.out.al (.cells #[.int .i64 i, .string l, .int .i64 c, .string r, .int .i64 b, .slice PA' n pc'] 45))
  clear hA hA' HA HB
  go_enter Tryd.func13, Tryd.ntmps13
  go_wp2_with fail
  refine (same24_at PA PA' pc pc' n p _ hn HA2.out HB2.out hp).mono ?_
  rintro e w1 ⟨rfl, hB1⟩
  go_wp2_with fail
  go_ret
  exact ⟨rfl, bgo (bal (bal (Below.refl _ _) _) _) hB1⟩
end Go.Proofs.YtipnbcggimpdeaaDoor
