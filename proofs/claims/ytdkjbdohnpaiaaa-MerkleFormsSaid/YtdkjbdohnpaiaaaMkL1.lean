/- The law package of merkle, first part: leaf, small, Same. -/
import Derived.Test.YtdkjbdohnpaiaaaMkW9
import Derived.BigQuiet
namespace Go.Proofs.Ytdkjbdohnpaiaaa
open Go.RowKit Go.Shelf
set_option linter.unusedVariables false
theorem lleaf_any (s : ByteArray) (w : World) (hs : s.size ≤ 140737488355328) : Calls Try.prog 24 #[.string s] w fun e w' => e = .returned (.int .u64 (Mk.leafD s.data.toList).toNat) ∧ w = w' := by
  have h1 : ¬ (9223372036854775807 < 1 + s.size) := by omega
  go_enter Try.func24, Try.ntmps24
  go_wp2_with fail
  refine (sum_any _ _ (by rw [ByteArray.size_append]; show 1 + s.size ≤ maxLen; unfold maxLen; omega)).mono ?_
  rintro e w' ⟨rfl, rfl⟩
  go_wp2
  go_ret
  refine ⟨?_, rfl⟩
  have e : (⟨#[0]⟩ : ByteArray) ++ s = ⟨(0 :: s.data.toList).toArray⟩ := by apply ByteArray.ext; simp [ByteArray.data_append]
  rw [e]
  rfl
def smallB (ss : List ByteArray) : Bool := decide (ss.length ≤ 80 ∧ ∀ s ∈ ss, s.size ≤ 60)
theorem small_any (A : Option Addr) (c : Nat) (ss : List ByteArray) (w : World) (hA : Sl w w.heap.size 1 A ss.length (strV ss)) : Calls Try.prog 12 #[.slice A ss.length c] w fun e w' => e = .returned (.bool (smallB ss)) ∧ w = w' := by
  have HA := Lib.hid hA
  clear hA
  by_cases h80 : ss.length ≤ 80
  · have hd : decide ((80 : Int) < (ss.length : Int)) = false := by simp; omega
    go_enter Try.func12, Try.ntmps12
    go_wp2
    go_loopw [3] (fun i wr => ∃ k : Nat, k ≤ ss.length ∧ i = .int .i64 (k : Int) ∧ (∀ s ∈ ss.take k, s.size ≤ 60) ∧ w = wr) (fun i _ => ss.length - (intOf i).toNat)
    case atStart => exact ⟨0, Nat.zero_le _, rfl, fun s h => by simp at h, rfl⟩
    case round =>
      obtain ⟨k, hk, rfl, hall, hw⟩ := hrel
      have Hall := Lib.hid hall
      have Hw := Lib.hid hw
      clear hall
      by_cases hlt : k < ss.length
      · obtain ⟨b, off, rfl, hb, hcell⟩ := (HA.out).2 (by omega)
        have hc : wr.cell? ⟨b, off + k, none⟩ = some (.string ss[k]) := by rw [← hw]; exact hcell k _ (by simp [strV, hlt])
        obtain ⟨x, hx⟩ : ∃ x, x = ss[k] := ⟨_, rfl⟩
        rw [← hx] at hc
        have Hx := Lib.hid hx
        have hlt' : (k : Int) < (ss.length : Int) := by omega
        clear hcell hw hx
        by_cases h60 : x.size ≤ 60
        · have hd6 : decide ((60 : Int) < (x.size : Int)) = false := by simp; omega
          go_wp2
          go_roundw
          case rel =>
            refine ⟨k + 1, by omega, by go_num, ?_, Hw.out⟩
            intro s hs
            rw [List.take_succ_eq_append_getElem hlt, List.mem_append] at hs
            rcases hs with hs | hs
            · exact Hall.out s hs
            · rw [List.mem_singleton.1 hs, ← Hx.out]; exact h60
          case measure => simp [intOf]; omega
        · have hd6 : decide ((60 : Int) < (x.size : Int)) = true := by simp; omega
          go_wp2
          go_ret
          refine ⟨?_, Hw.out⟩
          have : smallB ss = false := by
            unfold smallB
            rw [decide_eq_false]
            rintro ⟨_, h⟩
            exact h60 (by rw [Hx.out]; exact h _ (List.getElem_mem hlt))
          rw [this]
          rfl
      · have hkn : ss.take k = ss := List.take_of_length_le (by omega)
        rw [hkn] at Hall
        clear hkn hw
        go_wp2
        go_ret
        refine ⟨?_, Hw.out⟩
        have : smallB ss = true := decide_eq_true ⟨h80, Hall.out⟩
        rw [this]
        rfl
  · have hd : decide ((80 : Int) < (ss.length : Int)) = true := by simp; omega
    have hf : smallB ss = false := by
      unfold smallB
      rw [decide_eq_false]
      exact fun h => h80 h.1
    rw [hf]
    clear hf
    go_enter Try.func12, Try.ntmps12
    go_wp2
    go_ret
    exact ⟨rfl, rfl⟩
set_option maxRecDepth 100000 in
theorem same_any (A A' : Option Addr) (c c' : Nat) (p q : Forks) (w : World) (hA : Sl w w.heap.size 2 A p.length (forkV p)) (hA' : Sl w w.heap.size 2 A' q.length (forkV q)) (hp : p.length ≤ 1024) (hq : q.length ≤ 9223372036854775807) :
    Calls Try.prog 17 #[.slice A p.length c, .slice A' q.length c'] w fun e w' => e = .returned (.bool (decide (p = q))) ∧ Below w.heap.size w w' := by
  have HA := Lib.hid hA
  have HA' := Lib.hid hA'
  clear hA hA'
  by_cases hlen : q.length = p.length
  · rw [hlen]
    have Hlen := Lib.hid hlen
    clear hlen hq
    go_enter Try.func17, Try.ntmps17
    go_wp2
    go_loopw [5] (fun i wr => ∃ k : Nat, k ≤ p.length ∧ i = .int .i64 (k : Int) ∧ (∀ j, j < k → p[j]? = q[j]?) ∧ Below w.heap.size w wr) (fun i _ => p.length - (intOf i).toNat)
    case atStart => exact ⟨0, Nat.zero_le _, rfl, fun j h => absurd h (Nat.not_lt_zero j), Below.refl _ _⟩
    case round =>
      obtain ⟨k, hk, rfl, hall, hB⟩ := hrel
      have Hall := Lib.hid hall
      clear hall
      by_cases hlt : k < p.length
      · have hltq : k < q.length := by rw [Hlen.out]; exact hlt
        obtain ⟨b, off, rfl, hb, hcell⟩ := (HA.out).2 (by omega)
        obtain ⟨b', off', rfl, hb', hcell'⟩ := (HA'.out).2 (by omega)
        obtain ⟨x, hx⟩ : ∃ x, x = (p[k]).1 := ⟨_, rfl⟩
        obtain ⟨y, hy⟩ : ∃ y, y = (p[k]).2 := ⟨_, rfl⟩
        obtain ⟨x', hx'⟩ : ∃ x, x = (q[k]).1 := ⟨_, rfl⟩
        obtain ⟨y', hy'⟩ : ∃ y, y = (q[k]).2 := ⟨_, rfl⟩
        have hc1 : wr.cell? ⟨b, off + k * 2, none⟩ = some (.int .u64 x.toNat) := (hB.cell (p := ⟨b, off + k * 2, none⟩) hb).trans (by rw [hx]; exact hcell _ _ (forkV_get1 p k hlt))
        have hc2 : wr.cell? ⟨b, off + k * 2 + 1, none⟩ = some (.bool y) := (hB.cell (p := ⟨b, off + k * 2 + 1, none⟩) hb).trans (by rw [Nat.add_assoc, hy]; exact hcell _ _ (forkV_get2 p k hlt))
        have hc3 : wr.cell? ⟨b', off' + k * 2, none⟩ = some (.int .u64 x'.toNat) := (hB.cell (p := ⟨b', off' + k * 2, none⟩) hb').trans (by rw [hx']; exact hcell' _ _ (forkV_get1 q k hltq))
        have hc4 : wr.cell? ⟨b', off' + k * 2 + 1, none⟩ = some (.bool y') := (hB.cell (p := ⟨b', off' + k * 2 + 1, none⟩) hb').trans (by rw [Nat.add_assoc, hy']; exact hcell' _ _ (forkV_get2 q k hltq))
        have Hx := Lib.hid (And.intro hx (And.intro hy (And.intro hx' hy')))
        have hlt' : (k : Int) < (p.length : Int) := by omega
        clear hcell hcell' hx hy hx' hy'
        by_cases hxx : x = x'
        · by_cases hyy : y = y'
          · have hpq : p[k]? = q[k]? := by
              obtain ⟨h1, h2, h3, h4⟩ := Hx.out
              rw [List.getElem?_eq_getElem hlt, List.getElem?_eq_getElem hltq]
              exact congrArg some (Prod.ext (by rw [← h1, ← h3]; exact hxx) (by rw [← h2, ← h4]; exact hyy))
            have Hpq := Lib.hid hpq
            clear hpq Hx
            subst hxx hyy
            go_wp2
            go_region
            go_wp2
            go_roundw
            case rel =>
              refine ⟨k + 1, by omega, by go_num, ?_, hB.drew⟩
              intro j hj
              by_cases hjk : j < k
              · exact Hall.out j hjk
              · have : j = k := by omega
                rw [this]; exact Hpq.out
            case measure => simp [intOf]; omega
          · have Hyy := Lib.hid hyy
            have hxn : (x.toNat : Int) = (x'.toNat : Int) := by rw [hxx]
            clear hxx
            go_wp2
            go_region
            go_wp2
            go_ret
            refine ⟨?_, hB.drew⟩
            have hf : ¬ p = q := by
              intro e
              obtain ⟨h1, h2, h3, h4⟩ := Hx.out
              subst e
              exact Hyy.out (h2.trans h4.symm)
            rw [decide_eq_false hf]
            rfl
        · have hxn : ¬ ((x.toNat : Int) = (x'.toNat : Int)) := fun e => hxx (UInt64.toNat_inj.1 (by omega))
          have Hxx := Lib.hid hxx
          clear hxx
          go_wp2
          go_region
          go_wp2
          go_ret
          refine ⟨?_, hB.drew⟩
          have hf : ¬ p = q := by
            intro e
            obtain ⟨h1, h2, h3, h4⟩ := Hx.out
            subst e
            exact Hxx.out (h1.trans h3.symm)
          rw [decide_eq_false hf]
          rfl
      · have hE : p = q := by
          apply List.ext_getElem?
          intro j
          by_cases hj : j < p.length
          · exact Hall.out j (by omega)
          · rw [List.getElem?_eq_none (by omega), List.getElem?_eq_none (by rw [Hlen.out]; omega)]
        have HE := Lib.hid hE
        clear hE
        go_wp2
        go_ret
        refine ⟨?_, hB⟩
        rw [decide_eq_true HE.out]
        rfl
  · have hne : ((p.length : Int) != (q.length : Int)) = true := by simp; omega
    have hf : decide (p = q) = false := by
      rw [decide_eq_false]
      exact fun e => hlen (by rw [e])
    rw [hf]
    clear hf
    go_enter Try.func17, Try.ntmps17
    go_wp2
    go_ret
    exact ⟨rfl, Below.refl _ _⟩
end Go.Proofs.Ytdkjbdohnpaiaaa
