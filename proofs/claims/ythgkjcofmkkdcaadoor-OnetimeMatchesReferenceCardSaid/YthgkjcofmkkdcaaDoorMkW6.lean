/- The walks of package merkle, sixth part: proper, climb, Verify. -/
import Derived.Test.YthgkjcofmkkdcaaDoorMkW5
namespace Go.Proofs.YthgkjcofmkkdcaaDoor
open Go.RowKit Go.Shelf
set_option linter.unusedVariables false
def properB (n i : Int) (p : List (UInt64 × Bool)) : Bool := decide (sidesOk n i ∧ sidesL n i = p.map (·.2))
theorem forkV_get1 (p : List (UInt64 × Bool)) (k : Nat) (h : k < p.length) : (forkV p)[k * 2]? = some (.int .u64 (p[k]).1.toNat) := by
  induction p generalizing k with
  | nil => cases h
  | cons a p ih =>
    cases k with
    | zero => rfl
    | succ k => rw [show (k + 1) * 2 = k * 2 + 2 from by omega]; exact ih k (by simpa using h)
theorem forkV_get2 (p : List (UInt64 × Bool)) (k : Nat) (h : k < p.length) : (forkV p)[k * 2 + 1]? = some (.bool (p[k]).2) := by
  induction p generalizing k with
  | nil => cases h
  | cons a p ih =>
    cases k with
    | zero => rfl
    | succ k => rw [show (k + 1) * 2 + 1 = k * 2 + 1 + 2 from by omega]; exact ih k (by simpa using h)
theorem sidesF_len : ∀ (f n i : Nat), (Mk.sidesF f n i).length ≤ f
  | 0, _, _ => Nat.le_refl _
  | f + 1, n, i => by
    rw [Mk.sidesF]
    split
    · exact Nat.zero_le _
    · have h1 := sidesF_len f ((n + 1) / 2) (i / 2)
      have h2 : (Mk.sideOf n i).length ≤ 1 := by unfold Mk.sideOf; split <;> simp
      rw [List.length_append]; omega
theorem sidesL_len (n i : Int) : (sidesL n i).length ≤ 10 := by
  unfold sidesL
  split
  · exact sidesF_len _ _ _
  · exact Nat.zero_le _
set_option maxRecDepth 100000 in
theorem proper_any (A : Option Addr) (c : Nat) (n i : Int) (p : List (UInt64 × Bool)) (w : World) (hA : Sl w w.heap.size 2 A p.length (forkV p)) :
    Calls Tryd.prog 58 #[.int .i64 n, .int .i64 i, .slice A p.length c] w fun e w' => e = .returned (.bool (properB n i p)) ∧ Below w.heap.size w w' := by
  have HA := Lib.hid hA
  clear hA
  go_enter Tryd.func58, Tryd.ntmps58
  go_wp2_with fail
  refine (sides_any _ _ _).mono ?_
  rintro e w1 ⟨v, rfl, hown, hB⟩
  obtain ⟨S, hS⟩ : ∃ S, S = sidesL n i := ⟨_, rfl⟩
  rw [← hS] at hown
  by_cases hok : sidesOk n i
  · rw [decide_eq_true hok]
    by_cases hlen : S.length = p.length
    · have hp10 : p.length ≤ 10 := by rw [← hlen, hS]; exact sidesL_len _ _
      obtain ⟨cap, A2, hv⟩ : ∃ cap A2, v = .slice A2 p.length cap := by
        rw [← hlen]
        rcases hown.2 with ⟨h, h0⟩ | ⟨g, cap, cur, h, _⟩
        · exact ⟨0, none, by rw [h, h0]⟩
        · exact ⟨cap, _, h⟩
      subst hv
      have hpb : properB n i p = decide (S = p.map (·.2)) := by unfold properB; rw [← hS]; simp [hok]
      have Hown := Lib.hid hown
      have Hpb := Lib.hid hpb
      have Hok := Lib.hid hok
      have Hlen := Lib.hid hlen
      have HS := Lib.hid hS
      clear hown hpb hok hlen hS
      go_wp2
      go_loopw [28] (fun v wr => ∃ k : Nat, k ≤ p.length ∧ v = .int .i64 (k : Int) ∧ Below w1.heap.size w1 wr ∧ ∀ j, j < k → S[j]? = (p.map (·.2))[j]?) (fun v _ => p.length - (intOf v).toNat)
      case atStart => exact ⟨0, Nat.zero_le _, rfl, Below.refl _ _, fun j hj => absurd hj (Nat.not_lt_zero j)⟩
      case round =>
        obtain ⟨k, hk, rfl, hB1, hall⟩ := hrel
        have hB2 := hB.trans (hB1.mono hB.size)
        have Hall := Lib.hid hall
        clear hall
        by_cases hlt : k < p.length
        · obtain ⟨b, off, rfl, hb, hcell⟩ := (HA.out).2 (by omega)
          have hc : wr.cell? ⟨b, off + k * 2 + 1, none⟩ = some (.bool (p[k]).2) := (hB2.cell (p := ⟨b, off + k * 2 + 1, none⟩) hb).trans (by rw [Nat.add_assoc]; exact hcell _ _ (forkV_get2 p k hlt))
          obtain ⟨g, cur, hA2, hc2⟩ : ∃ g cur, A2 = some ⟨g, 0, none⟩ ∧ wr.cell? ⟨g, k, none⟩ = some (.bool (S.getD k false)) := by
            have hown := own_below Hown.out hB1
            have hSl := Hlen.out
            have hcap : ∃ g cap', Value.slice A2 p.length cap = .slice (some ⟨g, 0, none⟩) p.length cap' := by
              obtain ⟨n', hn'⟩ : ∃ n', p.length = n' + 1 := ⟨p.length - 1, by omega⟩
              rw [hSl] at hown
              rw [hn'] at hown ⊢
              exact ownsRow_succ hown
            obtain ⟨g, cap', e⟩ := hcap
            injection e with e1 e2 e3
            subst e1; subst e3
            rw [← hSl] at hown
            exact ⟨g, 0, rfl, (hown.cellAt k (by omega)).trans (by simp [boolV, List.getD, show k < S.length from by omega])⟩
          subst hA2
          obtain ⟨x, hx⟩ : ∃ x, x = (p[k]).2 := ⟨_, rfl⟩
          obtain ⟨y, hy⟩ : ∃ y, y = S.getD k false := ⟨_, rfl⟩
          rw [← hx] at hc
          rw [← hy] at hc2
          have Hx := Lib.hid hx
          have Hy := Lib.hid hy
          have hlt' : (k : Int) < (p.length : Int) := by omega
          clear hcell hx hy
          cases x
          · cases y
            · go_wp2
              go_roundw
              case rel =>
                refine ⟨k + 1, by omega, by go_num, hB1, ?_⟩
                intro j hj
                by_cases hjk : j < k
                · exact Hall.out j hjk
                · have : j = k := by omega
                  subst this
                  have hlS := Hlen.out
                  have := Hx.out.symm.trans Hy.out
                  simp only [List.getElem?_map, List.getElem?_eq_getElem hlt, Option.map_some, this]
                  rw [List.getElem?_eq_getElem (by omega)]
                  simp [List.getD, show j < S.length from by omega]
              case measure => simp [intOf]; omega
            · go_wp2
              go_ret
              refine ⟨?_, hB2⟩
              have hdf : ¬ S = p.map (·.2) := by
                intro e
                have h1 := Hx.out
                have h2 := Hy.out
                rw [e] at h2
                simp [List.getD, hlt] at h2
                rw [← h1] at h2
                cases h2
              rw [Hpb.out, decide_eq_false hdf]
              rfl
          · cases y
            · go_wp2
              go_ret
              refine ⟨?_, hB2⟩
              have hdf : ¬ S = p.map (·.2) := by
                intro e
                have h1 := Hx.out
                have h2 := Hy.out
                rw [e] at h2
                simp [List.getD, hlt] at h2
                rw [← h1] at h2
                cases h2
              rw [Hpb.out, decide_eq_false hdf]
              rfl
            · go_wp2
              go_roundw
              case rel =>
                refine ⟨k + 1, by omega, by go_num, hB1, ?_⟩
                intro j hj
                by_cases hjk : j < k
                · exact Hall.out j hjk
                · have : j = k := by omega
                  subst this
                  have hlS := Hlen.out
                  have := Hx.out.symm.trans Hy.out
                  simp only [List.getElem?_map, List.getElem?_eq_getElem hlt, Option.map_some, this]
                  rw [List.getElem?_eq_getElem (by omega)]
                  simp [List.getD, show j < S.length from by omega]
              case measure => simp [intOf]; omega
        · have : k = p.length := by omega
          subst this
          have hE : S = p.map (·.2) := by
            apply List.ext_getElem?
            intro j
            by_cases hj : j < p.length
            · exact Hall.out j hj
            · rw [List.getElem?_eq_none (by have := Hlen.out; omega), List.getElem?_eq_none (by simp; omega)]
          have HE := Lib.hid hE
          clear hE
          go_wp2
          go_ret
          refine ⟨?_, hB2⟩
          rw [Hpb.out, decide_eq_true HE.out]
          rfl
    · have hpb : properB n i p = false := by
        unfold properB
        rw [decide_eq_false]
        rintro ⟨_, h⟩
        rw [← hS] at h
        exact hlen (by rw [h]; simp)
      obtain ⟨cap, A2, hv⟩ : ∃ cap A2, v = .slice A2 S.length cap := by
        rcases hown.2 with ⟨h, h0⟩ | ⟨g, cap, cur, h, _⟩
        · exact ⟨0, none, by rw [h, h0]⟩
        · exact ⟨cap, _, h⟩
      subst hv
      have hne : ((S.length : Int) != (p.length : Int)) = true := by simp; omega
      have Hpb := Lib.hid hpb
      clear hpb hown hS hlen hok
      go_wp2
      go_ret
      exact ⟨by rw [Hpb.out]; rfl, hB⟩
  · have hpb : properB n i p = false := by unfold properB; simp [hok]
    have hdf := decide_eq_false hok
    have Hpb := Lib.hid hpb
    clear hpb hown hS hok
    go_wp2
    go_ret
    exact ⟨by rw [Hpb.out]; rfl, hB⟩
end Go.Proofs.YthgkjcofmkkdcaaDoor
