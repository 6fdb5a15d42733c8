/- Products of commitments, plain. -/
import Derived.Test.YtipnbcggimpdeaaDoorQ24
namespace Go.Proofs.YtipnbcggimpdeaaDoor
open Go.RowKit Go.Shelf
set_option linter.unusedVariables false
set_option linter.unusedSimpArgs false
set_option maxRecDepth 100000
theorem commit_mul (v b v' b' : Nat) : commitI (v : Int) (b : Int) * commitI (v' : Int) (b' : Int) % 2147483579 = commitI (((v + v') % Grp.Q : Nat) : Int) (((b + b') % Grp.Q : Nat) : Int) := by
  rw [commitI_nat, commitI_nat, commitI_nat, mulI_nat]
  congr 1
  have h4 : 4 ^ ((v + v') % Grp.Q) % Grp.P = 4 ^ (v + v') % Grp.P := (Grp.el_4.red (v + v')).symm
  have h9 : 9 ^ ((b + b') % Grp.Q) % Grp.P = 9 ^ (b + b') % Grp.P := (Grp.el_9.red (b + b')).symm
  rw [Grp.mc h4 h9, ← Nat.mul_mod]
  have e : 4 ^ v * 9 ^ b * (4 ^ v' * 9 ^ b') = 4 ^ (v + v') * 9 ^ (b + b') := by
    rw [Nat.pow_add, Nat.pow_add, Nat.mul_mul_mul_comm]
  rw [e]
theorem commit_one : commitI 0 0 = 1 := by decide +kernel
theorem commit_el (v b : Nat) : elB (commitI (v : Int) (b : Int)) = true := by
  rw [commitI_nat, elB_nat]
  exact ⟨Nat.mod_lt _ Grp.P_pos, ((Grp.el_4.pow' v).mul' (Grp.el_9.pow' b)).mod⟩
/-- The product of the hidden ones of the first k commitments. -/
def prodH (cs : List Int) (hs : List Bool) : Nat → Int
  | 0 => 1
  | k + 1 => if hs.getD k false = true then prodH cs hs k * cs.getD k 0 % 2147483579 else prodH cs hs k
theorem prod_sum (cs bl com : List Int) (hs : List Bool) (n : Nat) (hb : ∀ j, j < n → 0 ≤ bl.getD j 0 ∧ bl.getD j 0 < 1073741789) (hc : ∀ j, j < n → com.getD j 0 = commitI (cs.getD j 0 % 1073741789) (bl.getD j 0)) :
    ∀ k, k ≤ n → prodH com hs k = commitI (sumH cs hs k % 1073741789) (sumH bl hs k % 1073741789) ∧ elB (prodH com hs k) = true := by
  intro k
  induction k with
  | zero => intro _; exact ⟨commit_one.symm, by have := commit_el 0 0; rw [show ((0 : Nat) : Int) = 0 from rfl, commit_one] at this; exact this⟩
  | succ k ih =>
    intro hk
    obtain ⟨h1, h2⟩ := ih (by omega)
    rw [sumH_snoc, sumH_snoc]
    show (if hs.getD k false = true then _ else _) = _ ∧ elB (if hs.getD k false = true then _ else _) = true
    by_cases h : hs.getD k false = true
    · rw [if_pos h, if_pos h, if_pos h, hc k (by omega), h1]
      obtain ⟨b1, b2⟩ := hb k (by omega)
      obtain ⟨v, hv⟩ : ∃ v : Nat, sumH cs hs k % 1073741789 = v := ⟨(sumH cs hs k % 1073741789).toNat, by omega⟩
      obtain ⟨b, hb'⟩ : ∃ v : Nat, sumH bl hs k % 1073741789 = v := ⟨(sumH bl hs k % 1073741789).toNat, by omega⟩
      obtain ⟨v', hv'⟩ : ∃ v : Nat, cs.getD k 0 % 1073741789 = v := ⟨(cs.getD k 0 % 1073741789).toNat, by omega⟩
      obtain ⟨b', hbk⟩ : ∃ v : Nat, bl.getD k 0 = v := ⟨(bl.getD k 0).toNat, by omega⟩
      rw [hv, hb', hv', hbk, commit_mul]
      have e1 : (sumH cs hs k + cs.getD k 0) % 1073741789 = (((v + v') % Grp.Q : Nat) : Int) := by
        show _ = (((v + v') % 1073741789 : Nat) : Int)
        omega
      have e2 : (sumH bl hs k + (b' : Int)) % 1073741789 = (((b + b') % Grp.Q : Nat) : Int) := by
        show _ = (((b + b') % 1073741789 : Nat) : Int)
        omega
      rw [e1, e2]
      exact ⟨rfl, commit_el _ _⟩
    · rw [if_neg h, if_neg h, if_neg h, Int.add_zero, Int.add_zero]
      exact ⟨h1, h2⟩
/-- A selection has no more rows than there are. -/
theorem sel_le {sel : List Int} {n : Nat} (h : ∀ k, k < sel.length → selAt sel (n : Int) k) : sel.length ≤ n := by
  have hk : ∀ k, k < sel.length → (k : Int) ≤ sel.getD k 0 := by
    intro k
    induction k with
    | zero => intro hk; have := (h 0 hk).1; omega
    | succ k ih =>
      intro hk
      have h1 := ih (by omega)
      have h2 := (h (k + 1) hk).2.2 (by omega)
      have e : k + 1 - 1 = k := rfl
      rw [e] at h2
      omega
  by_cases h0 : sel.length = 0
  · omega
  · have h1 := hk (sel.length - 1) (by omega)
    have h2 := (h (sel.length - 1) (by omega)).2.1
    omega
/-- What the cells of a disclosure's shown rows hold. -/
theorem shm_len (l : List ShM) : (shmsV l).length = l.length * 6 := flat_len shmV 6 (fun _ => rfl) l
theorem shm_get (l : List ShM) (k : Nat) (h : k < l.length) (j : Nat) (hj : j < 6) : (shmsV l)[k * 6 + j]? = (shmV l[k])[j]? := flat_get shmV 6 (fun _ => rfl) l k h j hj
/-- The shown rows have the form of a disclosure of n rows. -/
def WholeK (ms : List ShM) (n : Nat) : Prop := ∀ k (h : k < ms.length), 0 ≤ ms[k].idx ∧ ms[k].idx < (n : Int) ∧ (∀ h2 : 0 < k, (ms[k - 1]'(by omega)).idx < ms[k].idx) ∧ ms[k].p.length ≤ 20
set_option maxHeartbeats 8000000 in
/-- whole, where a disclosure has the form. -/
theorem whole_ok (f : DF) (n base : Nat) (com : List Int) (ms : List ShM) (ch : List UInt64) (p : Forks) (w : World) (hd : DRows w base f com ms ch p) (hnc : f.nc = n) (hns : f.ns = ms.length) (hle : ms.length ≤ n) (hn : n ≤ 1000) (hW : WholeK ms n) :
    Calls Tryd.prog 16 #[.agg f.cells, .int .i64 (n : Int)] w fun e w' => e = .returned (.bool true) ∧ Below w.heap.size w w' := by
  obtain ⟨ap, am, ar, aC, anc, acc, aS, ans, acs, ahid, abld, asi, aSA, ana, aca, aSB, anb, acb⟩ := f
  obtain rfl : n = anc := hnc.symm
  obtain ⟨q, hq⟩ : ∃ q, ms.length = q := ⟨_, rfl⟩
  rw [hq] at hns hle
  obtain rfl : q = ans := hns.symm
  have hown := hd.s
  obtain ⟨S', sc', hS', hSl⟩ := own_slice hown
  have eS : aS = S' := by injection hS'
  subst eS
  have HSl := Lib.hid hSl
  have HW := Lib.hid hW
  have Hq := Lib.hid hq
  clear hd hown hS' hSl hW hq hns hnc
  show Calls _ _ #[.agg #[.string ap, .int .i64 am, .int .u64 ar.toNat, .slice aC n acc, .slice aS q acs, .int .i64 ahid, .int .i64 abld, .int .i64 asi, .slice aSA ana aca, .slice aSB anb acb], .int .i64 (n : Int)] _ _
  have hne : ((n : Int) != (n : Int)) = false := by simp
  have hgt : ¬ (n : Int) < (q : Int) := by omega
  go_enter Tryd.func16, Tryd.ntmps16
  go_wp2_with fail
  obtain ⟨V, hV⟩ : ∃ Q : World, Q = w.alloc (.cells #[.string ap, .int .i64 am, .int .u64 ar.toNat, .slice aC n acc, .slice aS q acs, .int .i64 ahid, .int .i64 abld, .int .i64 asi, .slice aSA ana aca, .slice aSB anb acb] 38) := ⟨_, rfl⟩
  rw [← hV]
  have hBV : Below w.heap.size w V := by rw [hV]; exact bal (Below.refl _ _) _
  have gV : V.heap[w.heap.size]? = some (.cells #[.string ap, .int .i64 am, .int .u64 ar.toNat, .slice aC n acc, .slice aS q acs, .int .i64 ahid, .int .i64 abld, .int .i64 asi, .slice aSA ana aca, .slice aSB anb acb] 38 (0, 0)) := by rw [hV]; exact World.alloc_heap_new _ _
  have c4 : V.cell? ⟨w.heap.size, 4, none⟩ = some (.slice aS q acs) := by rw [Lib.cell_of_heap gV]; rfl
  clear hV gV hne hgt
  go_loop [5] (fun i => ∃ k : Nat, k ≤ q ∧ i = .int .i64 (k : Int)) (fun i => q - (intOf i).toNat)
  case atStart => exact ⟨0, Nat.zero_le _, rfl⟩
  case round =>
    obtain ⟨k, hk, rfl⟩ := hrel
    by_cases hlt : k < q
    · have hlt' : (k : Int) < (q : Int) := by omega
      obtain ⟨b, off, rfl, hb, hcell⟩ := HSl.out.2 (by omega)
      have hkl : k < ms.length := by rw [Hq.out]; exact hlt
      obtain ⟨w1, w2, w3, w4⟩ := HW.out k hkl
      have y0 : V.cell? ⟨b, off + k * 6, none⟩ = some (.int .i64 ms[k].idx) := (hBV.cell (p := ⟨b, off + k * 6, none⟩) hb).trans (hcell _ _ (shm_get ms k hkl 0 (by decide)))
      have y5 : V.cell? ⟨b, off + k * 6 + 5, none⟩ = some (.slice ms[k].PA ms[k].p.length ms[k].pc) := (hBV.cell (p := ⟨b, off + k * 6 + 5, none⟩) hb).trans (hcell _ _ (shm_get ms k hkl 5 (by decide)))
      obtain ⟨x, hx⟩ : ∃ x, ms[k] = x := ⟨_, rfl⟩
      rw [hx] at w1 w2 w3 w4 y0 y5
      obtain ⟨xi, xrow, xb, xPA, xpc, xp⟩ := x
      dsimp only at w1 w2 w3 w4 y0 y5
      obtain ⟨xl, hxl⟩ : ∃ n, xp.length = n := ⟨_, rfl⟩
      rw [hxl] at w4 y5
      have w4' : ¬ (20 : Int) < (xl : Int) := by omega
      have w1' : ¬ xi < 0 := by omega
      have w2' : ¬ (n : Int) ≤ xi := by omega
      by_cases hk0 : k = 0
      · subst hk0
        rw [Nat.zero_mul, Nat.add_zero] at y0 y5
        clear w3 hx hxl
        go_wp2
        go_round
        case rel => exact ⟨1, by omega, by go_num⟩
        case measure => simp [intOf]; omega
      · obtain ⟨j, hj⟩ : ∃ j, k - 1 = j := ⟨_, rfl⟩
        have w3 := w3 (by omega)
        have hjl : j < ms.length := by omega
        have z0 : V.cell? ⟨b, off + j * 6, none⟩ = some (.int .i64 (ms[j]'hjl).idx) := (hBV.cell (p := ⟨b, off + j * 6, none⟩) hb).trans (hcell _ _ (shm_get ms j hjl 0 (by decide)))
        simp only [hj] at w3
        obtain ⟨y, hy⟩ : ∃ y, (ms[j]'hjl).idx = y := ⟨_, rfl⟩
        rw [hy] at w3 z0
        have w3' : ¬ xi ≤ y := by omega
        have e1 : (k : Int) - 1 = (j : Int) := by omega
        have e2 : (0 : Int) < (k : Int) := by omega
        have e3 : (j : Int) < (q : Int) := by omega
        clear hx hxl hy hj hk0
        go_wp2
        go_round
        case rel => exact ⟨k + 1, by omega, by go_num⟩
        case measure => simp [intOf]; omega
    · obtain rfl : q = k := by omega
      go_wp2
      go_ret
      exact ⟨rfl, hBV⟩
end Go.Proofs.YtipnbcggimpdeaaDoor
