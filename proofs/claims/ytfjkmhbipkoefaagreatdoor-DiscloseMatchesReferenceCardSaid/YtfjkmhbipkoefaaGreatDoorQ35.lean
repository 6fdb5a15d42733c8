/- Products of commitments, plain. Shown rows that say the same are the same (layer 36's reference). The walk of the reference's Same (layer 36) on two disclosures that say the same. What the law of the reference rests on (layer 36). -/
import Derived.Test.YtfjkmhbipkoefaaGreatDoorQ23
import Derived.Test.YtfjkmhbipkoefaaGreatDoorQ05
import Derived.BigQuiet
import Derived.Test.YtfjkmhbipkoefaaGreatDoorQ24
import Derived.Test.YtfjkmhbipkoefaaGreatDoorQ32
import Derived.Test.YtfjkmhbipkoefaaGreatDoorQ34
namespace Go.Proofs.YtfjkmhbipkoefaaGreatDoor
open Go.RowKit Go.Shelf
set_option linter.unusedVariables false
set_option linter.unusedSimpArgs false
set_option maxRecDepth 100000
theorem commit_mul (v b v' b' : Nat) : commitI (v : Int) (b : Int) * commitI (v' : Int) (b' : Int) % 2147483579 = commitI (((v + v') % Grp.Q : Nat) : Int) (((b + b') % Grp.Q : Nat) : Int) := by
  rw [commitI_nat, commitI_nat, commitI_nat, mulI_nat]
  congr 1
  have h4 : 4 ^ ((v + v') % Grp.Q) % Grp.P = 4 ^ (v + v') % Grp.P := (Grp.el_4.red (v + v')).symm
  have h9 : 9 ^ ((b + b') % Grp.Q) % Grp.P = 9 ^ (b + b') % Grp.P := (Grp.el_9.red (b + b')).symm
  rw [Grp.mc h4 h9, ← Nat.mul_mod]
  have e : 4 ^ v * 9 ^ b * (4 ^ v' * 9 ^ b') = 4 ^ (v + v') * 9 ^ (b + b') := by
    rw [Nat.pow_add, Nat.pow_add, Nat.mul_mul_mul_comm]
  rw [e]
theorem commit_one : commitI 0 0 = 1 := by decide +kernel
theorem commit_el (v b : Nat) : elB (commitI (v : Int) (b : Int)) = true := by
  rw [commitI_nat, elB_nat]
  exact ⟨Nat.mod_lt _ Grp.P_pos, ((Grp.el_4.pow' v).mul' (Grp.el_9.pow' b)).mod⟩
/-- The product of the hidden ones of the first k commitments. -/
def prodH (cs : List Int) (hs : List Bool) : Nat → Int
  | 0 => 1
  | k + 1 => if hs.getD k false = true then prodH cs hs k * cs.getD k 0 % 2147483579 else prodH cs hs k
theorem prod_sum (cs bl com : List Int) (hs : List Bool) (n : Nat) (hb : ∀ j, j < n → 0 ≤ bl.getD j 0 ∧ bl.getD j 0 < 1073741789) (hc : ∀ j, j < n → com.getD j 0 = commitI (cs.getD j 0 % 1073741789) (bl.getD j 0)) :
    ∀ k, k ≤ n → prodH com hs k = commitI (sumH cs hs k % 1073741789) (sumH bl hs k % 1073741789) ∧ elB (prodH com hs k) = true := by
  intro k
  induction k with
  | zero => intro _; exact ⟨commit_one.symm, by have := commit_el 0 0; rw [show ((0 : Nat) : Int) = 0 from rfl, commit_one] at this; exact this⟩
  | succ k ih =>
    intro hk
    obtain ⟨h1, h2⟩ := ih (by omega)
    rw [sumH_snoc, sumH_snoc]
    show (if hs.getD k false = true then _ else _) = _ ∧ elB (if hs.getD k false = true then _ else _) = true
    by_cases h : hs.getD k false = true
    · rw [if_pos h, if_pos h, if_pos h, hc k (by omega), h1]
      obtain ⟨b1, b2⟩ := hb k (by omega)
      obtain ⟨v, hv⟩ : ∃ v : Nat, sumH cs hs k % 1073741789 = v := ⟨(sumH cs hs k % 1073741789).toNat, by omega⟩
      obtain ⟨b, hb'⟩ : ∃ v : Nat, sumH bl hs k % 1073741789 = v := ⟨(sumH bl hs k % 1073741789).toNat, by omega⟩
      obtain ⟨v', hv'⟩ : ∃ v : Nat, cs.getD k 0 % 1073741789 = v := ⟨(cs.getD k 0 % 1073741789).toNat, by omega⟩
      obtain ⟨b', hbk⟩ : ∃ v : Nat, bl.getD k 0 = v := ⟨(bl.getD k 0).toNat, by omega⟩
      rw [hv, hb', hv', hbk, commit_mul]
      have e1 : (sumH cs hs k + cs.getD k 0) % 1073741789 = (((v + v') % Grp.Q : Nat) : Int) := by
        show _ = (((v + v') % 1073741789 : Nat) : Int)
        omega
      have e2 : (sumH bl hs k + (b' : Int)) % 1073741789 = (((b + b') % Grp.Q : Nat) : Int) := by
        show _ = (((b + b') % 1073741789 : Nat) : Int)
        omega
      rw [e1, e2]
      exact ⟨rfl, commit_el _ _⟩
    · rw [if_neg h, if_neg h, if_neg h, Int.add_zero, Int.add_zero]
      exact ⟨h1, h2⟩
/-- A selection has no more rows than there are. -/
theorem sel_le {sel : List Int} {n : Nat} (h : ∀ k, k < sel.length → selAt sel (n : Int) k) : sel.length ≤ n := by
  have hk : ∀ k, k < sel.length → (k : Int) ≤ sel.getD k 0 := by
    intro k
    induction k with
    | zero => intro hk; have := (h 0 hk).1; omega
    | succ k ih =>
      intro hk
      have h1 := ih (by omega)
      have h2 := (h (k + 1) hk).2.2 (by omega)
      have e : k + 1 - 1 = k := rfl
      rw [e] at h2
      omega
  by_cases h0 : sel.length = 0
  · omega
  · have h1 := hk (sel.length - 1) (by omega)
    have h2 := (h (sel.length - 1) (by omega)).2.1
    omega
/-- What the cells of a disclosure's shown rows hold. -/
theorem shm_len (l : List ShM) : (shmsV l).length = l.length * 6 := flat_len shmV 6 (fun _ => rfl) l
theorem shm_get (l : List ShM) (k : Nat) (h : k < l.length) (j : Nat) (hj : j < 6) : (shmsV l)[k * 6 + j]? = (shmV l[k])[j]? := flat_get shmV 6 (fun _ => rfl) l k h j hj
/-- The shown rows have the form of a disclosure of n rows. -/
def WholeK (ms : List ShM) (n : Nat) : Prop := ∀ k (h : k < ms.length), 0 ≤ ms[k].idx ∧ ms[k].idx < (n : Int) ∧ (∀ h2 : 0 < k, (ms[k - 1]'(by omega)).idx < ms[k].idx) ∧ ms[k].p.length ≤ 20
end Go.Proofs.YtfjkmhbipkoefaaGreatDoor
namespace Go.Proofs.YtfjkmhbipkoefaaGreatDoor
open Go.RowKit Go.Shelf
set_option linter.unusedVariables false
set_option linter.unusedSimpArgs false
set_option maxRecDepth 100000
set_option maxRecDepth 100000 in
theorem same24_any (A A' : Option Addr) (c c' : Nat) (p q : Forks) (w : World) (hA : Sl w w.heap.size 2 A p.length (forkV p)) (hA' : Sl w w.heap.size 2 A' q.length (forkV q)) (hp : p.length ≤ 1024) (hq : q.length ≤ 9223372036854775807) :
    Calls Tryz.prog 67 #[.slice A p.length c, .slice A' q.length c'] w fun e w' => e = .returned (.bool (decide (p = q))) ∧ Below w.heap.size w w' := by
  have HA := Lib.hid hA
  have HA' := Lib.hid hA'
  clear hA hA'
  by_cases hlen : q.length = p.length
  · rw [hlen]
    have Hlen := Lib.hid hlen
    clear hlen hq
    go_enter Tryz.func67, Tryz.ntmps67
    go_wp2
    go_loopw [5] (fun i wr => ∃ k : Nat, k ≤ p.length ∧ i = .int .i64 (k : Int) ∧ (∀ j, j < k → p[j]? = q[j]?) ∧ Below w.heap.size w wr) (fun i _ => p.length - (intOf i).toNat)
    case atStart => exact ⟨0, Nat.zero_le _, rfl, fun j h => absurd h (Nat.not_lt_zero j), Below.refl _ _⟩
    case round =>
      obtain ⟨k, hk, rfl, hall, hB⟩ := hrel
      have Hall := Lib.hid hall
      clear hall
      by_cases hlt : k < p.length
      · have hltq : k < q.length := by rw [Hlen.out]; exact hlt
        obtain ⟨b, off, rfl, hb, hcell⟩ := (HA.out).2 (by omega)
        obtain ⟨b', off', rfl, hb', hcell'⟩ := (HA'.out).2 (by omega)
        obtain ⟨x, hx⟩ : ∃ x, x = (p[k]).1 := ⟨_, rfl⟩
        obtain ⟨y, hy⟩ : ∃ y, y = (p[k]).2 := ⟨_, rfl⟩
        obtain ⟨x', hx'⟩ : ∃ x, x = (q[k]).1 := ⟨_, rfl⟩
        obtain ⟨y', hy'⟩ : ∃ y, y = (q[k]).2 := ⟨_, rfl⟩
        have hc1 : wr.cell? ⟨b, off + k * 2, none⟩ = some (.int .u64 x.toNat) := (hB.cell (p := ⟨b, off + k * 2, none⟩) hb).trans (by rw [hx]; exact hcell _ _ (forkV_get1 p k hlt))
        have hc2 : wr.cell? ⟨b, off + k * 2 + 1, none⟩ = some (.bool y) := (hB.cell (p := ⟨b, off + k * 2 + 1, none⟩) hb).trans (by rw [Nat.add_assoc, hy]; exact hcell _ _ (forkV_get2 p k hlt))
        have hc3 : wr.cell? ⟨b', off' + k * 2, none⟩ = some (.int .u64 x'.toNat) := (hB.cell (p := ⟨b', off' + k * 2, none⟩) hb').trans (by rw [hx']; exact hcell' _ _ (forkV_get1 q k hltq))
        have hc4 : wr.cell? ⟨b', off' + k * 2 + 1, none⟩ = some (.bool y') := (hB.cell (p := ⟨b', off' + k * 2 + 1, none⟩) hb').trans (by rw [Nat.add_assoc, hy']; exact hcell' _ _ (forkV_get2 q k hltq))
        have Hx := Lib.hid (And.intro hx (And.intro hy (And.intro hx' hy')))
        have hlt' : (k : Int) < (p.length : Int) := by omega
        clear hcell hcell' hx hy hx' hy'
        by_cases hxx : x = x'
        · by_cases hyy : y = y'
          · have hpq : p[k]? = q[k]? := by
              obtain ⟨h1, h2, h3, h4⟩ := Hx.out
              rw [List.getElem?_eq_getElem hlt, List.getElem?_eq_getElem hltq]
              exact congrArg some (Prod.ext (by rw [← h1, ← h3]; exact hxx) (by rw [← h2, ← h4]; exact hyy))
            have Hpq := Lib.hid hpq
            clear hpq Hx
            subst hxx hyy
            go_wp2
            go_region
            go_wp2
            go_roundw
            case rel =>
              refine ⟨k + 1, by omega, by go_num, ?_, hB.drew⟩
              intro j hj
              by_cases hjk : j < k
              · exact Hall.out j hjk
              · have : j = k := by omega
                rw [this]; exact Hpq.out
            case measure => simp [intOf]; omega
          · have Hyy := Lib.hid hyy
            have hxn : (x.toNat : Int) = (x'.toNat : Int) := by rw [hxx]
            clear hxx
            go_wp2
            go_region
            go_wp2
            go_ret
            refine ⟨?_, hB.drew⟩
            have hf : ¬ p = q := by
              intro e
              obtain ⟨h1, h2, h3, h4⟩ := Hx.out
              subst e
              exact Hyy.out (h2.trans h4.symm)
            rw [decide_eq_false hf]
            rfl
        · have hxn : ¬ ((x.toNat : Int) = (x'.toNat : Int)) := fun e => hxx (UInt64.toNat_inj.1 (by omega))
          have Hxx := Lib.hid hxx
          clear hxx
          go_wp2
          go_region
          go_wp2
          go_ret
          refine ⟨?_, hB.drew⟩
          have hf : ¬ p = q := by
            intro e
            obtain ⟨h1, h2, h3, h4⟩ := Hx.out
            subst e
            exact Hxx.out (h1.trans h3.symm)
          rw [decide_eq_false hf]
          rfl
      · have hE : p = q := by
          apply List.ext_getElem?
          intro j
          by_cases hj : j < p.length
          · exact Hall.out j (by omega)
          · rw [List.getElem?_eq_none (by omega), List.getElem?_eq_none (by rw [Hlen.out]; omega)]
        have HE := Lib.hid hE
        clear hE
        go_wp2
        go_ret
        refine ⟨?_, hB⟩
        rw [decide_eq_true HE.out]
        rfl
  · have hne : ((p.length : Int) != (q.length : Int)) = true := by simp; omega
    have hf : decide (p = q) = false := by
      rw [decide_eq_false]
      exact fun e => hlen (by rw [e])
    rw [hf]
    clear hf
    go_enter Tryz.func67, Tryz.ntmps67
    go_wp2
    go_ret
    exact ⟨rfl, Below.refl _ _⟩
theorem same24_at (A A' : Option Addr) (c c' n : Nat) (p : Forks) (w : World) (hn : p.length = n) (hA : Sl w w.heap.size 2 A n (forkV p)) (hA' : Sl w w.heap.size 2 A' n (forkV p)) (hp : n ≤ 1024) :
    Calls Tryz.prog 67 #[.slice A n c, .slice A' n c'] w fun e w' => e = .returned (.bool true) ∧ Below w.heap.size w w' := by
  subst hn
  have := same24_any A A' c c' p p w hA hA' hp (by omega)
  rw [decide_eq_true (rfl : p = p)] at this
  exact this
set_option maxHeartbeats 4000000 in
theorem sameshown_ok (i : Int) (l : ByteArray) (c : Int) (r : ByteArray) (b : Int) (PA PA' : Option Addr) (pc pc' n : Nat) (p : Forks) (w : World) (hn : p.length = n) (hA : Sl w w.heap.size 2 PA n (forkV p)) (hA' : Sl w w.heap.size 2 PA' n (forkV p)) (hp : n ≤ 1024) :
    Calls Tryz.prog 33 #[.agg #[.int .i64 i, .string l, .int .i64 c, .string r, .int .i64 b, .slice PA n pc], .agg #[.int .i64 i, .string l, .int .i64 c, .string r, .int .i64 b, .slice PA' n pc']] w fun e w' => e = .returned (.bool true) ∧ Below w.heap.size w w' := by
  have HA := Lib.hid (hA.al (.cells #[.int .i64 i, .string l, .int .i64 c, .string r, .int .i64 b, .slice PA n pc] 48))
  have HA2 := Lib.hid (HA.out.al (.cells #[.int .i64 i, .string l, .int .i64 c, .string r, .int .i64 b, .slice PA' n pc'] 48))
  have HB := Lib.hid (hA'.al (.cells #[.int .i64 i, .string l, .int .i64 c, .string r, .int .i64 b, .slice PA n pc] 48))
  have HB2 := Lib.hid (HB.out.al (.cells #[.int .i64 i, .string l, .int .i64 c, .string r, .int .i64 b, .slice PA' n pc'] 48))
  clear hA hA' HA HB
  go_enter Tryz.func33, Tryz.ntmps33
  go_wp2_with fail
  refine (same24_at PA PA' pc pc' n p _ hn HA2.out HB2.out hp).mono ?_
  rintro e w1 ⟨rfl, hB1⟩
  go_wp2_with fail
  go_ret
  exact ⟨rfl, bgo (bal (bal (Below.refl _ _) _) _) hB1⟩
end Go.Proofs.YtfjkmhbipkoefaaGreatDoor
namespace Go.Proofs.YtfjkmhbipkoefaaGreatDoor
open Go.RowKit Go.Shelf
set_option linter.unusedVariables false
set_option linter.unusedSimpArgs false
set_option maxRecDepth 100000
theorem shm_at (ms : List ShM) (i : Nat) (h : i < ms.length) : ∀ q, q < 6 → (shmsV ms)[i * 6 + q]? = (shmV ms[i])[q]? := flat_get shmV 6 (fun _ => rfl) ms i h
set_option maxHeartbeats 8000000 in
theorem rsame36_any (person : ByteArray) (month : Int) (root : UInt64) (C C' S S' SA SA' SB SB' : Option Addr) (k j na nb cc cc' cs cs' ca ca' cb cb' : Nat) (hid bld si : Int) (com : List Int) (ms ms' : List ShM) (ch : List UInt64) (p : Forks)
    (hk : com.length = k) (hj : ms.length = j) (hj' : ms'.length = j) (hna : ch.length = na) (hnb : p.length = nb) (hkl : k ≤ 2000) (hjl : j ≤ 2000) (hnal : na ≤ 100) (hnbl : nb ≤ 100) (hms : ms.map ShM.key = ms'.map ShM.key) (hpl : ∀ x ∈ ms, x.p.length ≤ 1024) (w : World)
    (hC : Sl w w.heap.size 1 C k (intV com)) (hC' : Sl w w.heap.size 1 C' k (intV com)) (hS : Sl w w.heap.size 6 S j (shmsV ms)) (hS' : Sl w w.heap.size 6 S' j (shmsV ms')) (hp : ∀ x ∈ ms, Sl w w.heap.size 2 x.PA x.p.length (forkV x.p)) (hp' : ∀ x ∈ ms', Sl w w.heap.size 2 x.PA x.p.length (forkV x.p))
    (hA : Sl w w.heap.size 1 SA na (u64V ch)) (hA' : Sl w w.heap.size 1 SA' na (u64V ch)) (hB : Sl w w.heap.size 2 SB nb (forkV p)) (hB' : Sl w w.heap.size 2 SB' nb (forkV p)) :
    Calls Tryz.prog 8 #[.agg #[.string person, .int .i64 month, .int .u64 root.toNat, .slice C k cc, .slice S j cs, .int .i64 hid, .int .i64 bld, .int .i64 si, .slice SA na ca, .slice SB nb cb], .agg #[.string person, .int .i64 month, .int .u64 root.toNat, .slice C' k cc', .slice S' j cs', .int .i64 hid, .int .i64 bld, .int .i64 si, .slice SA' na ca', .slice SB' nb cb']] w fun e w' => e = .returned (.bool true) ∧ Below w.heap.size w w' := by
  have HC := Lib.hid (And.intro hC hC')
  have HS := Lib.hid (And.intro hS hS')
  have HP := Lib.hid (And.intro hp hp')
  have HG := Lib.hid (And.intro hA (And.intro hA' (And.intro hB hB')))
  have Hl := Lib.hid (And.intro hk (And.intro hj (And.intro hj' (And.intro hna hnb))))
  have Hms := Lib.hid hms
  have Hpl := Lib.hid hpl
  clear hC hC' hS hS' hp hp' hA hA' hB hB' hk hj hj' hna hnb hms hpl
  go_enter Tryz.func8, Tryz.ntmps8
  go_upto_region 1 with fail
  obtain ⟨W, hW⟩ : ∃ W, W = (w.alloc (.cells #[.string person, .int .i64 month, .int .u64 root.toNat, .slice C k cc, .slice S j cs, .int .i64 hid, .int .i64 bld, .int .i64 si, .slice SA na ca, .slice SB nb cb] 36)).alloc (.cells #[.string person, .int .i64 month, .int .u64 root.toNat, .slice C' k cc', .slice S' j cs', .int .i64 hid, .int .i64 bld, .int .i64 si, .slice SA' na ca', .slice SB' nb cb'] 36) := ⟨_, rfl⟩
  rw [← hW]
  have g1 : W.heap[w.heap.size]? = some (.cells #[.string person, .int .i64 month, .int .u64 root.toNat, .slice C k cc, .slice S j cs, .int .i64 hid, .int .i64 bld, .int .i64 si, .slice SA na ca, .slice SB nb cb] 36 (0, 0)) := by rw [hW]; exact heap_alloc2_old w _ _
  have g2 : W.heap[w.heap.size + 1]? = some (.cells #[.string person, .int .i64 month, .int .u64 root.toNat, .slice C' k cc', .slice S' j cs', .int .i64 hid, .int .i64 bld, .int .i64 si, .slice SA' na ca', .slice SB' nb cb'] 36 (0, 0)) := by rw [hW]; exact heap_alloc2_new w _ _
  have hB0 : Below w.heap.size w W := by rw [hW]; exact bal (bal (Below.refl _ _) _) _
  have G := Lib.hid (And.intro g1 (And.intro g2 hB0))
  clear hW
  have x0 : W.cell? ⟨w.heap.size, 0, none⟩ = some (.string person) := by rw [Lib.cell_of_heap g1]; rfl
  have x1 : W.cell? ⟨w.heap.size, 1, none⟩ = some (.int .i64 month) := by rw [Lib.cell_of_heap g1]; rfl
  have x2 : W.cell? ⟨w.heap.size, 2, none⟩ = some (.int .u64 root.toNat) := by rw [Lib.cell_of_heap g1]; rfl
  have x3 : W.cell? ⟨w.heap.size, 3, none⟩ = some (.slice C k cc) := by rw [Lib.cell_of_heap g1]; rfl
  have x4 : W.cell? ⟨w.heap.size, 4, none⟩ = some (.slice S j cs) := by rw [Lib.cell_of_heap g1]; rfl
  have x5 : W.cell? ⟨w.heap.size, 5, none⟩ = some (.int .i64 hid) := by rw [Lib.cell_of_heap g1]; rfl
  have x6 : W.cell? ⟨w.heap.size, 6, none⟩ = some (.int .i64 bld) := by rw [Lib.cell_of_heap g1]; rfl
  have y0 : W.cell? ⟨w.heap.size + 1, 0, none⟩ = some (.string person) := by rw [Lib.cell_of_heap g2]; rfl
  have y1 : W.cell? ⟨w.heap.size + 1, 1, none⟩ = some (.int .i64 month) := by rw [Lib.cell_of_heap g2]; rfl
  have y2 : W.cell? ⟨w.heap.size + 1, 2, none⟩ = some (.int .u64 root.toNat) := by rw [Lib.cell_of_heap g2]; rfl
  have y3 : W.cell? ⟨w.heap.size + 1, 3, none⟩ = some (.slice C' k cc') := by rw [Lib.cell_of_heap g2]; rfl
  have y4 : W.cell? ⟨w.heap.size + 1, 4, none⟩ = some (.slice S' j cs') := by rw [Lib.cell_of_heap g2]; rfl
  have y5 : W.cell? ⟨w.heap.size + 1, 5, none⟩ = some (.int .i64 hid) := by rw [Lib.cell_of_heap g2]; rfl
  have y6 : W.cell? ⟨w.heap.size + 1, 6, none⟩ = some (.int .i64 bld) := by rw [Lib.cell_of_heap g2]; rfl
  clear g1 g2 hB0
  go_wp2_with fail
  refine (rints_eq C C' cc cc' k com Hl.out.1 (by unfold maxLen; omega) W (HC.out.1.go G.out.2.2) (HC.out.2.go G.out.2.2)).mono ?_
  rintro e w1 ⟨rfl, hB1⟩
  have g1 := (hB1.block _ (Array.getElem?_eq_some_iff.1 G.out.1).1).trans G.out.1
  have g2 := (hB1.block _ (Array.getElem?_eq_some_iff.1 G.out.2.1).1).trans G.out.2.1
  have G1 := Lib.hid (And.intro g1 (And.intro g2 (bgo G.out.2.2 hB1)))
  clear x0 x1 x2 x3 x4 x5 x6 y0 y1 y2 y3 y4 y5 y6 hB1 G
  clear W
  have x4 : w1.cell? ⟨w.heap.size, 4, none⟩ = some (.slice S j cs) := by rw [Lib.cell_of_heap g1]; rfl
  have x5 : w1.cell? ⟨w.heap.size, 5, none⟩ = some (.int .i64 hid) := by rw [Lib.cell_of_heap g1]; rfl
  have x6 : w1.cell? ⟨w.heap.size, 6, none⟩ = some (.int .i64 bld) := by rw [Lib.cell_of_heap g1]; rfl
  have y4 : w1.cell? ⟨w.heap.size + 1, 4, none⟩ = some (.slice S' j cs') := by rw [Lib.cell_of_heap g2]; rfl
  have y5 : w1.cell? ⟨w.heap.size + 1, 5, none⟩ = some (.int .i64 hid) := by rw [Lib.cell_of_heap g2]; rfl
  have y6 : w1.cell? ⟨w.heap.size + 1, 6, none⟩ = some (.int .i64 bld) := by rw [Lib.cell_of_heap g2]; rfl
  clear g1 g2
  go_wp2_with fail
  clear x4 x5 x6 y4 y5 y6
  go_loopw [5] (fun q wr => ∃ i : Nat, i ≤ j ∧ q = .int .i64 (i : Int) ∧ wr.heap[w.heap.size]? = some (.cells #[.string person, .int .i64 month, .int .u64 root.toNat, .slice C k cc, .slice S j cs, .int .i64 hid, .int .i64 bld, .int .i64 si, .slice SA na ca, .slice SB nb cb] 36 (0, 0)) ∧ wr.heap[w.heap.size + 1]? = some (.cells #[.string person, .int .i64 month, .int .u64 root.toNat, .slice C' k cc', .slice S' j cs', .int .i64 hid, .int .i64 bld, .int .i64 si, .slice SA' na ca', .slice SB' nb cb'] 36 (0, 0)) ∧ Below w.heap.size w wr) (fun q _ => j - (intOf q).toNat)
  case atStart => exact ⟨0, Nat.zero_le _, rfl, G1.out⟩
  case round =>
    clear G1
    obtain ⟨i, hi, rfl, hGr⟩ := hrel
    have G := Lib.hid hGr
    clear hGr
    by_cases hlt : i < j
    · have hlt' : (i : Int) < (j : Int) := by omega
      have hil : i < ms.length := by rw [Hl.out.2.1]; exact hlt
      have hil' : i < ms'.length := by rw [Hl.out.2.2.1]; exact hlt
      obtain ⟨b1, o1, rfl, hb1, hc1⟩ := HS.out.1.2 (by omega)
      obtain ⟨b2, o2, rfl, hb2, hc2⟩ := HS.out.2.2 (by omega)
      have hget1 := shm_at ms i hil
      have hget2 := shm_at ms' i hil'
      obtain ⟨x, hx⟩ : ∃ x, ms[i] = x := ⟨_, rfl⟩
      obtain ⟨y, hy⟩ : ∃ y, ms'[i] = y := ⟨_, rfl⟩
      have hkey : x.key = y.key := by
        have h1 : (ms.map ShM.key)[i]? = (ms'.map ShM.key)[i]? := by rw [Hms.out]
        simpa [hil, hil', hx, hy] using h1
      have hxp := HP.out.1 x (by rw [← hx]; exact List.getElem_mem hil)
      have hyp := HP.out.2 y (by rw [← hy]; exact List.getElem_mem hil')
      have hxl := Hpl.out x (by rw [← hx]; exact List.getElem_mem hil)
      rw [hx] at hget1
      rw [hy] at hget2
      obtain ⟨ix, ⟨xl, xc, xr⟩, xb, PA, pc, pp⟩ := x
      obtain ⟨iy, ⟨yl, yc, yr⟩, yb, PA', pc', pp'⟩ := y
      unfold ShM.key at hkey
      dsimp only at hkey hxp hyp hxl
      injection hkey with h1 h2 h3 h4
      injection h2 with h21 h22 h23
      subst h1 h21 h22 h23 h3 h4
      obtain ⟨np, hnp⟩ : ∃ n, pp.length = n := ⟨_, rfl⟩
      have hF1 : ∀ W, Below w.heap.size w W → W.cell? ⟨b1, o1 + i * 6, none⟩ = some (.int .i64 ix) ∧ W.cell? ⟨b1, o1 + i * 6 + 1, none⟩ = some (.string xl) ∧ W.cell? ⟨b1, o1 + i * 6 + 2, none⟩ = some (.int .i64 xc) ∧ W.cell? ⟨b1, o1 + i * 6 + 3, none⟩ = some (.string xr) ∧ W.cell? ⟨b1, o1 + i * 6 + 4, none⟩ = some (.int .i64 xb) ∧ W.cell? ⟨b1, o1 + i * 6 + 5, none⟩ = some (.slice PA np pc) := by
        intro W hW
        rw [← hnp]
        have hq : ∀ q u, (shmsV ms)[i * 6 + q]? = some u → W.cell? ⟨b1, o1 + (i * 6 + q), none⟩ = some u := fun q u hu => (hW.cell (p := ⟨b1, o1 + (i * 6 + q), none⟩) hb1).trans (hc1 _ _ hu)
        exact ⟨hq 0 _ (hget1 0 (by decide)), hq 1 _ (hget1 1 (by decide)), hq 2 _ (hget1 2 (by decide)), hq 3 _ (hget1 3 (by decide)), hq 4 _ (hget1 4 (by decide)), hq 5 _ (hget1 5 (by decide))⟩
      have hF2 : ∀ W, Below w.heap.size w W → W.cell? ⟨b2, o2 + i * 6, none⟩ = some (.int .i64 ix) ∧ W.cell? ⟨b2, o2 + i * 6 + 1, none⟩ = some (.string xl) ∧ W.cell? ⟨b2, o2 + i * 6 + 2, none⟩ = some (.int .i64 xc) ∧ W.cell? ⟨b2, o2 + i * 6 + 3, none⟩ = some (.string xr) ∧ W.cell? ⟨b2, o2 + i * 6 + 4, none⟩ = some (.int .i64 xb) ∧ W.cell? ⟨b2, o2 + i * 6 + 5, none⟩ = some (.slice PA' np pc') := by
        intro W hW
        rw [← hnp]
        have hq : ∀ q u, (shmsV ms')[i * 6 + q]? = some u → W.cell? ⟨b2, o2 + (i * 6 + q), none⟩ = some u := fun q u hu => (hW.cell (p := ⟨b2, o2 + (i * 6 + q), none⟩) hb2).trans (hc2 _ _ hu)
        exact ⟨hq 0 _ (hget2 0 (by decide)), hq 1 _ (hget2 1 (by decide)), hq 2 _ (hget2 2 (by decide)), hq 3 _ (hget2 3 (by decide)), hq 4 _ (hget2 4 (by decide)), hq 5 _ (hget2 5 (by decide))⟩
      rw [hnp] at hxp hyp hxl
      have HF := Lib.hid (And.intro hF1 hF2)
      have HX := Lib.hid (And.intro hnp (And.intro hxp hyp))
      clear hF1 hF2 hnp hxp hyp hget1 hget2 hc1 hc2 hx hy hil hil'
      have k4 : wr.cell? ⟨w.heap.size, 4, none⟩ = some (.slice (some ⟨b1, o1, none⟩) j cs) := by rw [Lib.cell_of_heap G.out.1]; rfl
      go_upto_region 6 with fail
      clear k4
      have hHd : Below w.heap.size w wr.drew ∧ wr.drew.heap[w.heap.size]? = some (.cells #[.string person, .int .i64 month, .int .u64 root.toNat, .slice C k cc, .slice (some ⟨b1, o1, none⟩) j cs, .int .i64 hid, .int .i64 bld, .int .i64 si, .slice SA na ca, .slice SB nb cb] 36 (0, 0)) ∧ wr.drew.heap[w.heap.size + 1]? = some (.cells #[.string person, .int .i64 month, .int .u64 root.toNat, .slice C' k cc', .slice (some ⟨b2, o2, none⟩) j cs', .int .i64 hid, .int .i64 bld, .int .i64 si, .slice SA' na ca', .slice SB' nb cb'] 36 (0, 0)) := ⟨G.out.2.2.drew, G.out.1, G.out.2.1⟩
      have HHd := Lib.hid hHd
      clear hHd
      have hS4 : ∀ W : World, W.heap[w.heap.size]? = some (.cells #[.string person, .int .i64 month, .int .u64 root.toNat, .slice C k cc, .slice (some ⟨b1, o1, none⟩) j cs, .int .i64 hid, .int .i64 bld, .int .i64 si, .slice SA na ca, .slice SB nb cb] 36 (0, 0)) → W.cell? ⟨w.heap.size, 4, none⟩ = some (.slice (some ⟨b1, o1, none⟩) j cs) := fun W hW => by rw [Lib.cell_of_heap hW]; rfl
      have hS5 : ∀ W : World, W.heap[w.heap.size + 1]? = some (.cells #[.string person, .int .i64 month, .int .u64 root.toNat, .slice C' k cc', .slice (some ⟨b2, o2, none⟩) j cs', .int .i64 hid, .int .i64 bld, .int .i64 si, .slice SA' na ca', .slice SB' nb cb'] 36 (0, 0)) → W.cell? ⟨w.heap.size + 1, 4, none⟩ = some (.slice (some ⟨b2, o2, none⟩) j cs') := fun W hW => by rw [Lib.cell_of_heap hW]; rfl
      have HSS := Lib.hid (And.intro hS4 hS5)
      clear hS4 hS5
      refine wp_region_noPanic ?_
      refine wp_region_held_drew (S := fun W => Below w.heap.size w W ∧ W.heap[w.heap.size]? = some (.cells #[.string person, .int .i64 month, .int .u64 root.toNat, .slice C k cc, .slice (some ⟨b1, o1, none⟩) j cs, .int .i64 hid, .int .i64 bld, .int .i64 si, .slice SA na ca, .slice SB nb cb] 36 (0, 0)) ∧ W.heap[w.heap.size + 1]? = some (.cells #[.string person, .int .i64 month, .int .u64 root.toNat, .slice C' k cc', .slice (some ⟨b2, o2, none⟩) j cs', .int .i64 hid, .int .i64 bld, .int .i64 si, .slice SA' na ca', .slice SB' nb cb'] 36 (0, 0))) (by kernel_rfl) HHd.out (fun hHeld => ?_)
      refine wpAnyH_take (i := 0) (v := ?_) rfl (by kernel_rfl) (by kernel_rfl) (by kernel_rfl) (fun _ _ _ h => h) (Or.inl ⟨by kernel_rfl, ?_⟩) (by assumption) ?_
      rotate_left
      · intro w hSw
        (try dsimp only at hSw)
        go_simp
        first | done | with_reducible rfl
      simp only [List.getElem_toArray, List.getElem_cons_zero, List.getElem_cons_succ, Act.put, List.setIfInBounds_toArray, List.set_cons_zero, List.set_cons_succ]
      refine wpAnyH_take (i := 1) (v := ?_) rfl (by kernel_rfl) (by kernel_rfl) (by kernel_rfl) (fun _ _ _ h => h) (Or.inl ⟨by kernel_rfl, ?_⟩) (by assumption) ?_
      rotate_left
      · intro w hSw
        (try dsimp only at hSw)
        have z0 := HSS.out.1 w hSw.2.1
        go_simp
        first | done | with_reducible rfl
      simp only [List.getElem_toArray, List.getElem_cons_zero, List.getElem_cons_succ, Act.put, List.setIfInBounds_toArray, List.set_cons_zero, List.set_cons_succ]
      refine wpAnyH_take (i := 2) (v := ?_) rfl (by kernel_rfl) (by kernel_rfl) (by kernel_rfl) (fun _ _ _ h => h) (Or.inl ⟨by kernel_rfl, ?_⟩) (by assumption) ?_
      rotate_left
      · intro w hSw
        (try dsimp only at hSw)
        go_simp
        first | done | with_reducible rfl
      simp only [List.getElem_toArray, List.getElem_cons_zero, List.getElem_cons_succ, Act.put, List.setIfInBounds_toArray, List.set_cons_zero, List.set_cons_succ]
      refine wpAnyH_take (i := 3) (v := ?_) rfl (by kernel_rfl) (by kernel_rfl) (by kernel_rfl) (fun _ _ _ h => h) (Or.inl ⟨by kernel_rfl, ?_⟩) (by assumption) ?_
      rotate_left
      · intro w hSw
        (try dsimp only at hSw)
        go_simp
        first | done | with_reducible rfl
      simp only [List.getElem_toArray, List.getElem_cons_zero, List.getElem_cons_succ, Act.put, List.setIfInBounds_toArray, List.set_cons_zero, List.set_cons_succ]
      refine wpAnyH_take (i := 4) (v := ?_) rfl (by kernel_rfl) (by kernel_rfl) (by kernel_rfl) (fun _ _ _ h => h) (Or.inl ⟨by kernel_rfl, ?_⟩) (by assumption) ?_
      rotate_left
      · intro w hSw
        (try dsimp only at hSw)
        obtain ⟨z0, z1, z2, z3, z4, z5⟩ := HF.out.1 w hSw.1
        go_simp
        first | done | with_reducible rfl
      simp only [List.getElem_toArray, List.getElem_cons_zero, List.getElem_cons_succ, Act.put, List.setIfInBounds_toArray, List.set_cons_zero, List.set_cons_succ]
      refine wpAnyH_take (i := 5) (v := ?_) rfl (by kernel_rfl) (by kernel_rfl) (by kernel_rfl) (fun _ _ _ h => h) (Or.inl ⟨by kernel_rfl, ?_⟩) (by assumption) ?_
      rotate_left
      · intro w hSw
        (try dsimp only at hSw)
        go_simp
        first | done | with_reducible rfl
      simp only [List.getElem_toArray, List.getElem_cons_zero, List.getElem_cons_succ, Act.put, List.setIfInBounds_toArray, List.set_cons_zero, List.set_cons_succ]
      refine wpAnyH_take (i := 6) (v := ?_) rfl (by kernel_rfl) (by kernel_rfl) (by kernel_rfl) (fun _ _ _ h => h) (Or.inl ⟨by kernel_rfl, ?_⟩) (by assumption) ?_
      rotate_left
      · intro w hSw
        (try dsimp only at hSw)
        have z0 := HSS.out.2 w hSw.2.2
        go_simp
        first | done | with_reducible rfl
      simp only [List.getElem_toArray, List.getElem_cons_zero, List.getElem_cons_succ, Act.put, List.setIfInBounds_toArray, List.set_cons_zero, List.set_cons_succ]
      refine wpAnyH_take (i := 7) (v := ?_) rfl (by kernel_rfl) (by kernel_rfl) (by kernel_rfl) (fun _ _ _ h => h) (Or.inl ⟨by kernel_rfl, ?_⟩) (by assumption) ?_
      rotate_left
      · intro w hSw
        (try dsimp only at hSw)
        go_simp
        first | done | with_reducible rfl
      simp only [List.getElem_toArray, List.getElem_cons_zero, List.getElem_cons_succ, Act.put, List.setIfInBounds_toArray, List.set_cons_zero, List.set_cons_succ]
      refine wpAnyH_take (i := 8) (v := ?_) rfl (by kernel_rfl) (by kernel_rfl) (by kernel_rfl) (fun _ _ _ h => h) (Or.inl ⟨by kernel_rfl, ?_⟩) (by assumption) ?_
      rotate_left
      · intro w hSw
        (try dsimp only at hSw)
        go_simp
        first | done | with_reducible rfl
      simp only [List.getElem_toArray, List.getElem_cons_zero, List.getElem_cons_succ, Act.put, List.setIfInBounds_toArray, List.set_cons_zero, List.set_cons_succ]
      refine wpAnyH_take (i := 9) (v := ?_) rfl (by kernel_rfl) (by kernel_rfl) (by kernel_rfl) (fun _ _ _ h => h) (Or.inl ⟨by kernel_rfl, ?_⟩) (by assumption) ?_
      rotate_left
      · intro w hSw
        (try dsimp only at hSw)
        obtain ⟨z0, z1, z2, z3, z4, z5⟩ := HF.out.2 w hSw.1
        go_simp
        first | done | with_reducible rfl
      simp only [List.getElem_toArray, List.getElem_cons_zero, List.getElem_cons_succ, Act.put, List.setIfInBounds_toArray, List.set_cons_zero, List.set_cons_succ]
      refine wpAnyH_ready (rs := [10]) (by kernel_rfl) (by simp) ?_
      refine AllReadyH.cons rfl (fun K hK => ?_) AllReadyH.nil
      simp only [List.getElem_toArray, List.getElem_cons_zero, List.getElem_cons_succ]
      go_simp
      (with_reducible refine (sameshown_ok ix xl xc xr xb PA PA' pc pc' np pp wr.drew HX.out.1 (HX.out.2.1.go HHd.out.1) (HX.out.2.2.go HHd.out.1) hxl).mono ?_)
      rintro e w1 ⟨rfl, hB1⟩
      dsimp only
      have H1 := Lib.hid (And.intro (bgo HHd.out.1 hB1) (And.intro ((hB1.block _ (Array.getElem?_eq_some_iff.1 HHd.out.2.1).1).trans HHd.out.2.1) ((hB1.block _ (Array.getElem?_eq_some_iff.1 HHd.out.2.2).1).trans HHd.out.2.2)))
      refine hK.out _ _ H1.out (fun hHeld => ?_)
      clear hK K
      try simp only [List.getElem_toArray, List.getElem_cons_zero, List.getElem_cons_succ, Act.put, List.setIfInBounds_toArray, List.set_cons_zero, List.set_cons_succ]
      refine wpAnyH_take (i := 11) (v := ?_) rfl (by kernel_rfl) (by kernel_rfl) (by kernel_rfl) (fun _ _ _ h => h) (Or.inl ⟨by kernel_rfl, ?_⟩) (by assumption) ?_
      rotate_left
      · intro w hSw
        (try dsimp only at hSw)
        go_simp
        first | done | with_reducible rfl
      simp only [List.getElem_toArray, List.getElem_cons_zero, List.getElem_cons_succ, Act.put, List.setIfInBounds_toArray, List.set_cons_zero, List.set_cons_succ]
      refine wpAnyH_done (by kernel_rfl) ?_ _
      dsimp only [NoPanic]
      clear hHeld
      clear hHeld hB1 HSS HHd G HF HX
      go_wp2
      go_roundw
      case rel => exact ⟨i + 1, by omega, by go_num, H1.out.2.1, H1.out.2.2, H1.out.1⟩
      case measure => simp [intOf]; omega
    · obtain rfl : j = i := by omega
      obtain ⟨g1, g2, hBr⟩ := G.out
      have x4 : wr.cell? ⟨w.heap.size, 4, none⟩ = some (.slice S j cs) := by rw [Lib.cell_of_heap g1]; rfl
      have x7 : wr.cell? ⟨w.heap.size, 7, none⟩ = some (.int .i64 si) := by rw [Lib.cell_of_heap g1]; rfl
      have x8 : wr.cell? ⟨w.heap.size, 8, none⟩ = some (.slice SA na ca) := by rw [Lib.cell_of_heap g1]; rfl
      have x9 : wr.cell? ⟨w.heap.size, 9, none⟩ = some (.slice SB nb cb) := by rw [Lib.cell_of_heap g1]; rfl
      have y7 : wr.cell? ⟨w.heap.size + 1, 7, none⟩ = some (.int .i64 si) := by rw [Lib.cell_of_heap g2]; rfl
      have y8 : wr.cell? ⟨w.heap.size + 1, 8, none⟩ = some (.slice SA' na ca') := by rw [Lib.cell_of_heap g2]; rfl
      have y9 : wr.cell? ⟨w.heap.size + 1, 9, none⟩ = some (.slice SB' nb cb') := by rw [Lib.cell_of_heap g2]; rfl
      clear g1 g2
      go_wp2_with fail
      refine (rsame_any si SA SB SA' SB' ca cb ca' cb' na nb ch p Hl.out.2.2.2.1 Hl.out.2.2.2.2 hnal hnbl wr (HG.out.1.go hBr) (HG.out.2.2.1.go hBr) (HG.out.2.1.go hBr) (HG.out.2.2.2.go hBr)).mono ?_
      rintro e w1 ⟨rfl, hB1⟩
      have hBe := bgo hBr hB1
      clear x4 x7 x8 x9 y7 y8 y9
      go_wp2_with fail
      go_ret
      exact ⟨rfl, hBe⟩
end Go.Proofs.YtfjkmhbipkoefaaGreatDoor
namespace Go.Proofs.YtfjkmhbipkoefaaGreatDoor
end Go.Proofs.YtfjkmhbipkoefaaGreatDoor
