/- What Rows and Seal answer at what Result returns (layer 35, plain). Products of commitments (layer 35, plain), and the reference's Value. The walks of the reference package 26: powers, commitments. The reference's SameRows and Same, at equal payslips; its Leaf (layer 35). -/
import Derived.Test.YtfjkmhbipkoefaaDoorQ16
import Derived.Test.YtfjkmhbipkoefaaDoorQ17
import Derived.Test.YtfjkmhbipkoefaaDoorQ08
import Derived.Test.YtfjkmhbipkoefaaDoorQ10
import Derived.Test.YtfjkmhbipkoefaaDoorQ04
import Derived.BigQuiet
namespace Go.Proofs.YtfjkmhbipkoefaaDoor
open Go.RowKit Go.Shelf
set_option linter.unusedVariables false
set_option linter.unusedSimpArgs false
theorem res_line {month : Int} {ls : List Quad} {os : List Int} {s : SlipM} (h : ResIs month ls os s) : ∀ x ∈ s.lines, ∃ q, LineIs q x := by
  intro x hx
  obtain ⟨j, hj, rfl⟩ := List.getElem_of_mem hx
  have hj2 : j < (ls.take 20).length := by rw [← h.len]; exact hj
  exact ⟨(ls.take 20)[j], h.lines j _ _ (List.getElem?_eq_getElem hj) (List.getElem?_eq_getElem hj2)⟩
theorem line_fit {q : Quad} {x : LineM} (h : LineIs q x) : lineFit 4 2 x = true := by
  have h1 := pickF_lt q.a 36525 (by omega)
  have h2 := pickF_lt q.b 4 (by omega)
  have h3 := pickF_lt q.c 2 (by omega)
  unfold lineFit idxB
  rw [h.day, h.line, h.art, h.rests]
  simp only [Bool.and_eq_true, decide_eq_true_eq, List.all_eq_true]
  refine ⟨⟨⟨by omega, by omega⟩, by omega⟩, ?_⟩
  intro r hr
  unfold restsF at hr
  split at hr
  · obtain rfl := List.mem_singleton.1 hr
    omega
  · cases hr
theorem res_fits {month : Int} {ls : List Quad} {os : List Int} {s : SlipM} (h : ResIs month ls os s) (LA AA : Option Addr) : fitsB (case0 LA AA) s = true := by
  have hn : isNameB annB = true := by decide +kernel
  have hm := pickF_lt month 1200 (by omega)
  unfold fitsB
  rw [h.person, hn, h.month]
  simp only [Bool.true_and, Bool.and_eq_true, decide_eq_true_eq, List.all_eq_true]
  refine ⟨by omega, fun x hx => ?_⟩
  obtain ⟨q, hq⟩ := res_line h x hx
  exact line_fit hq
def eurB : ByteArray := ⟨#[69, 85, 82]⟩
def basicB : ByteArray := ⟨#[98, 97, 115, 105, 99]⟩
def unionB : ByteArray := ⟨#[117, 110, 105, 111, 110]⟩
theorem line_row {q : Quad} {x : LineM} (h : LineIs q x) : rowOf ds0 [12, 14] eurB x = if x.line < 2 then [⟨if x.line = 0 then basicB else unionB, x.amt, reasonB [12, 14] x⟩] else [] := by
  have h2 := pickF_lt q.b 4 (by omega)
  rw [← h.line] at h2
  rcases (show x.line = 0 ∨ x.line = 1 ∨ x.line = 2 ∨ x.line = 3 by omega) with e | e | e | e
  · rw [rowOf_one (ds := ds0) (nums := [12, 14]) (cur := eurB) (d := ⟨⟨#[98, 97, 115, 105, 99]⟩, ⟨#[69, 85, 82]⟩, 1⟩) (by rw [e]; rfl) rfl (by decide), if_pos (by omega), if_pos e]
    rfl
  · rw [rowOf_one (ds := ds0) (nums := [12, 14]) (cur := eurB) (d := ⟨⟨#[117, 110, 105, 111, 110]⟩, ⟨#[69, 85, 82]⟩, 2⟩) (by rw [e]; rfl) rfl (by decide), if_pos (by omega), if_neg (by omega)]
    rfl
  · rw [rowOf_none (ds := ds0) (nums := [12, 14]) (cur := eurB) (d := ⟨⟨#[110, 111, 116, 101]⟩, ⟨#[69, 85, 82]⟩, 4⟩) (by rw [e]; rfl) (by simp), if_neg (by omega)]
  · rw [rowOf_none (ds := ds0) (nums := [12, 14]) (cur := eurB) (d := ⟨⟨#[117, 115, 100]⟩, ⟨#[85, 83, 68]⟩, 1⟩) (by rw [e]; rfl) (by decide +kernel), if_neg (by omega)]
noncomputable def lineR (x : LineM) : List RowD := if x.line < 2 then [⟨if x.line = 0 then basicB else unionB, x.amt, reasonB [12, 14] x⟩] else []
/-- The rows of a result that fits. -/
noncomputable def resR (s : SlipM) : List RowD := s.lines.flatMap lineR ++ tailR s
theorem flatMap_congr' {α β : Type} {f g : α → List β} {l : List α} (h : ∀ x ∈ l, f x = g x) : l.flatMap f = l.flatMap g := by
  induction l with
  | nil => rfl
  | cons x l ih => rw [List.flatMap_cons, List.flatMap_cons, h x (List.mem_cons_self ..), ih fun y hy => h y (List.mem_cons_of_mem _ hy)]
/-- Every line is one that four numbers determine. -/
def LinesIs (lines : List LineM) : Prop := ∀ x ∈ lines, ∃ q, LineIs q x
theorem rows_case {s : SlipM} (h : LinesIs s.lines) (LA AA : Option Addr) : rowsL (case0 LA AA) s = resR s := by
  unfold rowsL resR
  congr 1
  exact flatMap_congr' fun x hx => by obtain ⟨q, hq⟩ := h x hx; exact line_row hq
theorem lineR_len (x : LineM) : (lineR x).length ≤ 1 := by unfold lineR; split <;> simp
theorem lines_len : ∀ l : List LineM, (l.flatMap lineR).length ≤ l.length
  | [] => Nat.le_refl _
  | x :: l => by
    have h1 := lineR_len x
    have h2 := lines_len l
    rw [List.flatMap_cons, List.length_append, List.length_cons]
    omega
theorem tail_len (s : SlipM) : (tailR s).length = s.taken.length + 5 := by simp [tailR, sumsL]
theorem taken_len (os : List Int) : (takenF os).length = os.length := by simp [takenF]
theorem res_sizes {month : Int} {ls : List Quad} {os : List Int} {s : SlipM} (h : ResIs month ls os s) : s.lines.length ≤ 20 ∧ s.taken.length ≤ 5 ∧ s.lines.length = min 20 ls.length ∧ s.taken.length = min 5 os.length := by
  rw [h.len, h.taken, taken_len, List.length_take, List.length_take]
  omega
theorem res_len {month : Int} {ls : List Quad} {os : List Int} {s : SlipM} (h : ResIs month ls os s) : 5 ≤ (resR s).length ∧ (resR s).length ≤ 30 := by
  have h1 := lines_len s.lines
  have h2 := res_sizes h
  unfold resR
  rw [List.length_append, tail_len]
  omega
theorem takenSum_bound : ∀ os : List Int, 0 ≤ takenSum os ∧ takenSum os ≤ 999 * (os.length : Int)
  | [] => by simp [takenSum]
  | x :: os => by
    have h1 := takenSum_bound os
    have h2 := pickF_lt x 1000 (by omega)
    have e : takenSum (x :: os) = pickF x 1000 + takenSum os := by simp [takenSum]
    rw [e, List.length_cons]
    omega
theorem tdiv5_bd {g : Int} (h : -20000000 ≤ g ∧ g ≤ 20000000) : -20000000 ≤ g.tdiv 5 ∧ g.tdiv 5 ≤ 20000000 := by
  by_cases hg0 : 0 ≤ g
  · rw [Int.tdiv_eq_ediv_of_nonneg hg0]; omega
  · obtain ⟨q, hq⟩ : ∃ q : Int, g = -q := ⟨-g, by omega⟩
    rw [hq, Int.neg_tdiv, Int.tdiv_eq_ediv_of_nonneg (by omega)]; omega
structure ResB (s : SlipM) : Prop where
  gross : -20000000 ≤ s.gross ∧ s.gross ≤ 20000000
  deduct : -20000000 ≤ s.deduct ∧ s.deduct ≤ 20000000
  tax : -20000000 ≤ s.tax ∧ s.tax ≤ 20000000
  net : -100000000 ≤ s.net ∧ s.net ≤ 100000000
  taken : ∀ t ∈ s.taken, 0 ≤ t.2 ∧ t.2 ≤ 999
theorem res_bounds {month : Int} {ls : List Quad} {os : List Int} {s : SlipM} (h : ResIs month ls os s) : ResB s := by
  have g := gross_bound (ls.take 20)
  have d := deduct_bound (ls.take 20)
  have t := takenSum_bound (os.take 5)
  have l1 : (ls.take 20).length ≤ 20 := by rw [List.length_take]; omega
  have l2 : (os.take 5).length ≤ 5 := by rw [List.length_take]; omega
  rw [← h.gross] at g
  rw [← h.deduct] at d
  have ht := h.tax
  have hn := h.net
  have g1 : -20000000 ≤ s.gross ∧ s.gross ≤ 20000000 := by omega
  have t1 : -20000000 ≤ s.tax ∧ s.tax ≤ 20000000 := by
    rw [ht]
    exact tdiv5_bd g1
  refine ⟨g1, by omega, t1, by omega, ?_⟩
  rw [h.taken]
  intro t' ht'
  obtain ⟨j, _, rfl⟩ := List.mem_map.1 ht'
  have := pickF_lt ((os.take 5).getD j 0) 1000 (by omega)
  dsimp only
  omega
theorem res_in {month : Int} {ls : List Quad} {os : List Int} {s : SlipM} (h : ResIs month ls os s) : ∀ x ∈ resR s, -100000000 ≤ x.c ∧ x.c ≤ 100000000 := by
  have b := res_bounds h
  have b1 := b.gross
  have b2 := b.deduct
  have b3 := b.tax
  have b4 := b.net
  have b5 := h.floor
  intro x hx
  unfold resR tailR sumsL netR at hx
  simp only [List.mem_append, List.mem_cons, List.not_mem_nil, or_false, List.mem_map, List.mem_flatMap] at hx
  rcases hx with ⟨y, hy, hx⟩ | ((rfl | rfl | rfl | rfl) | ⟨t, ht, rfl⟩) | rfl
  · obtain ⟨q, hq⟩ := res_line h y hy
    have hd := pickF_lt q.d 2000001 (by omega)
    have ha := hq.amt
    unfold lineR at hx
    split at hx
    · obtain rfl := List.mem_singleton.1 hx
      dsimp only
      omega
    · cases hx
  · dsimp only; omega
  · dsimp only; omega
  · dsimp only; omega
  · dsimp only; omega
  · have := b.taken t ht
    show -100000000 ≤ t.2 ∧ t.2 ≤ 100000000
    omega
  · dsimp only; omega
/-- The payslip of a result. -/
noncomputable def resS (s : SlipM) (seed : ByteArray) : SheetD := ⟨s.person, s.month, resR s, blindL s.person s.month seed (resR s).length, rootV (leafK (resR s) (blindL s.person s.month seed (resR s).length) (resR s).length)⟩
theorem res_rows {month : Int} {ls : List Quad} {os : List Int} {s : SlipM} (h : ResIs month ls os s) (LA AA : Option Addr) : rowsR (case0 LA AA) s = resR s ∧ rowsE (fitsB (case0 LA AA) s) (rowsL (case0 LA AA) s).length = 0 := by
  have e := rows_case (res_line h) LA AA
  have hl := res_len h
  have hf := res_fits h LA AA
  constructor
  · unfold rowsR
    rw [e, if_pos ⟨hf, by omega⟩]
  · rw [e, hf]
    unfold rowsE
    rw [if_pos rfl, if_pos (by omega)]
theorem res_seal {month : Int} {ls : List Quad} {os : List Int} {s : SlipM} (h : ResIs month ls os s) (LA AA : Option Addr) (seed : ByteArray) (hz : seed.size ≤ 64) : sealE (case0 LA AA) s seed = 0 ∧ sealS (case0 LA AA) s seed = resS s seed := by
  obtain ⟨h1, h2⟩ := res_rows h LA AA
  have hE : sealE (case0 LA AA) s seed = 0 := by
    unfold sealE
    rw [if_neg (by omega), h2, if_neg (by simp), h1, if_pos (okK_blind (resR s) _ _ _ fun x hx => ?_)]
    have := res_in h x hx
    unfold inR
    exact decide_eq_true (by omega)
  refine ⟨hE, ?_⟩
  unfold sealS resS
  rw [if_pos hE, h1]
theorem seal_long (c : CaseM) (s : SlipM) (seed : ByteArray) (hz : 64 < seed.size) : sealE c s seed = 1 := by
  unfold sealE
  rw [if_pos hz]
end Go.Proofs.YtfjkmhbipkoefaaDoor
namespace Go.Proofs.YtfjkmhbipkoefaaDoor
open Go.RowKit Go.Shelf
set_option linter.unusedVariables false
set_option linter.unusedSimpArgs false
set_option maxRecDepth 100000
theorem pcommit_mul (v b v' b' : Nat) : commitI (v : Int) (b : Int) * commitI (v' : Int) (b' : Int) % 2147483579 = commitI (((v + v') % Grp.Q : Nat) : Int) (((b + b') % Grp.Q : Nat) : Int) := by
  rw [commitI_nat, commitI_nat, commitI_nat, mulI_nat]
  congr 1
  have h4 : 4 ^ ((v + v') % Grp.Q) % Grp.P = 4 ^ (v + v') % Grp.P := (Grp.el_4.red (v + v')).symm
  have h9 : 9 ^ ((b + b') % Grp.Q) % Grp.P = 9 ^ (b + b') % Grp.P := (Grp.el_9.red (b + b')).symm
  rw [Grp.mc h4 h9, ← Nat.mul_mod]
  have e : 4 ^ v * 9 ^ b * (4 ^ v' * 9 ^ b') = 4 ^ (v + v') * 9 ^ (b + b') := by
    rw [Nat.pow_add, Nat.pow_add, Nat.mul_mul_mul_comm]
  rw [e]
theorem pcommit_one : commitI 0 0 = 1 := by decide +kernel
theorem pcommit_el (v b : Nat) : elB (commitI (v : Int) (b : Int)) = true := by
  rw [commitI_nat, elB_nat]
  exact ⟨Nat.mod_lt _ Grp.P_pos, ((Grp.el_4.pow' v).mul' (Grp.el_9.pow' b)).mod⟩
theorem pcommit_elI (v b : Int) (hv : 0 ≤ v) (hb : 0 ≤ b) : elB (commitI v b) = true := by
  obtain ⟨v', rfl⟩ := Int.eq_ofNat_of_zero_le hv
  obtain ⟨b', rfl⟩ := Int.eq_ofNat_of_zero_le hb
  exact pcommit_el _ _
/-- The sum of the first k numbers. -/
def sumK (l : List Int) : Nat → Int
  | 0 => 0
  | k + 1 => sumK l k + l.getD k 0
/-- The product of the first k commitments. -/
def prodK (cs bl : List Int) : Nat → Int
  | 0 => 1
  | k + 1 => prodK cs bl k * commitI (cs.getD k 0 % 1073741789) (bl.getD k 0) % 2147483579
theorem prodK_sum (cs bl : List Int) (n : Nat) (hb : ∀ j, j < n → 0 ≤ bl.getD j 0 ∧ bl.getD j 0 < 1073741789) :
    ∀ k, k ≤ n → prodK cs bl k = commitI (sumK cs k % 1073741789) (sumK bl k % 1073741789) ∧ elB (prodK cs bl k) = true := by
  intro k
  induction k with
  | zero => intro _; exact ⟨pcommit_one.symm, by have := pcommit_el 0 0; rw [show ((0 : Nat) : Int) = 0 from rfl, pcommit_one] at this; exact this⟩
  | succ k ih =>
    intro hk
    obtain ⟨h1, h2⟩ := ih (by omega)
    show prodK cs bl k * _ % 2147483579 = commitI ((sumK cs k + cs.getD k 0) % 1073741789) ((sumK bl k + bl.getD k 0) % 1073741789) ∧ elB (prodK cs bl k * _ % 2147483579) = true
    rw [h1]
    obtain ⟨b1, b2⟩ := hb k (by omega)
    obtain ⟨v, hv⟩ : ∃ v : Nat, sumK cs k % 1073741789 = v := ⟨(sumK cs k % 1073741789).toNat, by omega⟩
    obtain ⟨b, hb'⟩ : ∃ v : Nat, sumK bl k % 1073741789 = v := ⟨(sumK bl k % 1073741789).toNat, by omega⟩
    obtain ⟨v', hv'⟩ : ∃ v : Nat, cs.getD k 0 % 1073741789 = v := ⟨(cs.getD k 0 % 1073741789).toNat, by omega⟩
    obtain ⟨b', hbk⟩ : ∃ v : Nat, bl.getD k 0 = v := ⟨(bl.getD k 0).toNat, by omega⟩
    rw [hv, hb', hv', hbk, pcommit_mul]
    have e1 : (sumK cs k + cs.getD k 0) % 1073741789 = (((v + v') % Grp.Q : Nat) : Int) := by
      show _ = (((v + v') % 1073741789 : Nat) : Int)
      omega
    have e2 : (sumK bl k + (b' : Int)) % 1073741789 = (((b + b') % Grp.Q : Nat) : Int) := by
      show _ = (((b + b') % 1073741789 : Nat) : Int)
      omega
    rw [e1, e2]
    exact ⟨rfl, pcommit_el _ _⟩
theorem sumK_bd (l : List Int) (B : Int) (hB : 0 ≤ B) (h : ∀ j, -B ≤ l.getD j 0 ∧ l.getD j 0 ≤ B) : ∀ k : Nat, -((k : Int) * B) ≤ sumK l k ∧ sumK l k ≤ (k : Int) * B
  | 0 => by simp [sumK]
  | k + 1 => by
    have h1 := sumK_bd l B hB h k
    have h2 := h k
    have e : ((k + 1 : Nat) : Int) * B = (k : Int) * B + B := by rw [Int.natCast_add, Int.add_mul]; simp
    rw [e]
    show _ ≤ sumK l k + l.getD k 0 ∧ sumK l k + l.getD k 0 ≤ _
    omega
theorem tmod_cases (c : Int) : (0 ≤ c.tmod 1073741789 ∧ c.tmod 1073741789 = c % 1073741789) ∨ (c.tmod 1073741789 < 0 ∧ -1073741789 < c.tmod 1073741789 ∧ c.tmod 1073741789 + 1073741789 = c % 1073741789) := by
  by_cases h : 0 ≤ c
  · rw [Int.tmod_eq_emod_of_nonneg h]
    exact .inl ⟨by omega, rfl⟩
  · obtain ⟨q, hq⟩ : ∃ q : Int, c = -q := ⟨-c, by omega⟩
    rw [hq, Int.neg_tmod, Int.tmod_eq_emod_of_nonneg (by omega)]
    by_cases h0 : q % 1073741789 = 0
    · exact .inl ⟨by omega, by omega⟩
    · exact .inr ⟨by omega, by omega, by omega⟩
theorem pvalue_any (c v : Int) (hv : Hid (c % 1073741789 = v)) (w : World) : Calls Tryd.prog 57 #[.int .i64 c] w fun e w' => e = .returned (.int .i64 v) ∧ Below w.heap.size w w' := by
  have hv' := hv.out
  rcases tmod_cases c with ⟨h0, h1⟩ | ⟨h0, h2, h1⟩
  · have e1 : c.tmod 1073741789 = v := h1.trans hv'
    have h3 : ¬ v < 0 := by omega
    clear hv hv' h0 h1
    go_enter Tryd.func57, Tryd.ntmps57
    go_wp2
    go_ret
    exact ⟨by first | rfl | (simp [e1]), Below.refl _ _⟩
  · obtain ⟨r, hr⟩ : ∃ r, c.tmod 1073741789 = r := ⟨_, rfl⟩
    rw [hr] at h0 h1 h2
    have e3 : IntKind.i64.wrap (r + 1073741789) = v := by rw [IntWalk.i64_in _ (by omega)]; exact h1.trans hv'
    have e2 : r + 1073741789 = v := h1.trans hv'
    clear hv hv' h1
    go_enter Tryd.func57, Tryd.ntmps57
    go_wp2
    go_ret
    exact ⟨by first | rfl | (simp [e2, e3]), Below.refl _ _⟩
end Go.Proofs.YtfjkmhbipkoefaaDoor
namespace Go.Proofs.YtfjkmhbipkoefaaDoor
open Go.RowKit
set_option linter.unusedVariables false
/-- The loop of the reference's power: the bits from the highest on. -/
structure RpRel (b e : Int) (j : Nat) (o : Int) : Prop where
  j1 : j ≤ 63
  o0 : 0 ≤ o
  o1 : o < 2147483579
  hv : o = ((b.toNat ^ (e.toNat / 2 ^ j) % Grp.P : Nat) : Int)
theorem rstep (b E : Nat) (k : Nat) : b ^ (E / 2 ^ k) % Grp.P = (if E / 2 ^ k % 2 = 1 then (b ^ (E / 2 ^ (k + 1)) % Grp.P * (b ^ (E / 2 ^ (k + 1)) % Grp.P) % Grp.P) * b % Grp.P else b ^ (E / 2 ^ (k + 1)) % Grp.P * (b ^ (E / 2 ^ (k + 1)) % Grp.P) % Grp.P) := by
  have hh : E / 2 ^ (k + 1) = E / 2 ^ k / 2 := by rw [Nat.pow_succ, Nat.div_div_eq_div_mul]
  rw [hh]
  generalize E / 2 ^ k = q
  rw [← Nat.mul_mod]
  by_cases h : q % 2 = 1
  · rw [if_pos h, Nat.mod_mul_mod, ← Nat.pow_add, ← Nat.pow_succ]
    congr 2
    omega
  · rw [if_neg h, ← Nat.pow_add]
    congr 2
    omega
theorem RpRel.step {b e : Int} {k : Nat} {o o' : Int} (hb0 : 0 ≤ b) (h : RpRel b e (k + 1) o) (ho : o' = if e.toNat / 2 ^ k % 2 = 1 then o * o % 2147483579 * b % 2147483579 else o * o % 2147483579) : RpRel b e k o' := by
  have hj := h.j1
  obtain ⟨B, rfl⟩ := Int.eq_ofNat_of_zero_le hb0
  have hv : o' = ((B ^ (e.toNat / 2 ^ k) % Grp.P : Nat) : Int) := by
    rw [ho, h.hv, Int.toNat_natCast, rstep B e.toNat k]
    split
    · rw [mulI_nat, mulI_nat]
    · rw [mulI_nat]
  have hl : B ^ (e.toNat / 2 ^ k) % Grp.P < 2147483579 := Nat.mod_lt _ Grp.P_pos
  exact ⟨by omega, by rw [hv]; omega, by rw [hv]; omega, by rw [hv, Int.toNat_natCast]⟩
set_option maxHeartbeats 4000000 in
set_option maxRecDepth 100000 in
theorem rpower_v (b e v : Int) (w : World) (hb0 : 0 ≤ b) (hb1 : b < 2147483579) (he0 : 0 ≤ e) (he1 : e ≤ 9223372036854775807) (hv : Hid (pwI b e = v)) :
    Calls Tryd.prog 73 #[.int .i64 b, .int .i64 e] w fun r w' => r = .returned (.int .i64 v) ∧ w = w' := by
  have hst : RpRel b e 63 1 := by
    refine ⟨by omega, by omega, by omega, ?_⟩
    rw [Nat.div_eq_of_lt (show e.toNat < 2 ^ 63 by have : (2 : Nat) ^ 63 = 9223372036854775808 := rfl; omega), Nat.pow_zero]
    decide
  have HST := Lib.hid hst
  clear hst
  go_enter Tryd.func73, Tryd.ntmps73
  go_wp2
  go_loop [5, 6] (fun s5 s6 => ∃ (j : Nat) (o : Int), s6 = .int .i64 ((j : Int) - 1) ∧ s5 = .int .i64 o ∧ RpRel b e j o) (fun _ s6 => (intOf s6 + 1).toNat)
  case atStart => exact ⟨63, 1, rfl, rfl, HST.out⟩
  case round =>
    clear HST
    obtain ⟨j, o, rfl, rfl, hR⟩ := hrel
    have o0 := hR.o0
    have o1 := hR.o1
    have j1 := hR.j1
    cases j with
    | zero =>
      have ho : o = v := by
        rw [hR.hv, ← hv.out]
        unfold pwI
        rw [Nat.pow_zero, Nat.div_one]
      subst ho
      have hz : ((0 : Nat) : Int) - 1 = -1 := by omega
      rw [hz]
      clear hR hz
      go_wp2
      go_ret
      exact ⟨rfl, rfl⟩
    | succ k =>
      have hz : ((k + 1 : Nat) : Int) - 1 = (k : Int) := by omega
      rw [hz]
      clear hz
      have hsq := mulB o0 o1 o0 o1
      have hsb := modB _ hsq.1
      obtain ⟨s, hs⟩ : ∃ s, o * o % 2147483579 = s := ⟨_, rfl⟩
      rw [hs] at hsb
      have hm := mulB hsb.1 hsb.2 hb0 hb1
      obtain ⟨q, hq⟩ : ∃ q : Int, e / (2 : Int) ^ k = q := ⟨_, rfl⟩
      have hq2 : q = ((e.toNat / 2 ^ k : Nat) : Int) := by
        rw [← hq, Int.natCast_ediv, Int.toNat_of_nonneg he0, Int.natCast_pow]; rfl
      have hqb : e.toNat / 2 ^ k < 9223372036854775808 := by
        have := Nat.div_le_self e.toNat (2 ^ k)
        omega
      have hbt := bit_test _ hqb
      rw [← hq2] at hbt
      have c1 : (0 : Int) ≤ (k : Int) := Int.natCast_nonneg _
      have c2 : (k : Int) ≤ 62 := by omega
      by_cases hodd : e.toNat / 2 ^ k % 2 = 1
      · have ht : (Go.bits .and .i64 q 1 == 1) = true := by rw [hbt]; simpa using hodd
        have HF := Lib.hid (hR.step hb0 (o' := s * b % 2147483579) (by rw [if_pos hodd, hs]))
        clear hR hq2 hqb hbt hodd
        go_wp2
        go_round
        case rel => exact ⟨k, _, rfl, rfl, HF.out⟩
        case measure => first | (simp [intOf]; omega) | simp [intOf]
      · have ht : (Go.bits .and .i64 q 1 == 1) = false := by rw [hbt]; simpa using hodd
        have HF := Lib.hid (hR.step hb0 (o' := o * o % 2147483579) (by rw [if_neg hodd]))
        clear hR hq2 hqb hbt hodd
        go_wp2
        go_round
        case rel => exact ⟨k, _, rfl, rfl, HF.out⟩
        case measure => first | (simp [intOf]; omega) | simp [intOf]
theorem rcommit_v (v b c : Int) (hc : Hid (commitI v b = c)) (w : World) (hv0 : 0 ≤ v) (hv1 : v < 1073741789) (hb0 : 0 ≤ b) (hb1 : b < 1073741789) :
    Calls Tryd.prog 56 #[.int .i64 v, .int .i64 b] w fun e w' => e = .returned (.tuple #[.int .i64 c, .int .i64 0]) ∧ w = w' := by
  obtain ⟨x, hx⟩ : ∃ x, pwI 4 v = x := ⟨_, rfl⟩
  obtain ⟨y, hy⟩ : ∃ y, pwI 9 b = y := ⟨_, rfl⟩
  have hxb := pwI_bd 4 v
  have hyb := pwI_bd 9 b
  rw [hx] at hxb
  rw [hy] at hyb
  have hm := mulB hxb.1 hxb.2 hyb.1 hyb.2
  have hcc : x * y % 2147483579 = c := by rw [← hc.out]; unfold commitI; rw [hx, hy]
  have HX := Lib.hid hx
  have HY := Lib.hid hy
  have HCC := Lib.hid hcc
  clear hx hy hc hcc
  go_enter Tryd.func56, Tryd.ntmps56
  go_wp2_with fail
  refine (rpower_v 4 v x _ (by omega) (by omega) (by omega) (by omega) HX).mono ?_
  rintro e w' ⟨rfl, rfl⟩
  go_wp2_with fail
  refine (rpower_v 9 b y _ (by omega) (by omega) (by omega) (by omega) HY).mono ?_
  rintro e w' ⟨rfl, rfl⟩
  go_wp2
  go_ret2
  exact ⟨by rw [← HCC.out]; rfl, rfl⟩
end Go.Proofs.YtfjkmhbipkoefaaDoor
namespace Go.Proofs.YtfjkmhbipkoefaaDoor
open Go.RowKit Go.Shelf
set_option linter.unusedVariables false
set_option linter.unusedSimpArgs false
set_option maxRecDepth 100000
theorem eqRow (s r : ByteArray) (c : Int) (w : World) : (Op.equalIn 10000 64 (.agg #[.string s, .int .i64 c, .string r]) (.agg #[.string s, .int .i64 c, .string r])).run Tryd.prog w = .ok true w := by
  have hf : Tryd.prog.fieldsOf 64 = _ := (by kernel_rfl : _ = (match Tryd.prog.underlying 64 with | some (.struct fs) => fs | _ => #[]))
  rw [run_equalIn_struct w 9999 _ _ _ (by kernel_rfl) (by kernel_rfl), hf, Tryd.underlying64]
  have hag : ∀ w, (isAgg 3).run Tryd.prog w = .ok false w := fun _ => by kernel_rfl
  have hag2 : ∀ w, (isAgg 9).run Tryd.prog w = .ok false w := fun _ => by kernel_rfl
  have hi := fun (w : World) (a : Int) => run_equalIn_int (P := Tryd.prog) w 9998 3 .i64 .i64 a a Tryd.underlying3
  have hs := fun (w : World) (a : ByteArray) => run_equalIn_string (P := Tryd.prog) w 9998 9 a a Tryd.underlying9
  simp [Op.eqFields, part, hag, hag2, hi, hs]
attribute [-go_sem] run_equalIn_agg
attribute [local go_sem] eqRow
set_option maxHeartbeats 4000000 in
theorem samerows_eq (A B : Option Addr) (ca cb n : Nat) (l : List RowD) (w : World) (hn : l.length = n) (hA : Sl w w.heap.size 3 A n (rowsV l)) (hB : Sl w w.heap.size 3 B n (rowsV l)) (hl : n ≤ 1000000) :
    Calls Tryd.prog 12 #[.slice A n ca, .slice B n cb] w fun e w' => e = .returned (.bool true) ∧ Below w.heap.size w w' := by
  have hne : ((n : Int) != (n : Int)) = false := by simp
  have HA := Lib.hid hA
  have HB := Lib.hid hB
  have Hn := Lib.hid hn
  clear hA hB hn
  go_enter Tryd.func12, Tryd.ntmps12
  go_wp2
  go_loopw [5] (fun i wr => ∃ k : Nat, k ≤ n ∧ i = .int .i64 k ∧ Below w.heap.size w wr) (fun i _ => n - (intOf i).toNat)
  case atStart => exact ⟨0, by omega, rfl, Below.refl _ _⟩
  case round =>
    obtain ⟨k, hk, rfl, hW⟩ := hrel
    by_cases hlt : k < n
    · obtain ⟨b, off, rfl, hb, hcell⟩ := (HA.out).2 (by omega)
      obtain ⟨b2, off2, rfl, hb2, hcell2⟩ := (HB.out).2 (by omega)
      have hkl : k < l.length := by rw [Hn.out]; exact hlt
      have hget := flat_get rowV 3 (fun _ => rfl) l k hkl
      obtain ⟨x, hx⟩ : ∃ x, l[k] = x := ⟨_, rfl⟩
      rw [hx] at hget
      obtain ⟨xs, xc, xr⟩ := x
      have g0 : wr.cell? ⟨b, off + k * 3, none⟩ = some (.string xs) := (hW.cell (p := ⟨b, off + k * 3, none⟩) hb).trans (hcell _ _ (hget 0 (by decide)))
      have g1 : wr.cell? ⟨b, off + k * 3 + 1, none⟩ = some (.int .i64 xc) := (hW.cell (p := ⟨b, off + k * 3 + 1, none⟩) hb).trans (hcell _ _ (hget 1 (by decide)))
      have g2 : wr.cell? ⟨b, off + k * 3 + 2, none⟩ = some (.string xr) := (hW.cell (p := ⟨b, off + k * 3 + 2, none⟩) hb).trans (hcell _ _ (hget 2 (by decide)))
      have h0 : wr.cell? ⟨b2, off2 + k * 3, none⟩ = some (.string xs) := (hW.cell (p := ⟨b2, off2 + k * 3, none⟩) hb2).trans (hcell2 _ _ (hget 0 (by decide)))
      have h1 : wr.cell? ⟨b2, off2 + k * 3 + 1, none⟩ = some (.int .i64 xc) := (hW.cell (p := ⟨b2, off2 + k * 3 + 1, none⟩) hb2).trans (hcell2 _ _ (hget 1 (by decide)))
      have h2 : wr.cell? ⟨b2, off2 + k * 3 + 2, none⟩ = some (.string xr) := (hW.cell (p := ⟨b2, off2 + k * 3 + 2, none⟩) hb2).trans (hcell2 _ _ (hget 2 (by decide)))
      have hlt' : (k : Int) < (n : Int) := by omega
      clear hcell hcell2 hget hx hkl
      go_wp2
      go_region
      go_wp2
      go_roundw
      case rel => exact ⟨k + 1, by omega, by go_num, hW.drew⟩
      case measure => simp [intOf]; omega
    · obtain rfl : n = k := by omega
      go_wp2
      go_ret
      exact ⟨rfl, hW⟩
set_option maxHeartbeats 4000000 in
theorem same35_eq (p : ByteArray) (m : Int) (A B A' B' : Option Addr) (ca cb ca' cb' n k : Nat) (l : List RowD) (bl : List Int) (root : UInt64) (w : World) (hn : l.length = n) (hk : bl.length = k) (hA : Sl w w.heap.size 3 A n (rowsV l)) (hA' : Sl w w.heap.size 3 A' n (rowsV l)) (hB : Sl w w.heap.size 1 B k (intV bl)) (hB' : Sl w w.heap.size 1 B' k (intV bl)) (hl : n ≤ 1000000) (hkl : k ≤ 1000000) :
    Calls Tryd.prog 13 #[.agg #[.string p, .int .i64 m, .slice A n ca, .slice B k cb, .int .u64 root.toNat], .agg #[.string p, .int .i64 m, .slice A' n ca', .slice B' k cb', .int .u64 root.toNat]] w fun e w' => e = .returned (.bool true) ∧ Below w.heap.size w w' := by
  have hne : ((k : Int) != (k : Int)) = false := by simp
  have hne1 : (p.toList != p.toList) = false := by simp
  have hne2 : (m != m) = false := by simp
  have hne3 : ((root.toNat : Int) != (root.toNat : Int)) = false := by simp
  have HA := Lib.hid hA
  have HB := Lib.hid hB
  have HA' := Lib.hid hA'
  have HB' := Lib.hid hB'
  have Hn := Lib.hid hn
  have Hk := Lib.hid hk
  clear hA hB hA' hB' hn hk
  go_enter Tryd.func13, Tryd.ntmps13
  go_upto_region 1 with fail
  obtain ⟨W, hW⟩ : ∃ W, W = (w.alloc (.cells #[.string p, .int .i64 m, .slice A n ca, .slice B k cb, .int .u64 root.toNat] 43)).alloc (.cells #[.string p, .int .i64 m, .slice A' n ca', .slice B' k cb', .int .u64 root.toNat] 43) := ⟨_, rfl⟩
  rw [← hW]
  obtain ⟨X, hX⟩ : ∃ x, x = w.heap.size := ⟨_, rfl⟩
  have q0 : W.heap[X]? = some (.cells #[.string p, .int .i64 m, .slice A n ca, .slice B k cb, .int .u64 root.toNat] 43 (0, 0)) := by rw [hW, hX]; exact heap_alloc2_old w _ _
  have q1 : W.heap[X + 1]? = some (.cells #[.string p, .int .i64 m, .slice A' n ca', .slice B' k cb', .int .u64 root.toNat] 43 (0, 0)) := by rw [hW, hX]; exact heap_alloc2_new w _ _
  have hBW : Below w.heap.size w W := by rw [hW]; exact bal (bal (Below.refl _ _) _) _
  rw [← hX]
  have Q0 := Lib.hid q0
  have Q1 := Lib.hid q1
  have HX := Lib.hid hX
  have HBW := Lib.hid hBW
  clear hW hX
  have x0 : W.cell? ⟨X, 0, none⟩ = some (.string p) := by rw [Lib.cell_of_heap q0]; rfl
  have x1 : W.cell? ⟨X, 1, none⟩ = some (.int .i64 m) := by rw [Lib.cell_of_heap q0]; rfl
  have x3 : W.cell? ⟨X, 3, none⟩ = some (.slice B k cb) := by rw [Lib.cell_of_heap q0]; rfl
  have x4 : W.cell? ⟨X, 4, none⟩ = some (.int .u64 root.toNat) := by rw [Lib.cell_of_heap q0]; rfl
  have y0 : W.cell? ⟨X + 1, 0, none⟩ = some (.string p) := by rw [Lib.cell_of_heap q1]; rfl
  have y1 : W.cell? ⟨X + 1, 1, none⟩ = some (.int .i64 m) := by rw [Lib.cell_of_heap q1]; rfl
  have y3 : W.cell? ⟨X + 1, 3, none⟩ = some (.slice B' k cb') := by rw [Lib.cell_of_heap q1]; rfl
  have y4 : W.cell? ⟨X + 1, 4, none⟩ = some (.int .u64 root.toNat) := by rw [Lib.cell_of_heap q1]; rfl
  clear q0 q1 hBW
  go_wp2_with fail
  clear x0 x1 x3 x4 y0 y1 y3 y4
  go_loopw [5] (fun i wr => ∃ j : Nat, j ≤ k ∧ i = .int .i64 j ∧ Below W.heap.size W wr) (fun i _ => k - (intOf i).toNat)
  case atStart => exact ⟨0, by omega, rfl, Below.refl _ _⟩
  case round =>
    obtain ⟨j, hj, rfl, hW⟩ := hrel
    have hXl := (Array.getElem?_eq_some_iff.1 Q0.out).1
    have hXl1 := (Array.getElem?_eq_some_iff.1 Q1.out).1
    have q0 := (hW.block _ hXl).trans Q0.out
    have q1 := (hW.block _ hXl1).trans Q1.out
    have x3 : wr.cell? ⟨X, 3, none⟩ = some (.slice B k cb) := by rw [Lib.cell_of_heap q0]; rfl
    by_cases hlt : j < k
    · have hWw : Below w.heap.size w wr := bgo HBW.out hW
      obtain ⟨b, off, rfl, hb, hcell⟩ := (HB.out).2 (by omega)
      obtain ⟨b2, off2, rfl, hb2, hcell2⟩ := (HB'.out).2 (by omega)
      have hjl : j < bl.length := by rw [Hk.out]; exact hlt
      have g0 : wr.cell? ⟨b, off + j, none⟩ = some (.int .i64 (bl.getD j 0)) := (hWw.cell (p := ⟨b, off + j, none⟩) hb).trans (hcell _ _ (intV_get bl j hjl))
      have h0 : wr.cell? ⟨b2, off2 + j, none⟩ = some (.int .i64 (bl.getD j 0)) := (hWw.cell (p := ⟨b2, off2 + j, none⟩) hb2).trans (hcell2 _ _ (intV_get bl j hjl))
      have y3 : wr.cell? ⟨X + 1, 3, none⟩ = some (.slice (some ⟨b2, off2, none⟩) k cb') := by rw [Lib.cell_of_heap q1]; rfl
      obtain ⟨z, hz⟩ : ∃ z, bl.getD j 0 = z := ⟨_, rfl⟩
      rw [hz] at g0 h0
      have hnz : (z != z) = false := by simp
      have hlt' : (j : Int) < (k : Int) := by omega
      clear hcell hcell2 hz hjl q0 q1 hXl hXl1 hWw
      go_wp2
      go_region
      go_wp2
      go_roundw
      case rel => exact ⟨j + 1, by omega, by go_num, hW.drew⟩
      case measure => simp [intOf]; omega
    · obtain rfl : k = j := by omega
      have x2 : wr.cell? ⟨X, 2, none⟩ = some (.slice A n ca) := by rw [Lib.cell_of_heap q0]; rfl
      have y2 : wr.cell? ⟨X + 1, 2, none⟩ = some (.slice A' n ca') := by rw [Lib.cell_of_heap q1]; rfl
      have hWw : Below w.heap.size w wr := bgo HBW.out hW
      have HAw := Lib.hid (HA.out.go hWw)
      have HAw' := Lib.hid (HA'.out.go hWw)
      clear q0 q1 hXl hXl1
      go_wp2_with fail
      refine (samerows_eq A A' ca ca' n l _ Hn.out HAw.out HAw'.out hl).mono ?_
      rintro e w9 ⟨rfl, hB9⟩
      go_wp2_with fail
      go_ret
      exact ⟨rfl, bgo hWw hB9⟩
theorem rleafP_any (label : ByteArray) (c : Int) (reason t : ByteArray) (ht : Hid (leafB label c reason = t)) (hc : -9223372036854775808 ≤ c ∧ c ≤ 9223372036854775807) (hl : label.size ≤ 70368744177000) (hr : reason.size ≤ 70368744177000) (w : World) :
    Calls Tryd.prog 17 #[.string label, .int .i64 c, .string reason] w fun e w' => e = .returned (.string t) ∧ Below w.heap.size w w' := by
  have h1 := rnumber_any (label.size : Int).natAbs (label.size : Int)
  have h2 := rnumber_any c.natAbs c
  obtain ⟨a, ha⟩ : ∃ a, itoaB label.size = a := ⟨_, rfl⟩
  obtain ⟨b, hb⟩ : ∃ b, itoaB c = b := ⟨_, rfl⟩
  have ha1 := itoaB_size label.size (by omega) (by omega)
  have hb1 := itoaB_size c hc.1 hc.2
  rw [ha] at ha1 h1
  rw [hb] at hb1 h2
  have Ht : Hid (a ++ ⟨#[58]⟩ ++ label ++ b ++ ⟨#[32]⟩ ++ reason = t) := Lib.hid (by
    rw [← ht.out, leafB, ha, hb]
    apply ByteArray.ext
    apply Array.toList_inj.1
    simp only [catB, app_data, colon, blank, List.append_assoc, List.append_nil])
  have e1 : (⟨#[58]⟩ : ByteArray).size = 1 := rfl
  have e2 : (⟨#[32]⟩ : ByteArray).size = 1 := rfl
  have c1 : ¬ 9223372036854775807 < a.size + 1 := by omega
  have c2 : ¬ 9223372036854775807 < (a ++ ⟨#[58]⟩).size + label.size := by simp only [app_size, e1]; omega
  have c3 : ¬ 9223372036854775807 < (a ++ ⟨#[58]⟩ ++ label).size + b.size := by simp only [app_size, e1]; omega
  have c4 : ¬ 9223372036854775807 < (a ++ ⟨#[58]⟩ ++ label ++ b).size + 1 := by simp only [app_size, e1]; omega
  have c5 : ¬ 9223372036854775807 < (a ++ ⟨#[58]⟩ ++ label ++ b ++ ⟨#[32]⟩).size + reason.size := by simp only [app_size, e1, e2]; omega
  have H1 := Lib.hid (fun w => h1 w (Nat.le_refl _) (by omega) (by omega))
  have H2 := Lib.hid (fun w => h2 w (Nat.le_refl _) hc.1 hc.2)
  clear h1 h2 ha hb ha1 hb1 ht
  go_enter Tryd.func17, Tryd.ntmps17
  go_wp2_with fail
  (with_reducible refine (H1.out w).mono ?_)
  rintro e w1 ⟨rfl, hB1⟩
  go_wp2_with fail
  (with_reducible refine (H2.out w1).mono ?_)
  rintro e w2 ⟨rfl, hB2⟩
  go_wp2_with fail
  go_ret
  exact ⟨by rw [← Ht.out]; rfl, bgo hB1 hB2⟩
end Go.Proofs.YtfjkmhbipkoefaaDoor
