/- What Rows and Seal answer at what Result returns (layer 35, plain). -/
import Derived.Test.YtgkilaafeconlaaDoorPsRes0
import Derived.Test.YtgkilaafeconlaaDoorPsHead
namespace Go.Proofs.YtgkilaafeconlaaDoor
open Go.RowKit Go.Shelf
set_option linter.unusedVariables false
set_option linter.unusedSimpArgs false
theorem res_line {month : Int} {ls : List Quad} {os : List Int} {s : SlipM} (h : ResIs month ls os s) : ∀ x ∈ s.lines, ∃ q, LineIs q x := by
  intro x hx
  obtain ⟨j, hj, rfl⟩ := List.getElem_of_mem hx
  have hj2 : j < (ls.take 20).length := by rw [← h.len]; exact hj
  exact ⟨(ls.take 20)[j], h.lines j _ _ (List.getElem?_eq_getElem hj) (List.getElem?_eq_getElem hj2)⟩
theorem line_fit {q : Quad} {x : LineM} (h : LineIs q x) : lineFit 4 2 x = true := by
  have h1 := pickF_lt q.a 36525 (by omega)
  have h2 := pickF_lt q.b 4 (by omega)
  have h3 := pickF_lt q.c 2 (by omega)
  unfold lineFit idxB
  rw [h.day, h.line, h.art, h.rests]
  simp only [Bool.and_eq_true, decide_eq_true_eq, List.all_eq_true]
  refine ⟨⟨⟨by omega, by omega⟩, by omega⟩, ?_⟩
  intro r hr
  unfold restsF at hr
  split at hr
  · obtain rfl := List.mem_singleton.1 hr
    omega
  · cases hr
theorem res_fits {month : Int} {ls : List Quad} {os : List Int} {s : SlipM} (h : ResIs month ls os s) (LA AA : Option Addr) : fitsB (case0 LA AA) s = true := by
  have hn : isNameB annB = true := by decide +kernel
  have hm := pickF_lt month 1200 (by omega)
  unfold fitsB
  rw [h.person, hn, h.month]
  simp only [Bool.true_and, Bool.and_eq_true, decide_eq_true_eq, List.all_eq_true]
  refine ⟨by omega, fun x hx => ?_⟩
  obtain ⟨q, hq⟩ := res_line h x hx
  exact line_fit hq
def eurB : ByteArray := ⟨#[69, 85, 82]⟩
def basicB : ByteArray := ⟨#[98, 97, 115, 105, 99]⟩
def unionB : ByteArray := ⟨#[117, 110, 105, 111, 110]⟩
theorem line_row {q : Quad} {x : LineM} (h : LineIs q x) : rowOf ds0 [12, 14] eurB x = if x.line < 2 then [⟨if x.line = 0 then basicB else unionB, x.amt, reasonB [12, 14] x⟩] else [] := by
  have h2 := pickF_lt q.b 4 (by omega)
  rw [← h.line] at h2
  rcases (show x.line = 0 ∨ x.line = 1 ∨ x.line = 2 ∨ x.line = 3 by omega) with e | e | e | e
  · rw [rowOf_one (ds := ds0) (nums := [12, 14]) (cur := eurB) (d := ⟨⟨#[98, 97, 115, 105, 99]⟩, ⟨#[69, 85, 82]⟩, 1⟩) (by rw [e]; rfl) rfl (by decide), if_pos (by omega), if_pos e]
    rfl
  · rw [rowOf_one (ds := ds0) (nums := [12, 14]) (cur := eurB) (d := ⟨⟨#[117, 110, 105, 111, 110]⟩, ⟨#[69, 85, 82]⟩, 2⟩) (by rw [e]; rfl) rfl (by decide), if_pos (by omega), if_neg (by omega)]
    rfl
  · rw [rowOf_none (ds := ds0) (nums := [12, 14]) (cur := eurB) (d := ⟨⟨#[110, 111, 116, 101]⟩, ⟨#[69, 85, 82]⟩, 4⟩) (by rw [e]; rfl) (by simp), if_neg (by omega)]
  · rw [rowOf_none (ds := ds0) (nums := [12, 14]) (cur := eurB) (d := ⟨⟨#[117, 115, 100]⟩, ⟨#[85, 83, 68]⟩, 1⟩) (by rw [e]; rfl) (by decide +kernel), if_neg (by omega)]
noncomputable def lineR (x : LineM) : List RowD := if x.line < 2 then [⟨if x.line = 0 then basicB else unionB, x.amt, reasonB [12, 14] x⟩] else []
/-- The rows of a result that fits. -/
noncomputable def resR (s : SlipM) : List RowD := s.lines.flatMap lineR ++ tailR s
theorem flatMap_congr' {α β : Type} {f g : α → List β} {l : List α} (h : ∀ x ∈ l, f x = g x) : l.flatMap f = l.flatMap g := by
  induction l with
  | nil => rfl
  | cons x l ih => rw [List.flatMap_cons, List.flatMap_cons, h x (List.mem_cons_self ..), ih fun y hy => h y (List.mem_cons_of_mem _ hy)]
/-- Every line is one that four numbers determine. -/
def LinesIs (lines : List LineM) : Prop := ∀ x ∈ lines, ∃ q, LineIs q x
theorem rows_case {s : SlipM} (h : LinesIs s.lines) (LA AA : Option Addr) : rowsL (case0 LA AA) s = resR s := by
  unfold rowsL resR
  congr 1
  exact flatMap_congr' fun x hx => by obtain ⟨q, hq⟩ := h x hx; exact line_row hq
theorem lineR_len (x : LineM) : (lineR x).length ≤ 1 := by unfold lineR; split <;> simp
theorem lines_len : ∀ l : List LineM, (l.flatMap lineR).length ≤ l.length
  | [] => Nat.le_refl _
  | x :: l => by
    have h1 := lineR_len x
    have h2 := lines_len l
    rw [List.flatMap_cons, List.length_append, List.length_cons]
    omega
theorem tail_len (s : SlipM) : (tailR s).length = s.taken.length + 5 := by simp [tailR, sumsL]
theorem taken_len (os : List Int) : (takenF os).length = os.length := by simp [takenF]
theorem res_sizes {month : Int} {ls : List Quad} {os : List Int} {s : SlipM} (h : ResIs month ls os s) : s.lines.length ≤ 20 ∧ s.taken.length ≤ 5 ∧ s.lines.length = min 20 ls.length ∧ s.taken.length = min 5 os.length := by
  rw [h.len, h.taken, taken_len, List.length_take, List.length_take]
  omega
theorem res_len {month : Int} {ls : List Quad} {os : List Int} {s : SlipM} (h : ResIs month ls os s) : 5 ≤ (resR s).length ∧ (resR s).length ≤ 30 := by
  have h1 := lines_len s.lines
  have h2 := res_sizes h
  unfold resR
  rw [List.length_append, tail_len]
  omega
theorem takenSum_bound : ∀ os : List Int, 0 ≤ takenSum os ∧ takenSum os ≤ 999 * (os.length : Int)
  | [] => by simp [takenSum]
  | x :: os => by
    have h1 := takenSum_bound os
    have h2 := pickF_lt x 1000 (by omega)
    have e : takenSum (x :: os) = pickF x 1000 + takenSum os := by simp [takenSum]
    rw [e, List.length_cons]
    omega
theorem tdiv5_bd {g : Int} (h : -20000000 ≤ g ∧ g ≤ 20000000) : -20000000 ≤ g.tdiv 5 ∧ g.tdiv 5 ≤ 20000000 := by
  by_cases hg0 : 0 ≤ g
  · rw [Int.tdiv_eq_ediv_of_nonneg hg0]; omega
  · obtain ⟨q, hq⟩ : ∃ q : Int, g = -q := ⟨-g, by omega⟩
    rw [hq, Int.neg_tdiv, Int.tdiv_eq_ediv_of_nonneg (by omega)]; omega
structure ResB (s : SlipM) : Prop where
  gross : -20000000 ≤ s.gross ∧ s.gross ≤ 20000000
  deduct : -20000000 ≤ s.deduct ∧ s.deduct ≤ 20000000
  tax : -20000000 ≤ s.tax ∧ s.tax ≤ 20000000
  net : -100000000 ≤ s.net ∧ s.net ≤ 100000000
  taken : ∀ t ∈ s.taken, 0 ≤ t.2 ∧ t.2 ≤ 999
theorem res_bounds {month : Int} {ls : List Quad} {os : List Int} {s : SlipM} (h : ResIs month ls os s) : ResB s := by
  have g := gross_bound (ls.take 20)
  have d := deduct_bound (ls.take 20)
  have t := takenSum_bound (os.take 5)
  have l1 : (ls.take 20).length ≤ 20 := by rw [List.length_take]; omega
  have l2 : (os.take 5).length ≤ 5 := by rw [List.length_take]; omega
  rw [← h.gross] at g
  rw [← h.deduct] at d
  have ht := h.tax
  have hn := h.net
  have g1 : -20000000 ≤ s.gross ∧ s.gross ≤ 20000000 := by omega
  have t1 : -20000000 ≤ s.tax ∧ s.tax ≤ 20000000 := by
    rw [ht]
    exact tdiv5_bd g1
  refine ⟨g1, by omega, t1, by omega, ?_⟩
  rw [h.taken]
  intro t' ht'
  obtain ⟨j, _, rfl⟩ := List.mem_map.1 ht'
  have := pickF_lt ((os.take 5).getD j 0) 1000 (by omega)
  dsimp only
  omega
theorem res_in {month : Int} {ls : List Quad} {os : List Int} {s : SlipM} (h : ResIs month ls os s) : ∀ x ∈ resR s, -100000000 ≤ x.c ∧ x.c ≤ 100000000 := by
  have b := res_bounds h
  have b1 := b.gross
  have b2 := b.deduct
  have b3 := b.tax
  have b4 := b.net
  have b5 := h.floor
  intro x hx
  unfold resR tailR sumsL netR at hx
  simp only [List.mem_append, List.mem_cons, List.not_mem_nil, or_false, List.mem_map, List.mem_flatMap] at hx
  rcases hx with ⟨y, hy, hx⟩ | ((rfl | rfl | rfl | rfl) | ⟨t, ht, rfl⟩) | rfl
  · obtain ⟨q, hq⟩ := res_line h y hy
    have hd := pickF_lt q.d 2000001 (by omega)
    have ha := hq.amt
    unfold lineR at hx
    split at hx
    · obtain rfl := List.mem_singleton.1 hx
      dsimp only
      omega
    · cases hx
  · dsimp only; omega
  · dsimp only; omega
  · dsimp only; omega
  · dsimp only; omega
  · have := b.taken t ht
    show -100000000 ≤ t.2 ∧ t.2 ≤ 100000000
    omega
  · dsimp only; omega
/-- The payslip of a result. -/
noncomputable def resS (s : SlipM) (seed : ByteArray) : SheetD := ⟨s.person, s.month, resR s, blindL s.person s.month seed (resR s).length, rootV (leafK (resR s) (blindL s.person s.month seed (resR s).length) (resR s).length)⟩
theorem res_rows {month : Int} {ls : List Quad} {os : List Int} {s : SlipM} (h : ResIs month ls os s) (LA AA : Option Addr) : rowsR (case0 LA AA) s = resR s ∧ rowsE (fitsB (case0 LA AA) s) (rowsL (case0 LA AA) s).length = 0 := by
  have e := rows_case (res_line h) LA AA
  have hl := res_len h
  have hf := res_fits h LA AA
  constructor
  · unfold rowsR
    rw [e, if_pos ⟨hf, by omega⟩]
  · rw [e, hf]
    unfold rowsE
    rw [if_pos rfl, if_pos (by omega)]
theorem res_seal {month : Int} {ls : List Quad} {os : List Int} {s : SlipM} (h : ResIs month ls os s) (LA AA : Option Addr) (seed : ByteArray) (hz : seed.size ≤ 64) : sealE (case0 LA AA) s seed = 0 ∧ sealS (case0 LA AA) s seed = resS s seed := by
  obtain ⟨h1, h2⟩ := res_rows h LA AA
  have hE : sealE (case0 LA AA) s seed = 0 := by
    unfold sealE
    rw [if_neg (by omega), h2, if_neg (by simp), h1, if_pos (okK_blind (resR s) _ _ _ fun x hx => ?_)]
    have := res_in h x hx
    unfold inR
    exact decide_eq_true (by omega)
  refine ⟨hE, ?_⟩
  unfold sealS resS
  rw [if_pos hE, h1]
theorem seal_long (c : CaseM) (s : SlipM) (seed : ByteArray) (hz : 64 < seed.size) : sealE c s seed = 1 := by
  unfold sealE
  rw [if_pos hz]
end Go.Proofs.YtgkilaafeconlaaDoor
