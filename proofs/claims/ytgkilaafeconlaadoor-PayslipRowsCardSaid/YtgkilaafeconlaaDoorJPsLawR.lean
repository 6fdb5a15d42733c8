/- The walk of PayslipRows. -/
import Derived.Test.YtgkilaafeconlaaDoorJE
namespace Go.Proofs.YtgkilaafeconlaaDoor
open Go.RowKit Go.Shelf
set_option linter.unusedVariables false
set_option linter.unusedSimpArgs false
set_option maxRecDepth 100000

attribute [-go_sem] run_equalIn_agg
attribute [local go_sem] eqRow
def mkLines : Array Value := #[.int .i64 0, .int .i64 0, .int .i64 0, .int .i64 0, .slice none 0 0, .slice none 0 0, .int .i64 0, .int .i64 0, .int .i64 0, .int .i64 0, .slice none 0 0, .slice none 0 0, .int .i64 0, .int .i64 0, .int .i64 0, .int .i64 0, .slice none 0 0, .slice none 0 0, .int .i64 0, .int .i64 0, .int .i64 0, .int .i64 0, .slice none 0 0, .slice none 0 0, .int .i64 0, .int .i64 0, .int .i64 0, .int .i64 0, .slice none 0 0, .slice none 0 0, .int .i64 0, .int .i64 0, .int .i64 0, .int .i64 0, .slice none 0 0, .slice none 0 0, .int .i64 0, .int .i64 0, .int .i64 0, .int .i64 0, .slice none 0 0, .slice none 0 0, .int .i64 0, .int .i64 0, .int .i64 0, .int .i64 0, .slice none 0 0, .slice none 0 0, .int .i64 0, .int .i64 0, .int .i64 0, .int .i64 0, .slice none 0 0, .slice none 0 0, .int .i64 0, .int .i64 0, .int .i64 0, .int .i64 0, .slice none 0 0, .slice none 0 0, .int .i64 0, .int .i64 0, .int .i64 0, .int .i64 0, .slice none 0 0, .slice none 0 0, .int .i64 0, .int .i64 0, .int .i64 0, .int .i64 0, .slice none 0 0, .slice none 0 0, .int .i64 0, .int .i64 0, .int .i64 0, .int .i64 0, .slice none 0 0, .slice none 0 0, .int .i64 0, .int .i64 0, .int .i64 0, .int .i64 0, .slice none 0 0, .slice none 0 0, .int .i64 0, .int .i64 0, .int .i64 0, .int .i64 0, .slice none 0 0, .slice none 0 0, .int .i64 0, .int .i64 0, .int .i64 0, .int .i64 0, .slice none 0 0, .slice none 0 0, .int .i64 0, .int .i64 0, .int .i64 0, .int .i64 0, .slice none 0 0, .slice none 0 0, .int .i64 0, .int .i64 0, .int .i64 0, .int .i64 0, .slice none 0 0, .slice none 0 0, .int .i64 0, .int .i64 0, .int .i64 0, .int .i64 0, .slice none 0 0, .slice none 0 0, .int .i64 0, .int .i64 0, .int .i64 0, .int .i64 0, .slice none 0 0, .slice none 0 0]
def mkRows : Array Value := #[.string ⟨#[]⟩, .int .i64 0, .string ⟨#[]⟩, .string ⟨#[]⟩, .int .i64 0, .string ⟨#[]⟩, .string ⟨#[]⟩, .int .i64 0, .string ⟨#[]⟩, .string ⟨#[]⟩, .int .i64 0, .string ⟨#[]⟩, .string ⟨#[]⟩, .int .i64 0, .string ⟨#[]⟩, .string ⟨#[]⟩, .int .i64 0, .string ⟨#[]⟩, .string ⟨#[]⟩, .int .i64 0, .string ⟨#[]⟩, .string ⟨#[]⟩, .int .i64 0, .string ⟨#[]⟩, .string ⟨#[]⟩, .int .i64 0, .string ⟨#[]⟩, .string ⟨#[]⟩, .int .i64 0, .string ⟨#[]⟩, .string ⟨#[]⟩, .int .i64 0, .string ⟨#[]⟩, .string ⟨#[]⟩, .int .i64 0, .string ⟨#[]⟩, .string ⟨#[]⟩, .int .i64 0, .string ⟨#[]⟩, .string ⟨#[]⟩, .int .i64 0, .string ⟨#[]⟩, .string ⟨#[]⟩, .int .i64 0, .string ⟨#[]⟩, .string ⟨#[]⟩, .int .i64 0, .string ⟨#[]⟩, .string ⟨#[]⟩, .int .i64 0, .string ⟨#[]⟩, .string ⟨#[]⟩, .int .i64 0, .string ⟨#[]⟩, .string ⟨#[]⟩, .int .i64 0, .string ⟨#[]⟩, .string ⟨#[]⟩, .int .i64 0, .string ⟨#[]⟩, .string ⟨#[]⟩, .int .i64 0, .string ⟨#[]⟩, .string ⟨#[]⟩, .int .i64 0, .string ⟨#[]⟩, .string ⟨#[]⟩, .int .i64 0, .string ⟨#[]⟩, .string ⟨#[]⟩, .int .i64 0, .string ⟨#[]⟩, .string ⟨#[]⟩, .int .i64 0, .string ⟨#[]⟩, .string ⟨#[]⟩, .int .i64 0, .string ⟨#[]⟩, .string ⟨#[]⟩, .int .i64 0, .string ⟨#[]⟩, .string ⟨#[]⟩, .int .i64 0, .string ⟨#[]⟩, .string ⟨#[]⟩, .int .i64 0, .string ⟨#[]⟩, .string ⟨#[]⟩, .int .i64 0, .string ⟨#[]⟩]
theorem lines_one (l : List LineM) : ∀ u ∈ l.flatMap lineV, u.oneCell' = true := by
  intro u hu
  obtain ⟨x, _, hx⟩ := List.mem_flatMap.1 hu
  unfold lineV at hx
  simp only [List.mem_cons, List.not_mem_nil, or_false] at hx
  rcases hx with rfl | rfl | rfl | rfl | rfl | rfl <;> rfl
theorem rows_one (l : List RowD) : ∀ u ∈ l.flatMap rowV, u.oneCell' = true := by
  intro u hu
  obtain ⟨x, _, hx⟩ := List.mem_flatMap.1 hu
  unfold rowV at hx
  simp only [List.mem_cons, List.not_mem_nil, or_false] at hx
  rcases hx with rfl | rfl | rfl <;> rfl
theorem src_zero (W : World) (size : Nat) (a : Addr) (c : Nat) : Src W size (.slice (some a) 0 c) 0 [] := .inr ⟨a, c, rfl, by simp, fun j u hu => by simp at hu⟩
theorem lines_cut {w5 W6 W : World} {s : SlipM} {k ln sb tb lc8 : Nat} {LA8 : Option Addr} (hk : k < s.lines.length) (hl : s.lines.length = ln) (gT : W.heap[tb]? = some (slipO s)) (gS : W.heap[sb]? = some (slipO s)) (hne : sb ≠ tb)
    (own : W.ownsRow W6.heap.size 62 6 (.slice LA8 (k + (ln - (k + 1))) lc8) (k + (ln - (k + 1))) ((s.lines.take k).flatMap lineV ++ (s.lines.drop (k + 1)).flatMap lineV)) (hS : Sl W W.heap.size 6 LA8 (k + (ln - (k + 1))) ((s.lines.take k).flatMap lineV ++ (s.lines.drop (k + 1)).flatMap lineV))
    (hcp : k + (ln - (k + 1)) ≤ lc8 ∧ lc8 ≤ maxLen) (ht6 : tb < W6.heap.size) (htb : w5.heap.size ≤ tb) (hb : Below w5.heap.size w5 W) :
    ∃ LA' lc', (W.setCell ⟨tb, 2, none⟩ (.slice LA8 (k + (ln - (k + 1))) lc8)).heap[tb]? = some (slipO { s with LA := LA', lc := lc', lines := s.lines.take k ++ s.lines.drop (k + 1) }) ∧ (W.setCell ⟨tb, 2, none⟩ (.slice LA8 (k + (ln - (k + 1))) lc8)).heap[sb]? = some (slipO s) ∧
      Sl (W.setCell ⟨tb, 2, none⟩ (.slice LA8 (k + (ln - (k + 1))) lc8)) (W.setCell ⟨tb, 2, none⟩ (.slice LA8 (k + (ln - (k + 1))) lc8)).heap.size 6 LA' (ln - 1) ((s.lines.take k ++ s.lines.drop (k + 1)).flatMap lineV) ∧ (ln - 1 ≤ lc' ∧ lc' ≤ maxLen) ∧ Below w5.heap.size w5 (W.setCell ⟨tb, 2, none⟩ (.slice LA8 (k + (ln - (k + 1))) lc8)) := by
  have e : k + (ln - (k + 1)) = ln - 1 := by omega
  have e2 : (s.lines.take k ++ s.lines.drop (k + 1)).length = ln - 1 := by rw [List.length_append, List.length_take, List.length_drop]; omega
  have e3 : (s.lines.take k).flatMap lineV ++ (s.lines.drop (k + 1)).flatMap lineV = (s.lines.take k ++ s.lines.drop (k + 1)).flatMap lineV := by rw [List.flatMap_append]
  rw [e] at own hS hcp ⊢
  rw [e3] at hS own
  refine ⟨LA8, lc8, ?_, (Below.heap_setCell _ _ _ _ hne).trans gS, ?_, hcp, hb.setCell htb _⟩
  · rw [setCell_heap gT]
    unfold slipO
    dsimp only
    rw [e2]
    rfl
  · refine sl_keep hS (by simp [World.setCell]) fun b _ ⟨off, ea⟩ => Below.heap_setCell _ _ _ _ ?_
    have h1 : W6.heap.size ≤ b := own_far own _ ea
    show b ≠ tb
    omega
set_option maxHeartbeats 8000000 in
theorem payslipRows_walk (month : Int) (LA : Option Addr) (lc : Nat) (ls : List Quad) (OA : Option Addr) (oc : Nat) (os : List Int) (which : Int) (w : World) (wm : (Lit.int .i64 month).wf = true) (hL : Sl w w.heap.size 4 LA ls.length (ls.flatMap quadV)) (hcl : ls.length ≤ lc ∧ lc ≤ maxLen) (hls : ∀ q ∈ ls, QuadOk q) (hO : Sl w w.heap.size 1 OA os.length (intV os)) (hco : os.length ≤ oc ∧ oc ≤ maxLen) (hos : ∀ x ∈ os, I64 x) (ww : (Lit.int .i64 which).wf = true) (hT : Tabs w) :
    Calls Tryd.prog 4 #[.int .i64 month, .slice LA ls.length lc, .slice OA os.length oc, .int .i64 which] w fun e w' => e = .returned (.bool true) ∧ Below w.heap.size w w' := by
  obtain ⟨N, hN⟩ : ∃ N, ls.length = N := ⟨_, rfl⟩
  obtain ⟨M, hM⟩ : ∃ M, os.length = M := ⟨_, rfl⟩
  rw [hN, hM]
  rw [hN] at hL hcl
  rw [hM] at hO hco
  have hm := bounds_i64 wm
  have hw0 := bounds_i64 ww
  have Hmo : Hid (I64 month) := Lib.hid (by unfold I64; omega)
  have HL := Lib.hid hL
  have HO := Lib.hid hO
  have HN := Lib.hid hN
  have HM := Lib.hid hM
  have Hls : Hid (N ≤ maxLen ∧ ∀ q ∈ ls, QuadOk q) := Lib.hid ⟨by omega, hls⟩
  have Hos : Hid (M ≤ maxLen ∧ ∀ x ∈ os, I64 x) := Lib.hid ⟨by omega, hos⟩
  clear hL hO hN hM hcl hco hls hos
  go_enter Tryd.func4, Tryd.ntmps4
  go_wp2_with fail
  refine (head_any _ hT).mono ?_
  rintro e w1 ⟨rfl, hb1⟩
  have hT1 : PTabs w1 := hT.go hb1
  go_wp2_with fail
  (with_reducible refine (result_at month LA lc ls N OA oc os M w1 HN HM Hmo Hls Hos (HL.out.go hb1) (HO.out.go hb1)).mono ?_)
  rintro e w2 ⟨s, rfl, hs2, hsis, hscap, hB2⟩
  have hsv : slipV s = .agg #[.string s.person, .int .i64 s.month, .slice s.LA s.lines.length s.lc, .int .i64 s.gross, .int .i64 s.tax, .int .i64 s.deduct, .int .i64 s.floor, .slice s.TA s.taken.length s.tc, .int .i64 s.net] := rfl
  rw [hsv]
  have Hsv := Lib.hid hsv
  clear hsv HL HO
  go_upto_region 3 with fail
  obtain ⟨sb, hsb⟩ : ∃ x, x = w2.heap.size := ⟨_, rfl⟩
  obtain ⟨W3, hW3⟩ : ∃ x, x = w2.alloc (.cells #[.string s.person, .int .i64 s.month, .slice s.LA s.lines.length s.lc, .int .i64 s.gross, .int .i64 s.tax, .int .i64 s.deduct, .int .i64 s.floor, .slice s.TA s.taken.length s.tc, .int .i64 s.net] 37) := ⟨_, rfl⟩
  have hBW : Below w2.heap.size w2 W3 := by rw [hW3]; exact bal (Below.refl _ _) _
  have gs : W3.heap[sb]? = some (slipO s) := by rw [hW3, hsb]; exact World.alloc_heap_new _ _
  rw [← hW3, ← hsb]
  clear hW3 hsb
  have GS := Lib.hid (show W3.drew.heap[sb]? = some (slipO s) from gs)
  have hsl1 : sb < W3.drew.heap.size := (Array.getElem?_eq_some_iff.1 gs).1
  have Hs0 := Lib.hid (hs2.go (bgo hBW (Below.refl W3.heap.size W3).drew))
  have hb3 : Below w.heap.size w W3.drew := (bgo (bgo hb1 hB2) hBW).drew
  have hT3 : PTabs W3.drew := hT.go hb3
  have hres := res_len hsis
  obtain ⟨R, hR⟩ : ∃ R, resR s = R := ⟨_, rfl⟩
  obtain ⟨n, hn⟩ : ∃ n, R.length = n := ⟨_, rfl⟩
  have HR := Lib.hid hR
  have Hn := Lib.hid hn
  rw [hR, hn] at hres
  clear gs hs2 hBW hB2 hb1 hT1 hR hn
  refine wp_region_noPanic ?_
  refine wp_region_held_drew (S := fun W' => W'.heap[sb]? = some (slipO s)) (by kernel_rfl) GS.out (fun hHeld => ?_)
  refine wpAnyH_take (i := 1) (v := ?_) rfl (by kernel_rfl) (by kernel_rfl) (by kernel_rfl) (fun _ _ _ h => h) (Or.inl ⟨by kernel_rfl, ?_⟩) (by assumption) ?_
  rotate_left
  · intro w hSw
    (try dsimp only at hSw)
    have z0 : w.cell? ⟨sb, 0, none⟩ = some (.string s.person) := by rw [Lib.cell_of_heap hSw]; rfl
    have z1 : w.cell? ⟨sb, 1, none⟩ = some (.int .i64 s.month) := by rw [Lib.cell_of_heap hSw]; rfl
    have z2 : w.cell? ⟨sb, 2, none⟩ = some (.slice s.LA s.lines.length s.lc) := by rw [Lib.cell_of_heap hSw]; rfl
    have z3 : w.cell? ⟨sb, 3, none⟩ = some (.int .i64 s.gross) := by rw [Lib.cell_of_heap hSw]; rfl
    have z4 : w.cell? ⟨sb, 4, none⟩ = some (.int .i64 s.tax) := by rw [Lib.cell_of_heap hSw]; rfl
    have z5 : w.cell? ⟨sb, 5, none⟩ = some (.int .i64 s.deduct) := by rw [Lib.cell_of_heap hSw]; rfl
    have z6 : w.cell? ⟨sb, 6, none⟩ = some (.int .i64 s.floor) := by rw [Lib.cell_of_heap hSw]; rfl
    have z7 : w.cell? ⟨sb, 7, none⟩ = some (.slice s.TA s.taken.length s.tc) := by rw [Lib.cell_of_heap hSw]; rfl
    have z8 : w.cell? ⟨sb, 8, none⟩ = some (.int .i64 s.net) := by rw [Lib.cell_of_heap hSw]; rfl
    clear hSw
    go_simp
    first | done | with_reducible rfl
  simp only [List.getElem_toArray, List.getElem_cons_zero, List.getElem_cons_succ, Act.put, List.setIfInBounds_toArray, List.set_cons_zero, List.set_cons_succ]
  refine wpAnyH_ready (rs := [0]) (by kernel_rfl) (by simp) ?_
  refine AllReadyH.cons rfl (fun K hK => ?_) AllReadyH.nil
  simp only [List.getElem_toArray, List.getElem_cons_zero, List.getElem_cons_succ]
  go_simp
  (with_reducible refine (case_any W3.drew).mono ?_)
  rintro e w4 hcp
  obtain ⟨LA4, AA4, rfl, hc4, hB4⟩ := hcp
  dsimp only
  refine hK.out _ _ ((hB4.block _ hsl1).trans GS.out) (fun hHeld => ?_)
  clear hK K
  try simp only [List.getElem_toArray, List.getElem_cons_zero, List.getElem_cons_succ, Act.put, List.setIfInBounds_toArray, List.set_cons_zero, List.set_cons_succ]
  refine wpAnyH_ready (rs := [2]) (by kernel_rfl) (by simp) ?_
  refine AllReadyH.cons rfl (fun K hK => ?_) AllReadyH.nil
  simp only [List.getElem_toArray, List.getElem_cons_zero, List.getElem_cons_succ]
  go_simp
  (with_reducible refine (Rows_at (case0 LA4 AA4) s _ _ (Lib.hid rfl) Hsv R n 0 (Lib.hid ((res_rows hsis LA4 AA4).1.trans HR.out)) Hn (Lib.hid (res_rows hsis LA4 AA4).2) w4 hc4 (Hs0.out.go hB4) (hT3.go hB4).calT).mono ?_)
  rintro e w5 ⟨A, ca, rfl, hca, hown, hB5⟩
  dsimp only
  have hB35 := bgo hB4 hB5
  refine hK.out _ _ ((hB35.block _ hsl1).trans GS.out) (fun hHeld => ?_)
  clear hK K
  try simp only [List.getElem_toArray, List.getElem_cons_zero, List.getElem_cons_succ, Act.put, List.setIfInBounds_toArray, List.set_cons_zero, List.set_cons_succ]
  refine wpAnyH_take (i := 3) (v := ?_) rfl (by kernel_rfl) (by kernel_rfl) (by kernel_rfl) (fun _ _ _ h => h) (Or.inl ⟨by kernel_rfl, ?_⟩) (by assumption) ?_
  rotate_left
  · intro w hSw
    (try dsimp only at hSw)
    go_simp
    first | done | with_reducible rfl
  simp only [List.getElem_toArray, List.getElem_cons_zero, List.getElem_cons_succ, Act.put, List.setIfInBounds_toArray, List.set_cons_zero, List.set_cons_succ]
  refine wpAnyH_take (i := 4) (v := ?_) rfl (by kernel_rfl) (by kernel_rfl) (by kernel_rfl) (fun _ _ _ h => h) (Or.inl ⟨by kernel_rfl, ?_⟩) (by assumption) ?_
  rotate_left
  · intro w hSw
    (try dsimp only at hSw)
    go_simp
    first | done | with_reducible rfl
  simp only [List.getElem_toArray, List.getElem_cons_zero, List.getElem_cons_succ, Act.put, List.setIfInBounds_toArray, List.set_cons_zero, List.set_cons_succ]
  refine wpAnyH_take (i := 5) (v := ?_) rfl (by kernel_rfl) (by kernel_rfl) (by kernel_rfl) (fun _ _ _ h => h) (Or.inl ⟨by kernel_rfl, ?_⟩) (by assumption) ?_
  rotate_left
  · intro w hSw
    (try dsimp only at hSw)
    go_simp
    first | done | with_reducible rfl
  simp only [List.getElem_toArray, List.getElem_cons_zero, List.getElem_cons_succ, Act.put, List.setIfInBounds_toArray, List.set_cons_zero, List.set_cons_succ]
  refine wpAnyH_take (i := 6) (v := ?_) rfl (by kernel_rfl) (by kernel_rfl) (by kernel_rfl) (fun _ _ _ h => h) (Or.inl ⟨by kernel_rfl, ?_⟩) (by assumption) ?_
  rotate_left
  · intro w hSw
    (try dsimp only at hSw)
    go_simp
    first | done | with_reducible rfl
  simp only [List.getElem_toArray, List.getElem_cons_zero, List.getElem_cons_succ, Act.put, List.setIfInBounds_toArray, List.set_cons_zero, List.set_cons_succ]
  refine wpAnyH_take (i := 7) (v := ?_) rfl (by kernel_rfl) (by kernel_rfl) (by kernel_rfl) (fun _ _ _ h => h) (Or.inl ⟨by kernel_rfl, ?_⟩) (by assumption) ?_
  rotate_left
  · intro w hSw
    (try dsimp only at hSw)
    go_simp
    first | done | with_reducible rfl
  simp only [List.getElem_toArray, List.getElem_cons_zero, List.getElem_cons_succ, Act.put, List.setIfInBounds_toArray, List.set_cons_zero, List.set_cons_succ]
  refine wpAnyH_done (by kernel_rfl) ?_ _
  dsimp only [NoPanic]
  clear hHeld
  have gs5 := (hB35.block _ hsl1).trans GS.out
  have hs5 := Hs0.out.go hB35
  have hb5 := bgo hb3 hB35
  have hT5 : PTabs w5 := hT.go hb5
  have hA5 := own_sl hown
  obtain ⟨hz1, hz2, hz3, hz4⟩ := res_sizes hsis
  obtain ⟨ln, hln⟩ : ∃ x, s.lines.length = x := ⟨_, rfl⟩
  obtain ⟨tl, htl⟩ : ∃ x, s.taken.length = x := ⟨_, rfl⟩
  obtain ⟨m, hmm⟩ : ∃ x, (s.lines.flatMap lineR).length = x := ⟨_, rfl⟩
  have hml := lines_len s.lines
  have hnm : n = m + 5 + tl := by rw [← Hn.out, ← HR.out, resR, List.length_append, tail_len, hmm, htl]; omega
  have hbd := res_bounds hsis
  have hin := res_in hsis
  have htg := tail_get s (s.lines.flatMap lineR)
  have hRe : R = s.lines.flatMap lineR ++ tailR s := HR.out.symm
  rw [← hRe, hmm, htl] at htg
  rw [HR.out] at hin
  have hgr := res_gross hsis
  have hdd := res_deduct hsis
  have hnet := res_net hsis
  rw [htl] at hnet
  have hsg : sumT gF R m = s.gross := by rw [hRe, ← hmm, sumT_app]; exact hgr
  have hsd : sumT dF R m = s.deduct := by rw [hRe, ← hmm, sumT_app]; exact hdd
  have hlab : ∀ j r, j < m → R[j]? = some r → r.l = basicB ∨ r.l = unionB := by
    intro j r hj hr
    rw [hRe, List.getElem?_append_left (by omega)] at hr
    exact lineR_lab r (List.mem_of_getElem? hr)
  have hgb := sumT_bd gF R (fun r hr => by have := hin r hr; unfold gF; split <;> omega)
  have hdb := sumT_bd dF R (fun r hr => by have := hin r hr; unfold dF; split <;> omega)
  have hob := ordK_bd s.taken hbd.taken
  rw [hln, hmm] at hml
  rw [hln] at hz1
  rw [htl] at hz2
  have HG5 := Lib.hid gs5
  have HS5 := Lib.hid hs5
  have HA5 := Lib.hid hA5
  have Hl := Lib.hid (And.intro hln (And.intro htl hmm))
  have Htg := Lib.hid htg
  have Hlab := Lib.hid hlab
  have Hsum := Lib.hid (And.intro hsg hsd)
  have Hnet := Lib.hid hnet
  have Hgb := Lib.hid hgb
  have Hdb := Lib.hid hdb
  have Hob := Lib.hid hob
  have Hin := Lib.hid hin
  have HRe := Lib.hid hRe
  have Hbd := Lib.hid hbd
  have His := Lib.hid hsis
  have Hnm := Lib.hid hnm
  have hcs := hscap
  have z2 : w5.cell? ⟨sb, 2, none⟩ = some (.slice s.LA ln s.lc) := by rw [Lib.cell_of_heap gs5, ← hln]; rfl
  have z7 : w5.cell? ⟨sb, 7, none⟩ = some (.slice s.TA tl s.tc) := by rw [Lib.cell_of_heap gs5, ← htl]; rfl
  have hTA : tl ≤ 5 := hz2
  have hl20 : ln ≤ 20 := hz1
  clear gs5 hs5 hA5 hown hln htl hmm hnm hbd hin htg hRe hgr hdd hnet hsg hsd hlab hgb hdb hob hz1 hz2 hz3 hz4 GS hsl1 Hs0 hT3 hB35 hB4 hB5 hc4 hsis hscap hHeld
  go_wp2_with fail
  clear z7
  go_loop [13, 16] (fun c i => ∃ k : Nat, k ≤ ln ∧ i = .int .i64 (k : Int) ∧ c = .int .i64 (cntK s.lines k : Int)) (fun _ i => ln - (intOf i).toNat)
  case atStart => exact ⟨0, Nat.zero_le _, rfl, rfl⟩
  case round =>
    obtain ⟨k, hk, rfl, rfl⟩ := hrel
    by_cases hlt : k < ln
    · have hlt' : (k : Int) < (ln : Int) := by omega
      obtain ⟨b, off, eL, hb, hcell⟩ := HS5.out.sl.2 (by rw [Hl.out.1]; omega)
      have hkl : k < s.lines.length := by rw [Hl.out.1]; exact hlt
      obtain ⟨x, hx⟩ : ∃ x, s.lines[k]? = some x := ⟨_, List.getElem?_eq_getElem hkl⟩
      have hxg : s.lines[k] = x := by rw [List.getElem?_eq_getElem hkl] at hx; exact Option.some.inj hx
      have y1 : w5.cell? ⟨b, off + k * 6 + 1, none⟩ = some (.int .i64 x.line) := by rw [← hxg]; exact hcell _ _ (flat_get lineV 6 (fun _ => rfl) s.lines k hkl 1 (by decide))
      have hcn := cnt_snoc hx
      have hcl := cnt_le s.lines k
      obtain ⟨c, hc⟩ : ∃ c, cntK s.lines k = c := ⟨_, rfl⟩
      rw [hc] at hcn hcl ⊢
      rw [eL] at z2
      obtain ⟨xl, hxl⟩ : ∃ v, x.line = v := ⟨_, rfl⟩
      rw [hxl] at y1 hcn
      clear hcell hxg hc hxl hx eL
      by_cases h2 : xl < 2
      · rw [if_pos h2] at hcn
        have Hcn := Lib.hid hcn
        clear hcn
        go_wp2_with fail
        go_round
        case rel => exact ⟨k + 1, by omega, by go_num, by rw [Hcn.out]; go_num⟩
        case measure => simp [intOf]; omega
      · rw [if_neg h2] at hcn
        have Hcn := Lib.hid hcn
        clear hcn
        go_wp2_with fail
        go_round
        case rel => exact ⟨k + 1, by omega, by go_num, by rw [Hcn.out, Nat.add_zero]⟩
        case measure => simp [intOf]; omega
    · obtain rfl : ln = k := by omega
      have hca2 : cntK s.lines ln = m := by rw [← Hl.out.1, cnt_all, Hl.out.2.2]
      rw [hca2]
      have z7 : w5.cell? ⟨sb, 7, none⟩ = some (.slice s.TA tl s.tc) := by rw [Lib.cell_of_heap HG5.out, ← Hl.out.2.1]; rfl
      have hw1 : IntKind.i64.wrap ((m : Int) + 5) = (m : Int) + 5 := IntWalk.i64_in _ (by omega)
      have hw2 : IntKind.i64.wrap ((m : Int) + 5 + (tl : Int)) = (m : Int) + 5 + (tl : Int) := IntWalk.i64_in _ (by omega)
      have hnn : ((n : Int) != (m : Int) + 5 + (tl : Int)) = false := by have := Hnm.out; simp; omega
      clear hca2
      go_wp2_with fail
      clear z7 hnn hw1 hw2 z2
      go_loop [14, 15, 17] (fun g d i => ∃ k : Nat, k ≤ m ∧ i = .int .i64 (k : Int) ∧ g = .int .i64 (sumT gF R k) ∧ d = .int .i64 (sumT dF R k)) (fun _ _ i => m - (intOf i).toNat)
      case atStart => exact ⟨0, Nat.zero_le _, rfl, rfl, rfl⟩
      case round =>
        obtain ⟨k, hk, rfl, rfl, rfl⟩ := hrel
        by_cases hlt : k < m
        · have hlt' : (k : Int) < (m : Int) := by omega
          have hkn : (k : Int) < (n : Int) := by have := Hnm.out; omega
          have hnp : 0 < n := by have := Hnm.out; omega
          obtain ⟨b, off, rfl, hb, hcell⟩ := HA5.out.2 hnp
          have hkl : k < R.length := by rw [Hn.out, Hnm.out]; omega
          obtain ⟨r, hr⟩ : ∃ x, R[k]? = some x := ⟨_, List.getElem?_eq_getElem hkl⟩
          have hrg : R[k] = r := by rw [List.getElem?_eq_getElem hkl] at hr; exact Option.some.inj hr
          have hget := flat_get rowV 3 (fun _ => rfl) R k hkl
          rw [hrg] at hget
          have hrl := Hlab.out k r hlt hr
          have hgs := sumT_snoc gF hr
          have hds := sumT_snoc dF hr
          have h1 := Hgb.out k
          have h2 := Hdb.out k
          have h3 := Hin.out r (List.mem_of_getElem? hr)
          obtain ⟨rl, rc, rr⟩ := r
          dsimp only at hrl h3
          have y0 : w5.cell? ⟨b, off + k * 3, none⟩ = some (.string rl) := hcell _ _ (hget 0 (by decide))
          have y1 : w5.cell? ⟨b, off + k * 3 + 1, none⟩ = some (.int .i64 rc) := hcell _ _ (hget 1 (by decide))
          obtain ⟨g, hg⟩ : ∃ c, sumT gF R k = c := ⟨_, rfl⟩
          obtain ⟨d, hd⟩ : ∃ c, sumT dF R k = c := ⟨_, rfl⟩
          rw [hg] at hgs h1 ⊢
          rw [hd] at hds h2 ⊢
          have hw1 : IntKind.i64.wrap (g + rc) = g + rc := IntWalk.i64_in _ (by omega)
          have hw2 : IntKind.i64.wrap (d + rc) = d + rc := IntWalk.i64_in _ (by omega)
          clear hcell hrg hget hr hg hd
          rcases hrl with e | e
          · subst e
            have hgs' : sumT gF R (k + 1) = g + rc := by rw [hgs]; unfold gF; rw [if_pos rfl]
            have hds' : sumT dF R (k + 1) = d := by rw [hds]; unfold dF; rw [if_pos rfl, Int.add_zero]
            have Hx := Lib.hid (And.intro hgs' hds')
            unfold basicB at y0
            clear hgs hds hgs' hds'
            go_wp2_with fail
            go_round
            case rel => exact ⟨k + 1, by omega, by go_num, by rw [Hx.out.1], by rw [Hx.out.2]⟩
            case measure => simp [intOf]; omega
          · subst e
            have hnb : ¬ unionB = basicB := by decide
            have hgs' : sumT gF R (k + 1) = g := by rw [hgs]; unfold gF; rw [if_neg hnb, Int.add_zero]
            have hds' : sumT dF R (k + 1) = d + rc := by rw [hds]; unfold dF; rw [if_neg hnb]
            have Hx := Lib.hid (And.intro hgs' hds')
            unfold unionB at y0
            clear hgs hds hgs' hds' hnb
            go_wp2_with fail
            go_round
            case rel => exact ⟨k + 1, by omega, by go_num, by rw [Hx.out.1], by rw [Hx.out.2]⟩
            case measure => simp [intOf]; omega
        · obtain rfl : m = k := by omega
          rw [Hsum.out.1, Hsum.out.2]
          have hnp : 0 < n := by have := Hnm.out; omega
          obtain ⟨b, off, rfl, hb, hcell⟩ := HA5.out.2 hnp
          have hnm := Hnm.out
          obtain ⟨g0, g1, g2, g3, g4⟩ := Htg.out
          have cellR : ∀ (j : Nat) (r : RowD), R[j]? = some r → w5.cell? ⟨b, off + j * 3, none⟩ = some (.string r.l) ∧ w5.cell? ⟨b, off + j * 3 + 1, none⟩ = some (.int .i64 r.c) ∧ w5.cell? ⟨b, off + j * 3 + 2, none⟩ = some (.string r.r) := by
            intro j r hr
            obtain ⟨hj, e⟩ := List.getElem?_eq_some_iff.1 hr
            have hget := flat_get rowV 3 (fun _ => rfl) R j hj
            rw [e] at hget
            exact ⟨hcell _ _ (hget 0 (by decide)), hcell _ _ (hget 1 (by decide)), hcell _ _ (hget 2 (by decide))⟩
          have CR := Lib.hid cellR
          have c0 := (cellR _ _ g0).2.1
          have c1 := (cellR _ _ g1).2.1
          have c2 := (cellR _ _ g2).2.1
          dsimp only at c0 c1 c2
          have b1 := Hbd.out.gross
          have b2 := Hbd.out.tax
          have b3 := Hbd.out.deduct
          obtain ⟨G, hG⟩ : ∃ v, s.gross = v := ⟨_, rfl⟩
          obtain ⟨T, hTx⟩ : ∃ v, s.tax = v := ⟨_, rfl⟩
          obtain ⟨D, hD⟩ : ∃ v, s.deduct = v := ⟨_, rfl⟩
          rw [hG] at c0 b1 ⊢
          rw [hTx] at c1 b2
          rw [hD] at c2 b3 ⊢
          have hw1 : IntKind.i64.wrap (G - T) = G - T := IntWalk.i64_in _ (by omega)
          have hw2 : IntKind.i64.wrap (G - T - D) = G - T - D := IntWalk.i64_in _ (by omega)
          have hi1 : (m : Int) < (n : Int) := by omega
          have hi2 : (m : Int) + 1 < (n : Int) := by omega
          have hi3 : (m : Int) + 2 < (n : Int) := by omega
          have hwm1 : IntKind.i64.wrap ((m : Int) + 1) = (m : Int) + 1 := IntWalk.i64_in _ (by omega)
          have hwm2 : IntKind.i64.wrap ((m : Int) + 2) = (m : Int) + 2 := IntWalk.i64_in _ (by omega)
          have HX := Lib.hid (And.intro hG (And.intro hTx hD))
          clear hcell cellR g0 g1 g2 g3 g4 hG hTx hD
          go_upto_region 23 with fail
          go_region
          clear c1 hwm1 hwm2 hi2 hi3 hw1 hw2
          have hnm2 := hnm
          clear hnm2
          have hwm4 : IntKind.i64.wrap ((m : Int) + 4) = (m : Int) + 4 := IntWalk.i64_in _ (by omega)
          obtain ⟨n1, hn1⟩ : ∃ q : Nat, n = q + 1 := ⟨n - 1, by omega⟩
          have hwn : IntKind.i64.wrap ((n : Int) - 1) = (n1 : Int) := by rw [IntWalk.i64_in _ (by omega)]; omega
          have hwn2 : (n : Int) - 1 = (n1 : Int) := by omega
          have Hmn : Hid (m + 4 + tl = n1 ∧ n = n1 + 1) := Lib.hid (by omega)
          have hmlt : m + 5 ≤ n := by omega
          have hi4 : (n1 : Int) < (n : Int) := by omega
          have hi3 : (m : Int) + 2 < (n : Int) := by omega
          have hm20 : m ≤ 20 := by omega
          have hn30 : n1 ≤ 30 := by omega
          clear hnm hn1
          go_wp2_with fail
          go_loop [18, 19] (fun r i => ∃ j : Nat, j ≤ tl ∧ i = .int .i64 ((m + 4 + j : Nat) : Int) ∧ r = .int .i64 (G - T - D - ordK s.taken j)) (fun _ i => n - (intOf i).toNat)
          case atStart => exact ⟨0, Nat.zero_le _, by go_num, by simp [ordK]⟩
          case round =>
            obtain ⟨j, hj, rfl, rfl⟩ := hrel
            have ho := Hob.out j
            by_cases hlj : j < tl
            · obtain ⟨t, ht⟩ : ∃ t, s.taken[j]? = some t := ⟨_, List.getElem?_eq_getElem (by rw [Hl.out.2.1]; exact hlj)⟩
              have hot := Hbd.out.taken t (List.mem_of_getElem? ht)
              have hos := ordK_snoc ht
              have hc := (CR.out _ _ (Htg.out.2.2.2.1 j t ht)).2.1
              obtain ⟨q, hq⟩ : ∃ q, m + 4 + j = q := ⟨_, rfl⟩
              rw [hq] at hc ⊢
              have hqn : (q : Int) < (n1 : Int) := by have := Hmn.out; omega
              have hqn' : (q : Int) < (n : Int) := by have := Hmn.out; omega
              obtain ⟨tn, tc⟩ := t
              replace hc : w5.cell? ⟨b, off + q * 3 + 1, none⟩ = some (.int .i64 tc) := hc
              dsimp only at hot hos
              obtain ⟨u, hu⟩ : ∃ u, ordK s.taken j = u := ⟨_, rfl⟩
              rw [hu] at ho hos ⊢
              have hw1 : IntKind.i64.wrap (G - T - D - u - tc) = G - T - D - u - tc := IntWalk.i64_in _ (by omega)
              have hwq : IntKind.i64.wrap ((q : Int) + 1) = (q : Int) + 1 := IntWalk.i64_in _ (by omega)
              have Hq := Lib.hid (And.intro hq hos)
              clear hq hu hos ht
              go_wp2_with fail
              go_round
              case rel => exact ⟨j + 1, by omega, by have := Hq.out.1; go_num, by rw [Hq.out.2]; congr 1; omega⟩
              case measure => simp [intOf]; omega
            · obtain rfl : tl = j := by omega
              have hnt := Hnet.out
              rw [HX.out.1, HX.out.2.1, HX.out.2.2] at hnt
              rw [hnt]
              obtain ⟨q, hq⟩ : ∃ q, m + 4 + tl = q := ⟨_, rfl⟩
              rw [hq]
              have hqn : ¬ (q : Int) < (n1 : Int) := by have := Hmn.out; omega
              have gl := (CR.out _ _ Htg.out.2.2.2.2)
              rw [Hmn.out.1] at gl
              obtain ⟨l0, l1, l2⟩ := gl
              unfold netR at l0 l1 l2
              dsimp only at l0 l1 l2
              obtain ⟨Nt, hNt⟩ : ∃ v, s.net = v := ⟨_, rfl⟩
              rw [hNt] at l1 ⊢
              have z3 : w5.cell? ⟨sb, 3, none⟩ = some (.int .i64 G) := by rw [Lib.cell_of_heap HG5.out, ← HX.out.1]; rfl
              have z5 : w5.cell? ⟨sb, 5, none⟩ = some (.int .i64 D) := by rw [Lib.cell_of_heap HG5.out, ← HX.out.2.2]; rfl
              have z2 : w5.cell? ⟨sb, 2, none⟩ = some (.slice s.LA ln s.lc) := by rw [Lib.cell_of_heap HG5.out, ← Hl.out.1]; rfl
              have hwm2 : IntKind.i64.wrap ((m : Int) + 2) = (m : Int) + 2 := IntWalk.i64_in _ (by omega)
              have eqG : (G == G) = true := by simp
              have eqD : (D == D) = true := by simp
              have Hq := Lib.hid hq
              clear hnt hNt hq ho
              have hb5d : Below w.heap.size w w5.drew := hb5.drew
              by_cases hl0 : ln = 0
              · subst hl0
                have e0 : (((0 : Nat) : Int) == 0) = true := rfl
                go_wp2_with fail
                go_ret
                exact ⟨rfl, hb5d⟩
              · have e0 : ((ln : Int) == 0) = false := by rw [beq_eq_false_iff_ne]; omega
                obtain ⟨kk, hkk⟩ : ∃ v, pickF which (ln : Int) = v := ⟨_, rfl⟩
                have hkb := pickF_lt which (ln : Int) (by omega)
                rw [hkk] at hkb
                obtain ⟨k, hk⟩ : ∃ k : Nat, kk = (k : Int) := ⟨kk.toNat, by omega⟩
                subst hk
                have Hkk := Lib.hid hkk
                clear hkk
                go_wp2_with fail
                (with_reducible refine (pick_at which (ln : Int) (k : Int) Hkk _ (by unfold I64; omega) (by omega) (by omega)).mono ?_)
                rintro e wq ⟨rfl, hwq⟩
                obtain rfl := hwq
                clear z3 z5 l0 l1 l2 c0 c2 eqG eqD e0
                have t0 : w5.cell? ⟨sb, 0, none⟩ = some (.string s.person) := by rw [Lib.cell_of_heap HG5.out]; rfl
                have t1 : w5.cell? ⟨sb, 1, none⟩ = some (.int .i64 s.month) := by rw [Lib.cell_of_heap HG5.out]; rfl
                have t2 : w5.cell? ⟨sb, 2, none⟩ = some (.slice s.LA s.lines.length s.lc) := by rw [Lib.cell_of_heap HG5.out]; rfl
                have t3 : w5.cell? ⟨sb, 3, none⟩ = some (.int .i64 s.gross) := by rw [Lib.cell_of_heap HG5.out]; rfl
                have t4 : w5.cell? ⟨sb, 4, none⟩ = some (.int .i64 s.tax) := by rw [Lib.cell_of_heap HG5.out]; rfl
                have t5 : w5.cell? ⟨sb, 5, none⟩ = some (.int .i64 s.deduct) := by rw [Lib.cell_of_heap HG5.out]; rfl
                have t6 : w5.cell? ⟨sb, 6, none⟩ = some (.int .i64 s.floor) := by rw [Lib.cell_of_heap HG5.out]; rfl
                have t7 : w5.cell? ⟨sb, 7, none⟩ = some (.slice s.TA s.taken.length s.tc) := by rw [Lib.cell_of_heap HG5.out]; rfl
                have t8 : w5.cell? ⟨sb, 8, none⟩ = some (.int .i64 s.net) := by rw [Lib.cell_of_heap HG5.out]; rfl
                clear z2
                go_upto_region 33 with fail
                clear t0 t1 t2 t3 t4 t5 t6 t7 t8
                obtain ⟨tb, htb⟩ : ∃ x, x = w5.heap.size := ⟨_, rfl⟩
                obtain ⟨W6, hW6⟩ : ∃ x, x = (w5.alloc (.cells #[.string s.person, .int .i64 s.month, .slice s.LA s.lines.length s.lc, .int .i64 s.gross, .int .i64 s.tax, .int .i64 s.deduct, .int .i64 s.floor, .slice s.TA s.taken.length s.tc, .int .i64 s.net] 37)).drew := ⟨_, rfl⟩
                have hB56 : Below w5.heap.size w5 W6 := by rw [hW6]; exact (bal (Below.refl w5.heap.size w5) _).drew
                have gT6 : W6.heap[tb]? = some (slipO s) := by rw [hW6, htb]; exact World.alloc_heap_new w5 _
                have hsbl : sb < w5.heap.size := (Array.getElem?_eq_some_iff.1 HG5.out).1
                have gS6 := (hB56.block _ hsbl).trans HG5.out
                have hne : sb ≠ tb := by omega
                have hne' : tb ≠ sb := by omega
                rw [← hW6, ← htb]
                have htbw : w.heap.size ≤ tb := by rw [htb]; exact hb5.size
                clear hW6
                have htb0 := Lib.hid htb
                clear htb
                have GS6 := Lib.hid gS6
                have GT6 := Lib.hid gT6
                have hs6 : sb < W6.heap.size := (Array.getElem?_eq_some_iff.1 gS6).1
                have ht6 : tb < W6.heap.size := (Array.getElem?_eq_some_iff.1 gT6).1
                have HS6 := Lib.hid (HS5.out.go hB56)
                have HA6 := Lib.hid (HA5.out.go hB56)
                have hb6 : Below w.heap.size w W6 := bgo hb5 hB56
                have hlnp : 0 < ln := by omega
                obtain ⟨lb, lo, eL, hlb, hlc⟩ := HS6.out.sl.2 (by rw [Hl.out.1]; exact hlnp)
                have HeL := Lib.hid eL
                have hSL : Sl W6 W6.heap.size 6 (some ⟨lb, lo, none⟩) ln (s.lines.flatMap lineV) := by have := HS6.out.sl; rw [eL, Hl.out.1] at this; exact this
                have HSL := Lib.hid hSL
                have hkn : k < ln := by omega
                have hcap : ln ≤ s.lc := by have := Hl.out.1; omega
                obtain ⟨j0, hj0, hy0, hy1, hy2⟩ := info_parts info_line
                have hmk : ∀ w, (Instr.makeSlice 34 (.int .i64 0) (.int .i64 20)).run Tryd.prog w = .ok (.slice (some ⟨w.heap.size, 0, none⟩) 0 20) (w.alloc (.cells mkLines 62)) := fun _ => by kernel_rfl
                have hk1 : 0 ≤ (k : Int) ∧ (k : Int) ≤ (s.lc : Int) := by omega
                have hk2 : 0 ≤ (k : Int) + 1 ∧ (k : Int) + 1 ≤ (ln : Int) := by omega
                have hwk : IntKind.i64.wrap ((k : Int) + 1) = (k : Int) + 1 := IntWalk.i64_in _ (by omega)
                clear gS6 gT6 eL hlc hSL
                have htb5 : w5.heap.size ≤ tb := Nat.le_of_eq htb0.out.symm
                go_cut [] (fun wx => ∃ LA' lc', wx.heap[tb]? = some (slipO { s with LA := LA', lc := lc', lines := s.lines.take k ++ s.lines.drop (k + 1) }) ∧ wx.heap[sb]? = some (slipO s) ∧ Sl wx wx.heap.size 6 LA' (ln - 1) ((s.lines.take k ++ s.lines.drop (k + 1)).flatMap lineV) ∧ (ln - 1 ≤ lc' ∧ lc' ≤ maxLen) ∧ Below w5.heap.size w5 wx)
                case first =>
                  by_cases hcapk : s.lc = k + 1
                  · have hz0 : ln - (k + 1) = 0 := by omega
                    have Hz0 := Lib.hid hz0
                    have Hdr0 : Hid (s.lines.drop (k + 1) = []) := Lib.hid (List.drop_eq_nil_of_le (by rw [Hl.out.1]; omega))
                    clear hz0
                    have hkk1 : (k : Int) ≤ (k : Int) + 1 := by omega
                    refine wp_region_noPanic ?_
                    refine wp_region_held_drew (S := fun W' => W'.heap[sb]? = some (slipO s)) (by kernel_rfl) GS6.out (fun hHeld => ?_)
                    refine wpAnyH_take (i := 1) (v := ?_) rfl (by kernel_rfl) (by kernel_rfl) (by kernel_rfl) (fun _ _ _ h => h) (Or.inl ⟨by kernel_rfl, ?_⟩) (by assumption) ?_
                    rotate_left
                    · intro w hSw
                      (try dsimp only at hSw)
                      go_simp
                      first | done | with_reducible rfl
                    simp only [List.getElem_toArray, List.getElem_cons_zero, List.getElem_cons_succ, Act.put, List.setIfInBounds_toArray, List.set_cons_zero, List.set_cons_succ]
                    refine wpAnyH_take (i := 2) (v := ?_) rfl (by kernel_rfl) (by kernel_rfl) (by kernel_rfl) (fun _ _ _ h => h) (Or.inl ⟨by kernel_rfl, ?_⟩) (by assumption) ?_
                    rotate_left
                    · intro w hSw
                      (try dsimp only at hSw)
                      have z2 : w.cell? ⟨sb, 2, none⟩ = some (.slice (some ⟨lb, lo, none⟩) ln s.lc) := by rw [Lib.cell_of_heap hSw, ← HeL.out, ← Hl.out.1]; rfl
                      clear hSw
                      go_simp
                      first | done | with_reducible rfl
                    simp only [List.getElem_toArray, List.getElem_cons_zero, List.getElem_cons_succ, Act.put, List.setIfInBounds_toArray, List.set_cons_zero, List.set_cons_succ]
                    refine wpAnyH_take (i := 3) (v := ?_) rfl (by kernel_rfl) (by kernel_rfl) (by kernel_rfl) (fun _ _ _ h => h) (Or.inl ⟨by kernel_rfl, ?_⟩) (by assumption) ?_
                    rotate_left
                    · intro w hSw
                      (try dsimp only at hSw)
                      go_simp
                      first | done | with_reducible rfl
                    simp only [List.getElem_toArray, List.getElem_cons_zero, List.getElem_cons_succ, Act.put, List.setIfInBounds_toArray, List.set_cons_zero, List.set_cons_succ]
                    refine wpAnyH_take (i := 4) (v := ?_) rfl (by kernel_rfl) (by kernel_rfl) (by kernel_rfl) (fun _ _ _ h => h) (Or.inl ⟨by kernel_rfl, ?_⟩) (by assumption) ?_
                    rotate_left
                    · intro w hSw
                      (try dsimp only at hSw)
                      go_simp
                      first | done | with_reducible rfl
                    simp only [List.getElem_toArray, List.getElem_cons_zero, List.getElem_cons_succ, Act.put, List.setIfInBounds_toArray, List.set_cons_zero, List.set_cons_succ]
                    refine wpAnyH_take (i := 6) (v := ?_) rfl (by kernel_rfl) (by kernel_rfl) (by kernel_rfl) (fun _ _ _ h => h) (Or.inl ⟨by kernel_rfl, ?_⟩) (by assumption) ?_
                    rotate_left
                    · intro w hSw
                      (try dsimp only at hSw)
                      go_simp
                      first | done | with_reducible rfl
                    simp only [List.getElem_toArray, List.getElem_cons_zero, List.getElem_cons_succ, Act.put, List.setIfInBounds_toArray, List.set_cons_zero, List.set_cons_succ]
                    refine wpAnyH_take (i := 7) (v := ?_) rfl (by kernel_rfl) (by kernel_rfl) (by kernel_rfl) (fun _ _ _ h => h) (Or.inl ⟨by kernel_rfl, ?_⟩) (by assumption) ?_
                    rotate_left
                    · intro w hSw
                      (try dsimp only at hSw)
                      have z2 : w.cell? ⟨sb, 2, none⟩ = some (.slice (some ⟨lb, lo, none⟩) ln s.lc) := by rw [Lib.cell_of_heap hSw, ← HeL.out, ← Hl.out.1]; rfl
                      clear hSw
                      go_simp
                      first | done | with_reducible rfl
                    simp only [List.getElem_toArray, List.getElem_cons_zero, List.getElem_cons_succ, Act.put, List.setIfInBounds_toArray, List.set_cons_zero, List.set_cons_succ]
                    refine wpAnyH_take (i := 8) (v := ?_) rfl (by kernel_rfl) (by kernel_rfl) (by kernel_rfl) (fun _ _ _ h => h) (Or.inl ⟨by kernel_rfl, ?_⟩) (by assumption) ?_
                    rotate_left
                    · intro w hSw
                      (try dsimp only at hSw)
                      go_simp
                      first | done | with_reducible rfl
                    simp only [List.getElem_toArray, List.getElem_cons_zero, List.getElem_cons_succ, Act.put, List.setIfInBounds_toArray, List.set_cons_zero, List.set_cons_succ]
                    refine wpAnyH_take (i := 9) (v := ?_) rfl (by kernel_rfl) (by kernel_rfl) (by kernel_rfl) (fun _ _ _ h => h) (Or.inl ⟨by kernel_rfl, ?_⟩) (by assumption) ?_
                    rotate_left
                    · intro w hSw
                      (try dsimp only at hSw)
                      go_simp
                      first | done | with_reducible rfl
                    simp only [List.getElem_toArray, List.getElem_cons_zero, List.getElem_cons_succ, Act.put, List.setIfInBounds_toArray, List.set_cons_zero, List.set_cons_succ]
                    refine wpAnyH_take (i := 10) (v := .slice (some ⟨lb, lo, none⟩) (ln - (k + 1)) 0) rfl (by kernel_rfl) (by kernel_rfl) (by kernel_rfl) (fun _ _ _ h => h) (Or.inl ⟨by kernel_rfl, ?_⟩) (by assumption) ?_
                    · intro w hSw
                      (try dsimp only at hSw)
                      go_simp
                      first | done | with_reducible rfl
                    simp only [List.getElem_toArray, List.getElem_cons_zero, List.getElem_cons_succ, Act.put, List.setIfInBounds_toArray, List.set_cons_zero, List.set_cons_succ]
                    refine wpAnyH_ready (rs := [0]) (by kernel_rfl) (by simp) ?_
                    refine AllReadyH.cons rfl (fun K hK => ?_) ?_
                    · simp only [List.getElem_toArray, List.getElem_cons_zero, List.getElem_cons_succ]
                      go_simp
                      obtain ⟨w_0, hw_0⟩ : ∃ x, x = (W6.alloc (.cells mkLines 62)).drew := ⟨_, rfl⟩
                      rw [← hw_0]
                      have own_0 : w_0.ownsRow W6.heap.size 62 6 (.slice (some ⟨W6.heap.size, 0, none⟩) 0 20) 0 [] := by rw [hw_0]; exact own_cap0 W6 mkLines 20 62 6 rfl (by decide)
                      have bel_0 : Below W6.heap.size W6 w_0 := by rw [hw_0]; exact (bal (Below.refl W6.heap.size W6) _).drew
                      clear hw_0
                      refine hK.out _ _ ((bel_0.block _ hs6).trans GS6.out) (fun hHeld => ?_)
                      clear hK K
                      try simp only [List.getElem_toArray, List.getElem_cons_zero, List.getElem_cons_succ, Act.put, List.setIfInBounds_toArray, List.set_cons_zero, List.set_cons_succ]
                      refine wpAnyH_ready (rs := [5]) (by kernel_rfl) (by simp) ?_
                      refine AllReadyH.cons rfl (fun K hK => ?_) ?_
                      · refine step_src (w0 := W6) (by rfl) _ _ 34 (by rfl) 62 j0 _ 6 80 Tryd.underlying34 hj0 hy0 hy1 hy2 (by rfl) (by decide) (.slice (some ⟨W6.heap.size, 0, none⟩) 0 20) 0 [] (by rfl) own_0 bel_0 (.slice (some ⟨lb, lo, none⟩) k (k + 1)) k ((s.lines.take k).flatMap lineV) (by rfl) (by rw [← flat_takeK lineV 6 (fun _ => rfl)]; exact src_of ((HSL.out.go bel_0).take k (by omega))) (lines_one _) (by unfold maxLen; omega) (by omega) ?_
                        intro v5_ w5_ own5_ bel5_ kept5_
                        refine hK.out _ _ ((bel5_.block _ hs6).trans GS6.out) (fun hHeld => ?_)
                        clear hK K
                        try simp only [List.getElem_toArray, List.getElem_cons_zero, List.getElem_cons_succ, Act.put, List.setIfInBounds_toArray, List.set_cons_zero, List.set_cons_succ]
                        refine wpAnyH_ready (rs := [11]) (by kernel_rfl) (by simp) ?_
                        refine AllReadyH.cons rfl (fun K hK => ?_) ?_
                        · refine step_src (w0 := W6) (by rfl) _ _ 34 (by rfl) 62 j0 _ 6 80 Tryd.underlying34 hj0 hy0 hy1 hy2 (by rfl) (by decide) v5_ (0 + k) ([] ++ (s.lines.take k).flatMap lineV) (by rfl) own5_ bel5_ (.slice (some ⟨lb, lo, none⟩) (ln - (k + 1)) 0) (ln - (k + 1)) ((s.lines.drop (k + 1)).flatMap lineV) (by rfl) (by rw [Hz0.out, Hdr0.out]; exact src_zero _ _ _ _) (lines_one _) (by unfold maxLen; omega) (by omega) ?_
                          intro v6_ w6_ own6_ bel6_ kept6_
                          rw [Nat.zero_add, List.nil_append] at own6_
                          obtain ⟨LA8, lc8, hv8, hSl8⟩ := own_slice own6_
                          have hcp8 := slice_cap (hv8 ▸ own6_)
                          subst hv8
                          refine hK.out _ _ ((bel6_.block _ hs6).trans GS6.out) (fun hHeld => ?_)
                          clear hK K
                          try simp only [List.getElem_toArray, List.getElem_cons_zero, List.getElem_cons_succ, Act.put, List.setIfInBounds_toArray, List.set_cons_zero, List.set_cons_succ]
                          refine wpAnyH_take (i := 12) (v := ?_) rfl (by kernel_rfl) (by kernel_rfl) (by kernel_rfl) (fun _ _ _ h => h) (Or.inl ⟨by kernel_rfl, ?_⟩) (by assumption) ?_
                          rotate_left
                          · intro w hSw
                            (try dsimp only at hSw)
                            go_simp
                            first | done | with_reducible rfl
                          simp only [List.getElem_toArray, List.getElem_cons_zero, List.getElem_cons_succ, Act.put, List.setIfInBounds_toArray, List.set_cons_zero, List.set_cons_succ]
                          refine wpAnyH_ready (rs := [13]) (by kernel_rfl) (by simp) ?_
                          refine AllReadyH.cons rfl (fun K hK => ?_) ?_
                          · simp only [List.getElem_toArray, List.getElem_cons_zero, List.getElem_cons_succ]
                            have gT8 := (bel6_.block _ ht6).trans GT6.out
                            have x2 : w6_.cell? ⟨tb, 2, none⟩ = some (.slice s.LA s.lines.length s.lc) := by rw [Lib.cell_of_heap gT8]; rfl
                            have f2 : w6_.frozen? ⟨tb, 2, none⟩ = false := Lib.frozen_of_heap gT8 2
                            go_simp
                            clear x2 f2
                            refine hK.out _ _ ((Below.heap_setCell _ _ _ _ hne).trans ((bel6_.block _ hs6).trans GS6.out)) (fun hHeld => ?_)
                            clear hK K
                            try simp only [List.getElem_toArray, List.getElem_cons_zero, List.getElem_cons_succ, Act.put, List.setIfInBounds_toArray, List.set_cons_zero, List.set_cons_succ]
                            refine wpAnyH_done (by kernel_rfl) ?_ _
                            dsimp only [NoPanic]
                            clear hHeld
                            go_wp2_with fail
                            go_meet
                            exact lines_cut (by rw [Hl.out.1]; exact hkn) Hl.out.1 gT8 ((bel6_.block _ hs6).trans GS6.out) hne own6_ hSl8 hcp8 ht6 htb5 (bgo hB56 bel6_)
                          exact AllReadyH.nil
                        exact AllReadyH.nil
                      exact AllReadyH.nil
                    exact AllReadyH.nil
                  · refine wp_region_noPanic ?_
                    refine wp_region_held_drew (S := fun W' => W'.heap[sb]? = some (slipO s)) (by kernel_rfl) GS6.out (fun hHeld => ?_)
                    refine wpAnyH_take (i := 1) (v := ?_) rfl (by kernel_rfl) (by kernel_rfl) (by kernel_rfl) (fun _ _ _ h => h) (Or.inl ⟨by kernel_rfl, ?_⟩) (by assumption) ?_
                    rotate_left
                    · intro w hSw
                      (try dsimp only at hSw)
                      go_simp
                      first | done | with_reducible rfl
                    simp only [List.getElem_toArray, List.getElem_cons_zero, List.getElem_cons_succ, Act.put, List.setIfInBounds_toArray, List.set_cons_zero, List.set_cons_succ]
                    refine wpAnyH_take (i := 2) (v := ?_) rfl (by kernel_rfl) (by kernel_rfl) (by kernel_rfl) (fun _ _ _ h => h) (Or.inl ⟨by kernel_rfl, ?_⟩) (by assumption) ?_
                    rotate_left
                    · intro w hSw
                      (try dsimp only at hSw)
                      have z2 : w.cell? ⟨sb, 2, none⟩ = some (.slice (some ⟨lb, lo, none⟩) ln s.lc) := by rw [Lib.cell_of_heap hSw, ← HeL.out, ← Hl.out.1]; rfl
                      clear hSw
                      go_simp
                      first | done | with_reducible rfl
                    simp only [List.getElem_toArray, List.getElem_cons_zero, List.getElem_cons_succ, Act.put, List.setIfInBounds_toArray, List.set_cons_zero, List.set_cons_succ]
                    refine wpAnyH_take (i := 3) (v := ?_) rfl (by kernel_rfl) (by kernel_rfl) (by kernel_rfl) (fun _ _ _ h => h) (Or.inl ⟨by kernel_rfl, ?_⟩) (by assumption) ?_
                    rotate_left
                    · intro w hSw
                      (try dsimp only at hSw)
                      go_simp
                      first | done | with_reducible rfl
                    simp only [List.getElem_toArray, List.getElem_cons_zero, List.getElem_cons_succ, Act.put, List.setIfInBounds_toArray, List.set_cons_zero, List.set_cons_succ]
                    refine wpAnyH_take (i := 4) (v := ?_) rfl (by kernel_rfl) (by kernel_rfl) (by kernel_rfl) (fun _ _ _ h => h) (Or.inl ⟨by kernel_rfl, ?_⟩) (by assumption) ?_
                    rotate_left
                    · intro w hSw
                      (try dsimp only at hSw)
                      go_simp
                      first | done | with_reducible rfl
                    simp only [List.getElem_toArray, List.getElem_cons_zero, List.getElem_cons_succ, Act.put, List.setIfInBounds_toArray, List.set_cons_zero, List.set_cons_succ]
                    refine wpAnyH_take (i := 6) (v := ?_) rfl (by kernel_rfl) (by kernel_rfl) (by kernel_rfl) (fun _ _ _ h => h) (Or.inl ⟨by kernel_rfl, ?_⟩) (by assumption) ?_
                    rotate_left
                    · intro w hSw
                      (try dsimp only at hSw)
                      go_simp
                      first | done | with_reducible rfl
                    simp only [List.getElem_toArray, List.getElem_cons_zero, List.getElem_cons_succ, Act.put, List.setIfInBounds_toArray, List.set_cons_zero, List.set_cons_succ]
                    refine wpAnyH_take (i := 7) (v := ?_) rfl (by kernel_rfl) (by kernel_rfl) (by kernel_rfl) (fun _ _ _ h => h) (Or.inl ⟨by kernel_rfl, ?_⟩) (by assumption) ?_
                    rotate_left
                    · intro w hSw
                      (try dsimp only at hSw)
                      have z2 : w.cell? ⟨sb, 2, none⟩ = some (.slice (some ⟨lb, lo, none⟩) ln s.lc) := by rw [Lib.cell_of_heap hSw, ← HeL.out, ← Hl.out.1]; rfl
                      clear hSw
                      go_simp
                      first | done | with_reducible rfl
                    simp only [List.getElem_toArray, List.getElem_cons_zero, List.getElem_cons_succ, Act.put, List.setIfInBounds_toArray, List.set_cons_zero, List.set_cons_succ]
                    refine wpAnyH_take (i := 8) (v := ?_) rfl (by kernel_rfl) (by kernel_rfl) (by kernel_rfl) (fun _ _ _ h => h) (Or.inl ⟨by kernel_rfl, ?_⟩) (by assumption) ?_
                    rotate_left
                    · intro w hSw
                      (try dsimp only at hSw)
                      go_simp
                      first | done | with_reducible rfl
                    simp only [List.getElem_toArray, List.getElem_cons_zero, List.getElem_cons_succ, Act.put, List.setIfInBounds_toArray, List.set_cons_zero, List.set_cons_succ]
                    refine wpAnyH_take (i := 9) (v := ?_) rfl (by kernel_rfl) (by kernel_rfl) (by kernel_rfl) (fun _ _ _ h => h) (Or.inl ⟨by kernel_rfl, ?_⟩) (by assumption) ?_
                    rotate_left
                    · intro w hSw
                      (try dsimp only at hSw)
                      go_simp
                      first | done | with_reducible rfl
                    simp only [List.getElem_toArray, List.getElem_cons_zero, List.getElem_cons_succ, Act.put, List.setIfInBounds_toArray, List.set_cons_zero, List.set_cons_succ]
                    refine wpAnyH_take (i := 10) (v := .slice (some ⟨lb, lo + (k + 1) * 6, none⟩) (ln - (k + 1)) (s.lc - (k + 1))) rfl (by kernel_rfl) (by kernel_rfl) (by kernel_rfl) (fun _ _ _ h => h) (Or.inl ⟨by kernel_rfl, ?_⟩) (by assumption) ?_
                    · intro w hSw
                      (try dsimp only at hSw)
                      go_simp
                      first | done | with_reducible rfl
                    simp only [List.getElem_toArray, List.getElem_cons_zero, List.getElem_cons_succ, Act.put, List.setIfInBounds_toArray, List.set_cons_zero, List.set_cons_succ]
                    refine wpAnyH_ready (rs := [0]) (by kernel_rfl) (by simp) ?_
                    refine AllReadyH.cons rfl (fun K hK => ?_) ?_
                    · simp only [List.getElem_toArray, List.getElem_cons_zero, List.getElem_cons_succ]
                      go_simp
                      obtain ⟨w_0, hw_0⟩ : ∃ x, x = (W6.alloc (.cells mkLines 62)).drew := ⟨_, rfl⟩
                      rw [← hw_0]
                      have own_0 : w_0.ownsRow W6.heap.size 62 6 (.slice (some ⟨W6.heap.size, 0, none⟩) 0 20) 0 [] := by rw [hw_0]; exact own_cap0 W6 mkLines 20 62 6 rfl (by decide)
                      have bel_0 : Below W6.heap.size W6 w_0 := by rw [hw_0]; exact (bal (Below.refl W6.heap.size W6) _).drew
                      clear hw_0
                      refine hK.out _ _ ((bel_0.block _ hs6).trans GS6.out) (fun hHeld => ?_)
                      clear hK K
                      try simp only [List.getElem_toArray, List.getElem_cons_zero, List.getElem_cons_succ, Act.put, List.setIfInBounds_toArray, List.set_cons_zero, List.set_cons_succ]
                      refine wpAnyH_ready (rs := [5]) (by kernel_rfl) (by simp) ?_
                      refine AllReadyH.cons rfl (fun K hK => ?_) ?_
                      · refine step_src (w0 := W6) (by rfl) _ _ 34 (by rfl) 62 j0 _ 6 80 Tryd.underlying34 hj0 hy0 hy1 hy2 (by rfl) (by decide) (.slice (some ⟨W6.heap.size, 0, none⟩) 0 20) 0 [] (by rfl) own_0 bel_0 (.slice (some ⟨lb, lo, none⟩) k s.lc) k ((s.lines.take k).flatMap lineV) (by rfl) (by rw [← flat_takeK lineV 6 (fun _ => rfl)]; exact src_of ((HSL.out.go bel_0).take k (by omega))) (lines_one _) (by unfold maxLen; omega) (by omega) ?_
                        intro v5_ w5_ own5_ bel5_ kept5_
                        refine hK.out _ _ ((bel5_.block _ hs6).trans GS6.out) (fun hHeld => ?_)
                        clear hK K
                        try simp only [List.getElem_toArray, List.getElem_cons_zero, List.getElem_cons_succ, Act.put, List.setIfInBounds_toArray, List.set_cons_zero, List.set_cons_succ]
                        refine wpAnyH_ready (rs := [11]) (by kernel_rfl) (by simp) ?_
                        refine AllReadyH.cons rfl (fun K hK => ?_) ?_
                        · refine step_src (w0 := W6) (by rfl) _ _ 34 (by rfl) 62 j0 _ 6 80 Tryd.underlying34 hj0 hy0 hy1 hy2 (by rfl) (by decide) v5_ (0 + k) ([] ++ (s.lines.take k).flatMap lineV) (by rfl) own5_ bel5_ (.slice (some ⟨lb, lo + (k + 1) * 6, none⟩) (ln - (k + 1)) (s.lc - (k + 1))) (ln - (k + 1)) ((s.lines.drop (k + 1)).flatMap lineV) (by rfl) (by rw [← flat_dropK lineV 6 (fun _ => rfl)]; exact src_of ((HSL.out.go bel5_).dropK (k + 1) (by omega))) (lines_one _) (by unfold maxLen; omega) (by omega) ?_
                          intro v6_ w6_ own6_ bel6_ kept6_
                          rw [Nat.zero_add, List.nil_append] at own6_
                          obtain ⟨LA8, lc8, hv8, hSl8⟩ := own_slice own6_
                          have hcp8 := slice_cap (hv8 ▸ own6_)
                          subst hv8
                          refine hK.out _ _ ((bel6_.block _ hs6).trans GS6.out) (fun hHeld => ?_)
                          clear hK K
                          try simp only [List.getElem_toArray, List.getElem_cons_zero, List.getElem_cons_succ, Act.put, List.setIfInBounds_toArray, List.set_cons_zero, List.set_cons_succ]
                          refine wpAnyH_take (i := 12) (v := ?_) rfl (by kernel_rfl) (by kernel_rfl) (by kernel_rfl) (fun _ _ _ h => h) (Or.inl ⟨by kernel_rfl, ?_⟩) (by assumption) ?_
                          rotate_left
                          · intro w hSw
                            (try dsimp only at hSw)
                            go_simp
                            first | done | with_reducible rfl
                          simp only [List.getElem_toArray, List.getElem_cons_zero, List.getElem_cons_succ, Act.put, List.setIfInBounds_toArray, List.set_cons_zero, List.set_cons_succ]
                          refine wpAnyH_ready (rs := [13]) (by kernel_rfl) (by simp) ?_
                          refine AllReadyH.cons rfl (fun K hK => ?_) ?_
                          · simp only [List.getElem_toArray, List.getElem_cons_zero, List.getElem_cons_succ]
                            have gT8 := (bel6_.block _ ht6).trans GT6.out
                            have x2 : w6_.cell? ⟨tb, 2, none⟩ = some (.slice s.LA s.lines.length s.lc) := by rw [Lib.cell_of_heap gT8]; rfl
                            have f2 : w6_.frozen? ⟨tb, 2, none⟩ = false := Lib.frozen_of_heap gT8 2
                            go_simp
                            clear x2 f2
                            refine hK.out _ _ ((Below.heap_setCell _ _ _ _ hne).trans ((bel6_.block _ hs6).trans GS6.out)) (fun hHeld => ?_)
                            clear hK K
                            try simp only [List.getElem_toArray, List.getElem_cons_zero, List.getElem_cons_succ, Act.put, List.setIfInBounds_toArray, List.set_cons_zero, List.set_cons_succ]
                            refine wpAnyH_done (by kernel_rfl) ?_ _
                            dsimp only [NoPanic]
                            clear hHeld
                            go_wp2_with fail
                            go_meet
                            exact lines_cut (by rw [Hl.out.1]; exact hkn) Hl.out.1 gT8 ((bel6_.block _ hs6).trans GS6.out) hne own6_ hSl8 hcp8 ht6 htb5 (bgo hB56 bel6_)
                          exact AllReadyH.nil
                        exact AllReadyH.nil
                      exact AllReadyH.nil
                    exact AllReadyH.nil
                case rest =>
                obtain ⟨LA7, lc7, gT7, gS7, hSl7, hcp7, hB57⟩ := hcut
                obtain ⟨w7, hwn⟩ : ∃ x, x = wc := ⟨_, rfl⟩
                subst hwn
                have hxk : k < s.lines.length := by rw [Hl.out.1]; exact hkn
                obtain ⟨x, hx⟩ : ∃ x, s.lines[k]? = some x := ⟨_, List.getElem?_eq_getElem hxk⟩
                have hless := rows_less s.lines (tailR s) k x hx
                have hcm := cnt_mono s.lines k hxk x hx
                rw [Hl.out.2.2] at hcm
                obtain ⟨l7, hl7⟩ : ∃ l, s.lines.take k ++ s.lines.drop (k + 1) = l := ⟨_, rfl⟩
                have hl7n : l7.length = ln - 1 := by rw [← hl7, List.length_append, List.length_take, List.length_drop, Hl.out.1]; omega
                have hmem : ∀ y ∈ l7, y ∈ s.lines := by
                  intro y hy
                  rw [← hl7] at hy
                  rcases List.mem_append.1 hy with h | h
                  · exact List.mem_of_mem_take h
                  · exact List.mem_of_mem_drop h
                rw [hl7] at gT7 hSl7 hless
                have hLi : LinesIs l7 := fun y hy => res_line His.out y (hmem y hy)
                have hro := rows_other His.out LA7 lc7 l7 hLi (by omega)
                have hs7 := HS5.out.go hB57
                have hsT : SlipOk w7 { s with LA := LA7, lc := lc7, lines := l7 } := ⟨by show Sl _ _ 6 LA7 l7.length _; rw [hl7n]; exact hSl7, hs7.st, fun y hy => hs7.ln y (hmem y hy), hs7.pz, hs7.mo, by show l7.length ≤ 1000000; omega, hs7.lt, hs7.ti, hs7.g0, hs7.g1, hs7.g2, hs7.g3, hs7.g4⟩
                obtain ⟨tS, htS⟩ : ∃ t, ({ s with LA := LA7, lc := lc7, lines := l7 } : SlipM) = t := ⟨_, rfl⟩
                rw [htS] at gT7 hro hsT
                obtain ⟨R7, hR7⟩ : ∃ r, l7.flatMap lineR ++ tailR s = r := ⟨_, rfl⟩
                rw [hR7] at hless
                simp only [hR7] at hro
                obtain ⟨n7, hn7⟩ : ∃ r, R7.length = r := ⟨_, rfl⟩
                have Hn7 := Lib.hid hn7
                have Hro := Lib.hid hro
                rw [← HRe.out] at hless
                have Hless := Lib.hid hless
                have Hx := Lib.hid hx
                have Hcm := Lib.hid hcm
                have Hsv7 : Hid (slipV tS = .agg #[.string tS.person, .int .i64 tS.month, .slice tS.LA tS.lines.length tS.lc, .int .i64 tS.gross, .int .i64 tS.tax, .int .i64 tS.deduct, .int .i64 tS.floor, .slice tS.TA tS.taken.length tS.tc, .int .i64 tS.net]) := Lib.hid rfl
                have GT := Lib.hid (show w7.drew.heap[tb]? = some (slipO tS) from gT7)
                have htl7 : tb < w7.drew.heap.size := (Array.getElem?_eq_some_iff.1 gT7).1
                have HsT := Lib.hid (hsT.go (Below.refl w7.heap.size w7).drew)
                have hb7 : Below w.heap.size w w7.drew := (bgo hb5 hB57).drew
                have hT7 : PTabs w7.drew := hT.go hb7
                have HB57 := Lib.hid (bgo hB57 (Below.refl w7.heap.size w7).drew)
                clear hless hcm hx hl7 hmem hLi hro hs7 hsT htS hR7 hn7 gT7 gS7 hSl7 hl7n hB57 hk1 hk2
                go_upto_region 34 with fail
                refine wp_region_noPanic ?_
                refine wp_region_held_drew (S := fun W' => W'.heap[tb]? = some (slipO tS)) (by kernel_rfl) GT.out (fun hHeld => ?_)
                refine wpAnyH_take (i := 1) (v := ?_) rfl (by kernel_rfl) (by kernel_rfl) (by kernel_rfl) (fun _ _ _ h => h) (Or.inl ⟨by kernel_rfl, ?_⟩) (by assumption) ?_
                rotate_left
                · intro w hSw
                  (try dsimp only at hSw)
                  have z0 : w.cell? ⟨tb, 0, none⟩ = some (.string tS.person) := by rw [Lib.cell_of_heap hSw]; rfl
                  have z1 : w.cell? ⟨tb, 1, none⟩ = some (.int .i64 tS.month) := by rw [Lib.cell_of_heap hSw]; rfl
                  have z2 : w.cell? ⟨tb, 2, none⟩ = some (.slice tS.LA tS.lines.length tS.lc) := by rw [Lib.cell_of_heap hSw]; rfl
                  have z3 : w.cell? ⟨tb, 3, none⟩ = some (.int .i64 tS.gross) := by rw [Lib.cell_of_heap hSw]; rfl
                  have z4 : w.cell? ⟨tb, 4, none⟩ = some (.int .i64 tS.tax) := by rw [Lib.cell_of_heap hSw]; rfl
                  have z5 : w.cell? ⟨tb, 5, none⟩ = some (.int .i64 tS.deduct) := by rw [Lib.cell_of_heap hSw]; rfl
                  have z6 : w.cell? ⟨tb, 6, none⟩ = some (.int .i64 tS.floor) := by rw [Lib.cell_of_heap hSw]; rfl
                  have z7 : w.cell? ⟨tb, 7, none⟩ = some (.slice tS.TA tS.taken.length tS.tc) := by rw [Lib.cell_of_heap hSw]; rfl
                  have z8 : w.cell? ⟨tb, 8, none⟩ = some (.int .i64 tS.net) := by rw [Lib.cell_of_heap hSw]; rfl
                  clear hSw
                  go_simp
                  first | done | with_reducible rfl
                simp only [List.getElem_toArray, List.getElem_cons_zero, List.getElem_cons_succ, Act.put, List.setIfInBounds_toArray, List.set_cons_zero, List.set_cons_succ]
                refine wpAnyH_ready (rs := [0]) (by kernel_rfl) (by simp) ?_
                refine AllReadyH.cons rfl (fun K hK => ?_) AllReadyH.nil
                simp only [List.getElem_toArray, List.getElem_cons_zero, List.getElem_cons_succ]
                go_simp
                (with_reducible refine (case_any w7.drew).mono ?_)
                rintro e w8 hcp
                obtain ⟨LA8, AA8, rfl, hc8, hB8⟩ := hcp
                dsimp only
                refine hK.out _ _ ((hB8.block _ htl7).trans GT.out) (fun hHeld => ?_)
                clear hK K
                try simp only [List.getElem_toArray, List.getElem_cons_zero, List.getElem_cons_succ, Act.put, List.setIfInBounds_toArray, List.set_cons_zero, List.set_cons_succ]
                refine wpAnyH_ready (rs := [2]) (by kernel_rfl) (by simp) ?_
                refine AllReadyH.cons rfl (fun K hK => ?_) AllReadyH.nil
                simp only [List.getElem_toArray, List.getElem_cons_zero, List.getElem_cons_succ]
                go_simp
                (with_reducible refine (Rows_at (case0 LA8 AA8) tS _ _ (Lib.hid rfl) Hsv7 R7 n7 0 (Lib.hid (Hro.out LA8 AA8).1) Hn7 (Lib.hid (Hro.out LA8 AA8).2) w8 hc8 (HsT.out.go hB8) (hT7.go hB8).calT).mono ?_)
                rintro e w9 ⟨A9, ca9, rfl, hca9, hown9, hB9⟩
                dsimp only
                have hB79 := bgo hB8 hB9
                refine hK.out _ _ ((hB79.block _ htl7).trans GT.out) (fun hHeld => ?_)
                clear hK K
                try simp only [List.getElem_toArray, List.getElem_cons_zero, List.getElem_cons_succ, Act.put, List.setIfInBounds_toArray, List.set_cons_zero, List.set_cons_succ]
                refine wpAnyH_take (i := 3) (v := ?_) rfl (by kernel_rfl) (by kernel_rfl) (by kernel_rfl) (fun _ _ _ h => h) (Or.inl ⟨by kernel_rfl, ?_⟩) (by assumption) ?_
                rotate_left
                · intro w hSw
                  (try dsimp only at hSw)
                  go_simp
                  first | done | with_reducible rfl
                simp only [List.getElem_toArray, List.getElem_cons_zero, List.getElem_cons_succ, Act.put, List.setIfInBounds_toArray, List.set_cons_zero, List.set_cons_succ]
                refine wpAnyH_take (i := 4) (v := ?_) rfl (by kernel_rfl) (by kernel_rfl) (by kernel_rfl) (fun _ _ _ h => h) (Or.inl ⟨by kernel_rfl, ?_⟩) (by assumption) ?_
                rotate_left
                · intro w hSw
                  (try dsimp only at hSw)
                  go_simp
                  first | done | with_reducible rfl
                simp only [List.getElem_toArray, List.getElem_cons_zero, List.getElem_cons_succ, Act.put, List.setIfInBounds_toArray, List.set_cons_zero, List.set_cons_succ]
                refine wpAnyH_take (i := 5) (v := ?_) rfl (by kernel_rfl) (by kernel_rfl) (by kernel_rfl) (fun _ _ _ h => h) (Or.inl ⟨by kernel_rfl, ?_⟩) (by assumption) ?_
                rotate_left
                · intro w hSw
                  (try dsimp only at hSw)
                  go_simp
                  first | done | with_reducible rfl
                simp only [List.getElem_toArray, List.getElem_cons_zero, List.getElem_cons_succ, Act.put, List.setIfInBounds_toArray, List.set_cons_zero, List.set_cons_succ]
                refine wpAnyH_take (i := 6) (v := ?_) rfl (by kernel_rfl) (by kernel_rfl) (by kernel_rfl) (fun _ _ _ h => h) (Or.inl ⟨by kernel_rfl, ?_⟩) (by assumption) ?_
                rotate_left
                · intro w hSw
                  (try dsimp only at hSw)
                  go_simp
                  first | done | with_reducible rfl
                simp only [List.getElem_toArray, List.getElem_cons_zero, List.getElem_cons_succ, Act.put, List.setIfInBounds_toArray, List.set_cons_zero, List.set_cons_succ]
                refine wpAnyH_take (i := 7) (v := ?_) rfl (by kernel_rfl) (by kernel_rfl) (by kernel_rfl) (fun _ _ _ h => h) (Or.inl ⟨by kernel_rfl, ?_⟩) (by assumption) ?_
                rotate_left
                · intro w hSw
                  (try dsimp only at hSw)
                  go_simp
                  first | done | with_reducible rfl
                simp only [List.getElem_toArray, List.getElem_cons_zero, List.getElem_cons_succ, Act.put, List.setIfInBounds_toArray, List.set_cons_zero, List.set_cons_succ]
                refine wpAnyH_done (by kernel_rfl) ?_ _
                dsimp only [NoPanic]
                clear hHeld
                have hB59 := bgo HB57.out hB79
                have hb9 := bgo hb5 hB59
                have HS9 := Lib.hid (HS5.out.go hB59)
                have HA9 := Lib.hid (HA5.out.go hB59)
                have HL9 := Lib.hid (own_sl hown9)
                have gS9 := (hB59.block _ hsbl).trans HG5.out
                have z2 : w9.cell? ⟨sb, 2, none⟩ = some (.slice s.LA ln s.lc) := by rw [Lib.cell_of_heap gS9, ← Hl.out.1]; rfl
                have GS9 := Lib.hid gS9
                clear gS9 hown9 hB79 hB59 hB8 hB9 hc8 HsT hT7 GT htl7 hHeld
                go_wp2_with fail
                go_loop [24, 25] (fun c i => ∃ j : Nat, j ≤ k ∧ i = .int .i64 (j : Int) ∧ c = .int .i64 (cntK s.lines j : Int)) (fun _ i => k - (intOf i).toNat)
                case atStart => exact ⟨0, Nat.zero_le _, rfl, rfl⟩
                case round =>
                  obtain ⟨j, hj, rfl, rfl⟩ := hrel
                  obtain ⟨b2, off2, eL2, hb2, hcell2⟩ := HS9.out.sl.2 (by rw [Hl.out.1]; omega)
                  by_cases hlj : j < k
                  · have hlt' : (j : Int) < (k : Int) := by omega
                    have hltn : (j : Int) < (ln : Int) := by omega
                    have hkl : j < s.lines.length := by rw [Hl.out.1]; omega
                    obtain ⟨y, hy⟩ : ∃ x, s.lines[j]? = some x := ⟨_, List.getElem?_eq_getElem hkl⟩
                    have hyg : s.lines[j] = y := by rw [List.getElem?_eq_getElem hkl] at hy; exact Option.some.inj hy
                    have y1 : w9.cell? ⟨b2, off2 + j * 6 + 1, none⟩ = some (.int .i64 y.line) := by rw [← hyg]; exact hcell2 _ _ (flat_get lineV 6 (fun _ => rfl) s.lines j hkl 1 (by decide))
                    have hcn := cnt_snoc hy
                    have hcl := cnt_le s.lines j
                    obtain ⟨c, hc⟩ : ∃ c, cntK s.lines j = c := ⟨_, rfl⟩
                    rw [hc] at hcn hcl ⊢
                    rw [eL2] at z2
                    obtain ⟨xl, hxl⟩ : ∃ v, y.line = v := ⟨_, rfl⟩
                    rw [hxl] at y1 hcn
                    clear hcell2 hyg hc hxl hy eL2
                    by_cases h2 : xl < 2
                    · rw [if_pos h2] at hcn
                      have Hcn := Lib.hid hcn
                      clear hcn
                      go_wp2_with fail
                      go_round
                      case rel => exact ⟨j + 1, by omega, by go_num, by rw [Hcn.out]; go_num⟩
                      case measure => simp [intOf]; omega
                    · rw [if_neg h2] at hcn
                      have Hcn := Lib.hid hcn
                      clear hcn
                      go_wp2_with fail
                      go_round
                      case rel => exact ⟨j + 1, by omega, by go_num, by rw [Hcn.out, Nat.add_zero]⟩
                      case measure => simp [intOf]; omega
                  · obtain rfl : k = j := by omega
                    have hltn : (k : Int) < (ln : Int) := by omega
                    have hxg : s.lines[k] = x := by have := Hx.out; rw [List.getElem?_eq_getElem hxk] at this; exact Option.some.inj this
                    have y1 : w9.cell? ⟨b2, off2 + k * 6 + 1, none⟩ = some (.int .i64 x.line) := by rw [← hxg]; exact hcell2 _ _ (flat_get lineV 6 (fun _ => rfl) s.lines k hxk 1 (by decide))
                    have hcl := cnt_le s.lines k
                    have hcm := Hcm.out
                    obtain ⟨c, hc⟩ : ∃ c, cntK s.lines k = c := ⟨_, rfl⟩
                    have hls := Hless.out
                    rw [hc] at hcl hcm hls ⊢
                    rw [eL2] at z2
                    obtain ⟨xl, hxl⟩ : ∃ v, x.line = v := ⟨_, rfl⟩
                    rw [hxl] at y1 hcm hls
                    clear hcell2 hxg hc hxl eL2
                    by_cases h2 : xl < 2
                    · rw [if_pos h2] at hls
                      have hcm' := hcm h2
                      have hcn : c + 1 < n := by have := Hnm.out; omega
                      have hn7' : n7 = c + (n - (c + 1)) := by rw [← Hn7.out, hls, List.length_append, List.length_take, List.length_drop, Hn.out]; omega
                      have Hls := Lib.hid hls
                      have Hn7' := Lib.hid hn7'
                      clear hls hcm hn7'
                      have hca1 : 0 ≤ (c : Int) ∧ (c : Int) ≤ (ca : Int) := by omega
                      have hca2 : 0 ≤ (c : Int) + 1 ∧ (c : Int) + 1 ≤ (n : Int) := by omega
                      have hca3 : ¬ ca = c + 1 := by omega
                      have hwc : IntKind.i64.wrap ((c : Int) + 1) = (c : Int) + 1 := IntWalk.i64_in _ (by omega)
                      obtain ⟨i0, hi0, hx0, hx1, hx2⟩ := info_parts info_row
                      have hmk2 : ∀ w, (Instr.makeSlice 38 (.int .i64 0) (.int .i64 30)).run Tryd.prog w = .ok (.slice (some ⟨w.heap.size, 0, none⟩) 0 30) (w.alloc (.cells mkRows 64)) := fun _ => by kernel_rfl
                      go_upto_region 43 with fail
                      clear z2 y1
                      refine wp_region_noPanic ?_
                      refine wp_region_held_drew (S := fun _ => True) (by kernel_rfl) trivial (fun hHeld => ?_)
                      refine wpAnyH_take (i := 1) (v := ?_) rfl (by kernel_rfl) (by kernel_rfl) (by kernel_rfl) (fun _ _ _ h => h) (Or.inl ⟨by kernel_rfl, ?_⟩) (by assumption) ?_
                      rotate_left
                      · intro w hSw
                        (try dsimp only at hSw)
                        go_simp
                        first | done | with_reducible rfl
                      simp only [List.getElem_toArray, List.getElem_cons_zero, List.getElem_cons_succ, Act.put, List.setIfInBounds_toArray, List.set_cons_zero, List.set_cons_succ]
                      refine wpAnyH_take (i := 2) (v := ?_) rfl (by kernel_rfl) (by kernel_rfl) (by kernel_rfl) (fun _ _ _ h => h) (Or.inl ⟨by kernel_rfl, ?_⟩) (by assumption) ?_
                      rotate_left
                      · intro w hSw
                        (try dsimp only at hSw)
                        go_simp
                        first | done | with_reducible rfl
                      simp only [List.getElem_toArray, List.getElem_cons_zero, List.getElem_cons_succ, Act.put, List.setIfInBounds_toArray, List.set_cons_zero, List.set_cons_succ]
                      refine wpAnyH_take (i := 3) (v := .slice (some ⟨b, off, none⟩) c ca) rfl (by kernel_rfl) (by kernel_rfl) (by kernel_rfl) (fun _ _ _ h => h) (Or.inl ⟨by kernel_rfl, ?_⟩) (by assumption) ?_
                      · intro w hSw
                        (try dsimp only at hSw)
                        go_simp
                        first | done | with_reducible rfl
                      simp only [List.getElem_toArray, List.getElem_cons_zero, List.getElem_cons_succ, Act.put, List.setIfInBounds_toArray, List.set_cons_zero, List.set_cons_succ]
                      refine wpAnyH_take (i := 5) (v := ?_) rfl (by kernel_rfl) (by kernel_rfl) (by kernel_rfl) (fun _ _ _ h => h) (Or.inl ⟨by kernel_rfl, ?_⟩) (by assumption) ?_
                      rotate_left
                      · intro w hSw
                        (try dsimp only at hSw)
                        go_simp
                        first | done | with_reducible rfl
                      simp only [List.getElem_toArray, List.getElem_cons_zero, List.getElem_cons_succ, Act.put, List.setIfInBounds_toArray, List.set_cons_zero, List.set_cons_succ]
                      refine wpAnyH_take (i := 6) (v := ?_) rfl (by kernel_rfl) (by kernel_rfl) (by kernel_rfl) (fun _ _ _ h => h) (Or.inl ⟨by kernel_rfl, ?_⟩) (by assumption) ?_
                      rotate_left
                      · intro w hSw
                        (try dsimp only at hSw)
                        go_simp
                        first | done | with_reducible rfl
                      simp only [List.getElem_toArray, List.getElem_cons_zero, List.getElem_cons_succ, Act.put, List.setIfInBounds_toArray, List.set_cons_zero, List.set_cons_succ]
                      refine wpAnyH_take (i := 7) (v := ?_) rfl (by kernel_rfl) (by kernel_rfl) (by kernel_rfl) (fun _ _ _ h => h) (Or.inl ⟨by kernel_rfl, ?_⟩) (by assumption) ?_
                      rotate_left
                      · intro w hSw
                        (try dsimp only at hSw)
                        go_simp
                        first | done | with_reducible rfl
                      simp only [List.getElem_toArray, List.getElem_cons_zero, List.getElem_cons_succ, Act.put, List.setIfInBounds_toArray, List.set_cons_zero, List.set_cons_succ]
                      refine wpAnyH_take (i := 8) (v := .slice (some ⟨b, off + (c + 1) * 3, none⟩) (n - (c + 1)) (ca - (c + 1))) rfl (by kernel_rfl) (by kernel_rfl) (by kernel_rfl) (fun _ _ _ h => h) (Or.inl ⟨by kernel_rfl, ?_⟩) (by assumption) ?_
                      · intro w hSw
                        (try dsimp only at hSw)
                        go_simp
                        first | done | with_reducible rfl
                      simp only [List.getElem_toArray, List.getElem_cons_zero, List.getElem_cons_succ, Act.put, List.setIfInBounds_toArray, List.set_cons_zero, List.set_cons_succ]
                      refine wpAnyH_ready (rs := [0]) (by kernel_rfl) (by simp) ?_
                      refine AllReadyH.cons rfl (fun K hK => ?_) ?_
                      · simp only [List.getElem_toArray, List.getElem_cons_zero, List.getElem_cons_succ]
                        go_simp
                        obtain ⟨w_0, hw_0⟩ : ∃ x, x = (w9.alloc (.cells mkRows 64)).drew := ⟨_, rfl⟩
                        rw [← hw_0]
                        have own_0 : w_0.ownsRow w9.heap.size 64 3 (.slice (some ⟨w9.heap.size, 0, none⟩) 0 30) 0 [] := by rw [hw_0]; exact own_cap0 w9 mkRows 30 64 3 rfl (by decide)
                        have bel_0 : Below w9.heap.size w9 w_0 := by rw [hw_0]; exact (bal (Below.refl w9.heap.size w9) _).drew
                        clear hw_0
                        refine hK.out _ _ trivial (fun hHeld => ?_)
                        clear hK K
                        try simp only [List.getElem_toArray, List.getElem_cons_zero, List.getElem_cons_succ, Act.put, List.setIfInBounds_toArray, List.set_cons_zero, List.set_cons_succ]
                        refine wpAnyH_ready (rs := [4]) (by kernel_rfl) (by simp) ?_
                        refine AllReadyH.cons rfl (fun K hK => ?_) ?_
                        · refine step_src (w0 := w9) (by rfl) _ _ 38 (by rfl) 64 i0 _ 3 40 Tryd.underlying38 hi0 hx0 hx1 hx2 (by rfl) (by decide) (.slice (some ⟨w9.heap.size, 0, none⟩) 0 30) 0 [] (by rfl) own_0 bel_0 (.slice (some ⟨b, off, none⟩) c ca) c ((R.take c).flatMap rowV) (by rfl) (by rw [← flat_takeK rowV 3 (fun _ => rfl)]; exact src_of ((HA9.out.go bel_0).take c (by omega))) (rows_one _) (by unfold maxLen; omega) (by omega) ?_
                          intro v5_ w5_ own5_ bel5_ kept5_
                          refine hK.out _ _ trivial (fun hHeld => ?_)
                          clear hK K
                          try simp only [List.getElem_toArray, List.getElem_cons_zero, List.getElem_cons_succ, Act.put, List.setIfInBounds_toArray, List.set_cons_zero, List.set_cons_succ]
                          refine wpAnyH_ready (rs := [9]) (by kernel_rfl) (by simp) ?_
                          refine AllReadyH.cons rfl (fun K hK => ?_) ?_
                          · refine step_src (w0 := w9) (by rfl) _ _ 38 (by rfl) 64 i0 _ 3 40 Tryd.underlying38 hi0 hx0 hx1 hx2 (by rfl) (by decide) v5_ (0 + c) ([] ++ (R.take c).flatMap rowV) (by rfl) own5_ bel5_ (.slice (some ⟨b, off + (c + 1) * 3, none⟩) (n - (c + 1)) (ca - (c + 1))) (n - (c + 1)) ((R.drop (c + 1)).flatMap rowV) (by rfl) (by rw [← flat_dropK rowV 3 (fun _ => rfl)]; exact src_of ((HA9.out.go bel5_).dropK (c + 1) (by omega))) (rows_one _) (by unfold maxLen; omega) (by omega) ?_
                            intro v6_ w6_ own6_ bel6_ kept6_
                            rw [Nat.zero_add, List.nil_append] at own6_
                            obtain ⟨A10, ca10, hv10, hSl10⟩ := own_slice own6_
                            subst hv10
                            refine hK.out _ _ trivial (fun hHeld => ?_)
                            clear hK K
                            try simp only [List.getElem_toArray, List.getElem_cons_zero, List.getElem_cons_succ, Act.put, List.setIfInBounds_toArray, List.set_cons_zero, List.set_cons_succ]
                            refine wpAnyH_take (i := 10) (v := ?_) rfl (by kernel_rfl) (by kernel_rfl) (by kernel_rfl) (fun _ _ _ h => h) (Or.inl ⟨by kernel_rfl, ?_⟩) (by assumption) ?_
                            rotate_left
                            · intro w hSw
                              (try dsimp only at hSw)
                              go_simp
                              first | done | with_reducible rfl
                            simp only [List.getElem_toArray, List.getElem_cons_zero, List.getElem_cons_succ, Act.put, List.setIfInBounds_toArray, List.set_cons_zero, List.set_cons_succ]
                            refine wpAnyH_done (by kernel_rfl) ?_ _
                            dsimp only [NoPanic]
                            clear hHeld
                            have hSl : Sl w6_ w6_.heap.size 3 A10 n7 (rowsV R7) := by
                              rw [Hls.out, Hn7'.out, rowsV, List.flatMap_append]
                              exact hSl10
                            have HSl := Lib.hid hSl
                            have HL10 := Lib.hid (HL9.out.go bel6_)
                            have hb10 := bgo hb9 bel6_
                            have hn7e : c + (n - (c + 1)) = n7 := Hn7'.out.symm
                            clear hSl hSl10 own6_ own5_ own_0 kept5_ kept6_
                            go_wp2_with fail
                            refine (samerows_eq A9 A10 ca9 ca10 n7 R7 _ Hn7.out HL10.out HSl.out (by have := Hn7'.out; omega)).mono ?_
                            rintro e w11 ⟨rfl, hB11⟩
                            go_wp2_with fail
                            go_ret
                            exact ⟨rfl, bgo hb10 hB11⟩
                          exact AllReadyH.nil
                        exact AllReadyH.nil
                      exact AllReadyH.nil
                    · rw [if_neg h2] at hls
                      have hRR : R7 = R := hls
                      have hnn : n7 = n := by rw [← Hn7.out, hRR, Hn.out]
                      have Hnn := Lib.hid hnn
                      have HRR := Lib.hid hRR
                      clear hls hcm hRR hnn
                      have HL10 := Lib.hid (show Sl w9 w9.heap.size 3 A9 n7 (rowsV R7) from HL9.out)
                      have HA10 : Hid (Sl w9 w9.heap.size 3 (some ⟨b, off, none⟩) n7 (rowsV R7)) := Lib.hid (by rw [Hnn.out, HRR.out]; exact HA9.out)
                      have hne2 : n = n7 := Hnn.out.symm
                      go_wp2_with fail
                      refine (samerows_eq A9 (some ⟨b, off, none⟩) ca9 ca n7 R7 _ Hn7.out HL10.out HA10.out (by have := Hnn.out; omega)).mono ?_
                      rintro e w11 ⟨rfl, hB11⟩
                      go_wp2_with fail
                      go_ret
                      exact ⟨rfl, bgo hb9 hB11⟩
end Go.Proofs.YtgkilaafeconlaaDoor
