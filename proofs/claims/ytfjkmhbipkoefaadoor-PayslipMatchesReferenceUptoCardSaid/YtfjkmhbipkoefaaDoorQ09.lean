/- The walk of payslip's leaves. -/
import Derived.Test.YtfjkmhbipkoefaaDoorQ07
import Derived.Test.YtfjkmhbipkoefaaDoorQ08
namespace Go.Proofs.YtfjkmhbipkoefaaDoor
open Go.RowKit Go.Shelf
set_option linter.unusedVariables false
set_option linter.unusedSimpArgs false
set_option maxRecDepth 100000
theorem commit_no (v b : Int) (w : World) (hv0 : 0 ≤ v) (hv1 : v < 1073741789) (hb : ¬ (0 ≤ b ∧ b < 1073741789)) :
    Calls Tryd.prog 49 #[.int .i64 v, .int .i64 b] w fun e w' => e = .returned (.tuple #[.int .i64 0, .int .i64 1]) ∧ Below w.heap.size w w' := by
  by_cases h0 : 0 ≤ b
  · have h1 : 1073741789 ≤ b := by omega
    clear hb
    go_enter Tryd.func49, Tryd.ntmps49
    go_wp2_with fail
    go_ret2
    exact ⟨rfl, Below.refl _ _⟩
  · have h1 : b < 0 := by omega
    clear hb h0
    go_enter Tryd.func49, Tryd.ntmps49
    go_wp2_with fail
    go_ret2
    exact ⟨rfl, Below.refl _ _⟩
/-- Commit, for a value in range. -/
def comI (v b : Int) : Int := if 0 ≤ b ∧ b < 1073741789 then commitI v b else 0
def comE (b : Int) : Int := if 0 ≤ b ∧ b < 1073741789 then 0 else 1
theorem commit_at (v b : Int) (x e : Int) (hx : Hid (comI v b = x)) (he : Hid (comE b = e)) (hv0 : 0 ≤ v) (hv1 : v < 1073741789) (w : World) (hT : GTab w) :
    Calls Tryd.prog 49 #[.int .i64 v, .int .i64 b] w fun r w' => r = .returned (.tuple #[.int .i64 x, .int .i64 e]) ∧ Below w.heap.size w w' := by
  rw [← hx.out, ← he.out]
  unfold comI comE
  by_cases h : 0 ≤ b ∧ b < 1073741789
  · rw [if_pos h, if_pos h]
    exact commit_ok v b w hT hv0 hv1 h.1 h.2
  · rw [if_neg h, if_neg h]
    exact commit_no v b w hv0 hv1 h
theorem comI_bd (v b : Int) : 0 ≤ comI v b ∧ comI v b < 2147483579 := by
  unfold comI
  split
  · exact commitI_bd v b
  · omega
instance : Inhabited RowD := ⟨⟨⟨#[]⟩, 0, ⟨#[]⟩⟩⟩
def inR (c : Int) : Bool := decide (-500000000 ≤ c ∧ c ≤ 500000000)
/-- The leaf of a row. -/
def leafAt (x : RowD) (b : Int) : ByteArray := leafB x.l (comI (x.c % 1073741789) b) x.r
def leafK (rows : List RowD) (bl : List Int) (k : Nat) : List ByteArray := (List.range k).map fun j => leafAt (rows.getD j default) (bl.getD j 0)
def okK (rows : List RowD) (bl : List Int) (k : Nat) : Bool := (List.range k).all fun j => inR (rows.getD j default).c && (comE (bl.getD j 0) == 0)
theorem leafK_snoc (rows : List RowD) (bl : List Int) (k : Nat) : leafK rows bl (k + 1) = leafK rows bl k ++ [leafAt (rows.getD k default) (bl.getD k 0)] := by simp [leafK, List.range_succ]
theorem leafK_len (rows : List RowD) (bl : List Int) (k : Nat) : (leafK rows bl k).length = k := by simp [leafK]
theorem okK_snoc (rows : List RowD) (bl : List Int) (k : Nat) : okK rows bl (k + 1) = (okK rows bl k && (inR (rows.getD k default).c && (comE (bl.getD k 0) == 0))) := by simp [okK, List.range_succ]
theorem okK_no {rows : List RowD} {bl : List Int} {k : Nat} (h : okK rows bl k = false) : ∀ n, k ≤ n → okK rows bl n = false := by
  intro n hn
  induction n with
  | zero => obtain rfl : k = 0 := by omega
            exact h
  | succ n ih =>
    by_cases e : k = n + 1
    · rw [← e]; exact h
    · rw [okK_snoc, ih (by omega), Bool.false_and]
theorem strV_snoc' (l : List ByteArray) (x : ByteArray) : strV (l ++ [x]) = strV l ++ [.string x] := by simp [strV]
/-- The tables behind payslips. -/
def PTabs (w : World) : Prop := CaT.Tabs w ∧ GTab w
theorem PTabs.go {w w' : World} (h : PTabs w) (hb : Below w.heap.size w w') : PTabs w' := ⟨h.1.go hb, h.2.go hb⟩
theorem leafP_at (label : ByteArray) (c : Int) (reason t : ByteArray) (ht : Hid (leafB label c reason = t)) (hc : I64 c) (hl : label.size ≤ 70368744177000) (hr : reason.size ≤ 70368744177000) (w : World) (hT : PTabs w) :
    Calls Tryd.prog 16 #[.string label, .int .i64 c, .string reason] w fun e w' => e = .returned (.string t) ∧ Below w.heap.size w w' := leafP_any label c reason t ht hc hl hr w hT.1.2
def LeavesP (w : World) (rows : List RowD) (bl : List Int) (n : Nat) (ok : Bool) (e : Ending) (w' : World) : Prop :=
  ∃ v, e = .returned (.tuple #[v, .bool ok]) ∧ w'.ownsRow w.heap.size 9 1 v (if ok = true then n else 0) (strV (if ok = true then leafK rows bl n else [])) ∧ Below w.heap.size w w'
set_option maxHeartbeats 8000000 in
theorem psleaves_any (A B : Option Addr) (ca cb n m : Nat) (rows : List RowD) (bl : List Int) (ok : Bool) (hok : Hid (okK rows bl n = ok)) (w : World) (hT : PTabs w) (hA : Sl w w.heap.size 3 A n (rowsV rows)) (hB : Sl w w.heap.size 1 B m (intV bl))
    (hn : rows.length = n) (hm : bl.length = m) (hnm : n ≤ m) (hnl : n ≤ 1000000) (hml : m ≤ maxLen) (hs : ∀ x ∈ rows, x.l.size ≤ 70368744177000 ∧ x.r.size ≤ 70368744177000 ∧ I64 x.c) (hb : ∀ b ∈ bl, I64 b) :
    Calls Tryd.prog 28 #[.slice A n ca, .slice B m cb] w (LeavesP w rows bl n ok) := by
  have HA := Lib.hid hA
  have HB := Lib.hid hB
  have Hn := Lib.hid hn
  have Hm := Lib.hid hm
  have Hs := Lib.hid hs
  have Hb := Lib.hid hb
  unfold maxLen at hml
  obtain ⟨i0, hi0, hz0, hz1, hz2⟩ := info_parts info_str
  clear hA hB hn hm hs hb
  go_enter Tryd.func28, Tryd.ntmps28
  go_wp2
  go_loopw [6, 13] (fun v q wr => ∃ k : Nat, k ≤ n ∧ q = .int .i64 (k : Int) ∧ okK rows bl k = true ∧ wr.ownsRow w.heap.size 9 1 v k (strV (leafK rows bl k)) ∧ Below w.heap.size w wr) (fun _ q _ => n - (intOf q).toNat)
  case atStart => exact ⟨0, Nat.zero_le _, rfl, rfl, ⟨rfl, .inl ⟨rfl, rfl⟩⟩, Below.refl _ _⟩
  case round =>
    obtain ⟨k, hk, rfl, hokk, hown, hBw⟩ := hrel
    have Hokk := Lib.hid hokk
    have Hown := Lib.hid hown
    clear hokk hown
    by_cases hlt : k < n
    · have hlt' : (k : Int) < (n : Int) := by omega
      have hkm' : (k : Int) < (m : Int) := by omega
      have hkm : k < m := by omega
      have hkl : k < rows.length := by rw [Hn.out]; exact hlt
      have hkb : k < bl.length := by rw [Hm.out]; omega
      obtain ⟨b1, o1, rfl, hb1, hc1⟩ := HA.out.2 (by omega)
      obtain ⟨b2, o2, rfl, hb2, hc2⟩ := HB.out.2 (by omega)
      obtain ⟨x, hx⟩ : ∃ x, rows[k] = x := ⟨_, rfl⟩
      have hxg : rows.getD k default = x := by rw [List.getD_eq_getElem?_getD, List.getElem?_eq_getElem hkl]; exact hx
      have hget := flat_get rowV 3 (fun _ => rfl) rows k hkl
      rw [hx] at hget
      have hxs := Hs.out x (by rw [← hx]; exact List.getElem_mem hkl)
      obtain ⟨bv, hbv⟩ : ∃ b, bl.getD k 0 = b := ⟨_, rfl⟩
      have hbI : I64 bv := by rw [← hbv]; exact Hb.out _ (by simp [List.getD, hkb])
      have y0 : wr.cell? ⟨b1, o1 + k * 3, none⟩ = some (.string x.l) := (hBw.cell (p := ⟨b1, o1 + k * 3, none⟩) hb1).trans (hc1 _ _ (hget 0 (by decide)))
      have y1 : wr.cell? ⟨b1, o1 + k * 3 + 1, none⟩ = some (.int .i64 x.c) := (hBw.cell (p := ⟨b1, o1 + k * 3 + 1, none⟩) hb1).trans (hc1 _ _ (hget 1 (by decide)))
      have y2 : wr.cell? ⟨b1, o1 + k * 3 + 2, none⟩ = some (.string x.r) := (hBw.cell (p := ⟨b1, o1 + k * 3 + 2, none⟩) hb1).trans (hc1 _ _ (hget 2 (by decide)))
      have z : wr.cell? ⟨b2, o2 + k, none⟩ = some (.int .i64 bv) := (hBw.cell (p := ⟨b2, o2 + k, none⟩) hb2).trans (hc2 k _ (by rw [intV_get bl k hkb, hbv]))
      obtain ⟨xl, xc, xr⟩ := x
      obtain ⟨hs1, hs2, hs3⟩ := hxs
      dsimp only at y0 y1 y2 hs1 hs2 hs3
      have Hxg := Lib.hid (And.intro hxg hbv)
      obtain ⟨q1, hq1⟩ : ∃ q, inR xc = q := ⟨_, rfl⟩
      have Q1 := Lib.hid hq1
      have hstep : okK rows bl (k + 1) = (q1 && (comE bv == 0)) := by rw [okK_snoc, Hokk.out, hxg, hbv, Bool.true_and]; dsimp only; rw [hq1]
      have Hstep := Lib.hid hstep
      clear hx hxg hget hc1 hc2 hbv hstep hkl hkb
      go_upto_region 5 with fail
      obtain ⟨V, hV⟩ : ∃ V, V = wr.alloc (.cells #[.string xl, .int .i64 xc, .string xr] 64) := ⟨_, rfl⟩
      rw [← hV]
      have gV : V.heap[wr.heap.size]? = some (.cells #[.string xl, .int .i64 xc, .string xr] 64 (0, 0)) := by rw [hV]; exact World.alloc_heap_new _ _
      have hBV : Below wr.heap.size wr V := by rw [hV]; exact bal (Below.refl _ _) _
      have hszV : wr.heap.size < V.heap.size := by rw [hV]; simp
      have hBwV := bgo hBw hBV
      have v0 : V.cell? ⟨wr.heap.size, 0, none⟩ = some (.string xl) := by rw [Lib.cell_of_heap gV]; rfl
      have v1 : V.cell? ⟨wr.heap.size, 1, none⟩ = some (.int .i64 xc) := by rw [Lib.cell_of_heap gV]; rfl
      have v2 : V.cell? ⟨wr.heap.size, 2, none⟩ = some (.string xr) := by rw [Lib.cell_of_heap gV]; rfl
      have zV : V.cell? ⟨b2, o2 + k, none⟩ = some (.int .i64 bv) := (hBV.cell (p := ⟨b2, o2 + k, none⟩) (Nat.lt_of_lt_of_le hb2 hBw.size)).trans z
      clear hV y0 y1 y2 z
      go_wp2_with fail
      refine (inRange_at xc q1 (Lib.hid Q1.out) _).mono ?_
      rintro e w' ⟨rfl, hw'⟩
      obtain rfl := hw'
      cases q1 with
      | false =>
        have hF : Hid (ok = false) := Lib.hid (by rw [← hok.out]; exact okK_no (by rw [Hstep.out]; rfl) n (by omega))
        clear v0 v1 v2 zV gV
        go_wp2_with fail
        go_ret2
        rw [hF.out]
        exact ⟨_, rfl, ⟨rfl, .inl ⟨rfl, rfl⟩⟩, hBwV⟩
      | true =>
        obtain ⟨hr1, hr2⟩ := of_decide_eq_true Q1.out
        have he1 : IntKind.i64.wrap (xc + 1073741789) = xc + 1073741789 := IntWalk.i64_in _ (by omega)
        have he2 : (xc + 1073741789).tmod 1073741789 = xc % 1073741789 := by
          rw [Int.tmod_eq_emod_of_nonneg (by omega)]; omega
        obtain ⟨vi, hvi⟩ : ∃ v, xc % 1073741789 = v := ⟨_, rfl⟩
        have hvi0 : 0 ≤ vi := by omega
        have hvi1 : vi < 1073741789 := by omega
        rw [hvi] at he2
        obtain ⟨cx, hcx⟩ : ∃ c, comI vi bv = c := ⟨_, rfl⟩
        obtain ⟨ce, hce⟩ : ∃ c, comE bv = c := ⟨_, rfl⟩
        have hcxb := comI_bd vi bv
        rw [hcx] at hcxb
        obtain ⟨t, ht⟩ : ∃ t, leafB xl cx xr = t := ⟨_, rfl⟩
        have Hlf : Hid (leafK rows bl (k + 1) = leafK rows bl k ++ [t]) := Lib.hid (by rw [leafK_snoc, Hxg.out.1, Hxg.out.2, leafAt]; dsimp only; rw [hvi, hcx, ht])
        have Hcx := Lib.hid hcx
        have Hce := Lib.hid hce
        have Ht := Lib.hid ht
        have Hvi := Lib.hid hvi
        have hVd : wr.heap.size < V.drew.heap.size := hszV
        have hTd : PTabs V.drew := hT.go hBwV.drew
        have hGd : GTab V.drew := hTd.2
        have GV := Lib.hid (show V.drew.heap[wr.heap.size]? = some (.cells #[.string xl, .int .i64 xc, .string xr] 64 (0, 0)) from gV)
        have GZ := Lib.hid (show V.drew.cell? ⟨b2, o2 + k, none⟩ = some (.int .i64 bv) from zV)
        have hb2d : b2 < V.drew.heap.size := Nat.lt_of_lt_of_le hb2 hBwV.size
        clear hcx hce ht hvi v0 v1 v2 zV gV
        go_upto_region 7 with fail
        refine wp_region_noPanic ?_
        refine wp_region_held_drew (S := fun W => W.heap[wr.heap.size]? = some (.cells #[.string xl, .int .i64 xc, .string xr] 64 (0, 0)) ∧ W.cell? ⟨b2, o2 + k, none⟩ = some (.int .i64 bv)) (by kernel_rfl) ⟨GV.out, GZ.out⟩ (fun hHeld => ?_)
        refine wpAnyH_take (i := 0) (v := ?_) rfl (by kernel_rfl) (by kernel_rfl) (by kernel_rfl) (fun _ _ _ h => h) (Or.inl ⟨by kernel_rfl, ?_⟩) (by assumption) ?_
        rotate_left
        · intro w hSw
          (try dsimp only at hSw)
          go_simp
          first | done | with_reducible rfl
        simp only [List.getElem_toArray, List.getElem_cons_zero, List.getElem_cons_succ, Act.put, List.setIfInBounds_toArray, List.set_cons_zero, List.set_cons_succ]
        refine wpAnyH_take (i := 1) (v := ?_) rfl (by kernel_rfl) (by kernel_rfl) (by kernel_rfl) (fun _ _ _ h => h) (Or.inl ⟨by kernel_rfl, ?_⟩) (by assumption) ?_
        rotate_left
        · intro w hSw
          (try dsimp only at hSw)
          have z0 : w.cell? ⟨wr.heap.size, 1, none⟩ = some (.int .i64 xc) := by rw [Lib.cell_of_heap hSw.1]; rfl
          go_simp
          first | done | with_reducible rfl
        simp only [List.getElem_toArray, List.getElem_cons_zero, List.getElem_cons_succ, Act.put, List.setIfInBounds_toArray, List.set_cons_zero, List.set_cons_succ]
        refine wpAnyH_take (i := 2) (v := .int .i64 (xc + 1073741789)) rfl (by kernel_rfl) (by kernel_rfl) (by kernel_rfl) (fun _ _ _ h => h) (Or.inl ⟨by kernel_rfl, ?_⟩) (by assumption) ?_
        · intro w hSw
          (try dsimp only at hSw)
          first | (go_simp; done) | (go_simp; simp [he1])
        simp only [List.getElem_toArray, List.getElem_cons_zero, List.getElem_cons_succ, Act.put, List.setIfInBounds_toArray, List.set_cons_zero, List.set_cons_succ]
        refine wpAnyH_take (i := 3) (v := .int .i64 vi) rfl (by kernel_rfl) (by kernel_rfl) (by kernel_rfl) (fun _ _ _ h => h) (Or.inl ⟨by kernel_rfl, ?_⟩) (by assumption) ?_
        · intro w hSw
          (try dsimp only at hSw)
          first | (go_simp; done) | (go_simp; simp [he1, he2])
        simp only [List.getElem_toArray, List.getElem_cons_zero, List.getElem_cons_succ, Act.put, List.setIfInBounds_toArray, List.set_cons_zero, List.set_cons_succ]
        refine wpAnyH_take (i := 4) (v := ?_) rfl (by kernel_rfl) (by kernel_rfl) (by kernel_rfl) (fun _ _ _ h => h) (Or.inl ⟨by kernel_rfl, ?_⟩) (by assumption) ?_
        rotate_left
        · intro w hSw
          (try dsimp only at hSw)
          go_simp
          first | done | with_reducible rfl
        simp only [List.getElem_toArray, List.getElem_cons_zero, List.getElem_cons_succ, Act.put, List.setIfInBounds_toArray, List.set_cons_zero, List.set_cons_succ]
        refine wpAnyH_take (i := 5) (v := ?_) rfl (by kernel_rfl) (by kernel_rfl) (by kernel_rfl) (fun _ _ _ h => h) (Or.inl ⟨by kernel_rfl, ?_⟩) (by assumption) ?_
        rotate_left
        · intro w hSw
          (try dsimp only at hSw)
          go_simp
          first | done | with_reducible rfl
        simp only [List.getElem_toArray, List.getElem_cons_zero, List.getElem_cons_succ, Act.put, List.setIfInBounds_toArray, List.set_cons_zero, List.set_cons_succ]
        refine wpAnyH_take (i := 6) (v := ?_) rfl (by kernel_rfl) (by kernel_rfl) (by kernel_rfl) (fun _ _ _ h => h) (Or.inl ⟨by kernel_rfl, ?_⟩) (by assumption) ?_
        rotate_left
        · intro w hSw
          (try dsimp only at hSw)
          go_simp
          first | done | with_reducible rfl
        simp only [List.getElem_toArray, List.getElem_cons_zero, List.getElem_cons_succ, Act.put, List.setIfInBounds_toArray, List.set_cons_zero, List.set_cons_succ]
        refine wpAnyH_take (i := 7) (v := ?_) rfl (by kernel_rfl) (by kernel_rfl) (by kernel_rfl) (fun _ _ _ h => h) (Or.inl ⟨by kernel_rfl, ?_⟩) (by assumption) ?_
        rotate_left
        · intro w hSw
          (try dsimp only at hSw)
          obtain ⟨_, z0⟩ := hSw
          go_simp
          first | done | with_reducible rfl
        simp only [List.getElem_toArray, List.getElem_cons_zero, List.getElem_cons_succ, Act.put, List.setIfInBounds_toArray, List.set_cons_zero, List.set_cons_succ]
        refine wpAnyH_ready (rs := [8]) (by kernel_rfl) (by simp) ?_
        refine AllReadyH.cons rfl (fun K hK => ?_) AllReadyH.nil
        simp only [List.getElem_toArray, List.getElem_cons_zero, List.getElem_cons_succ]
        go_simp
        (with_reducible refine (commit_at vi bv cx ce Hcx Hce hvi0 hvi1 V.drew hGd).mono ?_)
        rintro e w1 ⟨rfl, hB1⟩
        dsimp only
        have hD1 : Below V.drew.heap.size V.drew w1 := hB1
        refine hK.out _ _ ⟨(hD1.block _ hVd).trans GV.out, (hD1.cell (p := ⟨b2, o2 + k, none⟩) hb2d).trans GZ.out⟩ (fun hHeld => ?_)
        clear hK K
        try simp only [List.getElem_toArray, List.getElem_cons_zero, List.getElem_cons_succ, Act.put, List.setIfInBounds_toArray, List.set_cons_zero, List.set_cons_succ]
        refine wpAnyH_take (i := 9) (v := ?_) rfl (by kernel_rfl) (by kernel_rfl) (by kernel_rfl) (fun _ _ _ h => h) (Or.inl ⟨by kernel_rfl, ?_⟩) (by assumption) ?_
        rotate_left
        · intro w hSw
          (try dsimp only at hSw)
          go_simp
          first | done | with_reducible rfl
        simp only [List.getElem_toArray, List.getElem_cons_zero, List.getElem_cons_succ, Act.put, List.setIfInBounds_toArray, List.set_cons_zero, List.set_cons_succ]
        refine wpAnyH_take (i := 10) (v := ?_) rfl (by kernel_rfl) (by kernel_rfl) (by kernel_rfl) (fun _ _ _ h => h) (Or.inl ⟨by kernel_rfl, ?_⟩) (by assumption) ?_
        rotate_left
        · intro w hSw
          (try dsimp only at hSw)
          go_simp
          first | done | with_reducible rfl
        simp only [List.getElem_toArray, List.getElem_cons_zero, List.getElem_cons_succ, Act.put, List.setIfInBounds_toArray, List.set_cons_zero, List.set_cons_succ]
        refine wpAnyH_take (i := 11) (v := ?_) rfl (by kernel_rfl) (by kernel_rfl) (by kernel_rfl) (fun _ _ _ h => h) (Or.inl ⟨by kernel_rfl, ?_⟩) (by assumption) ?_
        rotate_left
        · intro w hSw
          (try dsimp only at hSw)
          go_simp
          first | done | with_reducible rfl
        simp only [List.getElem_toArray, List.getElem_cons_zero, List.getElem_cons_succ, Act.put, List.setIfInBounds_toArray, List.set_cons_zero, List.set_cons_succ]
        refine wpAnyH_take (i := 12) (v := ?_) rfl (by kernel_rfl) (by kernel_rfl) (by kernel_rfl) (fun _ _ _ h => h) (Or.inl ⟨by kernel_rfl, ?_⟩) (by assumption) ?_
        rotate_left
        · intro w hSw
          (try dsimp only at hSw)
          go_simp
          first | done | with_reducible rfl
        simp only [List.getElem_toArray, List.getElem_cons_zero, List.getElem_cons_succ, Act.put, List.setIfInBounds_toArray, List.set_cons_zero, List.set_cons_succ]
        refine wpAnyH_take (i := 13) (v := ?_) rfl (by kernel_rfl) (by kernel_rfl) (by kernel_rfl) (fun _ _ _ h => h) (Or.inl ⟨by kernel_rfl, ?_⟩) (by assumption) ?_
        rotate_left
        · intro w hSw
          (try dsimp only at hSw)
          go_simp
          first | done | with_reducible rfl
        simp only [List.getElem_toArray, List.getElem_cons_zero, List.getElem_cons_succ, Act.put, List.setIfInBounds_toArray, List.set_cons_zero, List.set_cons_succ]
        refine wpAnyH_done (by kernel_rfl) ?_ _
        dsimp only [NoPanic]
        clear hHeld
        have hD1u : Below V.heap.size V w1 := below_undrew hD1
        have k0 : w1.cell? ⟨wr.heap.size, 0, none⟩ = some (.string xl) := by rw [Lib.cell_of_heap ((hD1.block _ hVd).trans GV.out)]; rfl
        have k2 : w1.cell? ⟨wr.heap.size, 2, none⟩ = some (.string xr) := by rw [Lib.cell_of_heap ((hD1.block _ hVd).trans GV.out)]; rfl
        by_cases hce : ce = 0
        · have hne : (ce != 0) = false := by rw [hce]; rfl
          have hokn : Hid (okK rows bl (k + 1) = true) := Lib.hid (by rw [Hstep.out, Hce.out, hce]; rfl)
          clear hce
          go_upto_region 10 with fail
          skip
          have hBw1 := bgo hBwV hD1u
          have hTd1 : PTabs w1 := hT.go hBw1
          have HO1 := Lib.hid (own_below (own_below Hown.out hBV) hD1u)
          have hcI : I64 cx := ⟨by omega, by omega⟩
          clear hD1 hD1u hBV hBwV
          go_wp2_with fail
          refine (leafP_at xl cx xr t Ht hcI hs1 hs2 w1 hTd1).mono ?_
          rintro e w2 ⟨rfl, hB2⟩
          have hBw2 := bgo hBw1 hB2
          have HO2 := Lib.hid (own_below HO1.out hB2)
          clear k0 k2 hB2 hBw1
          go_wp2_with (at_builtin; refine app_one rfl _ _ 88 rfl 9 i0 (.string ⟨#[]⟩) 1 16 Tryd.underlying88 hi0 hz0 hz1 hz2 rfl (by decide) _ k _ rfl HO2.out hBw2 [.string t] _ _ rfl rfl (by simp [Value.oneCell']) (by unfold maxLen; omega) (by omega) ?_)
          intro v3 w3 hown3 hB3 _
          have HO3 := Lib.hid hown3
          clear hown3 hBw2
          go_wp2
          go_roundw
          case rel => exact ⟨k + 1, by omega, by go_num, hokn.out, by rw [Hlf.out, strV_snoc']; exact HO3.out, hB3⟩
          case measure => simp [intOf]; omega
        · have hne : (ce != 0) = true := by simp [hce]
          have hF : Hid (ok = false) := Lib.hid (by
            rw [← hok.out]
            refine okK_no (k := k + 1) ?_ n (by omega)
            rw [Hstep.out, Hce.out, Bool.true_and]
            exact beq_eq_false_iff_ne.2 hce)
          clear k0 k2
          go_wp2_with fail
          go_ret2
          rw [hF.out]
          exact ⟨_, rfl, ⟨rfl, .inl ⟨rfl, rfl⟩⟩, bgo hBwV hD1u⟩
    · obtain rfl : k = n := by omega
      have hF : Hid (ok = true) := Lib.hid (by rw [← hok.out]; exact Hokk.out)
      go_wp2
      go_ret2
      rw [hF.out]
      exact ⟨_, rfl, Hown.out, hBw⟩
end Go.Proofs.YtfjkmhbipkoefaaDoor
