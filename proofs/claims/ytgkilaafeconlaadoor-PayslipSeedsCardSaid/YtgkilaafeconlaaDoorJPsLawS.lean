/- The walk of PayslipSeeds. -/
import Derived.Test.YtgkilaafeconlaaDoorJE
namespace Go.Proofs.YtgkilaafeconlaaDoor
open Go.RowKit Go.Shelf
set_option linter.unusedVariables false
set_option linter.unusedSimpArgs false
set_option maxRecDepth 100000

set_option maxHeartbeats 8000000 in
theorem payslipSeeds_walk (month : Int) (LA : Option Addr) (lc : Nat) (ls : List Quad) (OA : Option Addr) (oc : Nat) (os : List Int) (a b : ByteArray) (w : World) (wm : (Lit.int .i64 month).wf = true) (hL : Sl w w.heap.size 4 LA ls.length (ls.flatMap quadV)) (hcl : ls.length ≤ lc ∧ lc ≤ maxLen) (hls : ∀ q ∈ ls, QuadOk q) (hO : Sl w w.heap.size 1 OA os.length (intV os)) (hco : os.length ≤ oc ∧ oc ≤ maxLen) (hos : ∀ x ∈ os, I64 x) (ha : a.size ≤ maxLen) (hb : b.size ≤ maxLen) (hT : Tabs w) :
    Calls Tryd.prog 6 #[.int .i64 month, .slice LA ls.length lc, .slice OA os.length oc, .string a, .string b] w fun e w' => e = .returned (.bool true) ∧ Below w.heap.size w w' := by
  obtain ⟨N, hN⟩ : ∃ N, ls.length = N := ⟨_, rfl⟩
  obtain ⟨M, hM⟩ : ∃ M, os.length = M := ⟨_, rfl⟩
  rw [hN, hM]
  rw [hN] at hL hcl
  rw [hM] at hO hco
  have hm := bounds_i64 wm
  have Hmo : Hid (I64 month) := Lib.hid (by unfold I64; omega)
  have HL := Lib.hid hL
  have HO := Lib.hid hO
  have HN := Lib.hid hN
  have HM := Lib.hid hM
  have Hls : Hid (N ≤ maxLen ∧ ∀ q ∈ ls, QuadOk q) := Lib.hid ⟨by omega, hls⟩
  have Hos : Hid (M ≤ maxLen ∧ ∀ x ∈ os, I64 x) := Lib.hid ⟨by omega, hos⟩
  unfold maxLen at ha hb
  obtain ⟨sa, hsa1⟩ : ∃ t, a.extract 0 (min (a.size : Int) 64).toNat = t := ⟨_, rfl⟩
  obtain ⟨sc, hsb1⟩ : ∃ t, b.extract 0 (min (b.size : Int) 64).toNat = t := ⟨_, rfl⟩
  have hsa2 : sa.size ≤ 64 := by rw [← hsa1, ext_size]; omega
  have hsb2 : sc.size ≤ 64 := by rw [← hsb1, ext_size]; omega
  have Hsa := Lib.hid hsa2
  have Hsc := Lib.hid hsb2
  have hmn : 0 ≤ min (a.size : Int) 64 ∧ min (a.size : Int) 64 ≤ (a.size : Int) := by omega
  have hmn2 : 0 ≤ min (b.size : Int) 64 ∧ min (b.size : Int) 64 ≤ (b.size : Int) := by omega
  clear hL hO hN hM hcl hco hls hos
  go_enter Tryd.func6, Tryd.ntmps6
  go_wp2_with fail
  refine (head_any _ hT).mono ?_
  rintro e w1 ⟨rfl, hb1⟩
  have hT1 : PTabs w1 := hT.go hb1
  go_wp2_with fail
  (with_reducible refine (result_at month LA lc ls N OA oc os M w1 HN HM Hmo Hls Hos (HL.out.go hb1) (HO.out.go hb1)).mono ?_)
  rintro e w2 ⟨s, rfl, hs2, hsis, hscap, hB2⟩
  have hsv : slipV s = .agg #[.string s.person, .int .i64 s.month, .slice s.LA s.lines.length s.lc, .int .i64 s.gross, .int .i64 s.tax, .int .i64 s.deduct, .int .i64 s.floor, .slice s.TA s.taken.length s.tc, .int .i64 s.net] := rfl
  rw [hsv]
  have Hsv := Lib.hid hsv
  clear hsv hscap HL HO
  go_upto_region 5 with fail
  obtain ⟨sb, hsb⟩ : ∃ x, x = w2.heap.size := ⟨_, rfl⟩
  obtain ⟨W3, hW3⟩ : ∃ x, x = w2.alloc (.cells #[.string s.person, .int .i64 s.month, .slice s.LA s.lines.length s.lc, .int .i64 s.gross, .int .i64 s.tax, .int .i64 s.deduct, .int .i64 s.floor, .slice s.TA s.taken.length s.tc, .int .i64 s.net] 37) := ⟨_, rfl⟩
  have hBW : Below w2.heap.size w2 W3 := by rw [hW3]; exact bal (Below.refl _ _) _
  have gs : W3.heap[sb]? = some (slipO s) := by rw [hW3, hsb]; exact World.alloc_heap_new _ _
  rw [← hW3, ← hsb]
  clear hW3 hsb hmn hmn2 hsa1 hsb1
  have GS := Lib.hid gs
  have hsl1 : sb < W3.heap.size := (Array.getElem?_eq_some_iff.1 gs).1
  have Hs0 := Lib.hid (hs2.go hBW)
  have hb3 : Below w.heap.size w W3 := bgo (bgo hb1 hB2) hBW
  have hT0 := hT1
  have hT1 : PTabs W3 := hT.go hb3
  have bel0 : Below W3.heap.size W3 W3.drew := (Below.refl _ _).drew
  clear gs hs2 hBW hT0 hB2 hb1
  go_cut [13, 14] (fun s1_ s2_ wx => ∃ X A ca B cb n dp dm dr db dt, s1_ = .pointer (some ⟨X, 0, none⟩) ∧ s2_ = .int .i64 0 ∧ BoxIs W3 month ls os s sa X A ca B cb n dp dm dr db dt wx ∧ (∀ x ∈ dr, x.l.size ≤ 70368744177000 ∧ x.r.size ≤ 70368744177000 ∧ I64 x.c))
  case first =>
    refine wp_region_noPanic ?_
    refine wp_region_held_drew (S := fun W' => W'.heap[sb]? = some (slipO s)) (by kernel_rfl) GS.out (fun hHeld => ?_)
    refine wpAnyH_take (i := 1) (v := ?_) rfl (by kernel_rfl) (by kernel_rfl) (by kernel_rfl) (fun _ _ _ h => h) (Or.inl ⟨by kernel_rfl, ?_⟩) (by assumption) ?_
    rotate_left
    · intro w hSw
      (try dsimp only at hSw)
      have z0 : w.cell? ⟨sb, 0, none⟩ = some (.string s.person) := by rw [Lib.cell_of_heap hSw]; rfl
      have z1 : w.cell? ⟨sb, 1, none⟩ = some (.int .i64 s.month) := by rw [Lib.cell_of_heap hSw]; rfl
      have z2 : w.cell? ⟨sb, 2, none⟩ = some (.slice s.LA s.lines.length s.lc) := by rw [Lib.cell_of_heap hSw]; rfl
      have z3 : w.cell? ⟨sb, 3, none⟩ = some (.int .i64 s.gross) := by rw [Lib.cell_of_heap hSw]; rfl
      have z4 : w.cell? ⟨sb, 4, none⟩ = some (.int .i64 s.tax) := by rw [Lib.cell_of_heap hSw]; rfl
      have z5 : w.cell? ⟨sb, 5, none⟩ = some (.int .i64 s.deduct) := by rw [Lib.cell_of_heap hSw]; rfl
      have z6 : w.cell? ⟨sb, 6, none⟩ = some (.int .i64 s.floor) := by rw [Lib.cell_of_heap hSw]; rfl
      have z7 : w.cell? ⟨sb, 7, none⟩ = some (.slice s.TA s.taken.length s.tc) := by rw [Lib.cell_of_heap hSw]; rfl
      have z8 : w.cell? ⟨sb, 8, none⟩ = some (.int .i64 s.net) := by rw [Lib.cell_of_heap hSw]; rfl
      clear hSw
      go_simp
      first | done | with_reducible rfl
    simp only [List.getElem_toArray, List.getElem_cons_zero, List.getElem_cons_succ, Act.put, List.setIfInBounds_toArray, List.set_cons_zero, List.set_cons_succ]
    refine wpAnyH_take (i := 2) (v := ?_) rfl (by kernel_rfl) (by kernel_rfl) (by kernel_rfl) (fun _ _ _ h => h) (Or.inl ⟨by kernel_rfl, ?_⟩) (by assumption) ?_
    rotate_left
    · intro w hSw
      (try dsimp only at hSw)
      go_simp
      first | done | with_reducible rfl
    simp only [List.getElem_toArray, List.getElem_cons_zero, List.getElem_cons_succ, Act.put, List.setIfInBounds_toArray, List.set_cons_zero, List.set_cons_succ]
    refine wpAnyH_ready (rs := [0, 7]) (by kernel_rfl) (by simp) ?_
    refine AllReadyH.cons rfl (fun K hK => ?_) ?_
    · simp only [List.getElem_toArray, List.getElem_cons_zero, List.getElem_cons_succ]
      go_simp
      (with_reducible refine (case_any W3.drew).mono ?_)
      rintro e w_0 hcp
      obtain ⟨LA_, AA_, rfl, hc_0, hB_0⟩ := hcp
      dsimp only
      have bel_0 := bgo bel0 hB_0
      refine hK.out _ _ ((bel_0.block _ hsl1).trans GS.out) (fun hHeld => ?_)
      clear hK K
      try simp only [List.getElem_toArray, List.getElem_cons_zero, List.getElem_cons_succ, Act.put, List.setIfInBounds_toArray, List.set_cons_zero, List.set_cons_succ]
      refine wpAnyH_ready (rs := [3, 7]) (by kernel_rfl) (by simp) ?_
      refine AllReadyH.cons rfl (fun K hK => ?_) ?_
      · simp only [List.getElem_toArray, List.getElem_cons_zero, List.getElem_cons_succ]
        go_simp
        obtain ⟨d_, hd_⟩ : ∃ d, resS s sa = d := ⟨_, rfl⟩
        have hsz_ := res_size hsis hc_0 (Hs0.out.go bel_0)
        (with_reducible refine (Seal_at (case0 LA_ AA_) s sa _ _ (Lib.hid rfl) Hsv d_ 0 (Lib.hid ((res_seal hsis LA_ AA_ sa Hsa.out).2.trans hd_)) (Lib.hid (res_seal hsis LA_ AA_ sa Hsa.out).1) w_0 hc_0 (Hs0.out.go bel_0) (hT1.go bel_0) (sd_ok Hsa.out)).mono ?_)
        rintro e w_03 hsh
        obtain ⟨dp, dm, dr, db, dt⟩ := d_
        obtain ⟨A_, ca_, B_, cb_, rfl, hca_, hcb_, hSA_03, hSB_03, hB_03⟩ := hsh
        dsimp only at hca_ hcb_ hSA_03 hSB_03 ⊢
        have bel_03 := bgo bel_0 hB_03
        refine hK.out _ _ ((bel_03.block _ hsl1).trans GS.out) (fun hHeld => ?_)
        clear hK K
        try simp only [List.getElem_toArray, List.getElem_cons_zero, List.getElem_cons_succ, Act.put, List.setIfInBounds_toArray, List.set_cons_zero, List.set_cons_succ]
        refine wpAnyH_take (i := 4) (v := ?_) rfl (by kernel_rfl) (by kernel_rfl) (by kernel_rfl) (fun _ _ _ h => h) (Or.inl ⟨by kernel_rfl, ?_⟩) (by assumption) ?_
        rotate_left
        · intro w hSw
          (try dsimp only at hSw)
          go_simp
          first | done | with_reducible rfl
        simp only [List.getElem_toArray, List.getElem_cons_zero, List.getElem_cons_succ, Act.put, List.setIfInBounds_toArray, List.set_cons_zero, List.set_cons_succ]
        refine wpAnyH_take (i := 5) (v := ?_) rfl (by kernel_rfl) (by kernel_rfl) (by kernel_rfl) (fun _ _ _ h => h) (Or.inl ⟨by kernel_rfl, ?_⟩) (by assumption) ?_
        rotate_left
        · intro w hSw
          (try dsimp only at hSw)
          go_simp
          first | done | with_reducible rfl
        simp only [List.getElem_toArray, List.getElem_cons_zero, List.getElem_cons_succ, Act.put, List.setIfInBounds_toArray, List.set_cons_zero, List.set_cons_succ]
        refine wpAnyH_take (i := 6) (v := ?_) rfl (by kernel_rfl) (by kernel_rfl) (by kernel_rfl) (fun _ _ _ h => h) (Or.inl ⟨by kernel_rfl, ?_⟩) (by assumption) ?_
        rotate_left
        · intro w hSw
          (try dsimp only at hSw)
          go_simp
          first | done | with_reducible rfl
        simp only [List.getElem_toArray, List.getElem_cons_zero, List.getElem_cons_succ, Act.put, List.setIfInBounds_toArray, List.set_cons_zero, List.set_cons_succ]
        refine wpAnyH_ready (rs := [7]) (by kernel_rfl) (by simp) ?_
        refine AllReadyH.cons rfl (fun K hK => ?_) ?_
        · simp only [List.getElem_toArray, List.getElem_cons_zero, List.getElem_cons_succ]
          go_simp
          refine hK.out _ _ (((bal bel_03 _).block _ hsl1).trans GS.out) (fun hHeld => ?_)
          obtain ⟨X_037, hX_037⟩ : ∃ x, x = w_03.heap.size := ⟨_, rfl⟩
          obtain ⟨w_037, hw_037⟩ : ∃ x, x = w_03.alloc (.cells #[.string ⟨#[]⟩, .int .i64 0, .slice none 0 0, .slice none 0 0, .int .u64 0] 43) := ⟨_, rfl⟩
          rw [← hw_037, ← hX_037]
          have hB_037 : Below w_03.heap.size w_03 w_037 := by rw [hw_037]; exact bal (Below.refl _ _) _
          have bel_037 : Below W3.heap.size W3 w_037 := bgo bel_03 hB_037
          have gX_037 : w_037.heap[X_037]? = some (.cells #[.string ⟨#[]⟩, .int .i64 0, .slice none 0 0, .slice none 0 0, .int .u64 0] 43) := by rw [hw_037, hX_037]; exact World.alloc_heap_new w_03 _
          have hX3_037 : W3.heap.size ≤ X_037 := by rw [hX_037]; exact bel_03.size
          have hSA_037 := hSA_03.go hB_037
          have hSB_037 := hSB_03.go hB_037
          clear hw_037 hX_037
          clear hK K
          try simp only [List.getElem_toArray, List.getElem_cons_zero, List.getElem_cons_succ, Act.put, List.setIfInBounds_toArray, List.set_cons_zero, List.set_cons_succ]
          refine wpAnyH_ready (rs := [8]) (by kernel_rfl) (by simp) ?_
          refine AllReadyH.cons rfl (fun K hK => ?_) ?_
          · simp only [List.getElem_toArray, List.getElem_cons_zero, List.getElem_cons_succ]
            have x0 : w_037.cell? ⟨X_037, 0, none⟩ = some (.string ⟨#[]⟩) := by rw [Lib.cell_of_heap gX_037]; rfl
            have x1 : w_037.cell? ⟨X_037, 1, none⟩ = some (.int .i64 0) := by rw [Lib.cell_of_heap gX_037]; rfl
            have x2 : w_037.cell? ⟨X_037, 2, none⟩ = some (.slice none 0 0) := by rw [Lib.cell_of_heap gX_037]; rfl
            have x3 : w_037.cell? ⟨X_037, 3, none⟩ = some (.slice none 0 0) := by rw [Lib.cell_of_heap gX_037]; rfl
            have x4 : w_037.cell? ⟨X_037, 4, none⟩ = some (.int .u64 0) := by rw [Lib.cell_of_heap gX_037]; rfl
            have yX : ∀ j, w_037.frozen? ⟨X_037, j, none⟩ = false := fun j => Lib.frozen_of_heap gX_037 j
            go_simp
            clear x0 x1 x2 x3 x4 yX
            refine hK.out _ _ ((heap_set5 _ _ _ _ _ _ _ _ (show sb ≠ X_037 by have := hX3_037; omega)).trans ((bel_037.block _ hsl1).trans GS.out)) (fun hHeld => ?_)
            clear hK K
            try simp only [List.getElem_toArray, List.getElem_cons_zero, List.getElem_cons_succ, Act.put, List.setIfInBounds_toArray, List.set_cons_zero, List.set_cons_succ]
            refine wpAnyH_take (i := 9) (v := ?_) rfl (by kernel_rfl) (by kernel_rfl) (by kernel_rfl) (fun _ _ _ h => h) (Or.inl ⟨by kernel_rfl, ?_⟩) (by assumption) ?_
            rotate_left
            · intro w hSw
              (try dsimp only at hSw)
              go_simp
              first | done | with_reducible rfl
            simp only [List.getElem_toArray, List.getElem_cons_zero, List.getElem_cons_succ, Act.put, List.setIfInBounds_toArray, List.set_cons_zero, List.set_cons_succ]
            refine wpAnyH_done (by kernel_rfl) ?_ _
            dsimp only [NoPanic]
            clear hHeld
            go_wp2_with fail
            go_meet
            obtain ⟨hnm, hbox⟩ := boxIs_of (dt := dt) hsis hd_ rfl rfl gX_037 hSA_037 hSB_037 hca_ hcb_ hX3_037 bel_037
            exact ⟨_, _, _, _, _, _, _, _, _, _, _, rfl, rfl, hbox, by rw [(box_rows hd_ hsis).1]; exact hsz_⟩
          exact AllReadyH.nil
        exact AllReadyH.nil
      refine AllReadyH.cons rfl (fun K hK => ?_) ?_
      · simp only [List.getElem_toArray, List.getElem_cons_zero, List.getElem_cons_succ]
        go_simp
        refine hK.out _ _ (((bal bel_0 _).block _ hsl1).trans GS.out) (fun hHeld => ?_)
        obtain ⟨X_07, hX_07⟩ : ∃ x, x = w_0.heap.size := ⟨_, rfl⟩
        obtain ⟨w_07, hw_07⟩ : ∃ x, x = w_0.alloc (.cells #[.string ⟨#[]⟩, .int .i64 0, .slice none 0 0, .slice none 0 0, .int .u64 0] 43) := ⟨_, rfl⟩
        rw [← hw_07, ← hX_07]
        have hB_07 : Below w_0.heap.size w_0 w_07 := by rw [hw_07]; exact bal (Below.refl _ _) _
        have bel_07 : Below W3.heap.size W3 w_07 := bgo bel_0 hB_07
        have gX_07 : w_07.heap[X_07]? = some (.cells #[.string ⟨#[]⟩, .int .i64 0, .slice none 0 0, .slice none 0 0, .int .u64 0] 43) := by rw [hw_07, hX_07]; exact World.alloc_heap_new w_0 _
        have hX3_07 : W3.heap.size ≤ X_07 := by rw [hX_07]; exact bel_0.size
        have hc_07 : CaseOk w_07 (case0 LA_ AA_) := hc_0.go hB_07
        clear hw_07 hX_07
        clear hK K
        try simp only [List.getElem_toArray, List.getElem_cons_zero, List.getElem_cons_succ, Act.put, List.setIfInBounds_toArray, List.set_cons_zero, List.set_cons_succ]
        refine wpAnyH_ready (rs := [3]) (by kernel_rfl) (by simp) ?_
        refine AllReadyH.cons rfl (fun K hK => ?_) ?_
        · simp only [List.getElem_toArray, List.getElem_cons_zero, List.getElem_cons_succ]
          go_simp
          obtain ⟨d_, hd_⟩ : ∃ d, resS s sa = d := ⟨_, rfl⟩
          have hsz_ := res_size hsis hc_07 (Hs0.out.go bel_07)
          (with_reducible refine (Seal_at (case0 LA_ AA_) s sa _ _ (Lib.hid rfl) Hsv d_ 0 (Lib.hid ((res_seal hsis LA_ AA_ sa Hsa.out).2.trans hd_)) (Lib.hid (res_seal hsis LA_ AA_ sa Hsa.out).1) w_07 hc_07 (Hs0.out.go bel_07) (hT1.go bel_07) (sd_ok Hsa.out)).mono ?_)
          rintro e w_073 hsh
          obtain ⟨dp, dm, dr, db, dt⟩ := d_
          obtain ⟨A_, ca_, B_, cb_, rfl, hca_, hcb_, hSA_073, hSB_073, hB_073⟩ := hsh
          dsimp only at hca_ hcb_ hSA_073 hSB_073 ⊢
          have bel_073 := bgo bel_07 hB_073
          have gX_073 := (hB_073.block _ (Array.getElem?_eq_some_iff.1 gX_07).1).trans gX_07
          refine hK.out _ _ ((bel_073.block _ hsl1).trans GS.out) (fun hHeld => ?_)
          clear hK K
          try simp only [List.getElem_toArray, List.getElem_cons_zero, List.getElem_cons_succ, Act.put, List.setIfInBounds_toArray, List.set_cons_zero, List.set_cons_succ]
          refine wpAnyH_take (i := 4) (v := ?_) rfl (by kernel_rfl) (by kernel_rfl) (by kernel_rfl) (fun _ _ _ h => h) (Or.inl ⟨by kernel_rfl, ?_⟩) (by assumption) ?_
          rotate_left
          · intro w hSw
            (try dsimp only at hSw)
            go_simp
            first | done | with_reducible rfl
          simp only [List.getElem_toArray, List.getElem_cons_zero, List.getElem_cons_succ, Act.put, List.setIfInBounds_toArray, List.set_cons_zero, List.set_cons_succ]
          refine wpAnyH_take (i := 5) (v := ?_) rfl (by kernel_rfl) (by kernel_rfl) (by kernel_rfl) (fun _ _ _ h => h) (Or.inl ⟨by kernel_rfl, ?_⟩) (by assumption) ?_
          rotate_left
          · intro w hSw
            (try dsimp only at hSw)
            go_simp
            first | done | with_reducible rfl
          simp only [List.getElem_toArray, List.getElem_cons_zero, List.getElem_cons_succ, Act.put, List.setIfInBounds_toArray, List.set_cons_zero, List.set_cons_succ]
          refine wpAnyH_take (i := 6) (v := ?_) rfl (by kernel_rfl) (by kernel_rfl) (by kernel_rfl) (fun _ _ _ h => h) (Or.inl ⟨by kernel_rfl, ?_⟩) (by assumption) ?_
          rotate_left
          · intro w hSw
            (try dsimp only at hSw)
            go_simp
            first | done | with_reducible rfl
          simp only [List.getElem_toArray, List.getElem_cons_zero, List.getElem_cons_succ, Act.put, List.setIfInBounds_toArray, List.set_cons_zero, List.set_cons_succ]
          refine wpAnyH_ready (rs := [8]) (by kernel_rfl) (by simp) ?_
          refine AllReadyH.cons rfl (fun K hK => ?_) ?_
          · simp only [List.getElem_toArray, List.getElem_cons_zero, List.getElem_cons_succ]
            have x0 : w_073.cell? ⟨X_07, 0, none⟩ = some (.string ⟨#[]⟩) := by rw [Lib.cell_of_heap gX_073]; rfl
            have x1 : w_073.cell? ⟨X_07, 1, none⟩ = some (.int .i64 0) := by rw [Lib.cell_of_heap gX_073]; rfl
            have x2 : w_073.cell? ⟨X_07, 2, none⟩ = some (.slice none 0 0) := by rw [Lib.cell_of_heap gX_073]; rfl
            have x3 : w_073.cell? ⟨X_07, 3, none⟩ = some (.slice none 0 0) := by rw [Lib.cell_of_heap gX_073]; rfl
            have x4 : w_073.cell? ⟨X_07, 4, none⟩ = some (.int .u64 0) := by rw [Lib.cell_of_heap gX_073]; rfl
            have yX : ∀ j, w_073.frozen? ⟨X_07, j, none⟩ = false := fun j => Lib.frozen_of_heap gX_073 j
            go_simp
            clear x0 x1 x2 x3 x4 yX
            refine hK.out _ _ ((heap_set5 _ _ _ _ _ _ _ _ (show sb ≠ X_07 by have := hX3_07; omega)).trans ((bel_073.block _ hsl1).trans GS.out)) (fun hHeld => ?_)
            clear hK K
            try simp only [List.getElem_toArray, List.getElem_cons_zero, List.getElem_cons_succ, Act.put, List.setIfInBounds_toArray, List.set_cons_zero, List.set_cons_succ]
            refine wpAnyH_take (i := 9) (v := ?_) rfl (by kernel_rfl) (by kernel_rfl) (by kernel_rfl) (fun _ _ _ h => h) (Or.inl ⟨by kernel_rfl, ?_⟩) (by assumption) ?_
            rotate_left
            · intro w hSw
              (try dsimp only at hSw)
              go_simp
              first | done | with_reducible rfl
            simp only [List.getElem_toArray, List.getElem_cons_zero, List.getElem_cons_succ, Act.put, List.setIfInBounds_toArray, List.set_cons_zero, List.set_cons_succ]
            refine wpAnyH_done (by kernel_rfl) ?_ _
            dsimp only [NoPanic]
            clear hHeld
            go_wp2_with fail
            go_meet
            obtain ⟨hnm, hbox⟩ := boxIs_of (dt := dt) hsis hd_ rfl rfl gX_073 hSA_073 hSB_073 hca_ hcb_ hX3_07 bel_073
            exact ⟨_, _, _, _, _, _, _, _, _, _, _, rfl, rfl, hbox, by rw [(box_rows hd_ hsis).1]; exact hsz_⟩
          exact AllReadyH.nil
        exact AllReadyH.nil
      exact AllReadyH.nil
    refine AllReadyH.cons rfl (fun K hK => ?_) ?_
    · simp only [List.getElem_toArray, List.getElem_cons_zero, List.getElem_cons_succ]
      go_simp
      refine hK.out _ _ (((bal (Below.refl W3.heap.size W3) _).drew.block _ hsl1).trans GS.out) (fun hHeld => ?_)
      obtain ⟨X_7, hX_7⟩ : ∃ x, x = W3.heap.size := ⟨_, rfl⟩
      obtain ⟨w_7, hw_7⟩ : ∃ x, x = (W3.alloc (.cells #[.string ⟨#[]⟩, .int .i64 0, .slice none 0 0, .slice none 0 0, .int .u64 0] 43)).drew := ⟨_, rfl⟩
      rw [← hw_7, ← hX_7]
      have hB_7 : Below W3.heap.size W3 w_7 := by rw [hw_7]; exact (bal (Below.refl _ _) _).drew
      have bel_7 : Below W3.heap.size W3 w_7 := hB_7
      have gX_7 : w_7.heap[X_7]? = some (.cells #[.string ⟨#[]⟩, .int .i64 0, .slice none 0 0, .slice none 0 0, .int .u64 0] 43) := by rw [hw_7, hX_7]; exact World.alloc_heap_new W3 _
      have hX3_7 : W3.heap.size ≤ X_7 := by rw [hX_7]; exact Nat.le_refl _
      clear hw_7 hX_7
      clear hK K
      try simp only [List.getElem_toArray, List.getElem_cons_zero, List.getElem_cons_succ, Act.put, List.setIfInBounds_toArray, List.set_cons_zero, List.set_cons_succ]
      refine wpAnyH_ready (rs := [0]) (by kernel_rfl) (by simp) ?_
      refine AllReadyH.cons rfl (fun K hK => ?_) ?_
      · simp only [List.getElem_toArray, List.getElem_cons_zero, List.getElem_cons_succ]
        go_simp
        (with_reducible refine (case_any w_7).mono ?_)
        rintro e w_70 hcp
        obtain ⟨LA_, AA_, rfl, hc_70, hB_70⟩ := hcp
        dsimp only
        have bel_70 := bgo bel_7 hB_70
        have gX_70 := (hB_70.block _ (Array.getElem?_eq_some_iff.1 gX_7).1).trans gX_7
        refine hK.out _ _ ((bel_70.block _ hsl1).trans GS.out) (fun hHeld => ?_)
        clear hK K
        try simp only [List.getElem_toArray, List.getElem_cons_zero, List.getElem_cons_succ, Act.put, List.setIfInBounds_toArray, List.set_cons_zero, List.set_cons_succ]
        refine wpAnyH_ready (rs := [3]) (by kernel_rfl) (by simp) ?_
        refine AllReadyH.cons rfl (fun K hK => ?_) ?_
        · simp only [List.getElem_toArray, List.getElem_cons_zero, List.getElem_cons_succ]
          go_simp
          obtain ⟨d_, hd_⟩ : ∃ d, resS s sa = d := ⟨_, rfl⟩
          have hsz_ := res_size hsis hc_70 (Hs0.out.go bel_70)
          (with_reducible refine (Seal_at (case0 LA_ AA_) s sa _ _ (Lib.hid rfl) Hsv d_ 0 (Lib.hid ((res_seal hsis LA_ AA_ sa Hsa.out).2.trans hd_)) (Lib.hid (res_seal hsis LA_ AA_ sa Hsa.out).1) w_70 hc_70 (Hs0.out.go bel_70) (hT1.go bel_70) (sd_ok Hsa.out)).mono ?_)
          rintro e w_703 hsh
          obtain ⟨dp, dm, dr, db, dt⟩ := d_
          obtain ⟨A_, ca_, B_, cb_, rfl, hca_, hcb_, hSA_703, hSB_703, hB_703⟩ := hsh
          dsimp only at hca_ hcb_ hSA_703 hSB_703 ⊢
          have bel_703 := bgo bel_70 hB_703
          have gX_703 := (hB_703.block _ (Array.getElem?_eq_some_iff.1 gX_70).1).trans gX_70
          refine hK.out _ _ ((bel_703.block _ hsl1).trans GS.out) (fun hHeld => ?_)
          clear hK K
          try simp only [List.getElem_toArray, List.getElem_cons_zero, List.getElem_cons_succ, Act.put, List.setIfInBounds_toArray, List.set_cons_zero, List.set_cons_succ]
          refine wpAnyH_take (i := 4) (v := ?_) rfl (by kernel_rfl) (by kernel_rfl) (by kernel_rfl) (fun _ _ _ h => h) (Or.inl ⟨by kernel_rfl, ?_⟩) (by assumption) ?_
          rotate_left
          · intro w hSw
            (try dsimp only at hSw)
            go_simp
            first | done | with_reducible rfl
          simp only [List.getElem_toArray, List.getElem_cons_zero, List.getElem_cons_succ, Act.put, List.setIfInBounds_toArray, List.set_cons_zero, List.set_cons_succ]
          refine wpAnyH_take (i := 5) (v := ?_) rfl (by kernel_rfl) (by kernel_rfl) (by kernel_rfl) (fun _ _ _ h => h) (Or.inl ⟨by kernel_rfl, ?_⟩) (by assumption) ?_
          rotate_left
          · intro w hSw
            (try dsimp only at hSw)
            go_simp
            first | done | with_reducible rfl
          simp only [List.getElem_toArray, List.getElem_cons_zero, List.getElem_cons_succ, Act.put, List.setIfInBounds_toArray, List.set_cons_zero, List.set_cons_succ]
          refine wpAnyH_take (i := 6) (v := ?_) rfl (by kernel_rfl) (by kernel_rfl) (by kernel_rfl) (fun _ _ _ h => h) (Or.inl ⟨by kernel_rfl, ?_⟩) (by assumption) ?_
          rotate_left
          · intro w hSw
            (try dsimp only at hSw)
            go_simp
            first | done | with_reducible rfl
          simp only [List.getElem_toArray, List.getElem_cons_zero, List.getElem_cons_succ, Act.put, List.setIfInBounds_toArray, List.set_cons_zero, List.set_cons_succ]
          refine wpAnyH_ready (rs := [8]) (by kernel_rfl) (by simp) ?_
          refine AllReadyH.cons rfl (fun K hK => ?_) ?_
          · simp only [List.getElem_toArray, List.getElem_cons_zero, List.getElem_cons_succ]
            have x0 : w_703.cell? ⟨X_7, 0, none⟩ = some (.string ⟨#[]⟩) := by rw [Lib.cell_of_heap gX_703]; rfl
            have x1 : w_703.cell? ⟨X_7, 1, none⟩ = some (.int .i64 0) := by rw [Lib.cell_of_heap gX_703]; rfl
            have x2 : w_703.cell? ⟨X_7, 2, none⟩ = some (.slice none 0 0) := by rw [Lib.cell_of_heap gX_703]; rfl
            have x3 : w_703.cell? ⟨X_7, 3, none⟩ = some (.slice none 0 0) := by rw [Lib.cell_of_heap gX_703]; rfl
            have x4 : w_703.cell? ⟨X_7, 4, none⟩ = some (.int .u64 0) := by rw [Lib.cell_of_heap gX_703]; rfl
            have yX : ∀ j, w_703.frozen? ⟨X_7, j, none⟩ = false := fun j => Lib.frozen_of_heap gX_703 j
            go_simp
            clear x0 x1 x2 x3 x4 yX
            refine hK.out _ _ ((heap_set5 _ _ _ _ _ _ _ _ (show sb ≠ X_7 by have := hX3_7; omega)).trans ((bel_703.block _ hsl1).trans GS.out)) (fun hHeld => ?_)
            clear hK K
            try simp only [List.getElem_toArray, List.getElem_cons_zero, List.getElem_cons_succ, Act.put, List.setIfInBounds_toArray, List.set_cons_zero, List.set_cons_succ]
            refine wpAnyH_take (i := 9) (v := ?_) rfl (by kernel_rfl) (by kernel_rfl) (by kernel_rfl) (fun _ _ _ h => h) (Or.inl ⟨by kernel_rfl, ?_⟩) (by assumption) ?_
            rotate_left
            · intro w hSw
              (try dsimp only at hSw)
              go_simp
              first | done | with_reducible rfl
            simp only [List.getElem_toArray, List.getElem_cons_zero, List.getElem_cons_succ, Act.put, List.setIfInBounds_toArray, List.set_cons_zero, List.set_cons_succ]
            refine wpAnyH_done (by kernel_rfl) ?_ _
            dsimp only [NoPanic]
            clear hHeld
            go_wp2_with fail
            go_meet
            obtain ⟨hnm, hbox⟩ := boxIs_of (dt := dt) hsis hd_ rfl rfl gX_703 hSA_703 hSB_703 hca_ hcb_ hX3_7 bel_703
            exact ⟨_, _, _, _, _, _, _, _, _, _, _, rfl, rfl, hbox, by rw [(box_rows hd_ hsis).1]; exact hsz_⟩
          exact AllReadyH.nil
        exact AllReadyH.nil
      exact AllReadyH.nil
    exact AllReadyH.nil
  case rest =>
  obtain ⟨X1, A1, ca1, B1, cb1, n1, dp1, dm1, dr1, db1, dt1, rfl, rfl, hbox1, hsz1⟩ := hcut
  obtain ⟨wk1, hwn⟩ : ∃ x, x = wc := ⟨_, rfl⟩
  subst hwn
  have GS0 := GS
  have hsl0 := hsl1
  have Hs00 := Hs0
  have GS := Lib.hid ((hbox1.bel.block _ hsl0).trans GS0.out)
  have hsl1 : sb < wk1.heap.size := Nat.lt_of_lt_of_le hsl0 hbox1.bel.size
  have Hs0 := Lib.hid (Hs00.out.go hbox1.bel)
  have hT0 := hT1
  have hT1 : PTabs wk1 := hT0.go hbox1.bel
  clear bel0
  have bel0 : Below wk1.heap.size wk1 wk1.drew := (Below.refl _ _).drew
  have hX1l : X1 < wk1.heap.size := (Array.getElem?_eq_some_iff.1 hbox1.g).1
  have hdp : dp1.size ≤ maxLen := by rw [(box_rows hbox1.d hbox1.is).2.2.1]; decide
  have K1 := Lib.hid (And.intro hbox1 hsz1)
  clear hbox1 hsz1 GS0 hsl0 Hs00 hT0
  go_upto_region 6 with fail
  go_cut [15, 16] (fun s1_ s2_ wx => ∃ X A ca B cb n dp dm dr db dt, s1_ = .pointer (some ⟨X, 0, none⟩) ∧ s2_ = .int .i64 0 ∧ BoxIs wk1 month ls os s sc X A ca B cb n dp dm dr db dt wx ∧ (∀ x ∈ dr, x.l.size ≤ 70368744177000 ∧ x.r.size ≤ 70368744177000 ∧ I64 x.c))
  case first =>
    refine wp_region_noPanic ?_
    refine wp_region_held_drew (S := fun W' => W'.heap[sb]? = some (slipO s)) (by kernel_rfl) GS.out (fun hHeld => ?_)
    refine wpAnyH_take (i := 1) (v := ?_) rfl (by kernel_rfl) (by kernel_rfl) (by kernel_rfl) (fun _ _ _ h => h) (Or.inl ⟨by kernel_rfl, ?_⟩) (by assumption) ?_
    rotate_left
    · intro w hSw
      (try dsimp only at hSw)
      have z0 : w.cell? ⟨sb, 0, none⟩ = some (.string s.person) := by rw [Lib.cell_of_heap hSw]; rfl
      have z1 : w.cell? ⟨sb, 1, none⟩ = some (.int .i64 s.month) := by rw [Lib.cell_of_heap hSw]; rfl
      have z2 : w.cell? ⟨sb, 2, none⟩ = some (.slice s.LA s.lines.length s.lc) := by rw [Lib.cell_of_heap hSw]; rfl
      have z3 : w.cell? ⟨sb, 3, none⟩ = some (.int .i64 s.gross) := by rw [Lib.cell_of_heap hSw]; rfl
      have z4 : w.cell? ⟨sb, 4, none⟩ = some (.int .i64 s.tax) := by rw [Lib.cell_of_heap hSw]; rfl
      have z5 : w.cell? ⟨sb, 5, none⟩ = some (.int .i64 s.deduct) := by rw [Lib.cell_of_heap hSw]; rfl
      have z6 : w.cell? ⟨sb, 6, none⟩ = some (.int .i64 s.floor) := by rw [Lib.cell_of_heap hSw]; rfl
      have z7 : w.cell? ⟨sb, 7, none⟩ = some (.slice s.TA s.taken.length s.tc) := by rw [Lib.cell_of_heap hSw]; rfl
      have z8 : w.cell? ⟨sb, 8, none⟩ = some (.int .i64 s.net) := by rw [Lib.cell_of_heap hSw]; rfl
      clear hSw
      go_simp
      first | done | with_reducible rfl
    simp only [List.getElem_toArray, List.getElem_cons_zero, List.getElem_cons_succ, Act.put, List.setIfInBounds_toArray, List.set_cons_zero, List.set_cons_succ]
    refine wpAnyH_take (i := 2) (v := ?_) rfl (by kernel_rfl) (by kernel_rfl) (by kernel_rfl) (fun _ _ _ h => h) (Or.inl ⟨by kernel_rfl, ?_⟩) (by assumption) ?_
    rotate_left
    · intro w hSw
      (try dsimp only at hSw)
      go_simp
      first | done | with_reducible rfl
    simp only [List.getElem_toArray, List.getElem_cons_zero, List.getElem_cons_succ, Act.put, List.setIfInBounds_toArray, List.set_cons_zero, List.set_cons_succ]
    refine wpAnyH_ready (rs := [0, 7]) (by kernel_rfl) (by simp) ?_
    refine AllReadyH.cons rfl (fun K hK => ?_) ?_
    · simp only [List.getElem_toArray, List.getElem_cons_zero, List.getElem_cons_succ]
      go_simp
      (with_reducible refine (case_any wk1.drew).mono ?_)
      rintro e w_0 hcp
      obtain ⟨LA_, AA_, rfl, hc_0, hB_0⟩ := hcp
      dsimp only
      have bel_0 := bgo bel0 hB_0
      refine hK.out _ _ ((bel_0.block _ hsl1).trans GS.out) (fun hHeld => ?_)
      clear hK K
      try simp only [List.getElem_toArray, List.getElem_cons_zero, List.getElem_cons_succ, Act.put, List.setIfInBounds_toArray, List.set_cons_zero, List.set_cons_succ]
      refine wpAnyH_ready (rs := [3, 7]) (by kernel_rfl) (by simp) ?_
      refine AllReadyH.cons rfl (fun K hK => ?_) ?_
      · simp only [List.getElem_toArray, List.getElem_cons_zero, List.getElem_cons_succ]
        go_simp
        obtain ⟨d_, hd_⟩ : ∃ d, resS s sc = d := ⟨_, rfl⟩
        have hsz_ := res_size hsis hc_0 (Hs0.out.go bel_0)
        (with_reducible refine (Seal_at (case0 LA_ AA_) s sc _ _ (Lib.hid rfl) Hsv d_ 0 (Lib.hid ((res_seal hsis LA_ AA_ sc Hsc.out).2.trans hd_)) (Lib.hid (res_seal hsis LA_ AA_ sc Hsc.out).1) w_0 hc_0 (Hs0.out.go bel_0) (hT1.go bel_0) (sd_ok Hsc.out)).mono ?_)
        rintro e w_03 hsh
        obtain ⟨dp, dm, dr, db, dt⟩ := d_
        obtain ⟨A_, ca_, B_, cb_, rfl, hca_, hcb_, hSA_03, hSB_03, hB_03⟩ := hsh
        dsimp only at hca_ hcb_ hSA_03 hSB_03 ⊢
        have bel_03 := bgo bel_0 hB_03
        refine hK.out _ _ ((bel_03.block _ hsl1).trans GS.out) (fun hHeld => ?_)
        clear hK K
        try simp only [List.getElem_toArray, List.getElem_cons_zero, List.getElem_cons_succ, Act.put, List.setIfInBounds_toArray, List.set_cons_zero, List.set_cons_succ]
        refine wpAnyH_take (i := 4) (v := ?_) rfl (by kernel_rfl) (by kernel_rfl) (by kernel_rfl) (fun _ _ _ h => h) (Or.inl ⟨by kernel_rfl, ?_⟩) (by assumption) ?_
        rotate_left
        · intro w hSw
          (try dsimp only at hSw)
          go_simp
          first | done | with_reducible rfl
        simp only [List.getElem_toArray, List.getElem_cons_zero, List.getElem_cons_succ, Act.put, List.setIfInBounds_toArray, List.set_cons_zero, List.set_cons_succ]
        refine wpAnyH_take (i := 5) (v := ?_) rfl (by kernel_rfl) (by kernel_rfl) (by kernel_rfl) (fun _ _ _ h => h) (Or.inl ⟨by kernel_rfl, ?_⟩) (by assumption) ?_
        rotate_left
        · intro w hSw
          (try dsimp only at hSw)
          go_simp
          first | done | with_reducible rfl
        simp only [List.getElem_toArray, List.getElem_cons_zero, List.getElem_cons_succ, Act.put, List.setIfInBounds_toArray, List.set_cons_zero, List.set_cons_succ]
        refine wpAnyH_take (i := 6) (v := ?_) rfl (by kernel_rfl) (by kernel_rfl) (by kernel_rfl) (fun _ _ _ h => h) (Or.inl ⟨by kernel_rfl, ?_⟩) (by assumption) ?_
        rotate_left
        · intro w hSw
          (try dsimp only at hSw)
          go_simp
          first | done | with_reducible rfl
        simp only [List.getElem_toArray, List.getElem_cons_zero, List.getElem_cons_succ, Act.put, List.setIfInBounds_toArray, List.set_cons_zero, List.set_cons_succ]
        refine wpAnyH_ready (rs := [7]) (by kernel_rfl) (by simp) ?_
        refine AllReadyH.cons rfl (fun K hK => ?_) ?_
        · simp only [List.getElem_toArray, List.getElem_cons_zero, List.getElem_cons_succ]
          go_simp
          refine hK.out _ _ (((bal bel_03 _).block _ hsl1).trans GS.out) (fun hHeld => ?_)
          obtain ⟨X_037, hX_037⟩ : ∃ x, x = w_03.heap.size := ⟨_, rfl⟩
          obtain ⟨w_037, hw_037⟩ : ∃ x, x = w_03.alloc (.cells #[.string ⟨#[]⟩, .int .i64 0, .slice none 0 0, .slice none 0 0, .int .u64 0] 43) := ⟨_, rfl⟩
          rw [← hw_037, ← hX_037]
          have hB_037 : Below w_03.heap.size w_03 w_037 := by rw [hw_037]; exact bal (Below.refl _ _) _
          have bel_037 : Below wk1.heap.size wk1 w_037 := bgo bel_03 hB_037
          have gX_037 : w_037.heap[X_037]? = some (.cells #[.string ⟨#[]⟩, .int .i64 0, .slice none 0 0, .slice none 0 0, .int .u64 0] 43) := by rw [hw_037, hX_037]; exact World.alloc_heap_new w_03 _
          have hX3_037 : wk1.heap.size ≤ X_037 := by rw [hX_037]; exact bel_03.size
          have hSA_037 := hSA_03.go hB_037
          have hSB_037 := hSB_03.go hB_037
          clear hw_037 hX_037
          clear hK K
          try simp only [List.getElem_toArray, List.getElem_cons_zero, List.getElem_cons_succ, Act.put, List.setIfInBounds_toArray, List.set_cons_zero, List.set_cons_succ]
          refine wpAnyH_ready (rs := [8]) (by kernel_rfl) (by simp) ?_
          refine AllReadyH.cons rfl (fun K hK => ?_) ?_
          · simp only [List.getElem_toArray, List.getElem_cons_zero, List.getElem_cons_succ]
            have x0 : w_037.cell? ⟨X_037, 0, none⟩ = some (.string ⟨#[]⟩) := by rw [Lib.cell_of_heap gX_037]; rfl
            have x1 : w_037.cell? ⟨X_037, 1, none⟩ = some (.int .i64 0) := by rw [Lib.cell_of_heap gX_037]; rfl
            have x2 : w_037.cell? ⟨X_037, 2, none⟩ = some (.slice none 0 0) := by rw [Lib.cell_of_heap gX_037]; rfl
            have x3 : w_037.cell? ⟨X_037, 3, none⟩ = some (.slice none 0 0) := by rw [Lib.cell_of_heap gX_037]; rfl
            have x4 : w_037.cell? ⟨X_037, 4, none⟩ = some (.int .u64 0) := by rw [Lib.cell_of_heap gX_037]; rfl
            have yX : ∀ j, w_037.frozen? ⟨X_037, j, none⟩ = false := fun j => Lib.frozen_of_heap gX_037 j
            go_simp
            clear x0 x1 x2 x3 x4 yX
            refine hK.out _ _ ((heap_set5 _ _ _ _ _ _ _ _ (show sb ≠ X_037 by have := hX3_037; omega)).trans ((bel_037.block _ hsl1).trans GS.out)) (fun hHeld => ?_)
            clear hK K
            try simp only [List.getElem_toArray, List.getElem_cons_zero, List.getElem_cons_succ, Act.put, List.setIfInBounds_toArray, List.set_cons_zero, List.set_cons_succ]
            refine wpAnyH_take (i := 9) (v := ?_) rfl (by kernel_rfl) (by kernel_rfl) (by kernel_rfl) (fun _ _ _ h => h) (Or.inl ⟨by kernel_rfl, ?_⟩) (by assumption) ?_
            rotate_left
            · intro w hSw
              (try dsimp only at hSw)
              go_simp
              first | done | with_reducible rfl
            simp only [List.getElem_toArray, List.getElem_cons_zero, List.getElem_cons_succ, Act.put, List.setIfInBounds_toArray, List.set_cons_zero, List.set_cons_succ]
            refine wpAnyH_done (by kernel_rfl) ?_ _
            dsimp only [NoPanic]
            clear hHeld
            go_wp2_with fail
            go_meet
            obtain ⟨hnm, hbox⟩ := boxIs_of (dt := dt) hsis hd_ rfl rfl gX_037 hSA_037 hSB_037 hca_ hcb_ hX3_037 bel_037
            exact ⟨_, _, _, _, _, _, _, _, _, _, _, rfl, rfl, hbox, by rw [(box_rows hd_ hsis).1]; exact hsz_⟩
          exact AllReadyH.nil
        exact AllReadyH.nil
      refine AllReadyH.cons rfl (fun K hK => ?_) ?_
      · simp only [List.getElem_toArray, List.getElem_cons_zero, List.getElem_cons_succ]
        go_simp
        refine hK.out _ _ (((bal bel_0 _).block _ hsl1).trans GS.out) (fun hHeld => ?_)
        obtain ⟨X_07, hX_07⟩ : ∃ x, x = w_0.heap.size := ⟨_, rfl⟩
        obtain ⟨w_07, hw_07⟩ : ∃ x, x = w_0.alloc (.cells #[.string ⟨#[]⟩, .int .i64 0, .slice none 0 0, .slice none 0 0, .int .u64 0] 43) := ⟨_, rfl⟩
        rw [← hw_07, ← hX_07]
        have hB_07 : Below w_0.heap.size w_0 w_07 := by rw [hw_07]; exact bal (Below.refl _ _) _
        have bel_07 : Below wk1.heap.size wk1 w_07 := bgo bel_0 hB_07
        have gX_07 : w_07.heap[X_07]? = some (.cells #[.string ⟨#[]⟩, .int .i64 0, .slice none 0 0, .slice none 0 0, .int .u64 0] 43) := by rw [hw_07, hX_07]; exact World.alloc_heap_new w_0 _
        have hX3_07 : wk1.heap.size ≤ X_07 := by rw [hX_07]; exact bel_0.size
        have hc_07 : CaseOk w_07 (case0 LA_ AA_) := hc_0.go hB_07
        clear hw_07 hX_07
        clear hK K
        try simp only [List.getElem_toArray, List.getElem_cons_zero, List.getElem_cons_succ, Act.put, List.setIfInBounds_toArray, List.set_cons_zero, List.set_cons_succ]
        refine wpAnyH_ready (rs := [3]) (by kernel_rfl) (by simp) ?_
        refine AllReadyH.cons rfl (fun K hK => ?_) ?_
        · simp only [List.getElem_toArray, List.getElem_cons_zero, List.getElem_cons_succ]
          go_simp
          obtain ⟨d_, hd_⟩ : ∃ d, resS s sc = d := ⟨_, rfl⟩
          have hsz_ := res_size hsis hc_07 (Hs0.out.go bel_07)
          (with_reducible refine (Seal_at (case0 LA_ AA_) s sc _ _ (Lib.hid rfl) Hsv d_ 0 (Lib.hid ((res_seal hsis LA_ AA_ sc Hsc.out).2.trans hd_)) (Lib.hid (res_seal hsis LA_ AA_ sc Hsc.out).1) w_07 hc_07 (Hs0.out.go bel_07) (hT1.go bel_07) (sd_ok Hsc.out)).mono ?_)
          rintro e w_073 hsh
          obtain ⟨dp, dm, dr, db, dt⟩ := d_
          obtain ⟨A_, ca_, B_, cb_, rfl, hca_, hcb_, hSA_073, hSB_073, hB_073⟩ := hsh
          dsimp only at hca_ hcb_ hSA_073 hSB_073 ⊢
          have bel_073 := bgo bel_07 hB_073
          have gX_073 := (hB_073.block _ (Array.getElem?_eq_some_iff.1 gX_07).1).trans gX_07
          refine hK.out _ _ ((bel_073.block _ hsl1).trans GS.out) (fun hHeld => ?_)
          clear hK K
          try simp only [List.getElem_toArray, List.getElem_cons_zero, List.getElem_cons_succ, Act.put, List.setIfInBounds_toArray, List.set_cons_zero, List.set_cons_succ]
          refine wpAnyH_take (i := 4) (v := ?_) rfl (by kernel_rfl) (by kernel_rfl) (by kernel_rfl) (fun _ _ _ h => h) (Or.inl ⟨by kernel_rfl, ?_⟩) (by assumption) ?_
          rotate_left
          · intro w hSw
            (try dsimp only at hSw)
            go_simp
            first | done | with_reducible rfl
          simp only [List.getElem_toArray, List.getElem_cons_zero, List.getElem_cons_succ, Act.put, List.setIfInBounds_toArray, List.set_cons_zero, List.set_cons_succ]
          refine wpAnyH_take (i := 5) (v := ?_) rfl (by kernel_rfl) (by kernel_rfl) (by kernel_rfl) (fun _ _ _ h => h) (Or.inl ⟨by kernel_rfl, ?_⟩) (by assumption) ?_
          rotate_left
          · intro w hSw
            (try dsimp only at hSw)
            go_simp
            first | done | with_reducible rfl
          simp only [List.getElem_toArray, List.getElem_cons_zero, List.getElem_cons_succ, Act.put, List.setIfInBounds_toArray, List.set_cons_zero, List.set_cons_succ]
          refine wpAnyH_take (i := 6) (v := ?_) rfl (by kernel_rfl) (by kernel_rfl) (by kernel_rfl) (fun _ _ _ h => h) (Or.inl ⟨by kernel_rfl, ?_⟩) (by assumption) ?_
          rotate_left
          · intro w hSw
            (try dsimp only at hSw)
            go_simp
            first | done | with_reducible rfl
          simp only [List.getElem_toArray, List.getElem_cons_zero, List.getElem_cons_succ, Act.put, List.setIfInBounds_toArray, List.set_cons_zero, List.set_cons_succ]
          refine wpAnyH_ready (rs := [8]) (by kernel_rfl) (by simp) ?_
          refine AllReadyH.cons rfl (fun K hK => ?_) ?_
          · simp only [List.getElem_toArray, List.getElem_cons_zero, List.getElem_cons_succ]
            have x0 : w_073.cell? ⟨X_07, 0, none⟩ = some (.string ⟨#[]⟩) := by rw [Lib.cell_of_heap gX_073]; rfl
            have x1 : w_073.cell? ⟨X_07, 1, none⟩ = some (.int .i64 0) := by rw [Lib.cell_of_heap gX_073]; rfl
            have x2 : w_073.cell? ⟨X_07, 2, none⟩ = some (.slice none 0 0) := by rw [Lib.cell_of_heap gX_073]; rfl
            have x3 : w_073.cell? ⟨X_07, 3, none⟩ = some (.slice none 0 0) := by rw [Lib.cell_of_heap gX_073]; rfl
            have x4 : w_073.cell? ⟨X_07, 4, none⟩ = some (.int .u64 0) := by rw [Lib.cell_of_heap gX_073]; rfl
            have yX : ∀ j, w_073.frozen? ⟨X_07, j, none⟩ = false := fun j => Lib.frozen_of_heap gX_073 j
            go_simp
            clear x0 x1 x2 x3 x4 yX
            refine hK.out _ _ ((heap_set5 _ _ _ _ _ _ _ _ (show sb ≠ X_07 by have := hX3_07; omega)).trans ((bel_073.block _ hsl1).trans GS.out)) (fun hHeld => ?_)
            clear hK K
            try simp only [List.getElem_toArray, List.getElem_cons_zero, List.getElem_cons_succ, Act.put, List.setIfInBounds_toArray, List.set_cons_zero, List.set_cons_succ]
            refine wpAnyH_take (i := 9) (v := ?_) rfl (by kernel_rfl) (by kernel_rfl) (by kernel_rfl) (fun _ _ _ h => h) (Or.inl ⟨by kernel_rfl, ?_⟩) (by assumption) ?_
            rotate_left
            · intro w hSw
              (try dsimp only at hSw)
              go_simp
              first | done | with_reducible rfl
            simp only [List.getElem_toArray, List.getElem_cons_zero, List.getElem_cons_succ, Act.put, List.setIfInBounds_toArray, List.set_cons_zero, List.set_cons_succ]
            refine wpAnyH_done (by kernel_rfl) ?_ _
            dsimp only [NoPanic]
            clear hHeld
            go_wp2_with fail
            go_meet
            obtain ⟨hnm, hbox⟩ := boxIs_of (dt := dt) hsis hd_ rfl rfl gX_073 hSA_073 hSB_073 hca_ hcb_ hX3_07 bel_073
            exact ⟨_, _, _, _, _, _, _, _, _, _, _, rfl, rfl, hbox, by rw [(box_rows hd_ hsis).1]; exact hsz_⟩
          exact AllReadyH.nil
        exact AllReadyH.nil
      exact AllReadyH.nil
    refine AllReadyH.cons rfl (fun K hK => ?_) ?_
    · simp only [List.getElem_toArray, List.getElem_cons_zero, List.getElem_cons_succ]
      go_simp
      refine hK.out _ _ (((bal (Below.refl wk1.heap.size wk1) _).drew.block _ hsl1).trans GS.out) (fun hHeld => ?_)
      obtain ⟨X_7, hX_7⟩ : ∃ x, x = wk1.heap.size := ⟨_, rfl⟩
      obtain ⟨w_7, hw_7⟩ : ∃ x, x = (wk1.alloc (.cells #[.string ⟨#[]⟩, .int .i64 0, .slice none 0 0, .slice none 0 0, .int .u64 0] 43)).drew := ⟨_, rfl⟩
      rw [← hw_7, ← hX_7]
      have hB_7 : Below wk1.heap.size wk1 w_7 := by rw [hw_7]; exact (bal (Below.refl _ _) _).drew
      have bel_7 : Below wk1.heap.size wk1 w_7 := hB_7
      have gX_7 : w_7.heap[X_7]? = some (.cells #[.string ⟨#[]⟩, .int .i64 0, .slice none 0 0, .slice none 0 0, .int .u64 0] 43) := by rw [hw_7, hX_7]; exact World.alloc_heap_new wk1 _
      have hX3_7 : wk1.heap.size ≤ X_7 := by rw [hX_7]; exact Nat.le_refl _
      clear hw_7 hX_7
      clear hK K
      try simp only [List.getElem_toArray, List.getElem_cons_zero, List.getElem_cons_succ, Act.put, List.setIfInBounds_toArray, List.set_cons_zero, List.set_cons_succ]
      refine wpAnyH_ready (rs := [0]) (by kernel_rfl) (by simp) ?_
      refine AllReadyH.cons rfl (fun K hK => ?_) ?_
      · simp only [List.getElem_toArray, List.getElem_cons_zero, List.getElem_cons_succ]
        go_simp
        (with_reducible refine (case_any w_7).mono ?_)
        rintro e w_70 hcp
        obtain ⟨LA_, AA_, rfl, hc_70, hB_70⟩ := hcp
        dsimp only
        have bel_70 := bgo bel_7 hB_70
        have gX_70 := (hB_70.block _ (Array.getElem?_eq_some_iff.1 gX_7).1).trans gX_7
        refine hK.out _ _ ((bel_70.block _ hsl1).trans GS.out) (fun hHeld => ?_)
        clear hK K
        try simp only [List.getElem_toArray, List.getElem_cons_zero, List.getElem_cons_succ, Act.put, List.setIfInBounds_toArray, List.set_cons_zero, List.set_cons_succ]
        refine wpAnyH_ready (rs := [3]) (by kernel_rfl) (by simp) ?_
        refine AllReadyH.cons rfl (fun K hK => ?_) ?_
        · simp only [List.getElem_toArray, List.getElem_cons_zero, List.getElem_cons_succ]
          go_simp
          obtain ⟨d_, hd_⟩ : ∃ d, resS s sc = d := ⟨_, rfl⟩
          have hsz_ := res_size hsis hc_70 (Hs0.out.go bel_70)
          (with_reducible refine (Seal_at (case0 LA_ AA_) s sc _ _ (Lib.hid rfl) Hsv d_ 0 (Lib.hid ((res_seal hsis LA_ AA_ sc Hsc.out).2.trans hd_)) (Lib.hid (res_seal hsis LA_ AA_ sc Hsc.out).1) w_70 hc_70 (Hs0.out.go bel_70) (hT1.go bel_70) (sd_ok Hsc.out)).mono ?_)
          rintro e w_703 hsh
          obtain ⟨dp, dm, dr, db, dt⟩ := d_
          obtain ⟨A_, ca_, B_, cb_, rfl, hca_, hcb_, hSA_703, hSB_703, hB_703⟩ := hsh
          dsimp only at hca_ hcb_ hSA_703 hSB_703 ⊢
          have bel_703 := bgo bel_70 hB_703
          have gX_703 := (hB_703.block _ (Array.getElem?_eq_some_iff.1 gX_70).1).trans gX_70
          refine hK.out _ _ ((bel_703.block _ hsl1).trans GS.out) (fun hHeld => ?_)
          clear hK K
          try simp only [List.getElem_toArray, List.getElem_cons_zero, List.getElem_cons_succ, Act.put, List.setIfInBounds_toArray, List.set_cons_zero, List.set_cons_succ]
          refine wpAnyH_take (i := 4) (v := ?_) rfl (by kernel_rfl) (by kernel_rfl) (by kernel_rfl) (fun _ _ _ h => h) (Or.inl ⟨by kernel_rfl, ?_⟩) (by assumption) ?_
          rotate_left
          · intro w hSw
            (try dsimp only at hSw)
            go_simp
            first | done | with_reducible rfl
          simp only [List.getElem_toArray, List.getElem_cons_zero, List.getElem_cons_succ, Act.put, List.setIfInBounds_toArray, List.set_cons_zero, List.set_cons_succ]
          refine wpAnyH_take (i := 5) (v := ?_) rfl (by kernel_rfl) (by kernel_rfl) (by kernel_rfl) (fun _ _ _ h => h) (Or.inl ⟨by kernel_rfl, ?_⟩) (by assumption) ?_
          rotate_left
          · intro w hSw
            (try dsimp only at hSw)
            go_simp
            first | done | with_reducible rfl
          simp only [List.getElem_toArray, List.getElem_cons_zero, List.getElem_cons_succ, Act.put, List.setIfInBounds_toArray, List.set_cons_zero, List.set_cons_succ]
          refine wpAnyH_take (i := 6) (v := ?_) rfl (by kernel_rfl) (by kernel_rfl) (by kernel_rfl) (fun _ _ _ h => h) (Or.inl ⟨by kernel_rfl, ?_⟩) (by assumption) ?_
          rotate_left
          · intro w hSw
            (try dsimp only at hSw)
            go_simp
            first | done | with_reducible rfl
          simp only [List.getElem_toArray, List.getElem_cons_zero, List.getElem_cons_succ, Act.put, List.setIfInBounds_toArray, List.set_cons_zero, List.set_cons_succ]
          refine wpAnyH_ready (rs := [8]) (by kernel_rfl) (by simp) ?_
          refine AllReadyH.cons rfl (fun K hK => ?_) ?_
          · simp only [List.getElem_toArray, List.getElem_cons_zero, List.getElem_cons_succ]
            have x0 : w_703.cell? ⟨X_7, 0, none⟩ = some (.string ⟨#[]⟩) := by rw [Lib.cell_of_heap gX_703]; rfl
            have x1 : w_703.cell? ⟨X_7, 1, none⟩ = some (.int .i64 0) := by rw [Lib.cell_of_heap gX_703]; rfl
            have x2 : w_703.cell? ⟨X_7, 2, none⟩ = some (.slice none 0 0) := by rw [Lib.cell_of_heap gX_703]; rfl
            have x3 : w_703.cell? ⟨X_7, 3, none⟩ = some (.slice none 0 0) := by rw [Lib.cell_of_heap gX_703]; rfl
            have x4 : w_703.cell? ⟨X_7, 4, none⟩ = some (.int .u64 0) := by rw [Lib.cell_of_heap gX_703]; rfl
            have yX : ∀ j, w_703.frozen? ⟨X_7, j, none⟩ = false := fun j => Lib.frozen_of_heap gX_703 j
            go_simp
            clear x0 x1 x2 x3 x4 yX
            refine hK.out _ _ ((heap_set5 _ _ _ _ _ _ _ _ (show sb ≠ X_7 by have := hX3_7; omega)).trans ((bel_703.block _ hsl1).trans GS.out)) (fun hHeld => ?_)
            clear hK K
            try simp only [List.getElem_toArray, List.getElem_cons_zero, List.getElem_cons_succ, Act.put, List.setIfInBounds_toArray, List.set_cons_zero, List.set_cons_succ]
            refine wpAnyH_take (i := 9) (v := ?_) rfl (by kernel_rfl) (by kernel_rfl) (by kernel_rfl) (fun _ _ _ h => h) (Or.inl ⟨by kernel_rfl, ?_⟩) (by assumption) ?_
            rotate_left
            · intro w hSw
              (try dsimp only at hSw)
              go_simp
              first | done | with_reducible rfl
            simp only [List.getElem_toArray, List.getElem_cons_zero, List.getElem_cons_succ, Act.put, List.setIfInBounds_toArray, List.set_cons_zero, List.set_cons_succ]
            refine wpAnyH_done (by kernel_rfl) ?_ _
            dsimp only [NoPanic]
            clear hHeld
            go_wp2_with fail
            go_meet
            obtain ⟨hnm, hbox⟩ := boxIs_of (dt := dt) hsis hd_ rfl rfl gX_703 hSA_703 hSB_703 hca_ hcb_ hX3_7 bel_703
            exact ⟨_, _, _, _, _, _, _, _, _, _, _, rfl, rfl, hbox, by rw [(box_rows hd_ hsis).1]; exact hsz_⟩
          exact AllReadyH.nil
        exact AllReadyH.nil
      exact AllReadyH.nil
    exact AllReadyH.nil
  case rest =>
  obtain ⟨X2, A2, ca2, B2, cb2, n2, dp2, dm2, dr2, db2, dt2, rfl, rfl, hbox2, hsz2⟩ := hcut
  obtain ⟨wk2, hwn⟩ : ∃ x, x = wc := ⟨_, rfl⟩
  subst hwn
  have GS0 := GS
  have hsl0 := hsl1
  have Hs00 := Hs0
  have GS := Lib.hid ((hbox2.bel.block _ hsl0).trans GS0.out)
  have hsl1 : sb < wk2.heap.size := Nat.lt_of_lt_of_le hsl0 hbox2.bel.size
  have Hs0 := Lib.hid (Hs00.out.go hbox2.bel)
  have hT0 := hT1
  have hT1 : PTabs wk2 := hT0.go hbox2.bel
  clear bel0
  have bel0 : Below wk2.heap.size wk2 wk2.drew := (Below.refl _ _).drew
  have K1b := Lib.hid (And.intro (K1.out.1.go hbox2.bel) K1.out.2)
  clear K1
  have K1 := K1b
  clear K1b
  have K2 := Lib.hid (And.intro hbox2 hsz2)
  clear hbox2 hsz2 GS0 hsl0 Hs00 hT0
  go_upto_region 7 with fail
  go_cut [17, 18] (fun s1_ s2_ wx => ∃ X A ca B cb n dp dm dr db dt, s1_ = .pointer (some ⟨X, 0, none⟩) ∧ s2_ = .int .i64 0 ∧ BoxIs wk2 month ls os s sa X A ca B cb n dp dm dr db dt wx ∧ (∀ x ∈ dr, x.l.size ≤ 70368744177000 ∧ x.r.size ≤ 70368744177000 ∧ I64 x.c))
  case first =>
    refine wp_region_noPanic ?_
    refine wp_region_held_drew (S := fun W' => W'.heap[sb]? = some (slipO s)) (by kernel_rfl) GS.out (fun hHeld => ?_)
    refine wpAnyH_take (i := 1) (v := ?_) rfl (by kernel_rfl) (by kernel_rfl) (by kernel_rfl) (fun _ _ _ h => h) (Or.inl ⟨by kernel_rfl, ?_⟩) (by assumption) ?_
    rotate_left
    · intro w hSw
      (try dsimp only at hSw)
      have z0 : w.cell? ⟨sb, 0, none⟩ = some (.string s.person) := by rw [Lib.cell_of_heap hSw]; rfl
      have z1 : w.cell? ⟨sb, 1, none⟩ = some (.int .i64 s.month) := by rw [Lib.cell_of_heap hSw]; rfl
      have z2 : w.cell? ⟨sb, 2, none⟩ = some (.slice s.LA s.lines.length s.lc) := by rw [Lib.cell_of_heap hSw]; rfl
      have z3 : w.cell? ⟨sb, 3, none⟩ = some (.int .i64 s.gross) := by rw [Lib.cell_of_heap hSw]; rfl
      have z4 : w.cell? ⟨sb, 4, none⟩ = some (.int .i64 s.tax) := by rw [Lib.cell_of_heap hSw]; rfl
      have z5 : w.cell? ⟨sb, 5, none⟩ = some (.int .i64 s.deduct) := by rw [Lib.cell_of_heap hSw]; rfl
      have z6 : w.cell? ⟨sb, 6, none⟩ = some (.int .i64 s.floor) := by rw [Lib.cell_of_heap hSw]; rfl
      have z7 : w.cell? ⟨sb, 7, none⟩ = some (.slice s.TA s.taken.length s.tc) := by rw [Lib.cell_of_heap hSw]; rfl
      have z8 : w.cell? ⟨sb, 8, none⟩ = some (.int .i64 s.net) := by rw [Lib.cell_of_heap hSw]; rfl
      clear hSw
      go_simp
      first | done | with_reducible rfl
    simp only [List.getElem_toArray, List.getElem_cons_zero, List.getElem_cons_succ, Act.put, List.setIfInBounds_toArray, List.set_cons_zero, List.set_cons_succ]
    refine wpAnyH_take (i := 2) (v := ?_) rfl (by kernel_rfl) (by kernel_rfl) (by kernel_rfl) (fun _ _ _ h => h) (Or.inl ⟨by kernel_rfl, ?_⟩) (by assumption) ?_
    rotate_left
    · intro w hSw
      (try dsimp only at hSw)
      go_simp
      first | done | with_reducible rfl
    simp only [List.getElem_toArray, List.getElem_cons_zero, List.getElem_cons_succ, Act.put, List.setIfInBounds_toArray, List.set_cons_zero, List.set_cons_succ]
    refine wpAnyH_ready (rs := [0, 7]) (by kernel_rfl) (by simp) ?_
    refine AllReadyH.cons rfl (fun K hK => ?_) ?_
    · simp only [List.getElem_toArray, List.getElem_cons_zero, List.getElem_cons_succ]
      go_simp
      (with_reducible refine (case_any wk2.drew).mono ?_)
      rintro e w_0 hcp
      obtain ⟨LA_, AA_, rfl, hc_0, hB_0⟩ := hcp
      dsimp only
      have bel_0 := bgo bel0 hB_0
      refine hK.out _ _ ((bel_0.block _ hsl1).trans GS.out) (fun hHeld => ?_)
      clear hK K
      try simp only [List.getElem_toArray, List.getElem_cons_zero, List.getElem_cons_succ, Act.put, List.setIfInBounds_toArray, List.set_cons_zero, List.set_cons_succ]
      refine wpAnyH_ready (rs := [3, 7]) (by kernel_rfl) (by simp) ?_
      refine AllReadyH.cons rfl (fun K hK => ?_) ?_
      · simp only [List.getElem_toArray, List.getElem_cons_zero, List.getElem_cons_succ]
        go_simp
        obtain ⟨d_, hd_⟩ : ∃ d, resS s sa = d := ⟨_, rfl⟩
        have hsz_ := res_size hsis hc_0 (Hs0.out.go bel_0)
        (with_reducible refine (Seal_at (case0 LA_ AA_) s sa _ _ (Lib.hid rfl) Hsv d_ 0 (Lib.hid ((res_seal hsis LA_ AA_ sa Hsa.out).2.trans hd_)) (Lib.hid (res_seal hsis LA_ AA_ sa Hsa.out).1) w_0 hc_0 (Hs0.out.go bel_0) (hT1.go bel_0) (sd_ok Hsa.out)).mono ?_)
        rintro e w_03 hsh
        obtain ⟨dp, dm, dr, db, dt⟩ := d_
        obtain ⟨A_, ca_, B_, cb_, rfl, hca_, hcb_, hSA_03, hSB_03, hB_03⟩ := hsh
        dsimp only at hca_ hcb_ hSA_03 hSB_03 ⊢
        have bel_03 := bgo bel_0 hB_03
        refine hK.out _ _ ((bel_03.block _ hsl1).trans GS.out) (fun hHeld => ?_)
        clear hK K
        try simp only [List.getElem_toArray, List.getElem_cons_zero, List.getElem_cons_succ, Act.put, List.setIfInBounds_toArray, List.set_cons_zero, List.set_cons_succ]
        refine wpAnyH_take (i := 4) (v := ?_) rfl (by kernel_rfl) (by kernel_rfl) (by kernel_rfl) (fun _ _ _ h => h) (Or.inl ⟨by kernel_rfl, ?_⟩) (by assumption) ?_
        rotate_left
        · intro w hSw
          (try dsimp only at hSw)
          go_simp
          first | done | with_reducible rfl
        simp only [List.getElem_toArray, List.getElem_cons_zero, List.getElem_cons_succ, Act.put, List.setIfInBounds_toArray, List.set_cons_zero, List.set_cons_succ]
        refine wpAnyH_take (i := 5) (v := ?_) rfl (by kernel_rfl) (by kernel_rfl) (by kernel_rfl) (fun _ _ _ h => h) (Or.inl ⟨by kernel_rfl, ?_⟩) (by assumption) ?_
        rotate_left
        · intro w hSw
          (try dsimp only at hSw)
          go_simp
          first | done | with_reducible rfl
        simp only [List.getElem_toArray, List.getElem_cons_zero, List.getElem_cons_succ, Act.put, List.setIfInBounds_toArray, List.set_cons_zero, List.set_cons_succ]
        refine wpAnyH_take (i := 6) (v := ?_) rfl (by kernel_rfl) (by kernel_rfl) (by kernel_rfl) (fun _ _ _ h => h) (Or.inl ⟨by kernel_rfl, ?_⟩) (by assumption) ?_
        rotate_left
        · intro w hSw
          (try dsimp only at hSw)
          go_simp
          first | done | with_reducible rfl
        simp only [List.getElem_toArray, List.getElem_cons_zero, List.getElem_cons_succ, Act.put, List.setIfInBounds_toArray, List.set_cons_zero, List.set_cons_succ]
        refine wpAnyH_ready (rs := [7]) (by kernel_rfl) (by simp) ?_
        refine AllReadyH.cons rfl (fun K hK => ?_) ?_
        · simp only [List.getElem_toArray, List.getElem_cons_zero, List.getElem_cons_succ]
          go_simp
          refine hK.out _ _ (((bal bel_03 _).block _ hsl1).trans GS.out) (fun hHeld => ?_)
          obtain ⟨X_037, hX_037⟩ : ∃ x, x = w_03.heap.size := ⟨_, rfl⟩
          obtain ⟨w_037, hw_037⟩ : ∃ x, x = w_03.alloc (.cells #[.string ⟨#[]⟩, .int .i64 0, .slice none 0 0, .slice none 0 0, .int .u64 0] 43) := ⟨_, rfl⟩
          rw [← hw_037, ← hX_037]
          have hB_037 : Below w_03.heap.size w_03 w_037 := by rw [hw_037]; exact bal (Below.refl _ _) _
          have bel_037 : Below wk2.heap.size wk2 w_037 := bgo bel_03 hB_037
          have gX_037 : w_037.heap[X_037]? = some (.cells #[.string ⟨#[]⟩, .int .i64 0, .slice none 0 0, .slice none 0 0, .int .u64 0] 43) := by rw [hw_037, hX_037]; exact World.alloc_heap_new w_03 _
          have hX3_037 : wk2.heap.size ≤ X_037 := by rw [hX_037]; exact bel_03.size
          have hSA_037 := hSA_03.go hB_037
          have hSB_037 := hSB_03.go hB_037
          clear hw_037 hX_037
          clear hK K
          try simp only [List.getElem_toArray, List.getElem_cons_zero, List.getElem_cons_succ, Act.put, List.setIfInBounds_toArray, List.set_cons_zero, List.set_cons_succ]
          refine wpAnyH_ready (rs := [8]) (by kernel_rfl) (by simp) ?_
          refine AllReadyH.cons rfl (fun K hK => ?_) ?_
          · simp only [List.getElem_toArray, List.getElem_cons_zero, List.getElem_cons_succ]
            have x0 : w_037.cell? ⟨X_037, 0, none⟩ = some (.string ⟨#[]⟩) := by rw [Lib.cell_of_heap gX_037]; rfl
            have x1 : w_037.cell? ⟨X_037, 1, none⟩ = some (.int .i64 0) := by rw [Lib.cell_of_heap gX_037]; rfl
            have x2 : w_037.cell? ⟨X_037, 2, none⟩ = some (.slice none 0 0) := by rw [Lib.cell_of_heap gX_037]; rfl
            have x3 : w_037.cell? ⟨X_037, 3, none⟩ = some (.slice none 0 0) := by rw [Lib.cell_of_heap gX_037]; rfl
            have x4 : w_037.cell? ⟨X_037, 4, none⟩ = some (.int .u64 0) := by rw [Lib.cell_of_heap gX_037]; rfl
            have yX : ∀ j, w_037.frozen? ⟨X_037, j, none⟩ = false := fun j => Lib.frozen_of_heap gX_037 j
            go_simp
            clear x0 x1 x2 x3 x4 yX
            refine hK.out _ _ ((heap_set5 _ _ _ _ _ _ _ _ (show sb ≠ X_037 by have := hX3_037; omega)).trans ((bel_037.block _ hsl1).trans GS.out)) (fun hHeld => ?_)
            clear hK K
            try simp only [List.getElem_toArray, List.getElem_cons_zero, List.getElem_cons_succ, Act.put, List.setIfInBounds_toArray, List.set_cons_zero, List.set_cons_succ]
            refine wpAnyH_take (i := 9) (v := ?_) rfl (by kernel_rfl) (by kernel_rfl) (by kernel_rfl) (fun _ _ _ h => h) (Or.inl ⟨by kernel_rfl, ?_⟩) (by assumption) ?_
            rotate_left
            · intro w hSw
              (try dsimp only at hSw)
              go_simp
              first | done | with_reducible rfl
            simp only [List.getElem_toArray, List.getElem_cons_zero, List.getElem_cons_succ, Act.put, List.setIfInBounds_toArray, List.set_cons_zero, List.set_cons_succ]
            refine wpAnyH_done (by kernel_rfl) ?_ _
            dsimp only [NoPanic]
            clear hHeld
            go_wp2_with fail
            go_meet
            obtain ⟨hnm, hbox⟩ := boxIs_of (dt := dt) hsis hd_ rfl rfl gX_037 hSA_037 hSB_037 hca_ hcb_ hX3_037 bel_037
            exact ⟨_, _, _, _, _, _, _, _, _, _, _, rfl, rfl, hbox, by rw [(box_rows hd_ hsis).1]; exact hsz_⟩
          exact AllReadyH.nil
        exact AllReadyH.nil
      refine AllReadyH.cons rfl (fun K hK => ?_) ?_
      · simp only [List.getElem_toArray, List.getElem_cons_zero, List.getElem_cons_succ]
        go_simp
        refine hK.out _ _ (((bal bel_0 _).block _ hsl1).trans GS.out) (fun hHeld => ?_)
        obtain ⟨X_07, hX_07⟩ : ∃ x, x = w_0.heap.size := ⟨_, rfl⟩
        obtain ⟨w_07, hw_07⟩ : ∃ x, x = w_0.alloc (.cells #[.string ⟨#[]⟩, .int .i64 0, .slice none 0 0, .slice none 0 0, .int .u64 0] 43) := ⟨_, rfl⟩
        rw [← hw_07, ← hX_07]
        have hB_07 : Below w_0.heap.size w_0 w_07 := by rw [hw_07]; exact bal (Below.refl _ _) _
        have bel_07 : Below wk2.heap.size wk2 w_07 := bgo bel_0 hB_07
        have gX_07 : w_07.heap[X_07]? = some (.cells #[.string ⟨#[]⟩, .int .i64 0, .slice none 0 0, .slice none 0 0, .int .u64 0] 43) := by rw [hw_07, hX_07]; exact World.alloc_heap_new w_0 _
        have hX3_07 : wk2.heap.size ≤ X_07 := by rw [hX_07]; exact bel_0.size
        have hc_07 : CaseOk w_07 (case0 LA_ AA_) := hc_0.go hB_07
        clear hw_07 hX_07
        clear hK K
        try simp only [List.getElem_toArray, List.getElem_cons_zero, List.getElem_cons_succ, Act.put, List.setIfInBounds_toArray, List.set_cons_zero, List.set_cons_succ]
        refine wpAnyH_ready (rs := [3]) (by kernel_rfl) (by simp) ?_
        refine AllReadyH.cons rfl (fun K hK => ?_) ?_
        · simp only [List.getElem_toArray, List.getElem_cons_zero, List.getElem_cons_succ]
          go_simp
          obtain ⟨d_, hd_⟩ : ∃ d, resS s sa = d := ⟨_, rfl⟩
          have hsz_ := res_size hsis hc_07 (Hs0.out.go bel_07)
          (with_reducible refine (Seal_at (case0 LA_ AA_) s sa _ _ (Lib.hid rfl) Hsv d_ 0 (Lib.hid ((res_seal hsis LA_ AA_ sa Hsa.out).2.trans hd_)) (Lib.hid (res_seal hsis LA_ AA_ sa Hsa.out).1) w_07 hc_07 (Hs0.out.go bel_07) (hT1.go bel_07) (sd_ok Hsa.out)).mono ?_)
          rintro e w_073 hsh
          obtain ⟨dp, dm, dr, db, dt⟩ := d_
          obtain ⟨A_, ca_, B_, cb_, rfl, hca_, hcb_, hSA_073, hSB_073, hB_073⟩ := hsh
          dsimp only at hca_ hcb_ hSA_073 hSB_073 ⊢
          have bel_073 := bgo bel_07 hB_073
          have gX_073 := (hB_073.block _ (Array.getElem?_eq_some_iff.1 gX_07).1).trans gX_07
          refine hK.out _ _ ((bel_073.block _ hsl1).trans GS.out) (fun hHeld => ?_)
          clear hK K
          try simp only [List.getElem_toArray, List.getElem_cons_zero, List.getElem_cons_succ, Act.put, List.setIfInBounds_toArray, List.set_cons_zero, List.set_cons_succ]
          refine wpAnyH_take (i := 4) (v := ?_) rfl (by kernel_rfl) (by kernel_rfl) (by kernel_rfl) (fun _ _ _ h => h) (Or.inl ⟨by kernel_rfl, ?_⟩) (by assumption) ?_
          rotate_left
          · intro w hSw
            (try dsimp only at hSw)
            go_simp
            first | done | with_reducible rfl
          simp only [List.getElem_toArray, List.getElem_cons_zero, List.getElem_cons_succ, Act.put, List.setIfInBounds_toArray, List.set_cons_zero, List.set_cons_succ]
          refine wpAnyH_take (i := 5) (v := ?_) rfl (by kernel_rfl) (by kernel_rfl) (by kernel_rfl) (fun _ _ _ h => h) (Or.inl ⟨by kernel_rfl, ?_⟩) (by assumption) ?_
          rotate_left
          · intro w hSw
            (try dsimp only at hSw)
            go_simp
            first | done | with_reducible rfl
          simp only [List.getElem_toArray, List.getElem_cons_zero, List.getElem_cons_succ, Act.put, List.setIfInBounds_toArray, List.set_cons_zero, List.set_cons_succ]
          refine wpAnyH_take (i := 6) (v := ?_) rfl (by kernel_rfl) (by kernel_rfl) (by kernel_rfl) (fun _ _ _ h => h) (Or.inl ⟨by kernel_rfl, ?_⟩) (by assumption) ?_
          rotate_left
          · intro w hSw
            (try dsimp only at hSw)
            go_simp
            first | done | with_reducible rfl
          simp only [List.getElem_toArray, List.getElem_cons_zero, List.getElem_cons_succ, Act.put, List.setIfInBounds_toArray, List.set_cons_zero, List.set_cons_succ]
          refine wpAnyH_ready (rs := [8]) (by kernel_rfl) (by simp) ?_
          refine AllReadyH.cons rfl (fun K hK => ?_) ?_
          · simp only [List.getElem_toArray, List.getElem_cons_zero, List.getElem_cons_succ]
            have x0 : w_073.cell? ⟨X_07, 0, none⟩ = some (.string ⟨#[]⟩) := by rw [Lib.cell_of_heap gX_073]; rfl
            have x1 : w_073.cell? ⟨X_07, 1, none⟩ = some (.int .i64 0) := by rw [Lib.cell_of_heap gX_073]; rfl
            have x2 : w_073.cell? ⟨X_07, 2, none⟩ = some (.slice none 0 0) := by rw [Lib.cell_of_heap gX_073]; rfl
            have x3 : w_073.cell? ⟨X_07, 3, none⟩ = some (.slice none 0 0) := by rw [Lib.cell_of_heap gX_073]; rfl
            have x4 : w_073.cell? ⟨X_07, 4, none⟩ = some (.int .u64 0) := by rw [Lib.cell_of_heap gX_073]; rfl
            have yX : ∀ j, w_073.frozen? ⟨X_07, j, none⟩ = false := fun j => Lib.frozen_of_heap gX_073 j
            go_simp
            clear x0 x1 x2 x3 x4 yX
            refine hK.out _ _ ((heap_set5 _ _ _ _ _ _ _ _ (show sb ≠ X_07 by have := hX3_07; omega)).trans ((bel_073.block _ hsl1).trans GS.out)) (fun hHeld => ?_)
            clear hK K
            try simp only [List.getElem_toArray, List.getElem_cons_zero, List.getElem_cons_succ, Act.put, List.setIfInBounds_toArray, List.set_cons_zero, List.set_cons_succ]
            refine wpAnyH_take (i := 9) (v := ?_) rfl (by kernel_rfl) (by kernel_rfl) (by kernel_rfl) (fun _ _ _ h => h) (Or.inl ⟨by kernel_rfl, ?_⟩) (by assumption) ?_
            rotate_left
            · intro w hSw
              (try dsimp only at hSw)
              go_simp
              first | done | with_reducible rfl
            simp only [List.getElem_toArray, List.getElem_cons_zero, List.getElem_cons_succ, Act.put, List.setIfInBounds_toArray, List.set_cons_zero, List.set_cons_succ]
            refine wpAnyH_done (by kernel_rfl) ?_ _
            dsimp only [NoPanic]
            clear hHeld
            go_wp2_with fail
            go_meet
            obtain ⟨hnm, hbox⟩ := boxIs_of (dt := dt) hsis hd_ rfl rfl gX_073 hSA_073 hSB_073 hca_ hcb_ hX3_07 bel_073
            exact ⟨_, _, _, _, _, _, _, _, _, _, _, rfl, rfl, hbox, by rw [(box_rows hd_ hsis).1]; exact hsz_⟩
          exact AllReadyH.nil
        exact AllReadyH.nil
      exact AllReadyH.nil
    refine AllReadyH.cons rfl (fun K hK => ?_) ?_
    · simp only [List.getElem_toArray, List.getElem_cons_zero, List.getElem_cons_succ]
      go_simp
      refine hK.out _ _ (((bal (Below.refl wk2.heap.size wk2) _).drew.block _ hsl1).trans GS.out) (fun hHeld => ?_)
      obtain ⟨X_7, hX_7⟩ : ∃ x, x = wk2.heap.size := ⟨_, rfl⟩
      obtain ⟨w_7, hw_7⟩ : ∃ x, x = (wk2.alloc (.cells #[.string ⟨#[]⟩, .int .i64 0, .slice none 0 0, .slice none 0 0, .int .u64 0] 43)).drew := ⟨_, rfl⟩
      rw [← hw_7, ← hX_7]
      have hB_7 : Below wk2.heap.size wk2 w_7 := by rw [hw_7]; exact (bal (Below.refl _ _) _).drew
      have bel_7 : Below wk2.heap.size wk2 w_7 := hB_7
      have gX_7 : w_7.heap[X_7]? = some (.cells #[.string ⟨#[]⟩, .int .i64 0, .slice none 0 0, .slice none 0 0, .int .u64 0] 43) := by rw [hw_7, hX_7]; exact World.alloc_heap_new wk2 _
      have hX3_7 : wk2.heap.size ≤ X_7 := by rw [hX_7]; exact Nat.le_refl _
      clear hw_7 hX_7
      clear hK K
      try simp only [List.getElem_toArray, List.getElem_cons_zero, List.getElem_cons_succ, Act.put, List.setIfInBounds_toArray, List.set_cons_zero, List.set_cons_succ]
      refine wpAnyH_ready (rs := [0]) (by kernel_rfl) (by simp) ?_
      refine AllReadyH.cons rfl (fun K hK => ?_) ?_
      · simp only [List.getElem_toArray, List.getElem_cons_zero, List.getElem_cons_succ]
        go_simp
        (with_reducible refine (case_any w_7).mono ?_)
        rintro e w_70 hcp
        obtain ⟨LA_, AA_, rfl, hc_70, hB_70⟩ := hcp
        dsimp only
        have bel_70 := bgo bel_7 hB_70
        have gX_70 := (hB_70.block _ (Array.getElem?_eq_some_iff.1 gX_7).1).trans gX_7
        refine hK.out _ _ ((bel_70.block _ hsl1).trans GS.out) (fun hHeld => ?_)
        clear hK K
        try simp only [List.getElem_toArray, List.getElem_cons_zero, List.getElem_cons_succ, Act.put, List.setIfInBounds_toArray, List.set_cons_zero, List.set_cons_succ]
        refine wpAnyH_ready (rs := [3]) (by kernel_rfl) (by simp) ?_
        refine AllReadyH.cons rfl (fun K hK => ?_) ?_
        · simp only [List.getElem_toArray, List.getElem_cons_zero, List.getElem_cons_succ]
          go_simp
          obtain ⟨d_, hd_⟩ : ∃ d, resS s sa = d := ⟨_, rfl⟩
          have hsz_ := res_size hsis hc_70 (Hs0.out.go bel_70)
          (with_reducible refine (Seal_at (case0 LA_ AA_) s sa _ _ (Lib.hid rfl) Hsv d_ 0 (Lib.hid ((res_seal hsis LA_ AA_ sa Hsa.out).2.trans hd_)) (Lib.hid (res_seal hsis LA_ AA_ sa Hsa.out).1) w_70 hc_70 (Hs0.out.go bel_70) (hT1.go bel_70) (sd_ok Hsa.out)).mono ?_)
          rintro e w_703 hsh
          obtain ⟨dp, dm, dr, db, dt⟩ := d_
          obtain ⟨A_, ca_, B_, cb_, rfl, hca_, hcb_, hSA_703, hSB_703, hB_703⟩ := hsh
          dsimp only at hca_ hcb_ hSA_703 hSB_703 ⊢
          have bel_703 := bgo bel_70 hB_703
          have gX_703 := (hB_703.block _ (Array.getElem?_eq_some_iff.1 gX_70).1).trans gX_70
          refine hK.out _ _ ((bel_703.block _ hsl1).trans GS.out) (fun hHeld => ?_)
          clear hK K
          try simp only [List.getElem_toArray, List.getElem_cons_zero, List.getElem_cons_succ, Act.put, List.setIfInBounds_toArray, List.set_cons_zero, List.set_cons_succ]
          refine wpAnyH_take (i := 4) (v := ?_) rfl (by kernel_rfl) (by kernel_rfl) (by kernel_rfl) (fun _ _ _ h => h) (Or.inl ⟨by kernel_rfl, ?_⟩) (by assumption) ?_
          rotate_left
          · intro w hSw
            (try dsimp only at hSw)
            go_simp
            first | done | with_reducible rfl
          simp only [List.getElem_toArray, List.getElem_cons_zero, List.getElem_cons_succ, Act.put, List.setIfInBounds_toArray, List.set_cons_zero, List.set_cons_succ]
          refine wpAnyH_take (i := 5) (v := ?_) rfl (by kernel_rfl) (by kernel_rfl) (by kernel_rfl) (fun _ _ _ h => h) (Or.inl ⟨by kernel_rfl, ?_⟩) (by assumption) ?_
          rotate_left
          · intro w hSw
            (try dsimp only at hSw)
            go_simp
            first | done | with_reducible rfl
          simp only [List.getElem_toArray, List.getElem_cons_zero, List.getElem_cons_succ, Act.put, List.setIfInBounds_toArray, List.set_cons_zero, List.set_cons_succ]
          refine wpAnyH_take (i := 6) (v := ?_) rfl (by kernel_rfl) (by kernel_rfl) (by kernel_rfl) (fun _ _ _ h => h) (Or.inl ⟨by kernel_rfl, ?_⟩) (by assumption) ?_
          rotate_left
          · intro w hSw
            (try dsimp only at hSw)
            go_simp
            first | done | with_reducible rfl
          simp only [List.getElem_toArray, List.getElem_cons_zero, List.getElem_cons_succ, Act.put, List.setIfInBounds_toArray, List.set_cons_zero, List.set_cons_succ]
          refine wpAnyH_ready (rs := [8]) (by kernel_rfl) (by simp) ?_
          refine AllReadyH.cons rfl (fun K hK => ?_) ?_
          · simp only [List.getElem_toArray, List.getElem_cons_zero, List.getElem_cons_succ]
            have x0 : w_703.cell? ⟨X_7, 0, none⟩ = some (.string ⟨#[]⟩) := by rw [Lib.cell_of_heap gX_703]; rfl
            have x1 : w_703.cell? ⟨X_7, 1, none⟩ = some (.int .i64 0) := by rw [Lib.cell_of_heap gX_703]; rfl
            have x2 : w_703.cell? ⟨X_7, 2, none⟩ = some (.slice none 0 0) := by rw [Lib.cell_of_heap gX_703]; rfl
            have x3 : w_703.cell? ⟨X_7, 3, none⟩ = some (.slice none 0 0) := by rw [Lib.cell_of_heap gX_703]; rfl
            have x4 : w_703.cell? ⟨X_7, 4, none⟩ = some (.int .u64 0) := by rw [Lib.cell_of_heap gX_703]; rfl
            have yX : ∀ j, w_703.frozen? ⟨X_7, j, none⟩ = false := fun j => Lib.frozen_of_heap gX_703 j
            go_simp
            clear x0 x1 x2 x3 x4 yX
            refine hK.out _ _ ((heap_set5 _ _ _ _ _ _ _ _ (show sb ≠ X_7 by have := hX3_7; omega)).trans ((bel_703.block _ hsl1).trans GS.out)) (fun hHeld => ?_)
            clear hK K
            try simp only [List.getElem_toArray, List.getElem_cons_zero, List.getElem_cons_succ, Act.put, List.setIfInBounds_toArray, List.set_cons_zero, List.set_cons_succ]
            refine wpAnyH_take (i := 9) (v := ?_) rfl (by kernel_rfl) (by kernel_rfl) (by kernel_rfl) (fun _ _ _ h => h) (Or.inl ⟨by kernel_rfl, ?_⟩) (by assumption) ?_
            rotate_left
            · intro w hSw
              (try dsimp only at hSw)
              go_simp
              first | done | with_reducible rfl
            simp only [List.getElem_toArray, List.getElem_cons_zero, List.getElem_cons_succ, Act.put, List.setIfInBounds_toArray, List.set_cons_zero, List.set_cons_succ]
            refine wpAnyH_done (by kernel_rfl) ?_ _
            dsimp only [NoPanic]
            clear hHeld
            go_wp2_with fail
            go_meet
            obtain ⟨hnm, hbox⟩ := boxIs_of (dt := dt) hsis hd_ rfl rfl gX_703 hSA_703 hSB_703 hca_ hcb_ hX3_7 bel_703
            exact ⟨_, _, _, _, _, _, _, _, _, _, _, rfl, rfl, hbox, by rw [(box_rows hd_ hsis).1]; exact hsz_⟩
          exact AllReadyH.nil
        exact AllReadyH.nil
      exact AllReadyH.nil
    exact AllReadyH.nil
  case rest =>
  obtain ⟨X3, A3, ca3, B3, cb3, n3, dp3, dm3, dr3, db3, dt3, rfl, rfl, hbox3, hsz3⟩ := hcut
  obtain ⟨wk3, hwn⟩ : ∃ x, x = wc := ⟨_, rfl⟩
  subst hwn
  have GS0 := GS
  have hsl0 := hsl1
  have Hs00 := Hs0
  have GS := Lib.hid ((hbox3.bel.block _ hsl0).trans GS0.out)
  have hsl1 : sb < wk3.heap.size := Nat.lt_of_lt_of_le hsl0 hbox3.bel.size
  have Hs0 := Lib.hid (Hs00.out.go hbox3.bel)
  have hT0 := hT1
  have hT1 : PTabs wk3 := hT0.go hbox3.bel
  clear bel0
  have bel0 : Below wk3.heap.size wk3 wk3.drew := (Below.refl _ _).drew
  obtain ⟨e1, e2, e3, e4⟩ := box_same K1.out.1.d K2.out.1.d
  obtain rfl : dp1 = dp2 := e1.symm
  obtain rfl : dm1 = dm2 := e2.symm
  obtain rfl : dr1 = dr2 := e3.symm
  obtain ⟨e1', e2', e3', e4'⟩ := box_same K1.out.1.d hbox3.d
  obtain ⟨e5', e6'⟩ := e4' rfl
  obtain rfl : dp1 = dp3 := e1'.symm
  obtain rfl : dm1 = dm3 := e2'.symm
  obtain rfl : dr1 = dr3 := e3'.symm
  obtain rfl : db1 = db3 := e5'.symm
  obtain rfl : dt1 = dt3 := e6'.symm
  obtain rfl : n1 = n2 := K1.out.1.n1.symm.trans K2.out.1.n1
  obtain rfl : n1 = n3 := K1.out.1.n1.symm.trans hbox3.n1
  have h1 := K1.out.1.go hbox3.bel
  have h2 := K2.out.1.go hbox3.bel
  have HP := Lib.hid (And.intro h1 (And.intro h2 hbox3))
  have Hsz := Lib.hid hsz3
  have He4 := Lib.hid e4
  have hn5 := h1.n5
  have hn30 := h1.n30
  have x2 : wk3.cell? ⟨X1, 2, none⟩ = some (.slice A1 n1 ca1) := by rw [Lib.cell_of_heap h1.g]; rfl
  have y2 : wk3.cell? ⟨X2, 2, none⟩ = some (.slice A2 n1 ca2) := by rw [Lib.cell_of_heap h2.g]; rfl
  clear h1 h2 hbox3 hsz3 e4 e4' K1 K2 GS0 hsl0 Hs00 hT0
  go_upto_region 8 with fail
  go_cut [91] (fun t wx => t = .bool false ∧ Below wk3.heap.size wk3 wx)
  case first =>
    go_wp2_with fail
    refine (samerows_eq A1 A2 ca1 ca2 n1 _ wk3 HP.out.1.n1 HP.out.1.sa HP.out.2.1.sa (by omega)).mono ?_
    rintro e w5 ⟨rfl, hB5⟩
    have HP5 := Lib.hid (And.intro (HP.out.1.go hB5) (And.intro (HP.out.2.1.go hB5) (HP.out.2.2.go hB5)))
    clear x2 y2
    have x0 : w5.cell? ⟨X1, 0, none⟩ = some (.string dp1) := by rw [Lib.cell_of_heap HP5.out.1.g]; rfl
    have x1 : w5.cell? ⟨X1, 1, none⟩ = some (.int .i64 dm1) := by rw [Lib.cell_of_heap HP5.out.1.g]; rfl
    have x2 : w5.cell? ⟨X1, 2, none⟩ = some (.slice A1 n1 ca1) := by rw [Lib.cell_of_heap HP5.out.1.g]; rfl
    have x3 : w5.cell? ⟨X1, 3, none⟩ = some (.slice B1 n1 cb1) := by rw [Lib.cell_of_heap HP5.out.1.g]; rfl
    have x4 : w5.cell? ⟨X1, 4, none⟩ = some (.int .u64 dt1.toNat) := by rw [Lib.cell_of_heap HP5.out.1.g]; rfl
    have z0 : w5.cell? ⟨X3, 0, none⟩ = some (.string dp1) := by rw [Lib.cell_of_heap HP5.out.2.2.g]; rfl
    have z1 : w5.cell? ⟨X3, 1, none⟩ = some (.int .i64 dm1) := by rw [Lib.cell_of_heap HP5.out.2.2.g]; rfl
    have z2 : w5.cell? ⟨X3, 2, none⟩ = some (.slice A3 n1 ca3) := by rw [Lib.cell_of_heap HP5.out.2.2.g]; rfl
    have z3 : w5.cell? ⟨X3, 3, none⟩ = some (.slice B3 n1 cb3) := by rw [Lib.cell_of_heap HP5.out.2.2.g]; rfl
    have z4 : w5.cell? ⟨X3, 4, none⟩ = some (.int .u64 dt1.toNat) := by rw [Lib.cell_of_heap HP5.out.2.2.g]; rfl
    go_wp2_with fail
    refine (same35_eq dp1 dm1 A1 B1 A3 B3 ca1 cb1 ca3 cb3 n1 n1 _ _ dt1 w5 HP5.out.1.n1 HP5.out.1.n2 HP5.out.1.sa HP5.out.2.2.sa HP5.out.1.sb HP5.out.2.2.sb (by omega) (by omega)).mono ?_
    rintro e w6 ⟨rfl, hB6⟩
    have hB56 := bgo hB5 hB6
    have HP6 := Lib.hid (And.intro (HP5.out.1.go hB6) (And.intro (HP5.out.2.1.go hB6) (HP5.out.2.2.go hB6)))
    clear x0 x1 x2 x3 x4 z0 z1 z2 z3 z4
    by_cases hab : sa = sc
    · obtain ⟨e5, e6⟩ := He4.out hab
      obtain rfl : sa = sc := hab
      obtain rfl : db1 = db2 := e5.symm
      obtain rfl : dt1 = dt2 := e6.symm
      have hse : (sa.toList == sa.toList) = true := by simp
      have x0 : w6.cell? ⟨X1, 0, none⟩ = some (.string dp1) := by rw [Lib.cell_of_heap HP6.out.1.g]; rfl
      have x1 : w6.cell? ⟨X1, 1, none⟩ = some (.int .i64 dm1) := by rw [Lib.cell_of_heap HP6.out.1.g]; rfl
      have x2 : w6.cell? ⟨X1, 2, none⟩ = some (.slice A1 n1 ca1) := by rw [Lib.cell_of_heap HP6.out.1.g]; rfl
      have x3 : w6.cell? ⟨X1, 3, none⟩ = some (.slice B1 n1 cb1) := by rw [Lib.cell_of_heap HP6.out.1.g]; rfl
      have x4 : w6.cell? ⟨X1, 4, none⟩ = some (.int .u64 dt1.toNat) := by rw [Lib.cell_of_heap HP6.out.1.g]; rfl
      have z0 : w6.cell? ⟨X2, 0, none⟩ = some (.string dp1) := by rw [Lib.cell_of_heap HP6.out.2.1.g]; rfl
      have z1 : w6.cell? ⟨X2, 1, none⟩ = some (.int .i64 dm1) := by rw [Lib.cell_of_heap HP6.out.2.1.g]; rfl
      have z2 : w6.cell? ⟨X2, 2, none⟩ = some (.slice A2 n1 ca2) := by rw [Lib.cell_of_heap HP6.out.2.1.g]; rfl
      have z3 : w6.cell? ⟨X2, 3, none⟩ = some (.slice B2 n1 cb2) := by rw [Lib.cell_of_heap HP6.out.2.1.g]; rfl
      have z4 : w6.cell? ⟨X2, 4, none⟩ = some (.int .u64 dt1.toNat) := by rw [Lib.cell_of_heap HP6.out.2.1.g]; rfl
      go_wp2_with fail
      refine (same35_eq dp1 dm1 A1 B1 A2 B2 ca1 cb1 ca2 cb2 n1 n1 _ _ dt1 w6 HP6.out.1.n1 HP6.out.1.n2 HP6.out.1.sa HP6.out.2.1.sa HP6.out.1.sb HP6.out.2.1.sb (by omega) (by omega)).mono ?_
      rintro e w7 ⟨rfl, hB7⟩
      clear x0 x1 x2 x3 x4 z0 z1 z2 z3 z4
      go_wp2_with fail
      go_meet
      exact ⟨rfl, bgo hB56 hB7⟩
    · have hse : (sa.toList == sc.toList) = false := by
        rw [beq_eq_false_iff_ne]
        intro e
        exact hab (ByteArray.ext (Array.toList_inj.1 (by rw [← ByteArray.toList_eq, ← ByteArray.toList_eq]; exact e)))
      go_wp2_with fail
      go_meet
      exact ⟨rfl, hB56⟩
  case rest =>
  obtain ⟨rfl, hB8⟩ := hcut
  obtain ⟨wk8, hwn⟩ : ∃ x, x = wc := ⟨_, rfl⟩
  subst hwn
  have HP8 := Lib.hid (And.intro (HP.out.1.go hB8) (And.intro (HP.out.2.1.go hB8) (HP.out.2.2.go hB8)))
  have GSb := Lib.hid ((hB8.block _ hsl1).trans GS.out)
  have hslb : sb < wk8.heap.size := Nat.lt_of_lt_of_le hsl1 hB8.size
  have Hsb := Lib.hid (Hs0.out.go hB8)
  have hTb : PTabs wk8 := hT1.go hB8
  clear GS hsl1 Hs0 hT1 HP bel0 x2 y2
  have GS := GSb
  have hsl1 := hslb
  have Hs0 := Hsb
  have hT1 := hTb
  have bel0 : Below wk8.heap.size wk8 wk8.drew := (Below.refl _ _).drew
  have x2 : wk8.cell? ⟨X1, 2, none⟩ = some (.slice A1 n1 ca1) := by rw [Lib.cell_of_heap HP8.out.1.g]; rfl
  have y3 : wk8.cell? ⟨X2, 3, none⟩ = some (.slice B2 n1 cb2) := by rw [Lib.cell_of_heap HP8.out.2.1.g]; rfl
  have hne : ((n1 : Int) != (n1 : Int)) = false := by simp
  have hn0 : ((n1 : Int) == 0) = false := by rw [beq_eq_false_iff_ne]; omega
  clear GSb hslb Hsb hTb hB8
  go_upto_region 12 with fail
  clear x2 y3 hne hn0
  go_cut [20] (fun t wx => t = .int .i64 1 ∧ Below wk8.heap.size wk8 wx)
  case first =>
    refine wp_region_noPanic ?_
    refine wp_region_held_drew (S := fun W' => W'.heap[sb]? = some (slipO s)) (by kernel_rfl) GS.out (fun hHeld => ?_)
    refine wpAnyH_take (i := 1) (v := ?_) rfl (by kernel_rfl) (by kernel_rfl) (by kernel_rfl) (fun _ _ _ h => h) (Or.inl ⟨by kernel_rfl, ?_⟩) (by assumption) ?_
    rotate_left
    · intro w hSw
      (try dsimp only at hSw)
      have z0 : w.cell? ⟨sb, 0, none⟩ = some (.string s.person) := by rw [Lib.cell_of_heap hSw]; rfl
      have z1 : w.cell? ⟨sb, 1, none⟩ = some (.int .i64 s.month) := by rw [Lib.cell_of_heap hSw]; rfl
      have z2 : w.cell? ⟨sb, 2, none⟩ = some (.slice s.LA s.lines.length s.lc) := by rw [Lib.cell_of_heap hSw]; rfl
      have z3 : w.cell? ⟨sb, 3, none⟩ = some (.int .i64 s.gross) := by rw [Lib.cell_of_heap hSw]; rfl
      have z4 : w.cell? ⟨sb, 4, none⟩ = some (.int .i64 s.tax) := by rw [Lib.cell_of_heap hSw]; rfl
      have z5 : w.cell? ⟨sb, 5, none⟩ = some (.int .i64 s.deduct) := by rw [Lib.cell_of_heap hSw]; rfl
      have z6 : w.cell? ⟨sb, 6, none⟩ = some (.int .i64 s.floor) := by rw [Lib.cell_of_heap hSw]; rfl
      have z7 : w.cell? ⟨sb, 7, none⟩ = some (.slice s.TA s.taken.length s.tc) := by rw [Lib.cell_of_heap hSw]; rfl
      have z8 : w.cell? ⟨sb, 8, none⟩ = some (.int .i64 s.net) := by rw [Lib.cell_of_heap hSw]; rfl
      clear hSw
      go_simp
      first | done | with_reducible rfl
    simp only [List.getElem_toArray, List.getElem_cons_zero, List.getElem_cons_succ, Act.put, List.setIfInBounds_toArray, List.set_cons_zero, List.set_cons_succ]
    refine wpAnyH_ready (rs := [0, 6]) (by kernel_rfl) (by simp) ?_
    refine AllReadyH.cons rfl (fun K hK => ?_) ?_
    · simp only [List.getElem_toArray, List.getElem_cons_zero, List.getElem_cons_succ]
      go_simp
      (with_reducible refine (case_any wk8.drew).mono ?_)
      rintro e w_0 hcp
      obtain ⟨LA_, AA_, rfl, hc_0, hB_0⟩ := hcp
      dsimp only
      have bel_0 := bgo bel0 hB_0
      refine hK.out _ _ ((bel_0.block _ hsl1).trans GS.out) (fun hHeld => ?_)
      clear hK K
      try simp only [List.getElem_toArray, List.getElem_cons_zero, List.getElem_cons_succ, Act.put, List.setIfInBounds_toArray, List.set_cons_zero, List.set_cons_succ]
      refine wpAnyH_ready (rs := [2, 6]) (by kernel_rfl) (by simp) ?_
      refine AllReadyH.cons rfl (fun K hK => ?_) ?_
      · simp only [List.getElem_toArray, List.getElem_cons_zero, List.getElem_cons_succ]
        go_simp
        (with_reducible refine (Seal_at (case0 LA_ AA_) s ⟨#[49, 50, 51, 52, 53, 54, 55, 56, 57, 48, 49, 50, 51, 52, 53, 54, 55, 56, 57, 48, 49, 50, 51, 52, 53, 54, 55, 56, 57, 48, 49, 50, 51, 52, 53, 54, 55, 56, 57, 48, 49, 50, 51, 52, 53, 54, 55, 56, 57, 48, 49, 50, 51, 52, 53, 54, 55, 56, 57, 48, 49, 50, 51, 52, 53]⟩ _ _ (Lib.hid rfl) Hsv ⟨⟨#[]⟩, 0, [], [], 0⟩ 1 (Lib.hid (seal_longS _ _ _ (by decide +kernel))) (Lib.hid (seal_long _ _ _ (by decide +kernel))) w_0 hc_0 (Hs0.out.go bel_0) (hT1.go bel_0) (by decide +kernel)).mono ?_)
        rintro e w_02 hsh
        obtain ⟨A_, ca_, B_, cb_, rfl, hca_, hcb_, hSA_02, hSB_02, hB_02⟩ := hsh
        dsimp only at hca_ hcb_ hSA_02 hSB_02 ⊢
        have bel_02 := bgo bel_0 hB_02
        refine hK.out _ _ ((bel_02.block _ hsl1).trans GS.out) (fun hHeld => ?_)
        clear hK K
        try simp only [List.getElem_toArray, List.getElem_cons_zero, List.getElem_cons_succ, Act.put, List.setIfInBounds_toArray, List.set_cons_zero, List.set_cons_succ]
        refine wpAnyH_take (i := 3) (v := ?_) rfl (by kernel_rfl) (by kernel_rfl) (by kernel_rfl) (fun _ _ _ h => h) (Or.inl ⟨by kernel_rfl, ?_⟩) (by assumption) ?_
        rotate_left
        · intro w hSw
          (try dsimp only at hSw)
          go_simp
          first | done | with_reducible rfl
        simp only [List.getElem_toArray, List.getElem_cons_zero, List.getElem_cons_succ, Act.put, List.setIfInBounds_toArray, List.set_cons_zero, List.set_cons_succ]
        refine wpAnyH_take (i := 4) (v := ?_) rfl (by kernel_rfl) (by kernel_rfl) (by kernel_rfl) (fun _ _ _ h => h) (Or.inl ⟨by kernel_rfl, ?_⟩) (by assumption) ?_
        rotate_left
        · intro w hSw
          (try dsimp only at hSw)
          go_simp
          first | done | with_reducible rfl
        simp only [List.getElem_toArray, List.getElem_cons_zero, List.getElem_cons_succ, Act.put, List.setIfInBounds_toArray, List.set_cons_zero, List.set_cons_succ]
        refine wpAnyH_take (i := 5) (v := ?_) rfl (by kernel_rfl) (by kernel_rfl) (by kernel_rfl) (fun _ _ _ h => h) (Or.inl ⟨by kernel_rfl, ?_⟩) (by assumption) ?_
        rotate_left
        · intro w hSw
          (try dsimp only at hSw)
          go_simp
          first | done | with_reducible rfl
        simp only [List.getElem_toArray, List.getElem_cons_zero, List.getElem_cons_succ, Act.put, List.setIfInBounds_toArray, List.set_cons_zero, List.set_cons_succ]
        refine wpAnyH_ready (rs := [6]) (by kernel_rfl) (by simp) ?_
        refine AllReadyH.cons rfl (fun K hK => ?_) ?_
        · simp only [List.getElem_toArray, List.getElem_cons_zero, List.getElem_cons_succ]
          go_simp
          refine hK.out _ _ (((bal bel_02 _).block _ hsl1).trans GS.out) (fun hHeld => ?_)
          obtain ⟨X_026, hX_026⟩ : ∃ x, x = w_02.heap.size := ⟨_, rfl⟩
          obtain ⟨w_026, hw_026⟩ : ∃ x, x = w_02.alloc (.cells #[.string ⟨#[]⟩, .int .i64 0, .slice none 0 0, .slice none 0 0, .int .u64 0] 43) := ⟨_, rfl⟩
          rw [← hw_026, ← hX_026]
          have hB_026 : Below w_02.heap.size w_02 w_026 := by rw [hw_026]; exact bal (Below.refl _ _) _
          have bel_026 : Below wk8.heap.size wk8 w_026 := bgo bel_02 hB_026
          have gX_026 : w_026.heap[X_026]? = some (.cells #[.string ⟨#[]⟩, .int .i64 0, .slice none 0 0, .slice none 0 0, .int .u64 0] 43) := by rw [hw_026, hX_026]; exact World.alloc_heap_new w_02 _
          have hX3_026 : wk8.heap.size ≤ X_026 := by rw [hX_026]; exact bel_02.size
          have hSA_026 := hSA_02.go hB_026
          have hSB_026 := hSB_02.go hB_026
          clear hw_026 hX_026
          clear hK K
          try simp only [List.getElem_toArray, List.getElem_cons_zero, List.getElem_cons_succ, Act.put, List.setIfInBounds_toArray, List.set_cons_zero, List.set_cons_succ]
          refine wpAnyH_ready (rs := [7]) (by kernel_rfl) (by simp) ?_
          refine AllReadyH.cons rfl (fun K hK => ?_) ?_
          · simp only [List.getElem_toArray, List.getElem_cons_zero, List.getElem_cons_succ]
            have x0 : w_026.cell? ⟨X_026, 0, none⟩ = some (.string ⟨#[]⟩) := by rw [Lib.cell_of_heap gX_026]; rfl
            have x1 : w_026.cell? ⟨X_026, 1, none⟩ = some (.int .i64 0) := by rw [Lib.cell_of_heap gX_026]; rfl
            have x2 : w_026.cell? ⟨X_026, 2, none⟩ = some (.slice none 0 0) := by rw [Lib.cell_of_heap gX_026]; rfl
            have x3 : w_026.cell? ⟨X_026, 3, none⟩ = some (.slice none 0 0) := by rw [Lib.cell_of_heap gX_026]; rfl
            have x4 : w_026.cell? ⟨X_026, 4, none⟩ = some (.int .u64 0) := by rw [Lib.cell_of_heap gX_026]; rfl
            have yX : ∀ j, w_026.frozen? ⟨X_026, j, none⟩ = false := fun j => Lib.frozen_of_heap gX_026 j
            go_simp
            clear x0 x1 x2 x3 x4 yX
            refine hK.out _ _ ((heap_set5 _ _ _ _ _ _ _ _ (show sb ≠ X_026 by have := hX3_026; omega)).trans ((bel_026.block _ hsl1).trans GS.out)) (fun hHeld => ?_)
            clear hK K
            try simp only [List.getElem_toArray, List.getElem_cons_zero, List.getElem_cons_succ, Act.put, List.setIfInBounds_toArray, List.set_cons_zero, List.set_cons_succ]
            refine wpAnyH_take (i := 8) (v := ?_) rfl (by kernel_rfl) (by kernel_rfl) (by kernel_rfl) (fun _ _ _ h => h) (Or.inl ⟨by kernel_rfl, ?_⟩) (by assumption) ?_
            rotate_left
            · intro w hSw
              (try dsimp only at hSw)
              go_simp
              first | done | with_reducible rfl
            simp only [List.getElem_toArray, List.getElem_cons_zero, List.getElem_cons_succ, Act.put, List.setIfInBounds_toArray, List.set_cons_zero, List.set_cons_succ]
            refine wpAnyH_done (by kernel_rfl) ?_ _
            dsimp only [NoPanic]
            clear hHeld
            go_wp2_with fail
            go_meet
            exact ⟨rfl, ((((bel_026.setCell hX3_026 _).setCell hX3_026 _).setCell hX3_026 _).setCell hX3_026 _).setCell hX3_026 _⟩
          exact AllReadyH.nil
        exact AllReadyH.nil
      refine AllReadyH.cons rfl (fun K hK => ?_) ?_
      · simp only [List.getElem_toArray, List.getElem_cons_zero, List.getElem_cons_succ]
        go_simp
        refine hK.out _ _ (((bal bel_0 _).block _ hsl1).trans GS.out) (fun hHeld => ?_)
        obtain ⟨X_06, hX_06⟩ : ∃ x, x = w_0.heap.size := ⟨_, rfl⟩
        obtain ⟨w_06, hw_06⟩ : ∃ x, x = w_0.alloc (.cells #[.string ⟨#[]⟩, .int .i64 0, .slice none 0 0, .slice none 0 0, .int .u64 0] 43) := ⟨_, rfl⟩
        rw [← hw_06, ← hX_06]
        have hB_06 : Below w_0.heap.size w_0 w_06 := by rw [hw_06]; exact bal (Below.refl _ _) _
        have bel_06 : Below wk8.heap.size wk8 w_06 := bgo bel_0 hB_06
        have gX_06 : w_06.heap[X_06]? = some (.cells #[.string ⟨#[]⟩, .int .i64 0, .slice none 0 0, .slice none 0 0, .int .u64 0] 43) := by rw [hw_06, hX_06]; exact World.alloc_heap_new w_0 _
        have hX3_06 : wk8.heap.size ≤ X_06 := by rw [hX_06]; exact bel_0.size
        have hc_06 : CaseOk w_06 (case0 LA_ AA_) := hc_0.go hB_06
        clear hw_06 hX_06
        clear hK K
        try simp only [List.getElem_toArray, List.getElem_cons_zero, List.getElem_cons_succ, Act.put, List.setIfInBounds_toArray, List.set_cons_zero, List.set_cons_succ]
        refine wpAnyH_ready (rs := [2]) (by kernel_rfl) (by simp) ?_
        refine AllReadyH.cons rfl (fun K hK => ?_) ?_
        · simp only [List.getElem_toArray, List.getElem_cons_zero, List.getElem_cons_succ]
          go_simp
          (with_reducible refine (Seal_at (case0 LA_ AA_) s ⟨#[49, 50, 51, 52, 53, 54, 55, 56, 57, 48, 49, 50, 51, 52, 53, 54, 55, 56, 57, 48, 49, 50, 51, 52, 53, 54, 55, 56, 57, 48, 49, 50, 51, 52, 53, 54, 55, 56, 57, 48, 49, 50, 51, 52, 53, 54, 55, 56, 57, 48, 49, 50, 51, 52, 53, 54, 55, 56, 57, 48, 49, 50, 51, 52, 53]⟩ _ _ (Lib.hid rfl) Hsv ⟨⟨#[]⟩, 0, [], [], 0⟩ 1 (Lib.hid (seal_longS _ _ _ (by decide +kernel))) (Lib.hid (seal_long _ _ _ (by decide +kernel))) w_06 hc_06 (Hs0.out.go bel_06) (hT1.go bel_06) (by decide +kernel)).mono ?_)
          rintro e w_062 hsh
          obtain ⟨A_, ca_, B_, cb_, rfl, hca_, hcb_, hSA_062, hSB_062, hB_062⟩ := hsh
          dsimp only at hca_ hcb_ hSA_062 hSB_062 ⊢
          have bel_062 := bgo bel_06 hB_062
          have gX_062 := (hB_062.block _ (Array.getElem?_eq_some_iff.1 gX_06).1).trans gX_06
          refine hK.out _ _ ((bel_062.block _ hsl1).trans GS.out) (fun hHeld => ?_)
          clear hK K
          try simp only [List.getElem_toArray, List.getElem_cons_zero, List.getElem_cons_succ, Act.put, List.setIfInBounds_toArray, List.set_cons_zero, List.set_cons_succ]
          refine wpAnyH_take (i := 3) (v := ?_) rfl (by kernel_rfl) (by kernel_rfl) (by kernel_rfl) (fun _ _ _ h => h) (Or.inl ⟨by kernel_rfl, ?_⟩) (by assumption) ?_
          rotate_left
          · intro w hSw
            (try dsimp only at hSw)
            go_simp
            first | done | with_reducible rfl
          simp only [List.getElem_toArray, List.getElem_cons_zero, List.getElem_cons_succ, Act.put, List.setIfInBounds_toArray, List.set_cons_zero, List.set_cons_succ]
          refine wpAnyH_take (i := 4) (v := ?_) rfl (by kernel_rfl) (by kernel_rfl) (by kernel_rfl) (fun _ _ _ h => h) (Or.inl ⟨by kernel_rfl, ?_⟩) (by assumption) ?_
          rotate_left
          · intro w hSw
            (try dsimp only at hSw)
            go_simp
            first | done | with_reducible rfl
          simp only [List.getElem_toArray, List.getElem_cons_zero, List.getElem_cons_succ, Act.put, List.setIfInBounds_toArray, List.set_cons_zero, List.set_cons_succ]
          refine wpAnyH_take (i := 5) (v := ?_) rfl (by kernel_rfl) (by kernel_rfl) (by kernel_rfl) (fun _ _ _ h => h) (Or.inl ⟨by kernel_rfl, ?_⟩) (by assumption) ?_
          rotate_left
          · intro w hSw
            (try dsimp only at hSw)
            go_simp
            first | done | with_reducible rfl
          simp only [List.getElem_toArray, List.getElem_cons_zero, List.getElem_cons_succ, Act.put, List.setIfInBounds_toArray, List.set_cons_zero, List.set_cons_succ]
          refine wpAnyH_ready (rs := [7]) (by kernel_rfl) (by simp) ?_
          refine AllReadyH.cons rfl (fun K hK => ?_) ?_
          · simp only [List.getElem_toArray, List.getElem_cons_zero, List.getElem_cons_succ]
            have x0 : w_062.cell? ⟨X_06, 0, none⟩ = some (.string ⟨#[]⟩) := by rw [Lib.cell_of_heap gX_062]; rfl
            have x1 : w_062.cell? ⟨X_06, 1, none⟩ = some (.int .i64 0) := by rw [Lib.cell_of_heap gX_062]; rfl
            have x2 : w_062.cell? ⟨X_06, 2, none⟩ = some (.slice none 0 0) := by rw [Lib.cell_of_heap gX_062]; rfl
            have x3 : w_062.cell? ⟨X_06, 3, none⟩ = some (.slice none 0 0) := by rw [Lib.cell_of_heap gX_062]; rfl
            have x4 : w_062.cell? ⟨X_06, 4, none⟩ = some (.int .u64 0) := by rw [Lib.cell_of_heap gX_062]; rfl
            have yX : ∀ j, w_062.frozen? ⟨X_06, j, none⟩ = false := fun j => Lib.frozen_of_heap gX_062 j
            go_simp
            clear x0 x1 x2 x3 x4 yX
            refine hK.out _ _ ((heap_set5 _ _ _ _ _ _ _ _ (show sb ≠ X_06 by have := hX3_06; omega)).trans ((bel_062.block _ hsl1).trans GS.out)) (fun hHeld => ?_)
            clear hK K
            try simp only [List.getElem_toArray, List.getElem_cons_zero, List.getElem_cons_succ, Act.put, List.setIfInBounds_toArray, List.set_cons_zero, List.set_cons_succ]
            refine wpAnyH_take (i := 8) (v := ?_) rfl (by kernel_rfl) (by kernel_rfl) (by kernel_rfl) (fun _ _ _ h => h) (Or.inl ⟨by kernel_rfl, ?_⟩) (by assumption) ?_
            rotate_left
            · intro w hSw
              (try dsimp only at hSw)
              go_simp
              first | done | with_reducible rfl
            simp only [List.getElem_toArray, List.getElem_cons_zero, List.getElem_cons_succ, Act.put, List.setIfInBounds_toArray, List.set_cons_zero, List.set_cons_succ]
            refine wpAnyH_done (by kernel_rfl) ?_ _
            dsimp only [NoPanic]
            clear hHeld
            go_wp2_with fail
            go_meet
            exact ⟨rfl, ((((bel_062.setCell hX3_06 _).setCell hX3_06 _).setCell hX3_06 _).setCell hX3_06 _).setCell hX3_06 _⟩
          exact AllReadyH.nil
        exact AllReadyH.nil
      exact AllReadyH.nil
    refine AllReadyH.cons rfl (fun K hK => ?_) ?_
    · simp only [List.getElem_toArray, List.getElem_cons_zero, List.getElem_cons_succ]
      go_simp
      refine hK.out _ _ (((bal (Below.refl wk8.heap.size wk8) _).drew.block _ hsl1).trans GS.out) (fun hHeld => ?_)
      obtain ⟨X_6, hX_6⟩ : ∃ x, x = wk8.heap.size := ⟨_, rfl⟩
      obtain ⟨w_6, hw_6⟩ : ∃ x, x = (wk8.alloc (.cells #[.string ⟨#[]⟩, .int .i64 0, .slice none 0 0, .slice none 0 0, .int .u64 0] 43)).drew := ⟨_, rfl⟩
      rw [← hw_6, ← hX_6]
      have hB_6 : Below wk8.heap.size wk8 w_6 := by rw [hw_6]; exact (bal (Below.refl _ _) _).drew
      have bel_6 : Below wk8.heap.size wk8 w_6 := hB_6
      have gX_6 : w_6.heap[X_6]? = some (.cells #[.string ⟨#[]⟩, .int .i64 0, .slice none 0 0, .slice none 0 0, .int .u64 0] 43) := by rw [hw_6, hX_6]; exact World.alloc_heap_new wk8 _
      have hX3_6 : wk8.heap.size ≤ X_6 := by rw [hX_6]; exact Nat.le_refl _
      clear hw_6 hX_6
      clear hK K
      try simp only [List.getElem_toArray, List.getElem_cons_zero, List.getElem_cons_succ, Act.put, List.setIfInBounds_toArray, List.set_cons_zero, List.set_cons_succ]
      refine wpAnyH_ready (rs := [0]) (by kernel_rfl) (by simp) ?_
      refine AllReadyH.cons rfl (fun K hK => ?_) ?_
      · simp only [List.getElem_toArray, List.getElem_cons_zero, List.getElem_cons_succ]
        go_simp
        (with_reducible refine (case_any w_6).mono ?_)
        rintro e w_60 hcp
        obtain ⟨LA_, AA_, rfl, hc_60, hB_60⟩ := hcp
        dsimp only
        have bel_60 := bgo bel_6 hB_60
        have gX_60 := (hB_60.block _ (Array.getElem?_eq_some_iff.1 gX_6).1).trans gX_6
        refine hK.out _ _ ((bel_60.block _ hsl1).trans GS.out) (fun hHeld => ?_)
        clear hK K
        try simp only [List.getElem_toArray, List.getElem_cons_zero, List.getElem_cons_succ, Act.put, List.setIfInBounds_toArray, List.set_cons_zero, List.set_cons_succ]
        refine wpAnyH_ready (rs := [2]) (by kernel_rfl) (by simp) ?_
        refine AllReadyH.cons rfl (fun K hK => ?_) ?_
        · simp only [List.getElem_toArray, List.getElem_cons_zero, List.getElem_cons_succ]
          go_simp
          (with_reducible refine (Seal_at (case0 LA_ AA_) s ⟨#[49, 50, 51, 52, 53, 54, 55, 56, 57, 48, 49, 50, 51, 52, 53, 54, 55, 56, 57, 48, 49, 50, 51, 52, 53, 54, 55, 56, 57, 48, 49, 50, 51, 52, 53, 54, 55, 56, 57, 48, 49, 50, 51, 52, 53, 54, 55, 56, 57, 48, 49, 50, 51, 52, 53, 54, 55, 56, 57, 48, 49, 50, 51, 52, 53]⟩ _ _ (Lib.hid rfl) Hsv ⟨⟨#[]⟩, 0, [], [], 0⟩ 1 (Lib.hid (seal_longS _ _ _ (by decide +kernel))) (Lib.hid (seal_long _ _ _ (by decide +kernel))) w_60 hc_60 (Hs0.out.go bel_60) (hT1.go bel_60) (by decide +kernel)).mono ?_)
          rintro e w_602 hsh
          obtain ⟨A_, ca_, B_, cb_, rfl, hca_, hcb_, hSA_602, hSB_602, hB_602⟩ := hsh
          dsimp only at hca_ hcb_ hSA_602 hSB_602 ⊢
          have bel_602 := bgo bel_60 hB_602
          have gX_602 := (hB_602.block _ (Array.getElem?_eq_some_iff.1 gX_60).1).trans gX_60
          refine hK.out _ _ ((bel_602.block _ hsl1).trans GS.out) (fun hHeld => ?_)
          clear hK K
          try simp only [List.getElem_toArray, List.getElem_cons_zero, List.getElem_cons_succ, Act.put, List.setIfInBounds_toArray, List.set_cons_zero, List.set_cons_succ]
          refine wpAnyH_take (i := 3) (v := ?_) rfl (by kernel_rfl) (by kernel_rfl) (by kernel_rfl) (fun _ _ _ h => h) (Or.inl ⟨by kernel_rfl, ?_⟩) (by assumption) ?_
          rotate_left
          · intro w hSw
            (try dsimp only at hSw)
            go_simp
            first | done | with_reducible rfl
          simp only [List.getElem_toArray, List.getElem_cons_zero, List.getElem_cons_succ, Act.put, List.setIfInBounds_toArray, List.set_cons_zero, List.set_cons_succ]
          refine wpAnyH_take (i := 4) (v := ?_) rfl (by kernel_rfl) (by kernel_rfl) (by kernel_rfl) (fun _ _ _ h => h) (Or.inl ⟨by kernel_rfl, ?_⟩) (by assumption) ?_
          rotate_left
          · intro w hSw
            (try dsimp only at hSw)
            go_simp
            first | done | with_reducible rfl
          simp only [List.getElem_toArray, List.getElem_cons_zero, List.getElem_cons_succ, Act.put, List.setIfInBounds_toArray, List.set_cons_zero, List.set_cons_succ]
          refine wpAnyH_take (i := 5) (v := ?_) rfl (by kernel_rfl) (by kernel_rfl) (by kernel_rfl) (fun _ _ _ h => h) (Or.inl ⟨by kernel_rfl, ?_⟩) (by assumption) ?_
          rotate_left
          · intro w hSw
            (try dsimp only at hSw)
            go_simp
            first | done | with_reducible rfl
          simp only [List.getElem_toArray, List.getElem_cons_zero, List.getElem_cons_succ, Act.put, List.setIfInBounds_toArray, List.set_cons_zero, List.set_cons_succ]
          refine wpAnyH_ready (rs := [7]) (by kernel_rfl) (by simp) ?_
          refine AllReadyH.cons rfl (fun K hK => ?_) ?_
          · simp only [List.getElem_toArray, List.getElem_cons_zero, List.getElem_cons_succ]
            have x0 : w_602.cell? ⟨X_6, 0, none⟩ = some (.string ⟨#[]⟩) := by rw [Lib.cell_of_heap gX_602]; rfl
            have x1 : w_602.cell? ⟨X_6, 1, none⟩ = some (.int .i64 0) := by rw [Lib.cell_of_heap gX_602]; rfl
            have x2 : w_602.cell? ⟨X_6, 2, none⟩ = some (.slice none 0 0) := by rw [Lib.cell_of_heap gX_602]; rfl
            have x3 : w_602.cell? ⟨X_6, 3, none⟩ = some (.slice none 0 0) := by rw [Lib.cell_of_heap gX_602]; rfl
            have x4 : w_602.cell? ⟨X_6, 4, none⟩ = some (.int .u64 0) := by rw [Lib.cell_of_heap gX_602]; rfl
            have yX : ∀ j, w_602.frozen? ⟨X_6, j, none⟩ = false := fun j => Lib.frozen_of_heap gX_602 j
            go_simp
            clear x0 x1 x2 x3 x4 yX
            refine hK.out _ _ ((heap_set5 _ _ _ _ _ _ _ _ (show sb ≠ X_6 by have := hX3_6; omega)).trans ((bel_602.block _ hsl1).trans GS.out)) (fun hHeld => ?_)
            clear hK K
            try simp only [List.getElem_toArray, List.getElem_cons_zero, List.getElem_cons_succ, Act.put, List.setIfInBounds_toArray, List.set_cons_zero, List.set_cons_succ]
            refine wpAnyH_take (i := 8) (v := ?_) rfl (by kernel_rfl) (by kernel_rfl) (by kernel_rfl) (fun _ _ _ h => h) (Or.inl ⟨by kernel_rfl, ?_⟩) (by assumption) ?_
            rotate_left
            · intro w hSw
              (try dsimp only at hSw)
              go_simp
              first | done | with_reducible rfl
            simp only [List.getElem_toArray, List.getElem_cons_zero, List.getElem_cons_succ, Act.put, List.setIfInBounds_toArray, List.set_cons_zero, List.set_cons_succ]
            refine wpAnyH_done (by kernel_rfl) ?_ _
            dsimp only [NoPanic]
            clear hHeld
            go_wp2_with fail
            go_meet
            exact ⟨rfl, ((((bel_602.setCell hX3_6 _).setCell hX3_6 _).setCell hX3_6 _).setCell hX3_6 _).setCell hX3_6 _⟩
          exact AllReadyH.nil
        exact AllReadyH.nil
      exact AllReadyH.nil
    exact AllReadyH.nil
  case rest =>
  obtain ⟨rfl, hB9⟩ := hcut
  obtain ⟨w9, hwn⟩ : ∃ x, x = wc := ⟨_, rfl⟩
  subst hwn
  have h1 := HP8.out.1.go hB9
  have h2 := HP8.out.2.1.go hB9
  have na1 := box_ne_a h1 h1.g (by simp)
  have na2 := box_ne_a h2 h1.g (by simp)
  have nb2 := box_ne_b h2 h1.g (by simp)
  have hx12 : X2 ≠ X1 := by have := h2.x3; omega
  have hbw9 : Below w.heap.size w w9 := bgo hb3 h1.bel
  have hXw : w.heap.size ≤ X1 := Nat.le_trans hb3.size h1.x3
  have hX1s : X1 < w9.heap.size := (Array.getElem?_eq_some_iff.1 h1.g).1
  have hX2s : X2 < w9.heap.size := (Array.getElem?_eq_some_iff.1 h2.g).1
  have x2 : w9.cell? ⟨X1, 2, none⟩ = some (.slice A1 n1 ca1) := by rw [Lib.cell_of_heap h1.g]; rfl
  have x3 : w9.cell? ⟨X1, 3, none⟩ = some (.slice B1 n1 cb1) := by rw [Lib.cell_of_heap h1.g]; rfl
  have y3 : w9.cell? ⟨X2, 3, none⟩ = some (.slice B2 n1 cb2) := by rw [Lib.cell_of_heap h2.g]; rfl
  have f1 : ∀ j, w9.frozen? ⟨X1, j, none⟩ = false := fun j => Lib.frozen_of_heap h1.g j
  obtain ⟨r1, r2, r3, r4, r5, r6, r7, r8⟩ := box_rows h2.d h2.is
  have hbb : ∀ y ∈ db2, 0 ≤ y ∧ y < 1073741789 := by
    rw [r2]
    exact blindL_bd
  have Hr : Hid (rootV (leafK dr1 db2 n1) = dt2) := Lib.hid (by rw [r5, h2.n1])
  have Hv : Hid (validB dp1 dm1 dr1 db2 dt2 = true) := Lib.hid (valid_box h2.d h2.is)
  have Hn := Lib.hid (And.intro h2.n1 h2.n2)
  have hk1 : ∀ b, b ≠ X1 → (w9.setCell ⟨X1, 3, none⟩ (.slice B2 n1 cb2)).heap[b]? = w9.heap[b]? := fun b hb => Below.heap_setCell _ _ _ _ hb
  have hs1 : (w9.setCell ⟨X1, 3, none⟩ (.slice B2 n1 cb2)).heap.size = w9.heap.size := by simp [World.setCell]
  have S13 := Lib.hid (And.intro (sl_keep h1.sa (by omega) fun b _ ⟨off, e⟩ => hk1 b (na1 b off e)) (And.intro (sl_keep h2.sa (by omega) fun b _ ⟨off, e⟩ => hk1 b (na2 b off e)) (sl_keep h2.sb (by omega) fun b _ ⟨off, e⟩ => hk1 b (nb2 b off e))))
  have g13 : (w9.setCell ⟨X1, 3, none⟩ (.slice B2 n1 cb2)).heap[X1]? = some (sheetO dp1 dm1 A1 n1 ca1 B2 n1 cb2 dt1) := by rw [setCell_heap h1.g]; rfl
  have k13 := (hk1 X2 hx12).trans h2.g
  have G13 := Lib.hid (And.intro g13 k13)
  have hb13 : Below w.heap.size w (w9.setCell ⟨X1, 3, none⟩ (.slice B2 n1 cb2)) := hbw9.setCell hXw _
  clear r1 r2 r3 r4 r5 r6 r7 r8 g13 k13 hk1 h1 h2 hbw9 HP8 hB9 GS hsl1 Hs0 hT1 bel0
  go_upto_region 14 with fail
  obtain ⟨W13, hW13⟩ : ∃ x, x = w9.setCell ⟨X1, 3, none⟩ (.slice B2 n1 cb2) := ⟨_, rfl⟩
  rw [← hW13]
  rw [← hW13] at S13 G13 hb13 hs1
  clear hW13 x2 x3 y3 f1
  have x2 : W13.cell? ⟨X1, 2, none⟩ = some (.slice A1 n1 ca1) := by rw [Lib.cell_of_heap G13.out.1]; rfl
  have x3 : W13.cell? ⟨X1, 3, none⟩ = some (.slice B2 n1 cb2) := by rw [Lib.cell_of_heap G13.out.1]; rfl
  go_wp2_with fail
  refine (rleaves_any A1 B2 ca1 cb2 n1 n1 dr1 db2 W13 S13.out.1 S13.out.2.2 Hn.out.1 Hn.out.2 (Nat.le_refl _) (by omega) (by unfold maxLen; omega) Hsz.out hbb).mono ?_
  rintro e w14 ⟨C, cc, rfl, hC, hB14⟩
  have HC := Lib.hid (own_sl hC)
  clear hC x2 x3
  go_wp2_with fail
  refine (rroot_at C cc n1 (leafK dr1 db2 n1) dt2 w14 (leafK_len _ _ _) Hr HC.out (leafK_size (by rw [Hn.out.1]; omega) Hsz.out) (by omega) (by omega)).mono ?_
  rintro e w15 ⟨rfl, hB15⟩
  have hB1315 := bgo hB14 hB15
  have h1s : X1 < W13.heap.size := by omega
  have h2s : X2 < W13.heap.size := by omega
  have g15 := (hB1315.block _ h1s).trans G13.out.1
  have k15 := (hB1315.block _ h2s).trans G13.out.2
  have x4 : w15.cell? ⟨X1, 4, none⟩ = some (.int .u64 dt1.toNat) := by rw [Lib.cell_of_heap g15]; rfl
  have f1 : ∀ j, w15.frozen? ⟨X1, j, none⟩ = false := fun j => Lib.frozen_of_heap g15 j
  have hk2 : ∀ b, b ≠ X1 → (w15.setCell ⟨X1, 4, none⟩ (.int .u64 dt2.toNat)).heap[b]? = w15.heap[b]? := fun b hb => Below.heap_setCell _ _ _ _ hb
  have hs2 : (w15.setCell ⟨X1, 4, none⟩ (.int .u64 dt2.toNat)).heap.size = w15.heap.size := by simp [World.setCell]
  have S15 := And.intro (S13.out.1.go hB1315) (And.intro (S13.out.2.1.go hB1315) (S13.out.2.2.go hB1315))
  have S16 := Lib.hid (And.intro (sl_keep S15.1 (by omega) fun b _ ⟨off, e⟩ => hk2 b (na1 b off e)) (And.intro (sl_keep S15.2.1 (by omega) fun b _ ⟨off, e⟩ => hk2 b (na2 b off e)) (sl_keep S15.2.2 (by omega) fun b _ ⟨off, e⟩ => hk2 b (nb2 b off e))))
  have g16 : (w15.setCell ⟨X1, 4, none⟩ (.int .u64 dt2.toNat)).heap[X1]? = some (sheetO dp1 dm1 A1 n1 ca1 B2 n1 cb2 dt2) := by rw [setCell_heap g15]; rfl
  have k16 := (hk2 X2 hx12).trans k15
  have G16 := Lib.hid (And.intro g16 k16)
  have hb16 : Below w.heap.size w (w15.setCell ⟨X1, 4, none⟩ (.int .u64 dt2.toNat)) := (bgo hb13 hB1315).setCell hXw _
  clear g15 k15 g16 k16 hk2 S15 S13 G13 HC hB14 hB15 hB1315
  go_upto_region 15 with fail
  obtain ⟨W16, hW16⟩ : ∃ x, x = w15.setCell ⟨X1, 4, none⟩ (.int .u64 dt2.toNat) := ⟨_, rfl⟩
  rw [← hW16]
  rw [← hW16] at S16 G16 hb16
  clear hW16 x4 f1 hs2
  have x0 : W16.cell? ⟨X1, 0, none⟩ = some (.string dp1) := by rw [Lib.cell_of_heap G16.out.1]; rfl
  have x1 : W16.cell? ⟨X1, 1, none⟩ = some (.int .i64 dm1) := by rw [Lib.cell_of_heap G16.out.1]; rfl
  have x2 : W16.cell? ⟨X1, 2, none⟩ = some (.slice A1 n1 ca1) := by rw [Lib.cell_of_heap G16.out.1]; rfl
  have x3 : W16.cell? ⟨X1, 3, none⟩ = some (.slice B2 n1 cb2) := by rw [Lib.cell_of_heap G16.out.1]; rfl
  have x4 : W16.cell? ⟨X1, 4, none⟩ = some (.int .u64 dt2.toNat) := by rw [Lib.cell_of_heap G16.out.1]; rfl
  go_wp2_with fail
  refine (valid35_any dp1 dm1 A1 B2 ca1 cb2 n1 n1 dr1 db2 dt2 true Hv W16 (hT.go hb16) S16.out.1 S16.out.2.2 Hn.out.1 Hn.out.2 (by unfold maxLen; omega) (by unfold maxLen; omega) hdp Hsz.out (fun y hy => by have := hbb y hy; unfold I64; omega)).mono ?_
  rintro e w17 ⟨rfl, hB17⟩
  have S17 := Lib.hid (And.intro (S16.out.1.go hB17) (And.intro (S16.out.2.1.go hB17) (S16.out.2.2.go hB17)))
  have g17 := (hB17.block _ (Array.getElem?_eq_some_iff.1 G16.out.1).1).trans G16.out.1
  have k17 := (hB17.block _ (Array.getElem?_eq_some_iff.1 G16.out.2).1).trans G16.out.2
  have G17 := Lib.hid (And.intro g17 k17)
  clear x0 x1 x2 x3 x4 g17 k17
  have x0 : w17.cell? ⟨X1, 0, none⟩ = some (.string dp1) := by rw [Lib.cell_of_heap G17.out.1]; rfl
  have x1 : w17.cell? ⟨X1, 1, none⟩ = some (.int .i64 dm1) := by rw [Lib.cell_of_heap G17.out.1]; rfl
  have x2 : w17.cell? ⟨X1, 2, none⟩ = some (.slice A1 n1 ca1) := by rw [Lib.cell_of_heap G17.out.1]; rfl
  have x3 : w17.cell? ⟨X1, 3, none⟩ = some (.slice B2 n1 cb2) := by rw [Lib.cell_of_heap G17.out.1]; rfl
  have x4 : w17.cell? ⟨X1, 4, none⟩ = some (.int .u64 dt2.toNat) := by rw [Lib.cell_of_heap G17.out.1]; rfl
  have y0 : w17.cell? ⟨X2, 0, none⟩ = some (.string dp1) := by rw [Lib.cell_of_heap G17.out.2]; rfl
  have y1 : w17.cell? ⟨X2, 1, none⟩ = some (.int .i64 dm1) := by rw [Lib.cell_of_heap G17.out.2]; rfl
  have y2 : w17.cell? ⟨X2, 2, none⟩ = some (.slice A2 n1 ca2) := by rw [Lib.cell_of_heap G17.out.2]; rfl
  have y3 : w17.cell? ⟨X2, 3, none⟩ = some (.slice B2 n1 cb2) := by rw [Lib.cell_of_heap G17.out.2]; rfl
  have y4 : w17.cell? ⟨X2, 4, none⟩ = some (.int .u64 dt2.toNat) := by rw [Lib.cell_of_heap G17.out.2]; rfl
  go_wp2_with fail
  refine (same35_eq dp1 dm1 A1 B2 A2 B2 ca1 cb2 ca2 cb2 n1 n1 dr1 db2 dt2 w17 Hn.out.1 Hn.out.2 S17.out.1 S17.out.2.1 S17.out.2.2 S17.out.2.2 (by omega) (by omega)).mono ?_
  rintro e w18 ⟨rfl, hB18⟩
  go_wp2_with fail
  go_ret
  exact ⟨rfl, bgo hb16 (bgo hB17 hB18)⟩
end Go.Proofs.YtgkilaafeconlaaDoor
