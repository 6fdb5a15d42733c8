/- The walk of PayslipCommitments. -/
import Derived.Test.YtgkilaafeconlaaDoorPsBox
namespace Go.Proofs.YtgkilaafeconlaaDoor
open Go.RowKit Go.Shelf
set_option linter.unusedVariables false
set_option linter.unusedSimpArgs false
set_option maxRecDepth 100000

/-- What a round of the law reads. -/
structure RndC (X b1 q1 b2 q2 : Nat) (A : Option Addr) (n ca : Nat) (B : Option Addr) (cb : Nat) (c b : Int) (W : World) : Prop where
  x2 : W.cell? ⟨X, 2, none⟩ = some (.slice A n ca)
  x3 : W.cell? ⟨X, 3, none⟩ = some (.slice B n cb)
  xl : X < W.heap.size
  c : W.cell? ⟨b1, q1, none⟩ = some (.int .i64 c)
  l1 : b1 < W.heap.size
  b : W.cell? ⟨b2, q2, none⟩ = some (.int .i64 b)
  l2 : b2 < W.heap.size
theorem RndC.go {X b1 q1 b2 q2 : Nat} {A : Option Addr} {n ca : Nat} {B : Option Addr} {cb : Nat} {c b : Int} {W W' : World} (h : RndC X b1 q1 b2 q2 A n ca B cb c b W) (k : Below W.heap.size W W') : RndC X b1 q1 b2 q2 A n ca B cb c b W' :=
  ⟨(k.cell (p := ⟨X, 2, none⟩) h.xl).trans h.x2, (k.cell (p := ⟨X, 3, none⟩) h.xl).trans h.x3, Nat.lt_of_lt_of_le h.xl k.size, (k.cell (p := ⟨b1, q1, none⟩) h.l1).trans h.c, Nat.lt_of_lt_of_le h.l1 k.size, (k.cell (p := ⟨b2, q2, none⟩) h.l2).trans h.b, Nat.lt_of_lt_of_le h.l2 k.size⟩
set_option maxHeartbeats 8000000 in
theorem payslipCommitments_walk (month : Int) (LA : Option Addr) (lc : Nat) (ls : List Quad) (OA : Option Addr) (oc : Nat) (os : List Int) (seed : ByteArray) (w : World) (wm : (Lit.int .i64 month).wf = true) (hL : Sl w w.heap.size 4 LA ls.length (ls.flatMap quadV)) (hcl : ls.length ≤ lc ∧ lc ≤ maxLen) (hls : ∀ q ∈ ls, QuadOk q) (hO : Sl w w.heap.size 1 OA os.length (intV os)) (hco : os.length ≤ oc ∧ oc ≤ maxLen) (hos : ∀ x ∈ os, I64 x) (hsd : seed.size ≤ maxLen) (hT : Tabs w) :
    Calls Tryd.prog 7 #[.int .i64 month, .slice LA ls.length lc, .slice OA os.length oc, .string seed] w fun e w' => e = .returned (.bool true) ∧ Below w.heap.size w w' := by
  obtain ⟨N, hN⟩ : ∃ N, ls.length = N := ⟨_, rfl⟩
  obtain ⟨M, hM⟩ : ∃ M, os.length = M := ⟨_, rfl⟩
  rw [hN, hM]
  rw [hN] at hL hcl
  rw [hM] at hO hco
  have hm := bounds_i64 wm
  have Hmo : Hid (I64 month) := Lib.hid (by unfold I64; omega)
  have HL := Lib.hid hL
  have HO := Lib.hid hO
  have HN := Lib.hid hN
  have HM := Lib.hid hM
  have Hls : Hid (N ≤ maxLen ∧ ∀ q ∈ ls, QuadOk q) := Lib.hid ⟨by omega, hls⟩
  have Hos : Hid (M ≤ maxLen ∧ ∀ x ∈ os, I64 x) := Lib.hid ⟨by omega, hos⟩
  unfold maxLen at hsd
  obtain ⟨sd, hsd1⟩ : ∃ t, seed.extract 0 (min (seed.size : Int) 64).toNat = t := ⟨_, rfl⟩
  have hsd2 : sd.size ≤ 64 := by rw [← hsd1, ext_size]; omega
  have Hsd := Lib.hid hsd2
  have hmn : 0 ≤ min (seed.size : Int) 64 ∧ min (seed.size : Int) 64 ≤ (seed.size : Int) := by omega
  clear hL hO hN hM hcl hco hls hos
  go_enter Tryd.func7, Tryd.ntmps7
  go_wp2_with fail
  refine (head_any _ hT).mono ?_
  rintro e w1 ⟨rfl, hb1⟩
  have hT1 : PTabs w1 := hT.go hb1
  have bel0 : Below w1.heap.size w1 w1.drew := (Below.refl _ _).drew
  have HL1 := Lib.hid (HL.out.go hb1)
  have HO1 := Lib.hid (HO.out.go hb1)
  clear HL HO
  have HL := HL1
  have HO := HO1
  clear HL1 HO1
  go_upto_region 2 with fail
  go_cut [10, 11] (fun s10 s11 wx => ∃ X s A ca B cb n dp dm dr db dt, s10 = .pointer (some ⟨X, 0, none⟩) ∧ s11 = .int .i64 0 ∧ BoxIs w1 month ls os s sd X A ca B cb n dp dm dr db dt wx)
  case first =>
    refine wp_region_noPanic ?_
    refine wp_region_held_drew (S := fun _ => True) (by kernel_rfl) trivial (fun hHeld => ?_)
    refine wpAnyH_take (i := 1) (v := ?_) rfl (by kernel_rfl) (by kernel_rfl) (by kernel_rfl) (fun _ _ _ h => h) (Or.inl ⟨by kernel_rfl, ?_⟩) (by assumption) ?_
    rotate_left
    · intro w hSw
      (try dsimp only at hSw)
      go_simp
      first | done | with_reducible rfl
    simp only [List.getElem_toArray, List.getElem_cons_zero, List.getElem_cons_succ, Act.put, List.setIfInBounds_toArray, List.set_cons_zero, List.set_cons_succ]
    refine wpAnyH_take (i := 2) (v := ?_) rfl (by kernel_rfl) (by kernel_rfl) (by kernel_rfl) (fun _ _ _ h => h) (Or.inl ⟨by kernel_rfl, ?_⟩) (by assumption) ?_
    rotate_left
    · intro w hSw
      (try dsimp only at hSw)
      go_simp
      first | done | with_reducible rfl
    simp only [List.getElem_toArray, List.getElem_cons_zero, List.getElem_cons_succ, Act.put, List.setIfInBounds_toArray, List.set_cons_zero, List.set_cons_succ]
    refine wpAnyH_take (i := 3) (v := ?_) rfl (by kernel_rfl) (by kernel_rfl) (by kernel_rfl) (fun _ _ _ h => h) (Or.inl ⟨by kernel_rfl, ?_⟩) (by assumption) ?_
    rotate_left
    · intro w hSw
      (try dsimp only at hSw)
      go_simp
      first | done | with_reducible rfl
    simp only [List.getElem_toArray, List.getElem_cons_zero, List.getElem_cons_succ, Act.put, List.setIfInBounds_toArray, List.set_cons_zero, List.set_cons_succ]
    refine wpAnyH_take (i := 5) (v := ?_) rfl (by kernel_rfl) (by kernel_rfl) (by kernel_rfl) (fun _ _ _ h => h) (Or.inl ⟨by kernel_rfl, ?_⟩) (by assumption) ?_
    rotate_left
    · intro w hSw
      (try dsimp only at hSw)
      go_simp
      first | done | with_reducible rfl
    simp only [List.getElem_toArray, List.getElem_cons_zero, List.getElem_cons_succ, Act.put, List.setIfInBounds_toArray, List.set_cons_zero, List.set_cons_succ]
    refine wpAnyH_take (i := 6) (v := ?_) rfl (by kernel_rfl) (by kernel_rfl) (by kernel_rfl) (fun _ _ _ h => h) (Or.inl ⟨by kernel_rfl, ?_⟩) (by assumption) ?_
    rotate_left
    · intro w hSw
      (try dsimp only at hSw)
      go_simp
      first | done | with_reducible rfl
    simp only [List.getElem_toArray, List.getElem_cons_zero, List.getElem_cons_succ, Act.put, List.setIfInBounds_toArray, List.set_cons_zero, List.set_cons_succ]
    refine wpAnyH_take (i := 7) (v := ?_) rfl (by kernel_rfl) (by kernel_rfl) (by kernel_rfl) (fun _ _ _ h => h) (Or.inl ⟨by kernel_rfl, ?_⟩) (by assumption) ?_
    rotate_left
    · intro w hSw
      (try dsimp only at hSw)
      go_simp
      first | done | with_reducible rfl
    simp only [List.getElem_toArray, List.getElem_cons_zero, List.getElem_cons_succ, Act.put, List.setIfInBounds_toArray, List.set_cons_zero, List.set_cons_succ]
    refine wpAnyH_take (i := 8) (v := ?_) rfl (by kernel_rfl) (by kernel_rfl) (by kernel_rfl) (fun _ _ _ h => h) (Or.inl ⟨by kernel_rfl, ?_⟩) (by assumption) ?_
    rotate_left
    · intro w hSw
      (try dsimp only at hSw)
      go_simp
      first | done | with_reducible rfl
    simp only [List.getElem_toArray, List.getElem_cons_zero, List.getElem_cons_succ, Act.put, List.setIfInBounds_toArray, List.set_cons_zero, List.set_cons_succ]
    refine wpAnyH_take (i := 9) (v := .string sd) rfl (by kernel_rfl) (by kernel_rfl) (by kernel_rfl) (fun _ _ _ h => h) (Or.inl ⟨by kernel_rfl, ?_⟩) (by assumption) ?_
    · intro w hSw
      (try dsimp only at hSw)
      first | (go_simp; done) | (go_simp; rw [if_pos hmn])
    simp only [List.getElem_toArray, List.getElem_cons_zero, List.getElem_cons_succ, Act.put, List.setIfInBounds_toArray, List.set_cons_zero, List.set_cons_succ]
    refine wpAnyH_ready (rs := [0, 14]) (by kernel_rfl) (by simp) ?_
    refine AllReadyH.cons rfl (fun K hK => ?_) ?_
    · simp only [List.getElem_toArray, List.getElem_cons_zero, List.getElem_cons_succ]
      go_simp
      (with_reducible refine (case_any w1.drew).mono ?_)
      rintro e w_0 hcp
      obtain ⟨LA_, AA_, rfl, hc_0, hB_0⟩ := hcp
      dsimp only
      have bel_0 := bgo bel0 hB_0
      refine hK.out _ _ trivial (fun hHeld => ?_)
      clear hK K
      try simp only [List.getElem_toArray, List.getElem_cons_zero, List.getElem_cons_succ, Act.put, List.setIfInBounds_toArray, List.set_cons_zero, List.set_cons_succ]
      refine wpAnyH_ready (rs := [4, 14]) (by kernel_rfl) (by simp) ?_
      refine AllReadyH.cons rfl (fun K hK => ?_) ?_
      · simp only [List.getElem_toArray, List.getElem_cons_zero, List.getElem_cons_succ]
        go_simp
        (with_reducible refine (result_at month LA lc ls N OA oc os M w_0 HN HM Hmo Hls Hos (HL.out.go bel_0) (HO.out.go bel_0)).mono ?_)
        rintro e w_04 ⟨s_, rfl, hs_04, hsis, hscap, hB_04⟩
        dsimp only
        have bel_04 := bgo bel_0 hB_04
        have hc_04 : CaseOk w_04 (case0 LA_ AA_) := hc_0.go hB_04
        refine hK.out _ _ trivial (fun hHeld => ?_)
        clear hK K
        try simp only [List.getElem_toArray, List.getElem_cons_zero, List.getElem_cons_succ, Act.put, List.setIfInBounds_toArray, List.set_cons_zero, List.set_cons_succ]
        refine wpAnyH_ready (rs := [10, 14]) (by kernel_rfl) (by simp) ?_
        refine AllReadyH.cons rfl (fun K hK => ?_) ?_
        · simp only [List.getElem_toArray, List.getElem_cons_zero, List.getElem_cons_succ]
          go_simp
          obtain ⟨d_, hd_⟩ : ∃ d, resS s_ sd = d := ⟨_, rfl⟩
          (with_reducible refine (Seal_at (case0 LA_ AA_) s_ sd _ _ (Lib.hid rfl) (Lib.hid rfl) d_ 0 (Lib.hid ((res_seal hsis LA_ AA_ sd Hsd.out).2.trans hd_)) (Lib.hid (res_seal hsis LA_ AA_ sd Hsd.out).1) w_04 hc_04 hs_04 (hT1.go bel_04) (sd_ok Hsd.out)).mono ?_)
          rintro e w_0410 hsh
          obtain ⟨dp, dm, dr, db, dt⟩ := d_
          obtain ⟨A_, ca_, B_, cb_, rfl, hca_, hcb_, hSA_0410, hSB_0410, hB_0410⟩ := hsh
          dsimp only at hca_ hcb_ hSA_0410 hSB_0410 ⊢
          have bel_0410 := bgo bel_04 hB_0410
          refine hK.out _ _ trivial (fun hHeld => ?_)
          clear hK K
          try simp only [List.getElem_toArray, List.getElem_cons_zero, List.getElem_cons_succ, Act.put, List.setIfInBounds_toArray, List.set_cons_zero, List.set_cons_succ]
          refine wpAnyH_take (i := 11) (v := ?_) rfl (by kernel_rfl) (by kernel_rfl) (by kernel_rfl) (fun _ _ _ h => h) (Or.inl ⟨by kernel_rfl, ?_⟩) (by assumption) ?_
          rotate_left
          · intro w hSw
            (try dsimp only at hSw)
            go_simp
            first | done | with_reducible rfl
          simp only [List.getElem_toArray, List.getElem_cons_zero, List.getElem_cons_succ, Act.put, List.setIfInBounds_toArray, List.set_cons_zero, List.set_cons_succ]
          refine wpAnyH_take (i := 12) (v := ?_) rfl (by kernel_rfl) (by kernel_rfl) (by kernel_rfl) (fun _ _ _ h => h) (Or.inl ⟨by kernel_rfl, ?_⟩) (by assumption) ?_
          rotate_left
          · intro w hSw
            (try dsimp only at hSw)
            go_simp
            first | done | with_reducible rfl
          simp only [List.getElem_toArray, List.getElem_cons_zero, List.getElem_cons_succ, Act.put, List.setIfInBounds_toArray, List.set_cons_zero, List.set_cons_succ]
          refine wpAnyH_take (i := 13) (v := ?_) rfl (by kernel_rfl) (by kernel_rfl) (by kernel_rfl) (fun _ _ _ h => h) (Or.inl ⟨by kernel_rfl, ?_⟩) (by assumption) ?_
          rotate_left
          · intro w hSw
            (try dsimp only at hSw)
            go_simp
            first | done | with_reducible rfl
          simp only [List.getElem_toArray, List.getElem_cons_zero, List.getElem_cons_succ, Act.put, List.setIfInBounds_toArray, List.set_cons_zero, List.set_cons_succ]
          refine wpAnyH_ready (rs := [14]) (by kernel_rfl) (by simp) ?_
          refine AllReadyH.cons rfl (fun K hK => ?_) ?_
          · simp only [List.getElem_toArray, List.getElem_cons_zero, List.getElem_cons_succ]
            go_simp
            refine hK.out _ _ trivial (fun hHeld => ?_)
            obtain ⟨X_041014, hX_041014⟩ : ∃ x, x = w_0410.heap.size := ⟨_, rfl⟩
            obtain ⟨w_041014, hw_041014⟩ : ∃ x, x = w_0410.alloc (.cells #[.string ⟨#[]⟩, .int .i64 0, .slice none 0 0, .slice none 0 0, .int .u64 0] 43) := ⟨_, rfl⟩
            rw [← hw_041014, ← hX_041014]
            have hB_041014 : Below w_0410.heap.size w_0410 w_041014 := by rw [hw_041014]; exact bal (Below.refl _ _) _
            have bel_041014 : Below w1.heap.size w1 w_041014 := bgo bel_0410 hB_041014
            have gX_041014 : w_041014.heap[X_041014]? = some (.cells #[.string ⟨#[]⟩, .int .i64 0, .slice none 0 0, .slice none 0 0, .int .u64 0] 43) := by rw [hw_041014, hX_041014]; exact World.alloc_heap_new w_0410 _
            have hX3_041014 : w1.heap.size ≤ X_041014 := by rw [hX_041014]; exact bel_0410.size
            have hSA_041014 := hSA_0410.go hB_041014
            have hSB_041014 := hSB_0410.go hB_041014
            clear hw_041014 hX_041014
            clear hK K
            try simp only [List.getElem_toArray, List.getElem_cons_zero, List.getElem_cons_succ, Act.put, List.setIfInBounds_toArray, List.set_cons_zero, List.set_cons_succ]
            refine wpAnyH_ready (rs := [15]) (by kernel_rfl) (by simp) ?_
            refine AllReadyH.cons rfl (fun K hK => ?_) ?_
            · simp only [List.getElem_toArray, List.getElem_cons_zero, List.getElem_cons_succ]
              have x0 : w_041014.cell? ⟨X_041014, 0, none⟩ = some (.string ⟨#[]⟩) := by rw [Lib.cell_of_heap gX_041014]; rfl
              have x1 : w_041014.cell? ⟨X_041014, 1, none⟩ = some (.int .i64 0) := by rw [Lib.cell_of_heap gX_041014]; rfl
              have x2 : w_041014.cell? ⟨X_041014, 2, none⟩ = some (.slice none 0 0) := by rw [Lib.cell_of_heap gX_041014]; rfl
              have x3 : w_041014.cell? ⟨X_041014, 3, none⟩ = some (.slice none 0 0) := by rw [Lib.cell_of_heap gX_041014]; rfl
              have x4 : w_041014.cell? ⟨X_041014, 4, none⟩ = some (.int .u64 0) := by rw [Lib.cell_of_heap gX_041014]; rfl
              have yX : ∀ j, w_041014.frozen? ⟨X_041014, j, none⟩ = false := fun j => Lib.frozen_of_heap gX_041014 j
              go_simp
              clear x0 x1 x2 x3 x4 yX
              refine hK.out _ _ trivial (fun hHeld => ?_)
              clear hK K
              try simp only [List.getElem_toArray, List.getElem_cons_zero, List.getElem_cons_succ, Act.put, List.setIfInBounds_toArray, List.set_cons_zero, List.set_cons_succ]
              refine wpAnyH_take (i := 16) (v := ?_) rfl (by kernel_rfl) (by kernel_rfl) (by kernel_rfl) (fun _ _ _ h => h) (Or.inl ⟨by kernel_rfl, ?_⟩) (by assumption) ?_
              rotate_left
              · intro w hSw
                (try dsimp only at hSw)
                go_simp
                first | done | with_reducible rfl
              simp only [List.getElem_toArray, List.getElem_cons_zero, List.getElem_cons_succ, Act.put, List.setIfInBounds_toArray, List.set_cons_zero, List.set_cons_succ]
              refine wpAnyH_done (by kernel_rfl) ?_ _
              dsimp only [NoPanic]
              clear hHeld
              go_wp2_with fail
              go_meet
              obtain ⟨hnm, hbox⟩ := boxIs_of (dt := dt) hsis hd_ rfl rfl gX_041014 hSA_041014 hSB_041014 hca_ hcb_ hX3_041014 bel_041014
              exact ⟨_, _, _, _, _, _, _, _, _, _, _, _, rfl, rfl, hbox⟩
            exact AllReadyH.nil
          exact AllReadyH.nil
        refine AllReadyH.cons rfl (fun K hK => ?_) ?_
        · simp only [List.getElem_toArray, List.getElem_cons_zero, List.getElem_cons_succ]
          go_simp
          refine hK.out _ _ trivial (fun hHeld => ?_)
          obtain ⟨X_0414, hX_0414⟩ : ∃ x, x = w_04.heap.size := ⟨_, rfl⟩
          obtain ⟨w_0414, hw_0414⟩ : ∃ x, x = w_04.alloc (.cells #[.string ⟨#[]⟩, .int .i64 0, .slice none 0 0, .slice none 0 0, .int .u64 0] 43) := ⟨_, rfl⟩
          rw [← hw_0414, ← hX_0414]
          have hB_0414 : Below w_04.heap.size w_04 w_0414 := by rw [hw_0414]; exact bal (Below.refl _ _) _
          have bel_0414 : Below w1.heap.size w1 w_0414 := bgo bel_04 hB_0414
          have gX_0414 : w_0414.heap[X_0414]? = some (.cells #[.string ⟨#[]⟩, .int .i64 0, .slice none 0 0, .slice none 0 0, .int .u64 0] 43) := by rw [hw_0414, hX_0414]; exact World.alloc_heap_new w_04 _
          have hX3_0414 : w1.heap.size ≤ X_0414 := by rw [hX_0414]; exact bel_04.size
          have hc_0414 : CaseOk w_0414 (case0 LA_ AA_) := hc_04.go hB_0414
          have hs_0414 : SlipOk w_0414 s_ := hs_04.go hB_0414
          clear hw_0414 hX_0414
          clear hK K
          try simp only [List.getElem_toArray, List.getElem_cons_zero, List.getElem_cons_succ, Act.put, List.setIfInBounds_toArray, List.set_cons_zero, List.set_cons_succ]
          refine wpAnyH_ready (rs := [10]) (by kernel_rfl) (by simp) ?_
          refine AllReadyH.cons rfl (fun K hK => ?_) ?_
          · simp only [List.getElem_toArray, List.getElem_cons_zero, List.getElem_cons_succ]
            go_simp
            obtain ⟨d_, hd_⟩ : ∃ d, resS s_ sd = d := ⟨_, rfl⟩
            (with_reducible refine (Seal_at (case0 LA_ AA_) s_ sd _ _ (Lib.hid rfl) (Lib.hid rfl) d_ 0 (Lib.hid ((res_seal hsis LA_ AA_ sd Hsd.out).2.trans hd_)) (Lib.hid (res_seal hsis LA_ AA_ sd Hsd.out).1) w_0414 hc_0414 hs_0414 (hT1.go bel_0414) (sd_ok Hsd.out)).mono ?_)
            rintro e w_041410 hsh
            obtain ⟨dp, dm, dr, db, dt⟩ := d_
            obtain ⟨A_, ca_, B_, cb_, rfl, hca_, hcb_, hSA_041410, hSB_041410, hB_041410⟩ := hsh
            dsimp only at hca_ hcb_ hSA_041410 hSB_041410 ⊢
            have bel_041410 := bgo bel_0414 hB_041410
            have gX_041410 := (hB_041410.block _ (Array.getElem?_eq_some_iff.1 gX_0414).1).trans gX_0414
            refine hK.out _ _ trivial (fun hHeld => ?_)
            clear hK K
            try simp only [List.getElem_toArray, List.getElem_cons_zero, List.getElem_cons_succ, Act.put, List.setIfInBounds_toArray, List.set_cons_zero, List.set_cons_succ]
            refine wpAnyH_take (i := 11) (v := ?_) rfl (by kernel_rfl) (by kernel_rfl) (by kernel_rfl) (fun _ _ _ h => h) (Or.inl ⟨by kernel_rfl, ?_⟩) (by assumption) ?_
            rotate_left
            · intro w hSw
              (try dsimp only at hSw)
              go_simp
              first | done | with_reducible rfl
            simp only [List.getElem_toArray, List.getElem_cons_zero, List.getElem_cons_succ, Act.put, List.setIfInBounds_toArray, List.set_cons_zero, List.set_cons_succ]
            refine wpAnyH_take (i := 12) (v := ?_) rfl (by kernel_rfl) (by kernel_rfl) (by kernel_rfl) (fun _ _ _ h => h) (Or.inl ⟨by kernel_rfl, ?_⟩) (by assumption) ?_
            rotate_left
            · intro w hSw
              (try dsimp only at hSw)
              go_simp
              first | done | with_reducible rfl
            simp only [List.getElem_toArray, List.getElem_cons_zero, List.getElem_cons_succ, Act.put, List.setIfInBounds_toArray, List.set_cons_zero, List.set_cons_succ]
            refine wpAnyH_take (i := 13) (v := ?_) rfl (by kernel_rfl) (by kernel_rfl) (by kernel_rfl) (fun _ _ _ h => h) (Or.inl ⟨by kernel_rfl, ?_⟩) (by assumption) ?_
            rotate_left
            · intro w hSw
              (try dsimp only at hSw)
              go_simp
              first | done | with_reducible rfl
            simp only [List.getElem_toArray, List.getElem_cons_zero, List.getElem_cons_succ, Act.put, List.setIfInBounds_toArray, List.set_cons_zero, List.set_cons_succ]
            refine wpAnyH_ready (rs := [15]) (by kernel_rfl) (by simp) ?_
            refine AllReadyH.cons rfl (fun K hK => ?_) ?_
            · simp only [List.getElem_toArray, List.getElem_cons_zero, List.getElem_cons_succ]
              have x0 : w_041410.cell? ⟨X_0414, 0, none⟩ = some (.string ⟨#[]⟩) := by rw [Lib.cell_of_heap gX_041410]; rfl
              have x1 : w_041410.cell? ⟨X_0414, 1, none⟩ = some (.int .i64 0) := by rw [Lib.cell_of_heap gX_041410]; rfl
              have x2 : w_041410.cell? ⟨X_0414, 2, none⟩ = some (.slice none 0 0) := by rw [Lib.cell_of_heap gX_041410]; rfl
              have x3 : w_041410.cell? ⟨X_0414, 3, none⟩ = some (.slice none 0 0) := by rw [Lib.cell_of_heap gX_041410]; rfl
              have x4 : w_041410.cell? ⟨X_0414, 4, none⟩ = some (.int .u64 0) := by rw [Lib.cell_of_heap gX_041410]; rfl
              have yX : ∀ j, w_041410.frozen? ⟨X_0414, j, none⟩ = false := fun j => Lib.frozen_of_heap gX_041410 j
              go_simp
              clear x0 x1 x2 x3 x4 yX
              refine hK.out _ _ trivial (fun hHeld => ?_)
              clear hK K
              try simp only [List.getElem_toArray, List.getElem_cons_zero, List.getElem_cons_succ, Act.put, List.setIfInBounds_toArray, List.set_cons_zero, List.set_cons_succ]
              refine wpAnyH_take (i := 16) (v := ?_) rfl (by kernel_rfl) (by kernel_rfl) (by kernel_rfl) (fun _ _ _ h => h) (Or.inl ⟨by kernel_rfl, ?_⟩) (by assumption) ?_
              rotate_left
              · intro w hSw
                (try dsimp only at hSw)
                go_simp
                first | done | with_reducible rfl
              simp only [List.getElem_toArray, List.getElem_cons_zero, List.getElem_cons_succ, Act.put, List.setIfInBounds_toArray, List.set_cons_zero, List.set_cons_succ]
              refine wpAnyH_done (by kernel_rfl) ?_ _
              dsimp only [NoPanic]
              clear hHeld
              go_wp2_with fail
              go_meet
              obtain ⟨hnm, hbox⟩ := boxIs_of (dt := dt) hsis hd_ rfl rfl gX_041410 hSA_041410 hSB_041410 hca_ hcb_ hX3_0414 bel_041410
              exact ⟨_, _, _, _, _, _, _, _, _, _, _, _, rfl, rfl, hbox⟩
            exact AllReadyH.nil
          exact AllReadyH.nil
        exact AllReadyH.nil
      refine AllReadyH.cons rfl (fun K hK => ?_) ?_
      · simp only [List.getElem_toArray, List.getElem_cons_zero, List.getElem_cons_succ]
        go_simp
        refine hK.out _ _ trivial (fun hHeld => ?_)
        obtain ⟨X_014, hX_014⟩ : ∃ x, x = w_0.heap.size := ⟨_, rfl⟩
        obtain ⟨w_014, hw_014⟩ : ∃ x, x = w_0.alloc (.cells #[.string ⟨#[]⟩, .int .i64 0, .slice none 0 0, .slice none 0 0, .int .u64 0] 43) := ⟨_, rfl⟩
        rw [← hw_014, ← hX_014]
        have hB_014 : Below w_0.heap.size w_0 w_014 := by rw [hw_014]; exact bal (Below.refl _ _) _
        have bel_014 : Below w1.heap.size w1 w_014 := bgo bel_0 hB_014
        have gX_014 : w_014.heap[X_014]? = some (.cells #[.string ⟨#[]⟩, .int .i64 0, .slice none 0 0, .slice none 0 0, .int .u64 0] 43) := by rw [hw_014, hX_014]; exact World.alloc_heap_new w_0 _
        have hX3_014 : w1.heap.size ≤ X_014 := by rw [hX_014]; exact bel_0.size
        have hc_014 : CaseOk w_014 (case0 LA_ AA_) := hc_0.go hB_014
        clear hw_014 hX_014
        clear hK K
        try simp only [List.getElem_toArray, List.getElem_cons_zero, List.getElem_cons_succ, Act.put, List.setIfInBounds_toArray, List.set_cons_zero, List.set_cons_succ]
        refine wpAnyH_ready (rs := [4]) (by kernel_rfl) (by simp) ?_
        refine AllReadyH.cons rfl (fun K hK => ?_) ?_
        · simp only [List.getElem_toArray, List.getElem_cons_zero, List.getElem_cons_succ]
          go_simp
          (with_reducible refine (result_at month LA lc ls N OA oc os M w_014 HN HM Hmo Hls Hos (HL.out.go bel_014) (HO.out.go bel_014)).mono ?_)
          rintro e w_0144 ⟨s_, rfl, hs_0144, hsis, hscap, hB_0144⟩
          dsimp only
          have bel_0144 := bgo bel_014 hB_0144
          have hc_0144 : CaseOk w_0144 (case0 LA_ AA_) := hc_014.go hB_0144
          have gX_0144 := (hB_0144.block _ (Array.getElem?_eq_some_iff.1 gX_014).1).trans gX_014
          refine hK.out _ _ trivial (fun hHeld => ?_)
          clear hK K
          try simp only [List.getElem_toArray, List.getElem_cons_zero, List.getElem_cons_succ, Act.put, List.setIfInBounds_toArray, List.set_cons_zero, List.set_cons_succ]
          refine wpAnyH_ready (rs := [10]) (by kernel_rfl) (by simp) ?_
          refine AllReadyH.cons rfl (fun K hK => ?_) ?_
          · simp only [List.getElem_toArray, List.getElem_cons_zero, List.getElem_cons_succ]
            go_simp
            obtain ⟨d_, hd_⟩ : ∃ d, resS s_ sd = d := ⟨_, rfl⟩
            (with_reducible refine (Seal_at (case0 LA_ AA_) s_ sd _ _ (Lib.hid rfl) (Lib.hid rfl) d_ 0 (Lib.hid ((res_seal hsis LA_ AA_ sd Hsd.out).2.trans hd_)) (Lib.hid (res_seal hsis LA_ AA_ sd Hsd.out).1) w_0144 hc_0144 hs_0144 (hT1.go bel_0144) (sd_ok Hsd.out)).mono ?_)
            rintro e w_014410 hsh
            obtain ⟨dp, dm, dr, db, dt⟩ := d_
            obtain ⟨A_, ca_, B_, cb_, rfl, hca_, hcb_, hSA_014410, hSB_014410, hB_014410⟩ := hsh
            dsimp only at hca_ hcb_ hSA_014410 hSB_014410 ⊢
            have bel_014410 := bgo bel_0144 hB_014410
            have gX_014410 := (hB_014410.block _ (Array.getElem?_eq_some_iff.1 gX_0144).1).trans gX_0144
            refine hK.out _ _ trivial (fun hHeld => ?_)
            clear hK K
            try simp only [List.getElem_toArray, List.getElem_cons_zero, List.getElem_cons_succ, Act.put, List.setIfInBounds_toArray, List.set_cons_zero, List.set_cons_succ]
            refine wpAnyH_take (i := 11) (v := ?_) rfl (by kernel_rfl) (by kernel_rfl) (by kernel_rfl) (fun _ _ _ h => h) (Or.inl ⟨by kernel_rfl, ?_⟩) (by assumption) ?_
            rotate_left
            · intro w hSw
              (try dsimp only at hSw)
              go_simp
              first | done | with_reducible rfl
            simp only [List.getElem_toArray, List.getElem_cons_zero, List.getElem_cons_succ, Act.put, List.setIfInBounds_toArray, List.set_cons_zero, List.set_cons_succ]
            refine wpAnyH_take (i := 12) (v := ?_) rfl (by kernel_rfl) (by kernel_rfl) (by kernel_rfl) (fun _ _ _ h => h) (Or.inl ⟨by kernel_rfl, ?_⟩) (by assumption) ?_
            rotate_left
            · intro w hSw
              (try dsimp only at hSw)
              go_simp
              first | done | with_reducible rfl
            simp only [List.getElem_toArray, List.getElem_cons_zero, List.getElem_cons_succ, Act.put, List.setIfInBounds_toArray, List.set_cons_zero, List.set_cons_succ]
            refine wpAnyH_take (i := 13) (v := ?_) rfl (by kernel_rfl) (by kernel_rfl) (by kernel_rfl) (fun _ _ _ h => h) (Or.inl ⟨by kernel_rfl, ?_⟩) (by assumption) ?_
            rotate_left
            · intro w hSw
              (try dsimp only at hSw)
              go_simp
              first | done | with_reducible rfl
            simp only [List.getElem_toArray, List.getElem_cons_zero, List.getElem_cons_succ, Act.put, List.setIfInBounds_toArray, List.set_cons_zero, List.set_cons_succ]
            refine wpAnyH_ready (rs := [15]) (by kernel_rfl) (by simp) ?_
            refine AllReadyH.cons rfl (fun K hK => ?_) ?_
            · simp only [List.getElem_toArray, List.getElem_cons_zero, List.getElem_cons_succ]
              have x0 : w_014410.cell? ⟨X_014, 0, none⟩ = some (.string ⟨#[]⟩) := by rw [Lib.cell_of_heap gX_014410]; rfl
              have x1 : w_014410.cell? ⟨X_014, 1, none⟩ = some (.int .i64 0) := by rw [Lib.cell_of_heap gX_014410]; rfl
              have x2 : w_014410.cell? ⟨X_014, 2, none⟩ = some (.slice none 0 0) := by rw [Lib.cell_of_heap gX_014410]; rfl
              have x3 : w_014410.cell? ⟨X_014, 3, none⟩ = some (.slice none 0 0) := by rw [Lib.cell_of_heap gX_014410]; rfl
              have x4 : w_014410.cell? ⟨X_014, 4, none⟩ = some (.int .u64 0) := by rw [Lib.cell_of_heap gX_014410]; rfl
              have yX : ∀ j, w_014410.frozen? ⟨X_014, j, none⟩ = false := fun j => Lib.frozen_of_heap gX_014410 j
              go_simp
              clear x0 x1 x2 x3 x4 yX
              refine hK.out _ _ trivial (fun hHeld => ?_)
              clear hK K
              try simp only [List.getElem_toArray, List.getElem_cons_zero, List.getElem_cons_succ, Act.put, List.setIfInBounds_toArray, List.set_cons_zero, List.set_cons_succ]
              refine wpAnyH_take (i := 16) (v := ?_) rfl (by kernel_rfl) (by kernel_rfl) (by kernel_rfl) (fun _ _ _ h => h) (Or.inl ⟨by kernel_rfl, ?_⟩) (by assumption) ?_
              rotate_left
              · intro w hSw
                (try dsimp only at hSw)
                go_simp
                first | done | with_reducible rfl
              simp only [List.getElem_toArray, List.getElem_cons_zero, List.getElem_cons_succ, Act.put, List.setIfInBounds_toArray, List.set_cons_zero, List.set_cons_succ]
              refine wpAnyH_done (by kernel_rfl) ?_ _
              dsimp only [NoPanic]
              clear hHeld
              go_wp2_with fail
              go_meet
              obtain ⟨hnm, hbox⟩ := boxIs_of (dt := dt) hsis hd_ rfl rfl gX_014410 hSA_014410 hSB_014410 hca_ hcb_ hX3_014 bel_014410
              exact ⟨_, _, _, _, _, _, _, _, _, _, _, _, rfl, rfl, hbox⟩
            exact AllReadyH.nil
          exact AllReadyH.nil
        exact AllReadyH.nil
      exact AllReadyH.nil
    refine AllReadyH.cons rfl (fun K hK => ?_) ?_
    · simp only [List.getElem_toArray, List.getElem_cons_zero, List.getElem_cons_succ]
      go_simp
      refine hK.out _ _ trivial (fun hHeld => ?_)
      obtain ⟨X_14, hX_14⟩ : ∃ x, x = w1.heap.size := ⟨_, rfl⟩
      obtain ⟨w_14, hw_14⟩ : ∃ x, x = (w1.alloc (.cells #[.string ⟨#[]⟩, .int .i64 0, .slice none 0 0, .slice none 0 0, .int .u64 0] 43)).drew := ⟨_, rfl⟩
      rw [← hw_14, ← hX_14]
      have hB_14 : Below w1.heap.size w1 w_14 := by rw [hw_14]; exact (bal (Below.refl _ _) _).drew
      have bel_14 : Below w1.heap.size w1 w_14 := hB_14
      have gX_14 : w_14.heap[X_14]? = some (.cells #[.string ⟨#[]⟩, .int .i64 0, .slice none 0 0, .slice none 0 0, .int .u64 0] 43) := by rw [hw_14, hX_14]; exact World.alloc_heap_new w1 _
      have hX3_14 : w1.heap.size ≤ X_14 := by rw [hX_14]; exact Nat.le_refl _
      clear hw_14 hX_14
      clear hK K
      try simp only [List.getElem_toArray, List.getElem_cons_zero, List.getElem_cons_succ, Act.put, List.setIfInBounds_toArray, List.set_cons_zero, List.set_cons_succ]
      refine wpAnyH_ready (rs := [0]) (by kernel_rfl) (by simp) ?_
      refine AllReadyH.cons rfl (fun K hK => ?_) ?_
      · simp only [List.getElem_toArray, List.getElem_cons_zero, List.getElem_cons_succ]
        go_simp
        (with_reducible refine (case_any w_14).mono ?_)
        rintro e w_140 hcp
        obtain ⟨LA_, AA_, rfl, hc_140, hB_140⟩ := hcp
        dsimp only
        have bel_140 := bgo bel_14 hB_140
        have gX_140 := (hB_140.block _ (Array.getElem?_eq_some_iff.1 gX_14).1).trans gX_14
        refine hK.out _ _ trivial (fun hHeld => ?_)
        clear hK K
        try simp only [List.getElem_toArray, List.getElem_cons_zero, List.getElem_cons_succ, Act.put, List.setIfInBounds_toArray, List.set_cons_zero, List.set_cons_succ]
        refine wpAnyH_ready (rs := [4]) (by kernel_rfl) (by simp) ?_
        refine AllReadyH.cons rfl (fun K hK => ?_) ?_
        · simp only [List.getElem_toArray, List.getElem_cons_zero, List.getElem_cons_succ]
          go_simp
          (with_reducible refine (result_at month LA lc ls N OA oc os M w_140 HN HM Hmo Hls Hos (HL.out.go bel_140) (HO.out.go bel_140)).mono ?_)
          rintro e w_1404 ⟨s_, rfl, hs_1404, hsis, hscap, hB_1404⟩
          dsimp only
          have bel_1404 := bgo bel_140 hB_1404
          have hc_1404 : CaseOk w_1404 (case0 LA_ AA_) := hc_140.go hB_1404
          have gX_1404 := (hB_1404.block _ (Array.getElem?_eq_some_iff.1 gX_140).1).trans gX_140
          refine hK.out _ _ trivial (fun hHeld => ?_)
          clear hK K
          try simp only [List.getElem_toArray, List.getElem_cons_zero, List.getElem_cons_succ, Act.put, List.setIfInBounds_toArray, List.set_cons_zero, List.set_cons_succ]
          refine wpAnyH_ready (rs := [10]) (by kernel_rfl) (by simp) ?_
          refine AllReadyH.cons rfl (fun K hK => ?_) ?_
          · simp only [List.getElem_toArray, List.getElem_cons_zero, List.getElem_cons_succ]
            go_simp
            obtain ⟨d_, hd_⟩ : ∃ d, resS s_ sd = d := ⟨_, rfl⟩
            (with_reducible refine (Seal_at (case0 LA_ AA_) s_ sd _ _ (Lib.hid rfl) (Lib.hid rfl) d_ 0 (Lib.hid ((res_seal hsis LA_ AA_ sd Hsd.out).2.trans hd_)) (Lib.hid (res_seal hsis LA_ AA_ sd Hsd.out).1) w_1404 hc_1404 hs_1404 (hT1.go bel_1404) (sd_ok Hsd.out)).mono ?_)
            rintro e w_140410 hsh
            obtain ⟨dp, dm, dr, db, dt⟩ := d_
            obtain ⟨A_, ca_, B_, cb_, rfl, hca_, hcb_, hSA_140410, hSB_140410, hB_140410⟩ := hsh
            dsimp only at hca_ hcb_ hSA_140410 hSB_140410 ⊢
            have bel_140410 := bgo bel_1404 hB_140410
            have gX_140410 := (hB_140410.block _ (Array.getElem?_eq_some_iff.1 gX_1404).1).trans gX_1404
            refine hK.out _ _ trivial (fun hHeld => ?_)
            clear hK K
            try simp only [List.getElem_toArray, List.getElem_cons_zero, List.getElem_cons_succ, Act.put, List.setIfInBounds_toArray, List.set_cons_zero, List.set_cons_succ]
            refine wpAnyH_take (i := 11) (v := ?_) rfl (by kernel_rfl) (by kernel_rfl) (by kernel_rfl) (fun _ _ _ h => h) (Or.inl ⟨by kernel_rfl, ?_⟩) (by assumption) ?_
            rotate_left
            · intro w hSw
              (try dsimp only at hSw)
              go_simp
              first | done | with_reducible rfl
            simp only [List.getElem_toArray, List.getElem_cons_zero, List.getElem_cons_succ, Act.put, List.setIfInBounds_toArray, List.set_cons_zero, List.set_cons_succ]
            refine wpAnyH_take (i := 12) (v := ?_) rfl (by kernel_rfl) (by kernel_rfl) (by kernel_rfl) (fun _ _ _ h => h) (Or.inl ⟨by kernel_rfl, ?_⟩) (by assumption) ?_
            rotate_left
            · intro w hSw
              (try dsimp only at hSw)
              go_simp
              first | done | with_reducible rfl
            simp only [List.getElem_toArray, List.getElem_cons_zero, List.getElem_cons_succ, Act.put, List.setIfInBounds_toArray, List.set_cons_zero, List.set_cons_succ]
            refine wpAnyH_take (i := 13) (v := ?_) rfl (by kernel_rfl) (by kernel_rfl) (by kernel_rfl) (fun _ _ _ h => h) (Or.inl ⟨by kernel_rfl, ?_⟩) (by assumption) ?_
            rotate_left
            · intro w hSw
              (try dsimp only at hSw)
              go_simp
              first | done | with_reducible rfl
            simp only [List.getElem_toArray, List.getElem_cons_zero, List.getElem_cons_succ, Act.put, List.setIfInBounds_toArray, List.set_cons_zero, List.set_cons_succ]
            refine wpAnyH_ready (rs := [15]) (by kernel_rfl) (by simp) ?_
            refine AllReadyH.cons rfl (fun K hK => ?_) ?_
            · simp only [List.getElem_toArray, List.getElem_cons_zero, List.getElem_cons_succ]
              have x0 : w_140410.cell? ⟨X_14, 0, none⟩ = some (.string ⟨#[]⟩) := by rw [Lib.cell_of_heap gX_140410]; rfl
              have x1 : w_140410.cell? ⟨X_14, 1, none⟩ = some (.int .i64 0) := by rw [Lib.cell_of_heap gX_140410]; rfl
              have x2 : w_140410.cell? ⟨X_14, 2, none⟩ = some (.slice none 0 0) := by rw [Lib.cell_of_heap gX_140410]; rfl
              have x3 : w_140410.cell? ⟨X_14, 3, none⟩ = some (.slice none 0 0) := by rw [Lib.cell_of_heap gX_140410]; rfl
              have x4 : w_140410.cell? ⟨X_14, 4, none⟩ = some (.int .u64 0) := by rw [Lib.cell_of_heap gX_140410]; rfl
              have yX : ∀ j, w_140410.frozen? ⟨X_14, j, none⟩ = false := fun j => Lib.frozen_of_heap gX_140410 j
              go_simp
              clear x0 x1 x2 x3 x4 yX
              refine hK.out _ _ trivial (fun hHeld => ?_)
              clear hK K
              try simp only [List.getElem_toArray, List.getElem_cons_zero, List.getElem_cons_succ, Act.put, List.setIfInBounds_toArray, List.set_cons_zero, List.set_cons_succ]
              refine wpAnyH_take (i := 16) (v := ?_) rfl (by kernel_rfl) (by kernel_rfl) (by kernel_rfl) (fun _ _ _ h => h) (Or.inl ⟨by kernel_rfl, ?_⟩) (by assumption) ?_
              rotate_left
              · intro w hSw
                (try dsimp only at hSw)
                go_simp
                first | done | with_reducible rfl
              simp only [List.getElem_toArray, List.getElem_cons_zero, List.getElem_cons_succ, Act.put, List.setIfInBounds_toArray, List.set_cons_zero, List.set_cons_succ]
              refine wpAnyH_done (by kernel_rfl) ?_ _
              dsimp only [NoPanic]
              clear hHeld
              go_wp2_with fail
              go_meet
              obtain ⟨hnm, hbox⟩ := boxIs_of (dt := dt) hsis hd_ rfl rfl gX_140410 hSA_140410 hSB_140410 hca_ hcb_ hX3_14 bel_140410
              exact ⟨_, _, _, _, _, _, _, _, _, _, _, _, rfl, rfl, hbox⟩
            exact AllReadyH.nil
          exact AllReadyH.nil
        exact AllReadyH.nil
      exact AllReadyH.nil
    exact AllReadyH.nil
  case rest =>
    obtain ⟨X, s, A, ca, B, cb, n, dp, dm, dr, db, dt, rfl, rfl, hbox⟩ := hcut
    have HX := Lib.hid hbox
    obtain ⟨h1, h2, h3, h4, h5, h6, h7, h8⟩ := box_rows hbox.d hbox.is
    have hn5 := hbox.n5
    have hn30 := hbox.n30
    have hcb : ∀ j, -100000000 ≤ (dr.map (·.c)).getD j 0 ∧ (dr.map (·.c)).getD j 0 ≤ 100000000 := by
      intro j
      by_cases hj : j < dr.length
      · have e : (dr.map (·.c)).getD j 0 = dr[j].c := by simp [List.getD, hj]
        rw [e]
        exact res_in hbox.is _ (by rw [← h1]; exact List.getElem_mem hj)
      · have e : (dr.map (·.c)).getD j 0 = 0 := by simp [List.getD, show ¬ j < dr.length from hj]
        rw [e]; omega
    have hbb : ∀ j, j < n → 0 ≤ db.getD j 0 ∧ db.getD j 0 < 1073741789 := by
      intro j hj
      have hjl : j < db.length := by rw [hbox.n2]; exact hj
      have e : db.getD j 0 = db[j] := by simp [List.getD, hjl]
      rw [e]
      exact blindL_bd _ (by rw [← h2]; exact List.getElem_mem hjl)
    have Hps := Lib.hid (prodK_sum (dr.map (·.c)) db n hbb)
    have Hcs := Lib.hid (sumK_bd (dr.map (·.c)) 100000000 (by omega) hcb)
    have Hcb := Lib.hid hcb
    have Hbb := Lib.hid hbb
    have x2 : wc.cell? ⟨X, 2, none⟩ = some (.slice A n ca) := by rw [Lib.cell_of_heap hbox.g]; rfl
    have x3 : wc.cell? ⟨X, 3, none⟩ = some (.slice B n cb) := by rw [Lib.cell_of_heap hbox.g]; rfl
    have hne : ((n : Int) != (n : Int)) = false := by simp
    clear hbox h1 h2 h3 h4 h5 h6 h7 h8 hcb hbb hsd1
    go_wp2_with fail
    clear x2 x3 hne
    go_loopw [9, 12, 13, 14, 15] (fun up pr sm bd ix wr => ∃ k : Nat, k ≤ n ∧ ix = .int .i64 (k : Int) ∧ up = .bool true ∧ pr = .int .i64 (prodK (dr.map (·.c)) db k) ∧ sm = .int .i64 (sumK (dr.map (·.c)) k) ∧ bd = .int .i64 (sumK db k % 1073741789) ∧ BoxIs w1 month ls os s sd X A ca B cb n dp dm dr db dt wr) (fun _ _ _ _ ix _ => n - (intOf ix).toNat)
    case atStart => exact ⟨0, Nat.zero_le _, rfl, rfl, rfl, rfl, rfl, HX.out⟩
    case round =>
      obtain ⟨k, hk, rfl, rfl, rfl, rfl, rfl, hbx⟩ := hrel
      have HB := Lib.hid hbx
      have x2 : wr.cell? ⟨X, 2, none⟩ = some (.slice A n ca) := by rw [Lib.cell_of_heap hbx.g]; rfl
      have x3 : wr.cell? ⟨X, 3, none⟩ = some (.slice B n cb) := by rw [Lib.cell_of_heap hbx.g]; rfl
      by_cases hlt : k < n
      · have hlt' : (k : Int) < (n : Int) := by omega
        obtain ⟨b1, o1, rfl, hb1', hc1⟩ := hbx.sa.2 (by omega)
        obtain ⟨b2, o2, rfl, hb2', hc2⟩ := hbx.sb.2 (by omega)
        have hkr : k < dr.length := by rw [hbx.n1]; exact hlt
        have hkb : k < db.length := by rw [hbx.n2]; exact hlt
        have hget := flat_get rowV 3 (fun _ => rfl) dr k hkr
        have hcg : (dr.map (·.c)).getD k 0 = dr[k].c := by simp [List.getD, hkr]
        have y1 : wr.cell? ⟨b1, o1 + k * 3 + 1, none⟩ = some (.int .i64 dr[k].c) := hc1 _ _ (hget 1 (by decide))
        have y2 : wr.cell? ⟨b2, o2 + k, none⟩ = some (.int .i64 (db.getD k 0)) := hc2 _ _ (intV_get db k hkb)
        have hcc := Hcb.out k
        have hbb := Hbb.out k hlt
        have hsk := Hcs.out k
        have hpe := (Hps.out k (by omega)).2
        have hpp : prodK (dr.map (·.c)) db (k + 1) = prodK (dr.map (·.c)) db k * commitI ((dr.map (·.c)).getD k 0 % 1073741789) (db.getD k 0) % 2147483579 := rfl
        have hs1 : sumK (dr.map (·.c)) (k + 1) = sumK (dr.map (·.c)) k + (dr.map (·.c)).getD k 0 := rfl
        have hs2 : sumK db (k + 1) = sumK db k + db.getD k 0 := rfl
        rw [← hcg] at y1
        obtain ⟨c, hc⟩ : ∃ c, (dr.map (·.c)).getD k 0 = c := ⟨_, rfl⟩
        obtain ⟨b, hb⟩ : ∃ c, db.getD k 0 = c := ⟨_, rfl⟩
        obtain ⟨pr, hpr⟩ : ∃ c, prodK (dr.map (·.c)) db k = c := ⟨_, rfl⟩
        obtain ⟨sm, hsm⟩ : ∃ c, sumK (dr.map (·.c)) k = c := ⟨_, rfl⟩
        obtain ⟨bd, hbd⟩ : ∃ c, sumK db k % 1073741789 = c := ⟨_, rfl⟩
        obtain ⟨v, hv⟩ : ∃ v, c % 1073741789 = v := ⟨_, rfl⟩
        obtain ⟨q, hq⟩ : ∃ q, commitI v b = q := ⟨_, rfl⟩
        rw [hc] at y1 hcc hpp hs1
        rw [hb] at y2 hbb hpp hs2
        rw [hpr] at hpe hpp ⊢
        rw [hsm] at hsk hs1 ⊢
        rw [hbd]
        rw [hv, hq] at hpp
        have hbdb : 0 ≤ bd ∧ bd < 1073741789 := by omega
        have hk8 : (k : Int) * 100000000 ≤ 30 * 100000000 := by omega
        have hv1 : 0 ≤ v ∧ v < 1073741789 := by omega
        have hw1 : IntKind.i64.wrap (sm + c) = sm + c := IntWalk.i64_in _ (by omega)
        have hw2 : IntKind.i64.wrap (bd + b) = bd + b := IntWalk.i64_in _ (by omega)
        have hs3 : sumK db (k + 1) % 1073741789 = (bd + b) % 1073741789 := by rw [hs2]; omega
        have hw3 : (bd + b).tmod 1073741789 = (bd + b) % 1073741789 := Int.tmod_eq_emod_of_nonneg (by omega)
        have Hq : Hid (comI v b = q) := Lib.hid (by unfold comI; rw [if_pos hbb]; exact hq)
        have He : Hid (comE b = 0) := Lib.hid (by unfold comE; rw [if_pos hbb])
        have Hv := Lib.hid hv
        have Hel1 := Lib.hid hpe
        have Hel2 : Hid (elB q = true) := Lib.hid (by rw [← hq]; exact pcommit_elI _ _ hv1.1 hbb.1)
        have Hnx := Lib.hid (And.intro hpp (And.intro hs1 hs3))
        have hS : RndC X b1 (o1 + k * 3 + 1) b2 (o2 + k) (some ⟨b1, o1, none⟩) n ca (some ⟨b2, o2, none⟩) cb c b wr := ⟨x2, x3, (Array.getElem?_eq_some_iff.1 hbx.g).1, y1, hb1', y2, hb2'⟩
        have HS := Lib.hid hS
        have HSd := Lib.hid (hS.go (Below.refl wr.heap.size wr).drew)
        have hTr : PTabs wr := hT1.go hbx.bel
        have hTd : PTabs wr.drew := hTr.go (Below.refl wr.heap.size wr).drew
        clear hbx hS y1 y2 hget hcg hc1 hc2 hpe hpp hs1 hs2 hs3 hc hb hpr hsm hbd hv hq hkr hkb x3 hsk hcc
        go_upto_region 11 with fail
        refine wp_region_noPanic ?_
        refine wp_region_held_drew (S := fun W' => RndC X b1 (o1 + k * 3 + 1) b2 (o2 + k) (some ⟨b1, o1, none⟩) n ca (some ⟨b2, o2, none⟩) cb c b W') (by kernel_rfl) HSd.out (fun hHeld => ?_)
        refine wpAnyH_take (i := 0) (v := ?_) rfl (by kernel_rfl) (by kernel_rfl) (by kernel_rfl) (fun _ _ _ h => h) (Or.inl ⟨by kernel_rfl, ?_⟩) (by assumption) ?_
        rotate_left
        · intro w hSw
          (try dsimp only at hSw)
          go_simp
          first | done | with_reducible rfl
        simp only [List.getElem_toArray, List.getElem_cons_zero, List.getElem_cons_succ, Act.put, List.setIfInBounds_toArray, List.set_cons_zero, List.set_cons_succ]
        refine wpAnyH_take (i := 1) (v := ?_) rfl (by kernel_rfl) (by kernel_rfl) (by kernel_rfl) (fun _ _ _ h => h) (Or.inl ⟨by kernel_rfl, ?_⟩) (by assumption) ?_
        rotate_left
        · intro w hSw
          (try dsimp only at hSw)
          have z := hSw.x2
          go_simp
          first | done | with_reducible rfl
        simp only [List.getElem_toArray, List.getElem_cons_zero, List.getElem_cons_succ, Act.put, List.setIfInBounds_toArray, List.set_cons_zero, List.set_cons_succ]
        refine wpAnyH_take (i := 2) (v := ?_) rfl (by kernel_rfl) (by kernel_rfl) (by kernel_rfl) (fun _ _ _ h => h) (Or.inl ⟨by kernel_rfl, ?_⟩) (by assumption) ?_
        rotate_left
        · intro w hSw
          (try dsimp only at hSw)
          go_simp
          first | done | with_reducible rfl
        simp only [List.getElem_toArray, List.getElem_cons_zero, List.getElem_cons_succ, Act.put, List.setIfInBounds_toArray, List.set_cons_zero, List.set_cons_succ]
        refine wpAnyH_take (i := 3) (v := ?_) rfl (by kernel_rfl) (by kernel_rfl) (by kernel_rfl) (fun _ _ _ h => h) (Or.inl ⟨by kernel_rfl, ?_⟩) (by assumption) ?_
        rotate_left
        · intro w hSw
          (try dsimp only at hSw)
          go_simp
          first | done | with_reducible rfl
        simp only [List.getElem_toArray, List.getElem_cons_zero, List.getElem_cons_succ, Act.put, List.setIfInBounds_toArray, List.set_cons_zero, List.set_cons_succ]
        refine wpAnyH_take (i := 4) (v := ?_) rfl (by kernel_rfl) (by kernel_rfl) (by kernel_rfl) (fun _ _ _ h => h) (Or.inl ⟨by kernel_rfl, ?_⟩) (by assumption) ?_
        rotate_left
        · intro w hSw
          (try dsimp only at hSw)
          go_simp
          first | done | with_reducible rfl
        simp only [List.getElem_toArray, List.getElem_cons_zero, List.getElem_cons_succ, Act.put, List.setIfInBounds_toArray, List.set_cons_zero, List.set_cons_succ]
        refine wpAnyH_take (i := 5) (v := ?_) rfl (by kernel_rfl) (by kernel_rfl) (by kernel_rfl) (fun _ _ _ h => h) (Or.inl ⟨by kernel_rfl, ?_⟩) (by assumption) ?_
        rotate_left
        · intro w hSw
          (try dsimp only at hSw)
          have z := hSw.c
          go_simp
          first | done | with_reducible rfl
        simp only [List.getElem_toArray, List.getElem_cons_zero, List.getElem_cons_succ, Act.put, List.setIfInBounds_toArray, List.set_cons_zero, List.set_cons_succ]
        refine wpAnyH_take (i := 7) (v := ?_) rfl (by kernel_rfl) (by kernel_rfl) (by kernel_rfl) (fun _ _ _ h => h) (Or.inl ⟨by kernel_rfl, ?_⟩) (by assumption) ?_
        rotate_left
        · intro w hSw
          (try dsimp only at hSw)
          go_simp
          first | done | with_reducible rfl
        simp only [List.getElem_toArray, List.getElem_cons_zero, List.getElem_cons_succ, Act.put, List.setIfInBounds_toArray, List.set_cons_zero, List.set_cons_succ]
        refine wpAnyH_take (i := 8) (v := ?_) rfl (by kernel_rfl) (by kernel_rfl) (by kernel_rfl) (fun _ _ _ h => h) (Or.inl ⟨by kernel_rfl, ?_⟩) (by assumption) ?_
        rotate_left
        · intro w hSw
          (try dsimp only at hSw)
          have z := hSw.x3
          go_simp
          first | done | with_reducible rfl
        simp only [List.getElem_toArray, List.getElem_cons_zero, List.getElem_cons_succ, Act.put, List.setIfInBounds_toArray, List.set_cons_zero, List.set_cons_succ]
        refine wpAnyH_take (i := 9) (v := ?_) rfl (by kernel_rfl) (by kernel_rfl) (by kernel_rfl) (fun _ _ _ h => h) (Or.inl ⟨by kernel_rfl, ?_⟩) (by assumption) ?_
        rotate_left
        · intro w hSw
          (try dsimp only at hSw)
          go_simp
          first | done | with_reducible rfl
        simp only [List.getElem_toArray, List.getElem_cons_zero, List.getElem_cons_succ, Act.put, List.setIfInBounds_toArray, List.set_cons_zero, List.set_cons_succ]
        refine wpAnyH_take (i := 10) (v := ?_) rfl (by kernel_rfl) (by kernel_rfl) (by kernel_rfl) (fun _ _ _ h => h) (Or.inl ⟨by kernel_rfl, ?_⟩) (by assumption) ?_
        rotate_left
        · intro w hSw
          (try dsimp only at hSw)
          go_simp
          first | done | with_reducible rfl
        simp only [List.getElem_toArray, List.getElem_cons_zero, List.getElem_cons_succ, Act.put, List.setIfInBounds_toArray, List.set_cons_zero, List.set_cons_succ]
        refine wpAnyH_take (i := 11) (v := ?_) rfl (by kernel_rfl) (by kernel_rfl) (by kernel_rfl) (fun _ _ _ h => h) (Or.inl ⟨by kernel_rfl, ?_⟩) (by assumption) ?_
        rotate_left
        · intro w hSw
          (try dsimp only at hSw)
          have z := hSw.b
          go_simp
          first | done | with_reducible rfl
        simp only [List.getElem_toArray, List.getElem_cons_zero, List.getElem_cons_succ, Act.put, List.setIfInBounds_toArray, List.set_cons_zero, List.set_cons_succ]
        refine wpAnyH_ready (rs := [6]) (by kernel_rfl) (by simp) ?_
        refine AllReadyH.cons rfl (fun K hK => ?_) AllReadyH.nil
        simp only [List.getElem_toArray, List.getElem_cons_zero, List.getElem_cons_succ]
        go_simp
        (with_reducible refine (pvalue_any c v Hv wr.drew).mono ?_)
        rintro e w2 ⟨rfl, hB2⟩
        dsimp only
        have HS2 := Lib.hid (HSd.out.go hB2)
        have hT2 := hTd.go hB2
        refine hK.out _ _ HS2.out (fun hHeld => ?_)
        clear hK K
        try simp only [List.getElem_toArray, List.getElem_cons_zero, List.getElem_cons_succ, Act.put, List.setIfInBounds_toArray, List.set_cons_zero, List.set_cons_succ]
        refine wpAnyH_ready (rs := [12]) (by kernel_rfl) (by simp) ?_
        refine AllReadyH.cons rfl (fun K hK => ?_) AllReadyH.nil
        simp only [List.getElem_toArray, List.getElem_cons_zero, List.getElem_cons_succ]
        go_simp
        (with_reducible refine (commit_at v b q 0 Hq He hv1.1 hv1.2 w2 hT2.grp).mono ?_)
        rintro e w3 ⟨rfl, hB3⟩
        dsimp only
        have HS3 := Lib.hid (HS2.out.go hB3)
        refine hK.out _ _ HS3.out (fun hHeld => ?_)
        clear hK K
        try simp only [List.getElem_toArray, List.getElem_cons_zero, List.getElem_cons_succ, Act.put, List.setIfInBounds_toArray, List.set_cons_zero, List.set_cons_succ]
        refine wpAnyH_take (i := 13) (v := ?_) rfl (by kernel_rfl) (by kernel_rfl) (by kernel_rfl) (fun _ _ _ h => h) (Or.inl ⟨by kernel_rfl, ?_⟩) (by assumption) ?_
        rotate_left
        · intro w hSw
          (try dsimp only at hSw)
          go_simp
          first | done | with_reducible rfl
        simp only [List.getElem_toArray, List.getElem_cons_zero, List.getElem_cons_succ, Act.put, List.setIfInBounds_toArray, List.set_cons_zero, List.set_cons_succ]
        refine wpAnyH_take (i := 14) (v := ?_) rfl (by kernel_rfl) (by kernel_rfl) (by kernel_rfl) (fun _ _ _ h => h) (Or.inl ⟨by kernel_rfl, ?_⟩) (by assumption) ?_
        rotate_left
        · intro w hSw
          (try dsimp only at hSw)
          go_simp
          first | done | with_reducible rfl
        simp only [List.getElem_toArray, List.getElem_cons_zero, List.getElem_cons_succ, Act.put, List.setIfInBounds_toArray, List.set_cons_zero, List.set_cons_succ]
        refine wpAnyH_take (i := 15) (v := ?_) rfl (by kernel_rfl) (by kernel_rfl) (by kernel_rfl) (fun _ _ _ h => h) (Or.inl ⟨by kernel_rfl, ?_⟩) (by assumption) ?_
        rotate_left
        · intro w hSw
          (try dsimp only at hSw)
          go_simp
          first | done | with_reducible rfl
        simp only [List.getElem_toArray, List.getElem_cons_zero, List.getElem_cons_succ, Act.put, List.setIfInBounds_toArray, List.set_cons_zero, List.set_cons_succ]
        refine wpAnyH_take (i := 16) (v := ?_) rfl (by kernel_rfl) (by kernel_rfl) (by kernel_rfl) (fun _ _ _ h => h) (Or.inl ⟨by kernel_rfl, ?_⟩) (by assumption) ?_
        rotate_left
        · intro w hSw
          (try dsimp only at hSw)
          go_simp
          first | done | with_reducible rfl
        simp only [List.getElem_toArray, List.getElem_cons_zero, List.getElem_cons_succ, Act.put, List.setIfInBounds_toArray, List.set_cons_zero, List.set_cons_succ]
        refine wpAnyH_take (i := 17) (v := ?_) rfl (by kernel_rfl) (by kernel_rfl) (by kernel_rfl) (fun _ _ _ h => h) (Or.inl ⟨by kernel_rfl, ?_⟩) (by assumption) ?_
        rotate_left
        · intro w hSw
          (try dsimp only at hSw)
          go_simp
          first | done | with_reducible rfl
        simp only [List.getElem_toArray, List.getElem_cons_zero, List.getElem_cons_succ, Act.put, List.setIfInBounds_toArray, List.set_cons_zero, List.set_cons_succ]
        refine wpAnyH_done (by kernel_rfl) ?_ _
        dsimp only [NoPanic]
        clear hHeld
        have HB3 := Lib.hid (HB.out.go (bgo (Below.refl wr.heap.size wr).drew (bgo hB2 hB3)))
        have z2 := HS3.out.x2
        have z3 := HS3.out.x3
        have zc := HS3.out.c
        have zb := HS3.out.b
        clear hB2 hB3 HS2 hT2 hTr hTd HSd HS x2
        go_upto_region 12 with fail
        clear z2 z3 zc zb
        go_wp2_with fail
        refine (add_ok pr q Hel1 Hel2 w3).mono ?_
        rintro e w4 ⟨rfl, hB4⟩
        have HS4 := Lib.hid (HS3.out.go hB4)
        have HB4 := Lib.hid (HB3.out.go hB4)
        have z2 := HS4.out.x2
        have z3 := HS4.out.x3
        have zc := HS4.out.c
        have zb := HS4.out.b
        clear HS3 HB3 hB4
        go_wp2_with fail
        go_roundw
        case rel => exact ⟨k + 1, by omega, by go_num, rfl, by rw [Hnx.out.1], by rw [Hnx.out.2.1], by rw [Hnx.out.2.2], HB4.out⟩
        case measure => simp [intOf]; omega
      · obtain rfl : n = k := by omega
        have hsk := Hcs.out n
        obtain ⟨hp1, hp2⟩ := Hps.out n (Nat.le_refl _)
        obtain ⟨pr, hpr⟩ : ∃ c, prodK (dr.map (·.c)) db n = c := ⟨_, rfl⟩
        obtain ⟨sm, hsm⟩ : ∃ c, sumK (dr.map (·.c)) n = c := ⟨_, rfl⟩
        obtain ⟨bd, hbd⟩ : ∃ c, sumK db n % 1073741789 = c := ⟨_, rfl⟩
        obtain ⟨v, hv⟩ : ∃ v, sm % 1073741789 = v := ⟨_, rfl⟩
        rw [hpr] at hp1 ⊢
        rw [hsm] at hp1 ⊢
        rw [hbd] at hp1 ⊢
        rw [hv] at hp1
        have hv1 : 0 ≤ v ∧ v < 1073741789 := by omega
        have hb1' : 0 ≤ bd ∧ bd < 1073741789 := by omega
        have Hv := Lib.hid hv
        have Hpc : Hid ((commitI v bd == pr) = true) := Lib.hid (by rw [hp1]; simp)
        have hTr : PTabs wr := hT1.go hbx.bel
        have hbe := bgo hb1 hbx.bel
        clear hbx hp1 hp2 hpr hsm hbd hv hsk x3
        go_wp2_with fail
        refine (pvalue_any sm v Hv wr).mono ?_
        rintro e w8 ⟨rfl, hB8⟩
        have hT8 := hTr.go hB8
        go_wp2_with fail
        refine (open_ok pr v bd true Hpc w8 hT8.grp hv1.1 hv1.2 hb1'.1 hb1'.2).mono ?_
        rintro e w9 ⟨rfl, hB9⟩
        have hbe9 := bgo hbe (bgo hB8 hB9)
        go_wp2_with fail
        go_ret
        exact ⟨rfl, hbe9⟩
end Go.Proofs.YtgkilaafeconlaaDoor
