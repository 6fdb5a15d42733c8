/- The closures of OnetimeForms that append to the chains or to the path of a signature. -/
import Derived.Test.YthgkjcofmkkdcaaDoorOnLawE3
import Derived.Test.YthgkjcofmkkdcaaDoorOnW6b
namespace Go.Proofs.YthgkjcofmkkdcaaDoor
open Go.RowKit Go.Shelf
set_option linter.unusedVariables false
set_option linter.unusedSimpArgs false
set_option maxRecDepth 100000
theorem info_fork25 : (Tryd.prog.info? 48).map (fun i => (i.zero, i.size, i.bytes)) = some (some (.agg #[.int .u64 0, .bool false]), 2, 16) := by kernel_rfl
theorem sl_src0 {W : World} {B size n c : Nat} {A : Option Addr} {xs : List Value} (h : Sl W B size A n xs) (hc : A = none → c = 0) : Src W size (.slice A n c) n xs := by
  by_cases hn : 0 < n
  · obtain ⟨b, off, rfl, _, hx⟩ := h.2 hn
    exact .inr ⟨_, _, rfl, h.1, fun j u hu => by rw [Addr.add_lit]; exact hx j u hu⟩
  · obtain rfl : n = 0 := by omega
    have h0 : xs = [] := List.length_eq_zero_iff.1 (by rw [h.1]; omega)
    cases A with
    | none => exact .inl ⟨by rw [hc rfl], rfl, h0⟩
    | some a => exact .inr ⟨a, c, rfl, by rw [h0]; simp, fun j u hu => by rw [h0] at hu; simp at hu⟩
theorem own_mono {W : World} {a b : Nat} {e : TypeId} {size n : Nat} {v : Value} {xs : List Value} (h : W.ownsRow a e size v n xs) (hb : b ≤ a) : W.ownsRow b e size v n xs := by
  refine ⟨h.1, ?_⟩
  rcases h.2 with h0 | ⟨g, cap, cur, hv, h1, h2⟩
  · exact .inl h0
  · exact .inr ⟨g, cap, cur, hv, Nat.le_trans hb h1, h2⟩
theorem forkV_ones (p : Forks) : ∀ u ∈ forkV p, u.oneCell' = true := by
  intro u h
  unfold forkV at h
  rw [show (List.flatMap (fun p : UInt64 × Bool => [Value.int .u64 p.1.toNat, Value.bool p.2]) p) = (p.map (fun p => [Value.int .u64 p.1.toNat, Value.bool p.2])).flatten from rfl] at h
  obtain ⟨l, hl, hu⟩ := List.mem_flatten.1 h
  obtain ⟨a, _, rfl⟩ := List.mem_map.1 hl
  rcases List.mem_cons.1 hu with rfl | hu
  · rfl
  · rcases List.mem_cons.1 hu with rfl | hu
    · rfl
    · cases hu
theorem u64V_ones (l : List UInt64) : ∀ u ∈ u64V l, u.oneCell' = true := by
  intro u hu
  obtain ⟨x, _, rfl⟩ := List.mem_map.1 hu
  rfl
theorem forkV_app (p q : Forks) : forkV (p ++ q) = forkV p ++ forkV q := by simp [forkV]
set_option maxHeartbeats 8000000 in
theorem form3 {w0 W : World} {m n j bA oA ca : Nat} {B : Option Addr} {cb : Nat} {c : List UInt64} {p : Forks} {Sb : Nat} {fr : Nat × Nat} (H : Hid (SigOf w0 m n j bA oA ca B cb c p)) (hnil : B = none → cb = 0) (hB : Below w0.heap.size w0 W) (hS : W.heap[Sb]? = some (.cells #[.int .i64 (j : Int), .slice (some ⟨bA, oA, none⟩) 18 ca, .slice B m cb] 27 fr)) (Eb : Nat) (x : UInt64) (hE : W.cell? ⟨Eb, 0, none⟩ = some (.int .u64 x.toNat)) (hEl : Eb < W.heap.size) :
    Calls Tryd.prog 23 #[.pointer (some ⟨W.heap.size, 0, none⟩), .pointer (some ⟨Sb, 0, none⟩), .pointer (some ⟨Eb, 0, none⟩)] (W.alloc (.cells #[.int .i64 (j : Int), .slice (some ⟨bA, oA, none⟩) 18 ca, .slice B m cb] 27)) fun e w' => FEnd m w0 W e w' := by
  obtain ⟨i0, hi0, hz0, hz1, hz2⟩ := info_parts info_dig
  have hSlt := (Array.getElem?_eq_some_iff.1 hS).1
  obtain ⟨c0, c1, c2⟩ := box_cell hS (.cells #[.int .i64 (j : Int), .slice (some ⟨bA, oA, none⟩) 18 ca, .slice B m cb] 27)
  obtain ⟨w, hw⟩ : ∃ w, w = W.alloc (.cells #[.int .i64 (j : Int), .slice (some ⟨bA, oA, none⟩) 18 ca, .slice B m cb] 27) := ⟨_, rfl⟩
  have hT : w.heap[W.heap.size]? = some (.cells #[.int .i64 (j : Int), .slice (some ⟨bA, oA, none⟩) 18 ca, .slice B m cb] 27 (0, 0)) := by rw [hw]; exact World.alloc_heap_new _ _
  have hB1 : Below W.heap.size W w := by rw [hw]; exact bal (Below.refl _ _) _
  have hsz : w.heap.size = W.heap.size + 1 := by rw [hw]; simp
  have ce : w.cell? ⟨Eb, 0, none⟩ = some (.int .u64 x.toNat) := (hB1.cell (p := ⟨Eb, 0, none⟩) hEl).trans hE
  rw [← hw] at c0 c1 c2 ⊢
  clear hw hS hE
  have hB0 := bgo hB hB1
  obtain ⟨T, hTe⟩ : ∃ T, T = W.heap.size := ⟨_, rfl⟩
  have HT := Lib.hid hT
  have HB1 := Lib.hid hB1
  rw [← hTe] at hT ⊢
  have hTlt : T < w.heap.size := by omega
  have hSl2 : Sb < w.heap.size := by omega
  have hEl2 : Eb < w.heap.size := by omega
  have hST : T ≠ Sb := by omega
  have hET : T ≠ Eb := by omega
  have HTe := Lib.hid hTe
  have HT2 := Lib.hid hT
  clear hB1 hTe hT hsz
  skip
  have hsrc : Src w.drew 1 (.slice (some ⟨bA, oA, none⟩) 18 ca) 18 (u64V c) := (sl_src0 (H.out.sa.go hB0) (fun e => by cases e)).drew
  have ownA : (w.drew.alloc (.cells #[] 23)).ownsRow w.heap.size 23 1 (.slice (some ⟨w.heap.size, 0, none⟩) 0 0) 0 [] := own_empty w.drew _ _ 1 rfl
  have belD : Below w.heap.size w w.drew := (Below.refl _ _).drew
  have ownC : ((w.drew.alloc (.cells #[.int .u64 x.toNat] 23)).alloc (.cells #[] 23)).ownsRow w.heap.size 23 1 (.slice (some ⟨w.heap.size + 1, 0, none⟩) 0 0) 0 [] := by
    have h := own_empty (w.drew.alloc (.cells #[.int .u64 x.toNat] 23)) 23 23 1 rfl
    have e : (w.drew.alloc (.cells #[.int .u64 x.toNat] 23)).heap.size = w.heap.size + 1 := by simp
    rw [e] at h
    exact own_mono h (by omega)
  have srcB : Src ((w.drew.alloc (.cells #[] 23)).alloc (.cells #[.int .u64 x.toNat] 23)) 1 (.slice (some ⟨w.heap.size + 1, 0, none⟩) 1 1) 1 [.int .u64 x.toNat] := by
    have h := block_src (w.drew.alloc (.cells #[] 23)) [.int .u64 x.toNat] 23 (0, 0) 1 1 1 rfl
    have e : (w.drew.alloc (.cells #[] 23)).heap.size = w.heap.size + 1 := by simp
    rw [e] at h
    exact h
  have srcC : Src ((w.drew.alloc (.cells #[.int .u64 x.toNat] 23)).alloc (.cells #[] 23)) 1 (.slice (some ⟨w.heap.size, 0, none⟩) 1 1) 1 [.int .u64 x.toNat] := (block_src w.drew [.int .u64 x.toNat] 23 (0, 0) 1 1 1 rfl).al _
  have KS : ∀ W', Below w.heap.size w W' → W'.cell? ⟨Sb, 1, none⟩ = some (.slice (some ⟨bA, oA, none⟩) 18 ca) ∧ W'.cell? ⟨Eb, 0, none⟩ = some (.int .u64 x.toNat) := fun W' k => ⟨(k.cell (p := ⟨Sb, 1, none⟩) hSl2).trans c1, (k.cell (p := ⟨Eb, 0, none⟩) hEl2).trans ce⟩
  have bA1 := bal belD (.cells #[] 23)
  have bA2 := bal bA1 (.cells #[.int .u64 x.toNat] 23)
  have bC1 := bal belD (.cells #[.int .u64 x.toNat] 23)
  have bC2 := bal bC1 (.cells #[] 23)
  have G := Lib.hid (And.intro ownA (And.intro hsrc (And.intro belD (And.intro ownC (And.intro srcB (And.intro srcC KS))))))
  have Bs := Lib.hid (And.intro bA1 (And.intro bA2 (And.intro bC1 bC2)))
  clear hsrc ownA belD ownC srcB srcC KS bA1 bA2 bC1 bC2
  go_enter Tryd.func23, Tryd.ntmps23
  go_wp2_with fail
  refine wp_region_noPanic ?_
  refine wp_region_held_drew (S := fun w' => w'.cell? ⟨Sb, 1, none⟩ = some (.slice (some ⟨bA, oA, none⟩) 18 ca) ∧ w'.cell? ⟨Eb, 0, none⟩ = some (.int .u64 x.toNat)) (by kernel_rfl) ⟨c1, ce⟩ (fun hHeld => ?_)
  refine wpAnyH_take (i := 0) (v := ?_) rfl (by kernel_rfl) (by kernel_rfl) (by kernel_rfl) (fun _ _ _ h => h) (Or.inl ⟨by kernel_rfl, ?_⟩) (by assumption) ?_
  rotate_left
  · intro w hSw
    (try dsimp only at hSw)
    go_simp
    first | done | with_reducible rfl
  simp only [List.getElem_toArray, List.getElem_cons_zero, List.getElem_cons_succ, Act.put, List.setIfInBounds_toArray, List.set_cons_zero, List.set_cons_succ]
  refine wpAnyH_take (i := 2) (v := ?_) rfl (by kernel_rfl) (by kernel_rfl) (by kernel_rfl) (fun _ _ _ h => h) (Or.inl ⟨by kernel_rfl, ?_⟩) (by assumption) ?_
  rotate_left
  · intro w hSw
    (try dsimp only at hSw)
    go_simp
    first | done | with_reducible rfl
  simp only [List.getElem_toArray, List.getElem_cons_zero, List.getElem_cons_succ, Act.put, List.setIfInBounds_toArray, List.set_cons_zero, List.set_cons_succ]
  refine wpAnyH_take (i := 3) (v := ?_) rfl (by kernel_rfl) (by kernel_rfl) (by kernel_rfl) (fun _ _ _ h => h) (Or.inl ⟨by kernel_rfl, ?_⟩) (by assumption) ?_
  rotate_left
  · intro w hSw
    (try dsimp only at hSw)
    go_simp
    first | done | with_reducible rfl
  simp only [List.getElem_toArray, List.getElem_cons_zero, List.getElem_cons_succ, Act.put, List.setIfInBounds_toArray, List.set_cons_zero, List.set_cons_succ]
  refine wpAnyH_take (i := 5) (v := ?_) rfl (by kernel_rfl) (by kernel_rfl) (by kernel_rfl) (fun _ _ _ h => h) (Or.inl ⟨by kernel_rfl, ?_⟩) (by assumption) ?_
  rotate_left
  · intro w hSw
    (try dsimp only at hSw)
    go_simp
    first | done | with_reducible rfl
  simp only [List.getElem_toArray, List.getElem_cons_zero, List.getElem_cons_succ, Act.put, List.setIfInBounds_toArray, List.set_cons_zero, List.set_cons_succ]
  refine wpAnyH_ready (rs := [1, 6]) (by kernel_rfl) (by simp) ?_
  refine AllReadyH.cons rfl (fun K hK => ?_) ?_
  · simp only [List.getElem_toArray, List.getElem_cons_zero, List.getElem_cons_succ]
    go_simp
    refine hK.out _ _ (G.out.2.2.2.2.2.2 _ Bs.out.1) (fun hHeld => ?_)
    clear hK K
    try simp only [List.getElem_toArray, List.getElem_cons_zero, List.getElem_cons_succ, Act.put, List.setIfInBounds_toArray, List.set_cons_zero, List.set_cons_succ]
    refine wpAnyH_ready (rs := [4, 6]) (by kernel_rfl) (by simp) ?_
    refine AllReadyH.cons rfl (fun K hK => ?_) ?_
    · refine step_src (w0 := w) (by rfl) _ _ 24 (by rfl) 23 i0 (.int .u64 0) 1 8 Tryd.underlying24 hi0 hz0 hz1 hz2 (by rfl) (by decide) (.slice (some ⟨w.heap.size, 0, none⟩) 0 0) 0 [] (by rfl) G.out.1 Bs.out.1 (.slice (some ⟨bA, oA, none⟩) 18 ca) 18 (u64V c) (by rfl) (G.out.2.1.al _) (u64V_ones c) (by unfold maxLen; omega) (by omega) ?_
      intro v4 w4 hown4 hB4 hk4
      rw [Nat.zero_add, List.nil_append] at hown4
      refine hK.out _ _ (G.out.2.2.2.2.2.2 _ hB4) (fun hHeld => ?_)
      clear hK K
      try simp only [List.getElem_toArray, List.getElem_cons_zero, List.getElem_cons_succ, Act.put, List.setIfInBounds_toArray, List.set_cons_zero, List.set_cons_succ]
      refine wpAnyH_ready (rs := [6]) (by kernel_rfl) (by simp) ?_
      refine AllReadyH.cons rfl (fun K hK => ?_) ?_
      · simp only [List.getElem_toArray, List.getElem_cons_zero, List.getElem_cons_succ]
        go_simp
        refine hK.out _ _ (G.out.2.2.2.2.2.2 _ (bal hB4 _)) (fun hHeld => ?_)
        clear hK K
        try simp only [List.getElem_toArray, List.getElem_cons_zero, List.getElem_cons_succ, Act.put, List.setIfInBounds_toArray, List.set_cons_zero, List.set_cons_succ]
        refine wpAnyH_ready (rs := [7]) (by kernel_rfl) (by simp) ?_
        refine AllReadyH.cons rfl (fun K hK => ?_) ?_
        · refine step_src (w0 := w) (by rfl) _ _ 24 (by rfl) 23 i0 (.int .u64 0) 1 8 Tryd.underlying24 hi0 hz0 hz1 hz2 (by rfl) (by decide) v4 18 (u64V c) (by rfl) (hown4.alloc _) (bal hB4 _) (.slice (some ⟨w4.heap.size, 0, none⟩) 1 1) 1 [.int .u64 x.toNat] (by rfl) (block_src w4 [.int .u64 x.toNat] _ _ 1 1 1 rfl) (by simp [Value.oneCell']) (by unfold maxLen; omega) (by omega) ?_
          intro v7 w7 hown7 hB7 hk7
          refine hK.out _ _ (G.out.2.2.2.2.2.2 _ hB7) (fun hHeld => ?_)
          clear hK K
          try simp only [List.getElem_toArray, List.getElem_cons_zero, List.getElem_cons_succ, Act.put, List.setIfInBounds_toArray, List.set_cons_zero, List.set_cons_succ]
          refine wpAnyH_take (i := 8) (v := ?_) rfl (by kernel_rfl) (by kernel_rfl) (by kernel_rfl) (fun _ _ _ h => h) (Or.inl ⟨by kernel_rfl, ?_⟩) (by assumption) ?_
          rotate_left
          · intro w hSw
            (try dsimp only at hSw)
            go_simp
            first | done | with_reducible rfl
          simp only [List.getElem_toArray, List.getElem_cons_zero, List.getElem_cons_succ, Act.put, List.setIfInBounds_toArray, List.set_cons_zero, List.set_cons_succ]
          refine wpAnyH_take (i := 9) (v := ?_) rfl (by kernel_rfl) (by kernel_rfl) (by kernel_rfl) (fun _ _ _ h => h) (Or.inl ⟨by kernel_rfl, ?_⟩) (by assumption) ?_
          rotate_left
          · intro w hSw
            (try dsimp only at hSw)
            go_simp
            first | done | with_reducible rfl
          simp only [List.getElem_toArray, List.getElem_cons_zero, List.getElem_cons_succ, Act.put, List.setIfInBounds_toArray, List.set_cons_zero, List.set_cons_succ]
          have hT7 := (hB7.block T hTlt).trans HT2.out
          have k7 : w7.cell? ⟨T, 1, none⟩ = some (.slice (some ⟨bA, oA, none⟩) 18 ca) := by rw [Lib.cell_of_heap hT7]; rfl
          have f7 : w7.frozen? ⟨T, 1, none⟩ = false := Lib.frozen_of_heap hT7 1
          obtain ⟨A7, cap7, rfl, hS7⟩ := own_slice hown7
          have h7 := G.out.2.2.2.2.2.2 _ hB7
          refine wpAnyH_ready (rs := [10]) (by kernel_rfl) (by simp) ?_
          refine AllReadyH.cons rfl (fun K hK => ?_) AllReadyH.nil
          simp only [List.getElem_toArray, List.getElem_cons_zero, List.getElem_cons_succ]
          go_simp
          refine hK.out _ _ ⟨(World.cell?_of_block (Below.heap_setCell _ _ _ _ (Ne.symm hST))).trans h7.1, (World.cell?_of_block (Below.heap_setCell _ _ _ _ (Ne.symm hET))).trans h7.2⟩ (fun hHeld => ?_)
          clear hK K
          refine wpAnyH_done (by kernel_rfl) ?_ _
          dsimp only [NoPanic]
          clear hHeld
          go_wp2
          go_end0
          have h := H.out
          have hTo : w0.heap.size ≤ T := by rw [HTe.out]; exact hB.size
          have kT := KeepT.setCell w0 w7 (j := 1) (v := .slice A7 19 cap7) hT7 hTo (.inl rfl)
          have hB07 : Below w0.heap.size w0 w7 := bgo hB0 hB7
          have hso := (own_safe (w0 := w0) hown7 (by decide) (by decide)).keep kT
          refine ⟨rfl, ⟨(j : Int), A7, 19, cap7, B, m, cb⟩, ?_, ?_, ?_⟩
          · rw [← HTe.out]; exact setCell_heap hT7
          · exact (bgo HB1.out hB7).setCell (by rw [HTe.out]; exact Nat.le_refl _) _
          · refine ⟨c ++ [x], p, by rw [List.length_append, h.cl]; rfl, h.pl, (show 19 ≤ maxLen by decide), by rw [u64V_snoc]; exact hso, (h.sb.safe hB07).keep kT, fun r d => over_no _ _ _ _ _ _ (fun k => ?_)⟩
            have := k.2.2.1
            rw [List.length_append, h.cl] at this
            simp at this
        exact AllReadyH.nil
      exact AllReadyH.nil
    refine AllReadyH.cons rfl (fun K hK => ?_) ?_
    · simp only [List.getElem_toArray, List.getElem_cons_zero, List.getElem_cons_succ]
      go_simp
      refine hK.out _ _ (G.out.2.2.2.2.2.2 _ Bs.out.2.1) (fun hHeld => ?_)
      clear hK K
      try simp only [List.getElem_toArray, List.getElem_cons_zero, List.getElem_cons_succ, Act.put, List.setIfInBounds_toArray, List.set_cons_zero, List.set_cons_succ]
      refine wpAnyH_ready (rs := [4]) (by kernel_rfl) (by simp) ?_
      refine AllReadyH.cons rfl (fun K hK => ?_) ?_
      · refine step_src (w0 := w) (by rfl) _ _ 24 (by rfl) 23 i0 (.int .u64 0) 1 8 Tryd.underlying24 hi0 hz0 hz1 hz2 (by rfl) (by decide) (.slice (some ⟨w.heap.size, 0, none⟩) 0 0) 0 [] (by rfl) (G.out.1.alloc _) Bs.out.2.1 (.slice (some ⟨bA, oA, none⟩) 18 ca) 18 (u64V c) (by rfl) ((G.out.2.1.al _).al _) (u64V_ones c) (by unfold maxLen; omega) (by omega) ?_
        intro v4 w4 hown4 hB4 hk4
        rw [Nat.zero_add, List.nil_append] at hown4
        refine hK.out _ _ (G.out.2.2.2.2.2.2 _ hB4) (fun hHeld => ?_)
        clear hK K
        try simp only [List.getElem_toArray, List.getElem_cons_zero, List.getElem_cons_succ, Act.put, List.setIfInBounds_toArray, List.set_cons_zero, List.set_cons_succ]
        refine wpAnyH_ready (rs := [7]) (by kernel_rfl) (by simp) ?_
        refine AllReadyH.cons rfl (fun K hK => ?_) ?_
        · refine step_src (w0 := w) (by rfl) _ _ 24 (by rfl) 23 i0 (.int .u64 0) 1 8 Tryd.underlying24 hi0 hz0 hz1 hz2 (by rfl) (by decide) v4 18 (u64V c) (by rfl) hown4 hB4 (.slice (some ⟨w.heap.size + 1, 0, none⟩) 1 1) 1 [.int .u64 x.toNat] (by rfl) (Src.kept G.out.2.2.2.2.1 hk4 (by simp [Value.ownBlock])) (by simp [Value.oneCell']) (by unfold maxLen; omega) (by omega) ?_
          intro v7 w7 hown7 hB7 hk7
          refine hK.out _ _ (G.out.2.2.2.2.2.2 _ hB7) (fun hHeld => ?_)
          clear hK K
          try simp only [List.getElem_toArray, List.getElem_cons_zero, List.getElem_cons_succ, Act.put, List.setIfInBounds_toArray, List.set_cons_zero, List.set_cons_succ]
          refine wpAnyH_take (i := 8) (v := ?_) rfl (by kernel_rfl) (by kernel_rfl) (by kernel_rfl) (fun _ _ _ h => h) (Or.inl ⟨by kernel_rfl, ?_⟩) (by assumption) ?_
          rotate_left
          · intro w hSw
            (try dsimp only at hSw)
            go_simp
            first | done | with_reducible rfl
          simp only [List.getElem_toArray, List.getElem_cons_zero, List.getElem_cons_succ, Act.put, List.setIfInBounds_toArray, List.set_cons_zero, List.set_cons_succ]
          refine wpAnyH_take (i := 9) (v := ?_) rfl (by kernel_rfl) (by kernel_rfl) (by kernel_rfl) (fun _ _ _ h => h) (Or.inl ⟨by kernel_rfl, ?_⟩) (by assumption) ?_
          rotate_left
          · intro w hSw
            (try dsimp only at hSw)
            go_simp
            first | done | with_reducible rfl
          simp only [List.getElem_toArray, List.getElem_cons_zero, List.getElem_cons_succ, Act.put, List.setIfInBounds_toArray, List.set_cons_zero, List.set_cons_succ]
          have hT7 := (hB7.block T hTlt).trans HT2.out
          have k7 : w7.cell? ⟨T, 1, none⟩ = some (.slice (some ⟨bA, oA, none⟩) 18 ca) := by rw [Lib.cell_of_heap hT7]; rfl
          have f7 : w7.frozen? ⟨T, 1, none⟩ = false := Lib.frozen_of_heap hT7 1
          obtain ⟨A7, cap7, rfl, hS7⟩ := own_slice hown7
          have h7 := G.out.2.2.2.2.2.2 _ hB7
          refine wpAnyH_ready (rs := [10]) (by kernel_rfl) (by simp) ?_
          refine AllReadyH.cons rfl (fun K hK => ?_) AllReadyH.nil
          simp only [List.getElem_toArray, List.getElem_cons_zero, List.getElem_cons_succ]
          go_simp
          refine hK.out _ _ ⟨(World.cell?_of_block (Below.heap_setCell _ _ _ _ (Ne.symm hST))).trans h7.1, (World.cell?_of_block (Below.heap_setCell _ _ _ _ (Ne.symm hET))).trans h7.2⟩ (fun hHeld => ?_)
          clear hK K
          refine wpAnyH_done (by kernel_rfl) ?_ _
          dsimp only [NoPanic]
          clear hHeld
          go_wp2
          go_end0
          have h := H.out
          have hTo : w0.heap.size ≤ T := by rw [HTe.out]; exact hB.size
          have kT := KeepT.setCell w0 w7 (j := 1) (v := .slice A7 19 cap7) hT7 hTo (.inl rfl)
          have hB07 : Below w0.heap.size w0 w7 := bgo hB0 hB7
          have hso := (own_safe (w0 := w0) hown7 (by decide) (by decide)).keep kT
          refine ⟨rfl, ⟨(j : Int), A7, 19, cap7, B, m, cb⟩, ?_, ?_, ?_⟩
          · rw [← HTe.out]; exact setCell_heap hT7
          · exact (bgo HB1.out hB7).setCell (by rw [HTe.out]; exact Nat.le_refl _) _
          · refine ⟨c ++ [x], p, by rw [List.length_append, h.cl]; rfl, h.pl, (show 19 ≤ maxLen by decide), by rw [u64V_snoc]; exact hso, (h.sb.safe hB07).keep kT, fun r d => over_no _ _ _ _ _ _ (fun k => ?_)⟩
            have := k.2.2.1
            rw [List.length_append, h.cl] at this
            simp at this
        exact AllReadyH.nil
      exact AllReadyH.nil
    exact AllReadyH.nil
  refine AllReadyH.cons rfl (fun K hK => ?_) ?_
  · simp only [List.getElem_toArray, List.getElem_cons_zero, List.getElem_cons_succ]
    go_simp
    refine hK.out _ _ (G.out.2.2.2.2.2.2 _ Bs.out.2.2.1) (fun hHeld => ?_)
    clear hK K
    try simp only [List.getElem_toArray, List.getElem_cons_zero, List.getElem_cons_succ, Act.put, List.setIfInBounds_toArray, List.set_cons_zero, List.set_cons_succ]
    refine wpAnyH_ready (rs := [1]) (by kernel_rfl) (by simp) ?_
    refine AllReadyH.cons rfl (fun K hK => ?_) ?_
    · simp only [List.getElem_toArray, List.getElem_cons_zero, List.getElem_cons_succ]
      go_simp
      refine hK.out _ _ (G.out.2.2.2.2.2.2 _ Bs.out.2.2.2) (fun hHeld => ?_)
      clear hK K
      try simp only [List.getElem_toArray, List.getElem_cons_zero, List.getElem_cons_succ, Act.put, List.setIfInBounds_toArray, List.set_cons_zero, List.set_cons_succ]
      refine wpAnyH_ready (rs := [4]) (by kernel_rfl) (by simp) ?_
      refine AllReadyH.cons rfl (fun K hK => ?_) ?_
      · refine step_src (w0 := w) (by rfl) _ _ 24 (by rfl) 23 i0 (.int .u64 0) 1 8 Tryd.underlying24 hi0 hz0 hz1 hz2 (by rfl) (by decide) (.slice (some ⟨w.heap.size + 1, 0, none⟩) 0 0) 0 [] (by rfl) G.out.2.2.2.1 Bs.out.2.2.2 (.slice (some ⟨bA, oA, none⟩) 18 ca) 18 (u64V c) (by rfl) ((G.out.2.1.al _).al _) (u64V_ones c) (by unfold maxLen; omega) (by omega) ?_
        intro v4 w4 hown4 hB4 hk4
        rw [Nat.zero_add, List.nil_append] at hown4
        refine hK.out _ _ (G.out.2.2.2.2.2.2 _ hB4) (fun hHeld => ?_)
        clear hK K
        try simp only [List.getElem_toArray, List.getElem_cons_zero, List.getElem_cons_succ, Act.put, List.setIfInBounds_toArray, List.set_cons_zero, List.set_cons_succ]
        refine wpAnyH_ready (rs := [7]) (by kernel_rfl) (by simp) ?_
        refine AllReadyH.cons rfl (fun K hK => ?_) ?_
        · refine step_src (w0 := w) (by rfl) _ _ 24 (by rfl) 23 i0 (.int .u64 0) 1 8 Tryd.underlying24 hi0 hz0 hz1 hz2 (by rfl) (by decide) v4 18 (u64V c) (by rfl) hown4 hB4 (.slice (some ⟨w.heap.size, 0, none⟩) 1 1) 1 [.int .u64 x.toNat] (by rfl) (Src.kept G.out.2.2.2.2.2.1 hk4 (by simp [Value.ownBlock])) (by simp [Value.oneCell']) (by unfold maxLen; omega) (by omega) ?_
          intro v7 w7 hown7 hB7 hk7
          refine hK.out _ _ (G.out.2.2.2.2.2.2 _ hB7) (fun hHeld => ?_)
          clear hK K
          try simp only [List.getElem_toArray, List.getElem_cons_zero, List.getElem_cons_succ, Act.put, List.setIfInBounds_toArray, List.set_cons_zero, List.set_cons_succ]
          refine wpAnyH_take (i := 8) (v := ?_) rfl (by kernel_rfl) (by kernel_rfl) (by kernel_rfl) (fun _ _ _ h => h) (Or.inl ⟨by kernel_rfl, ?_⟩) (by assumption) ?_
          rotate_left
          · intro w hSw
            (try dsimp only at hSw)
            go_simp
            first | done | with_reducible rfl
          simp only [List.getElem_toArray, List.getElem_cons_zero, List.getElem_cons_succ, Act.put, List.setIfInBounds_toArray, List.set_cons_zero, List.set_cons_succ]
          refine wpAnyH_take (i := 9) (v := ?_) rfl (by kernel_rfl) (by kernel_rfl) (by kernel_rfl) (fun _ _ _ h => h) (Or.inl ⟨by kernel_rfl, ?_⟩) (by assumption) ?_
          rotate_left
          · intro w hSw
            (try dsimp only at hSw)
            go_simp
            first | done | with_reducible rfl
          simp only [List.getElem_toArray, List.getElem_cons_zero, List.getElem_cons_succ, Act.put, List.setIfInBounds_toArray, List.set_cons_zero, List.set_cons_succ]
          have hT7 := (hB7.block T hTlt).trans HT2.out
          have k7 : w7.cell? ⟨T, 1, none⟩ = some (.slice (some ⟨bA, oA, none⟩) 18 ca) := by rw [Lib.cell_of_heap hT7]; rfl
          have f7 : w7.frozen? ⟨T, 1, none⟩ = false := Lib.frozen_of_heap hT7 1
          obtain ⟨A7, cap7, rfl, hS7⟩ := own_slice hown7
          have h7 := G.out.2.2.2.2.2.2 _ hB7
          refine wpAnyH_ready (rs := [10]) (by kernel_rfl) (by simp) ?_
          refine AllReadyH.cons rfl (fun K hK => ?_) AllReadyH.nil
          simp only [List.getElem_toArray, List.getElem_cons_zero, List.getElem_cons_succ]
          go_simp
          refine hK.out _ _ ⟨(World.cell?_of_block (Below.heap_setCell _ _ _ _ (Ne.symm hST))).trans h7.1, (World.cell?_of_block (Below.heap_setCell _ _ _ _ (Ne.symm hET))).trans h7.2⟩ (fun hHeld => ?_)
          clear hK K
          refine wpAnyH_done (by kernel_rfl) ?_ _
          dsimp only [NoPanic]
          clear hHeld
          go_wp2
          go_end0
          have h := H.out
          have hTo : w0.heap.size ≤ T := by rw [HTe.out]; exact hB.size
          have kT := KeepT.setCell w0 w7 (j := 1) (v := .slice A7 19 cap7) hT7 hTo (.inl rfl)
          have hB07 : Below w0.heap.size w0 w7 := bgo hB0 hB7
          have hso := (own_safe (w0 := w0) hown7 (by decide) (by decide)).keep kT
          refine ⟨rfl, ⟨(j : Int), A7, 19, cap7, B, m, cb⟩, ?_, ?_, ?_⟩
          · rw [← HTe.out]; exact setCell_heap hT7
          · exact (bgo HB1.out hB7).setCell (by rw [HTe.out]; exact Nat.le_refl _) _
          · refine ⟨c ++ [x], p, by rw [List.length_append, h.cl]; rfl, h.pl, (show 19 ≤ maxLen by decide), by rw [u64V_snoc]; exact hso, (h.sb.safe hB07).keep kT, fun r d => over_no _ _ _ _ _ _ (fun k => ?_)⟩
            have := k.2.2.1
            rw [List.length_append, h.cl] at this
            simp at this
        exact AllReadyH.nil
      exact AllReadyH.nil
    exact AllReadyH.nil
  exact AllReadyH.nil
set_option maxHeartbeats 8000000 in
theorem form4 {w0 W : World} {m n j bA oA ca : Nat} {B : Option Addr} {cb : Nat} {c : List UInt64} {p : Forks} {Sb : Nat} {fr : Nat × Nat} (H : Hid (SigOf w0 m n j bA oA ca B cb c p)) (hnil : B = none → cb = 0) (hB : Below w0.heap.size w0 W) (hS : W.heap[Sb]? = some (.cells #[.int .i64 (j : Int), .slice (some ⟨bA, oA, none⟩) 18 ca, .slice B m cb] 27 fr)) (Eb : Nat) (x : UInt64) (hE : W.cell? ⟨Eb, 0, none⟩ = some (.int .u64 x.toNat)) (hEl : Eb < W.heap.size) :
    Calls Tryd.prog 24 #[.pointer (some ⟨W.heap.size, 0, none⟩), .pointer (some ⟨Sb, 0, none⟩), .pointer (some ⟨Eb, 0, none⟩)] (W.alloc (.cells #[.int .i64 (j : Int), .slice (some ⟨bA, oA, none⟩) 18 ca, .slice B m cb] 27)) fun e w' => FEnd m w0 W e w' := by
  obtain ⟨i0, hi0, hz0, hz1, hz2⟩ := info_parts info_fork25
  have hSlt := (Array.getElem?_eq_some_iff.1 hS).1
  obtain ⟨c0, c1, c2⟩ := box_cell hS (.cells #[.int .i64 (j : Int), .slice (some ⟨bA, oA, none⟩) 18 ca, .slice B m cb] 27)
  obtain ⟨w, hw⟩ : ∃ w, w = W.alloc (.cells #[.int .i64 (j : Int), .slice (some ⟨bA, oA, none⟩) 18 ca, .slice B m cb] 27) := ⟨_, rfl⟩
  have hT : w.heap[W.heap.size]? = some (.cells #[.int .i64 (j : Int), .slice (some ⟨bA, oA, none⟩) 18 ca, .slice B m cb] 27 (0, 0)) := by rw [hw]; exact World.alloc_heap_new _ _
  have hB1 : Below W.heap.size W w := by rw [hw]; exact bal (Below.refl _ _) _
  have hsz : w.heap.size = W.heap.size + 1 := by rw [hw]; simp
  have ce : w.cell? ⟨Eb, 0, none⟩ = some (.int .u64 x.toNat) := (hB1.cell (p := ⟨Eb, 0, none⟩) hEl).trans hE
  rw [← hw] at c0 c1 c2 ⊢
  clear hw hS hE
  have hB0 := bgo hB hB1
  obtain ⟨T, hTe⟩ : ∃ T, T = W.heap.size := ⟨_, rfl⟩
  have HT := Lib.hid hT
  have HB1 := Lib.hid hB1
  rw [← hTe] at hT ⊢
  have hTlt : T < w.heap.size := by omega
  have hSl2 : Sb < w.heap.size := by omega
  have hEl2 : Eb < w.heap.size := by omega
  have hST : T ≠ Sb := by omega
  have hET : T ≠ Eb := by omega
  have HTe := Lib.hid hTe
  have HT2 := Lib.hid hT
  clear hB1 hTe hT hsz
  have hm8 := H.out.hm
  have hsrc : Src w.drew 2 (.slice B m cb) m (forkV p) := (sl_src0 (H.out.sb.go hB0) hnil).drew
  have ownA : (w.drew.alloc (.cells #[] 48)).ownsRow w.heap.size 48 2 (.slice (some ⟨w.heap.size, 0, none⟩) 0 0) 0 [] := own_empty w.drew _ _ 2 rfl
  have belD : Below w.heap.size w w.drew := (Below.refl _ _).drew
  have ownC : ((w.drew.alloc (.cells #[.int .u64 x.toNat, .bool false] 48)).alloc (.cells #[] 48)).ownsRow w.heap.size 48 2 (.slice (some ⟨w.heap.size + 1, 0, none⟩) 0 0) 0 [] := by
    have h := own_empty (w.drew.alloc (.cells #[.int .u64 x.toNat, .bool false] 48)) 48 48 2 rfl
    have e : (w.drew.alloc (.cells #[.int .u64 x.toNat, .bool false] 48)).heap.size = w.heap.size + 1 := by simp
    rw [e] at h
    exact own_mono h (by omega)
  have srcB : Src ((w.drew.alloc (.cells #[] 48)).alloc (.cells #[.int .u64 x.toNat, .bool false] 48)) 2 (.slice (some ⟨w.heap.size + 1, 0, none⟩) 1 1) 1 [.int .u64 x.toNat, .bool false] := by
    have h := block_src (w.drew.alloc (.cells #[] 48)) [.int .u64 x.toNat, .bool false] 48 (0, 0) 1 1 2 rfl
    have e : (w.drew.alloc (.cells #[] 48)).heap.size = w.heap.size + 1 := by simp
    rw [e] at h
    exact h
  have srcC : Src ((w.drew.alloc (.cells #[.int .u64 x.toNat, .bool false] 48)).alloc (.cells #[] 48)) 2 (.slice (some ⟨w.heap.size, 0, none⟩) 1 1) 1 [.int .u64 x.toNat, .bool false] := (block_src w.drew [.int .u64 x.toNat, .bool false] 48 (0, 0) 1 1 2 rfl).al _
  have KS : ∀ W', Below w.heap.size w W' → W'.cell? ⟨Sb, 2, none⟩ = some (.slice B m cb) ∧ W'.cell? ⟨Eb, 0, none⟩ = some (.int .u64 x.toNat) := fun W' k => ⟨(k.cell (p := ⟨Sb, 2, none⟩) hSl2).trans c2, (k.cell (p := ⟨Eb, 0, none⟩) hEl2).trans ce⟩
  have bA1 := bal belD (.cells #[] 48)
  have bA2 := bal bA1 (.cells #[.int .u64 x.toNat, .bool false] 48)
  have bC1 := bal belD (.cells #[.int .u64 x.toNat, .bool false] 48)
  have bC2 := bal bC1 (.cells #[] 48)
  have G := Lib.hid (And.intro ownA (And.intro hsrc (And.intro belD (And.intro ownC (And.intro srcB (And.intro srcC KS))))))
  have Bs := Lib.hid (And.intro bA1 (And.intro bA2 (And.intro bC1 bC2)))
  clear hsrc ownA belD ownC srcB srcC KS bA1 bA2 bC1 bC2
  go_enter Tryd.func24, Tryd.ntmps24
  go_wp2_with fail
  refine wp_region_noPanic ?_
  refine wp_region_held_drew (S := fun w' => w'.cell? ⟨Sb, 2, none⟩ = some (.slice B m cb) ∧ w'.cell? ⟨Eb, 0, none⟩ = some (.int .u64 x.toNat)) (by kernel_rfl) ⟨c2, ce⟩ (fun hHeld => ?_)
  refine wpAnyH_take (i := 0) (v := ?_) rfl (by kernel_rfl) (by kernel_rfl) (by kernel_rfl) (fun _ _ _ h => h) (Or.inl ⟨by kernel_rfl, ?_⟩) (by assumption) ?_
  rotate_left
  · intro w hSw
    (try dsimp only at hSw)
    go_simp
    first | done | with_reducible rfl
  simp only [List.getElem_toArray, List.getElem_cons_zero, List.getElem_cons_succ, Act.put, List.setIfInBounds_toArray, List.set_cons_zero, List.set_cons_succ]
  refine wpAnyH_take (i := 2) (v := ?_) rfl (by kernel_rfl) (by kernel_rfl) (by kernel_rfl) (fun _ _ _ h => h) (Or.inl ⟨by kernel_rfl, ?_⟩) (by assumption) ?_
  rotate_left
  · intro w hSw
    (try dsimp only at hSw)
    go_simp
    first | done | with_reducible rfl
  simp only [List.getElem_toArray, List.getElem_cons_zero, List.getElem_cons_succ, Act.put, List.setIfInBounds_toArray, List.set_cons_zero, List.set_cons_succ]
  refine wpAnyH_take (i := 3) (v := ?_) rfl (by kernel_rfl) (by kernel_rfl) (by kernel_rfl) (fun _ _ _ h => h) (Or.inl ⟨by kernel_rfl, ?_⟩) (by assumption) ?_
  rotate_left
  · intro w hSw
    (try dsimp only at hSw)
    go_simp
    first | done | with_reducible rfl
  simp only [List.getElem_toArray, List.getElem_cons_zero, List.getElem_cons_succ, Act.put, List.setIfInBounds_toArray, List.set_cons_zero, List.set_cons_succ]
  refine wpAnyH_take (i := 5) (v := ?_) rfl (by kernel_rfl) (by kernel_rfl) (by kernel_rfl) (fun _ _ _ h => h) (Or.inl ⟨by kernel_rfl, ?_⟩) (by assumption) ?_
  rotate_left
  · intro w hSw
    (try dsimp only at hSw)
    go_simp
    first | done | with_reducible rfl
  simp only [List.getElem_toArray, List.getElem_cons_zero, List.getElem_cons_succ, Act.put, List.setIfInBounds_toArray, List.set_cons_zero, List.set_cons_succ]
  refine wpAnyH_take (i := 6) (v := ?_) rfl (by kernel_rfl) (by kernel_rfl) (by kernel_rfl) (fun _ _ _ h => h) (Or.inl ⟨by kernel_rfl, ?_⟩) (by assumption) ?_
  rotate_left
  · intro w hSw
    (try dsimp only at hSw)
    go_simp
    first | done | with_reducible rfl
  simp only [List.getElem_toArray, List.getElem_cons_zero, List.getElem_cons_succ, Act.put, List.setIfInBounds_toArray, List.set_cons_zero, List.set_cons_succ]
  refine wpAnyH_ready (rs := [1, 7]) (by kernel_rfl) (by simp) ?_
  refine AllReadyH.cons rfl (fun K hK => ?_) ?_
  · simp only [List.getElem_toArray, List.getElem_cons_zero, List.getElem_cons_succ]
    go_simp
    refine hK.out _ _ (G.out.2.2.2.2.2.2 _ Bs.out.1) (fun hHeld => ?_)
    clear hK K
    try simp only [List.getElem_toArray, List.getElem_cons_zero, List.getElem_cons_succ, Act.put, List.setIfInBounds_toArray, List.set_cons_zero, List.set_cons_succ]
    refine wpAnyH_ready (rs := [4, 7]) (by kernel_rfl) (by simp) ?_
    refine AllReadyH.cons rfl (fun K hK => ?_) ?_
    · refine step_src (w0 := w) (by rfl) _ _ 25 (by rfl) 48 i0 (.agg #[.int .u64 0, .bool false]) 2 16 Tryd.underlying25 hi0 hz0 hz1 hz2 (by rfl) (by decide) (.slice (some ⟨w.heap.size, 0, none⟩) 0 0) 0 [] (by rfl) G.out.1 Bs.out.1 (.slice B m cb) m (forkV p) (by rfl) (G.out.2.1.al _) (forkV_ones p) (by unfold maxLen; omega) (by omega) ?_
      intro v4 w4 hown4 hB4 hk4
      rw [Nat.zero_add, List.nil_append] at hown4
      refine hK.out _ _ (G.out.2.2.2.2.2.2 _ hB4) (fun hHeld => ?_)
      clear hK K
      try simp only [List.getElem_toArray, List.getElem_cons_zero, List.getElem_cons_succ, Act.put, List.setIfInBounds_toArray, List.set_cons_zero, List.set_cons_succ]
      refine wpAnyH_ready (rs := [7]) (by kernel_rfl) (by simp) ?_
      refine AllReadyH.cons rfl (fun K hK => ?_) ?_
      · simp only [List.getElem_toArray, List.getElem_cons_zero, List.getElem_cons_succ]
        go_simp
        refine hK.out _ _ (G.out.2.2.2.2.2.2 _ (bal hB4 _)) (fun hHeld => ?_)
        clear hK K
        try simp only [List.getElem_toArray, List.getElem_cons_zero, List.getElem_cons_succ, Act.put, List.setIfInBounds_toArray, List.set_cons_zero, List.set_cons_succ]
        refine wpAnyH_ready (rs := [8]) (by kernel_rfl) (by simp) ?_
        refine AllReadyH.cons rfl (fun K hK => ?_) ?_
        · refine step_src (w0 := w) (by rfl) _ _ 25 (by rfl) 48 i0 (.agg #[.int .u64 0, .bool false]) 2 16 Tryd.underlying25 hi0 hz0 hz1 hz2 (by rfl) (by decide) v4 m (forkV p) (by rfl) (hown4.alloc _) (bal hB4 _) (.slice (some ⟨w4.heap.size, 0, none⟩) 1 1) 1 [.int .u64 x.toNat, .bool false] (by rfl) (block_src w4 [.int .u64 x.toNat, .bool false] _ _ 1 1 2 rfl) (by simp [Value.oneCell']) (by unfold maxLen; omega) (by omega) ?_
          intro v7 w7 hown7 hB7 hk7
          refine hK.out _ _ (G.out.2.2.2.2.2.2 _ hB7) (fun hHeld => ?_)
          clear hK K
          try simp only [List.getElem_toArray, List.getElem_cons_zero, List.getElem_cons_succ, Act.put, List.setIfInBounds_toArray, List.set_cons_zero, List.set_cons_succ]
          refine wpAnyH_take (i := 9) (v := ?_) rfl (by kernel_rfl) (by kernel_rfl) (by kernel_rfl) (fun _ _ _ h => h) (Or.inl ⟨by kernel_rfl, ?_⟩) (by assumption) ?_
          rotate_left
          · intro w hSw
            (try dsimp only at hSw)
            go_simp
            first | done | with_reducible rfl
          simp only [List.getElem_toArray, List.getElem_cons_zero, List.getElem_cons_succ, Act.put, List.setIfInBounds_toArray, List.set_cons_zero, List.set_cons_succ]
          refine wpAnyH_take (i := 10) (v := ?_) rfl (by kernel_rfl) (by kernel_rfl) (by kernel_rfl) (fun _ _ _ h => h) (Or.inl ⟨by kernel_rfl, ?_⟩) (by assumption) ?_
          rotate_left
          · intro w hSw
            (try dsimp only at hSw)
            go_simp
            first | done | with_reducible rfl
          simp only [List.getElem_toArray, List.getElem_cons_zero, List.getElem_cons_succ, Act.put, List.setIfInBounds_toArray, List.set_cons_zero, List.set_cons_succ]
          have hT7 := (hB7.block T hTlt).trans HT2.out
          have k7 : w7.cell? ⟨T, 2, none⟩ = some (.slice B m cb) := by rw [Lib.cell_of_heap hT7]; rfl
          have f7 : w7.frozen? ⟨T, 2, none⟩ = false := Lib.frozen_of_heap hT7 2
          obtain ⟨A7, cap7, rfl, hS7⟩ := own_slice hown7
          have h7 := G.out.2.2.2.2.2.2 _ hB7
          refine wpAnyH_ready (rs := [11]) (by kernel_rfl) (by simp) ?_
          refine AllReadyH.cons rfl (fun K hK => ?_) AllReadyH.nil
          simp only [List.getElem_toArray, List.getElem_cons_zero, List.getElem_cons_succ]
          go_simp
          refine hK.out _ _ ⟨(World.cell?_of_block (Below.heap_setCell _ _ _ _ (Ne.symm hST))).trans h7.1, (World.cell?_of_block (Below.heap_setCell _ _ _ _ (Ne.symm hET))).trans h7.2⟩ (fun hHeld => ?_)
          clear hK K
          refine wpAnyH_done (by kernel_rfl) ?_ _
          dsimp only [NoPanic]
          clear hHeld
          go_wp2
          go_end0
          have h := H.out
          have hTo : w0.heap.size ≤ T := by rw [HTe.out]; exact hB.size
          have kT := KeepT.setCell w0 w7 (j := 2) (v := .slice A7 (m + 1) cap7) hT7 hTo (.inl rfl)
          have hB07 : Below w0.heap.size w0 w7 := bgo hB0 hB7
          have hso := (own_safe (w0 := w0) hown7 (by decide) (by decide)).keep kT
          refine ⟨rfl, ⟨(j : Int), some ⟨bA, oA, none⟩, 18, ca, A7, m + 1, cap7⟩, ?_, ?_, ?_⟩
          · rw [← HTe.out]; exact setCell_heap hT7
          · exact (bgo HB1.out hB7).setCell (by rw [HTe.out]; exact Nat.le_refl _) _
          · refine ⟨c, p ++ [(x, false)], h.cl, by rw [List.length_append, h.pl]; rfl, (show 18 ≤ maxLen by decide), (h.sa.safe hB07).keep kT, by rw [forkV_app]; exact hso, fun r d => over_no _ _ _ _ _ _ (fun k => ?_)⟩
            have := k.2.2.2.2
            rw [Int.toNat_natCast, h.hn, ← h.ps] at this
            have := congrArg List.length this
            rw [List.length_map, List.length_map, List.length_append, h.pl] at this
            simp at this
        exact AllReadyH.nil
      exact AllReadyH.nil
    refine AllReadyH.cons rfl (fun K hK => ?_) ?_
    · simp only [List.getElem_toArray, List.getElem_cons_zero, List.getElem_cons_succ]
      go_simp
      refine hK.out _ _ (G.out.2.2.2.2.2.2 _ Bs.out.2.1) (fun hHeld => ?_)
      clear hK K
      try simp only [List.getElem_toArray, List.getElem_cons_zero, List.getElem_cons_succ, Act.put, List.setIfInBounds_toArray, List.set_cons_zero, List.set_cons_succ]
      refine wpAnyH_ready (rs := [4]) (by kernel_rfl) (by simp) ?_
      refine AllReadyH.cons rfl (fun K hK => ?_) ?_
      · refine step_src (w0 := w) (by rfl) _ _ 25 (by rfl) 48 i0 (.agg #[.int .u64 0, .bool false]) 2 16 Tryd.underlying25 hi0 hz0 hz1 hz2 (by rfl) (by decide) (.slice (some ⟨w.heap.size, 0, none⟩) 0 0) 0 [] (by rfl) (G.out.1.alloc _) Bs.out.2.1 (.slice B m cb) m (forkV p) (by rfl) ((G.out.2.1.al _).al _) (forkV_ones p) (by unfold maxLen; omega) (by omega) ?_
        intro v4 w4 hown4 hB4 hk4
        rw [Nat.zero_add, List.nil_append] at hown4
        refine hK.out _ _ (G.out.2.2.2.2.2.2 _ hB4) (fun hHeld => ?_)
        clear hK K
        try simp only [List.getElem_toArray, List.getElem_cons_zero, List.getElem_cons_succ, Act.put, List.setIfInBounds_toArray, List.set_cons_zero, List.set_cons_succ]
        refine wpAnyH_ready (rs := [8]) (by kernel_rfl) (by simp) ?_
        refine AllReadyH.cons rfl (fun K hK => ?_) ?_
        · refine step_src (w0 := w) (by rfl) _ _ 25 (by rfl) 48 i0 (.agg #[.int .u64 0, .bool false]) 2 16 Tryd.underlying25 hi0 hz0 hz1 hz2 (by rfl) (by decide) v4 m (forkV p) (by rfl) hown4 hB4 (.slice (some ⟨w.heap.size + 1, 0, none⟩) 1 1) 1 [.int .u64 x.toNat, .bool false] (by rfl) (Src.kept G.out.2.2.2.2.1 hk4 (by simp [Value.ownBlock])) (by simp [Value.oneCell']) (by unfold maxLen; omega) (by omega) ?_
          intro v7 w7 hown7 hB7 hk7
          refine hK.out _ _ (G.out.2.2.2.2.2.2 _ hB7) (fun hHeld => ?_)
          clear hK K
          try simp only [List.getElem_toArray, List.getElem_cons_zero, List.getElem_cons_succ, Act.put, List.setIfInBounds_toArray, List.set_cons_zero, List.set_cons_succ]
          refine wpAnyH_take (i := 9) (v := ?_) rfl (by kernel_rfl) (by kernel_rfl) (by kernel_rfl) (fun _ _ _ h => h) (Or.inl ⟨by kernel_rfl, ?_⟩) (by assumption) ?_
          rotate_left
          · intro w hSw
            (try dsimp only at hSw)
            go_simp
            first | done | with_reducible rfl
          simp only [List.getElem_toArray, List.getElem_cons_zero, List.getElem_cons_succ, Act.put, List.setIfInBounds_toArray, List.set_cons_zero, List.set_cons_succ]
          refine wpAnyH_take (i := 10) (v := ?_) rfl (by kernel_rfl) (by kernel_rfl) (by kernel_rfl) (fun _ _ _ h => h) (Or.inl ⟨by kernel_rfl, ?_⟩) (by assumption) ?_
          rotate_left
          · intro w hSw
            (try dsimp only at hSw)
            go_simp
            first | done | with_reducible rfl
          simp only [List.getElem_toArray, List.getElem_cons_zero, List.getElem_cons_succ, Act.put, List.setIfInBounds_toArray, List.set_cons_zero, List.set_cons_succ]
          have hT7 := (hB7.block T hTlt).trans HT2.out
          have k7 : w7.cell? ⟨T, 2, none⟩ = some (.slice B m cb) := by rw [Lib.cell_of_heap hT7]; rfl
          have f7 : w7.frozen? ⟨T, 2, none⟩ = false := Lib.frozen_of_heap hT7 2
          obtain ⟨A7, cap7, rfl, hS7⟩ := own_slice hown7
          have h7 := G.out.2.2.2.2.2.2 _ hB7
          refine wpAnyH_ready (rs := [11]) (by kernel_rfl) (by simp) ?_
          refine AllReadyH.cons rfl (fun K hK => ?_) AllReadyH.nil
          simp only [List.getElem_toArray, List.getElem_cons_zero, List.getElem_cons_succ]
          go_simp
          refine hK.out _ _ ⟨(World.cell?_of_block (Below.heap_setCell _ _ _ _ (Ne.symm hST))).trans h7.1, (World.cell?_of_block (Below.heap_setCell _ _ _ _ (Ne.symm hET))).trans h7.2⟩ (fun hHeld => ?_)
          clear hK K
          refine wpAnyH_done (by kernel_rfl) ?_ _
          dsimp only [NoPanic]
          clear hHeld
          go_wp2
          go_end0
          have h := H.out
          have hTo : w0.heap.size ≤ T := by rw [HTe.out]; exact hB.size
          have kT := KeepT.setCell w0 w7 (j := 2) (v := .slice A7 (m + 1) cap7) hT7 hTo (.inl rfl)
          have hB07 : Below w0.heap.size w0 w7 := bgo hB0 hB7
          have hso := (own_safe (w0 := w0) hown7 (by decide) (by decide)).keep kT
          refine ⟨rfl, ⟨(j : Int), some ⟨bA, oA, none⟩, 18, ca, A7, m + 1, cap7⟩, ?_, ?_, ?_⟩
          · rw [← HTe.out]; exact setCell_heap hT7
          · exact (bgo HB1.out hB7).setCell (by rw [HTe.out]; exact Nat.le_refl _) _
          · refine ⟨c, p ++ [(x, false)], h.cl, by rw [List.length_append, h.pl]; rfl, (show 18 ≤ maxLen by decide), (h.sa.safe hB07).keep kT, by rw [forkV_app]; exact hso, fun r d => over_no _ _ _ _ _ _ (fun k => ?_)⟩
            have := k.2.2.2.2
            rw [Int.toNat_natCast, h.hn, ← h.ps] at this
            have := congrArg List.length this
            rw [List.length_map, List.length_map, List.length_append, h.pl] at this
            simp at this
        exact AllReadyH.nil
      exact AllReadyH.nil
    exact AllReadyH.nil
  refine AllReadyH.cons rfl (fun K hK => ?_) ?_
  · simp only [List.getElem_toArray, List.getElem_cons_zero, List.getElem_cons_succ]
    go_simp
    refine hK.out _ _ (G.out.2.2.2.2.2.2 _ Bs.out.2.2.1) (fun hHeld => ?_)
    clear hK K
    try simp only [List.getElem_toArray, List.getElem_cons_zero, List.getElem_cons_succ, Act.put, List.setIfInBounds_toArray, List.set_cons_zero, List.set_cons_succ]
    refine wpAnyH_ready (rs := [1]) (by kernel_rfl) (by simp) ?_
    refine AllReadyH.cons rfl (fun K hK => ?_) ?_
    · simp only [List.getElem_toArray, List.getElem_cons_zero, List.getElem_cons_succ]
      go_simp
      refine hK.out _ _ (G.out.2.2.2.2.2.2 _ Bs.out.2.2.2) (fun hHeld => ?_)
      clear hK K
      try simp only [List.getElem_toArray, List.getElem_cons_zero, List.getElem_cons_succ, Act.put, List.setIfInBounds_toArray, List.set_cons_zero, List.set_cons_succ]
      refine wpAnyH_ready (rs := [4]) (by kernel_rfl) (by simp) ?_
      refine AllReadyH.cons rfl (fun K hK => ?_) ?_
      · refine step_src (w0 := w) (by rfl) _ _ 25 (by rfl) 48 i0 (.agg #[.int .u64 0, .bool false]) 2 16 Tryd.underlying25 hi0 hz0 hz1 hz2 (by rfl) (by decide) (.slice (some ⟨w.heap.size + 1, 0, none⟩) 0 0) 0 [] (by rfl) G.out.2.2.2.1 Bs.out.2.2.2 (.slice B m cb) m (forkV p) (by rfl) ((G.out.2.1.al _).al _) (forkV_ones p) (by unfold maxLen; omega) (by omega) ?_
        intro v4 w4 hown4 hB4 hk4
        rw [Nat.zero_add, List.nil_append] at hown4
        refine hK.out _ _ (G.out.2.2.2.2.2.2 _ hB4) (fun hHeld => ?_)
        clear hK K
        try simp only [List.getElem_toArray, List.getElem_cons_zero, List.getElem_cons_succ, Act.put, List.setIfInBounds_toArray, List.set_cons_zero, List.set_cons_succ]
        refine wpAnyH_ready (rs := [8]) (by kernel_rfl) (by simp) ?_
        refine AllReadyH.cons rfl (fun K hK => ?_) ?_
        · refine step_src (w0 := w) (by rfl) _ _ 25 (by rfl) 48 i0 (.agg #[.int .u64 0, .bool false]) 2 16 Tryd.underlying25 hi0 hz0 hz1 hz2 (by rfl) (by decide) v4 m (forkV p) (by rfl) hown4 hB4 (.slice (some ⟨w.heap.size, 0, none⟩) 1 1) 1 [.int .u64 x.toNat, .bool false] (by rfl) (Src.kept G.out.2.2.2.2.2.1 hk4 (by simp [Value.ownBlock])) (by simp [Value.oneCell']) (by unfold maxLen; omega) (by omega) ?_
          intro v7 w7 hown7 hB7 hk7
          refine hK.out _ _ (G.out.2.2.2.2.2.2 _ hB7) (fun hHeld => ?_)
          clear hK K
          try simp only [List.getElem_toArray, List.getElem_cons_zero, List.getElem_cons_succ, Act.put, List.setIfInBounds_toArray, List.set_cons_zero, List.set_cons_succ]
          refine wpAnyH_take (i := 9) (v := ?_) rfl (by kernel_rfl) (by kernel_rfl) (by kernel_rfl) (fun _ _ _ h => h) (Or.inl ⟨by kernel_rfl, ?_⟩) (by assumption) ?_
          rotate_left
          · intro w hSw
            (try dsimp only at hSw)
            go_simp
            first | done | with_reducible rfl
          simp only [List.getElem_toArray, List.getElem_cons_zero, List.getElem_cons_succ, Act.put, List.setIfInBounds_toArray, List.set_cons_zero, List.set_cons_succ]
          refine wpAnyH_take (i := 10) (v := ?_) rfl (by kernel_rfl) (by kernel_rfl) (by kernel_rfl) (fun _ _ _ h => h) (Or.inl ⟨by kernel_rfl, ?_⟩) (by assumption) ?_
          rotate_left
          · intro w hSw
            (try dsimp only at hSw)
            go_simp
            first | done | with_reducible rfl
          simp only [List.getElem_toArray, List.getElem_cons_zero, List.getElem_cons_succ, Act.put, List.setIfInBounds_toArray, List.set_cons_zero, List.set_cons_succ]
          have hT7 := (hB7.block T hTlt).trans HT2.out
          have k7 : w7.cell? ⟨T, 2, none⟩ = some (.slice B m cb) := by rw [Lib.cell_of_heap hT7]; rfl
          have f7 : w7.frozen? ⟨T, 2, none⟩ = false := Lib.frozen_of_heap hT7 2
          obtain ⟨A7, cap7, rfl, hS7⟩ := own_slice hown7
          have h7 := G.out.2.2.2.2.2.2 _ hB7
          refine wpAnyH_ready (rs := [11]) (by kernel_rfl) (by simp) ?_
          refine AllReadyH.cons rfl (fun K hK => ?_) AllReadyH.nil
          simp only [List.getElem_toArray, List.getElem_cons_zero, List.getElem_cons_succ]
          go_simp
          refine hK.out _ _ ⟨(World.cell?_of_block (Below.heap_setCell _ _ _ _ (Ne.symm hST))).trans h7.1, (World.cell?_of_block (Below.heap_setCell _ _ _ _ (Ne.symm hET))).trans h7.2⟩ (fun hHeld => ?_)
          clear hK K
          refine wpAnyH_done (by kernel_rfl) ?_ _
          dsimp only [NoPanic]
          clear hHeld
          go_wp2
          go_end0
          have h := H.out
          have hTo : w0.heap.size ≤ T := by rw [HTe.out]; exact hB.size
          have kT := KeepT.setCell w0 w7 (j := 2) (v := .slice A7 (m + 1) cap7) hT7 hTo (.inl rfl)
          have hB07 : Below w0.heap.size w0 w7 := bgo hB0 hB7
          have hso := (own_safe (w0 := w0) hown7 (by decide) (by decide)).keep kT
          refine ⟨rfl, ⟨(j : Int), some ⟨bA, oA, none⟩, 18, ca, A7, m + 1, cap7⟩, ?_, ?_, ?_⟩
          · rw [← HTe.out]; exact setCell_heap hT7
          · exact (bgo HB1.out hB7).setCell (by rw [HTe.out]; exact Nat.le_refl _) _
          · refine ⟨c, p ++ [(x, false)], h.cl, by rw [List.length_append, h.pl]; rfl, (show 18 ≤ maxLen by decide), (h.sa.safe hB07).keep kT, by rw [forkV_app]; exact hso, fun r d => over_no _ _ _ _ _ _ (fun k => ?_)⟩
            have := k.2.2.2.2
            rw [Int.toNat_natCast, h.hn, ← h.ps] at this
            have := congrArg List.length this
            rw [List.length_map, List.length_map, List.length_append, h.pl] at this
            simp at this
        exact AllReadyH.nil
      exact AllReadyH.nil
    exact AllReadyH.nil
  exact AllReadyH.nil
end Go.Proofs.YthgkjcofmkkdcaaDoor
