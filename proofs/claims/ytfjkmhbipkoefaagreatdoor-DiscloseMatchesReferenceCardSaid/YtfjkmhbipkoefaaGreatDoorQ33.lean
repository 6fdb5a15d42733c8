/- The walk of the reference's Sign once more: its slices are rows of the call's own. -/
import Derived.Test.YtfjkmhbipkoefaaGreatDoorQ32
import Derived.Test.YtfjkmhbipkoefaaGreatDoorQ16
namespace Go.Proofs.YtfjkmhbipkoefaaGreatDoor
open Go.RowKit Go.Shelf
set_option linter.unusedVariables false
set_option linter.unusedSimpArgs false
set_option maxRecDepth 100000
theorem rpath_own (A : Option Addr) (c n : Nat) (ss : List ByteArray) (i : Int) (p : Forks) (e : Int) (w : World) (hn : ss.length = n) (hp : pathL ss i = p) (he : pathE n i = e) (hA : Sl w w.heap.size 1 A n (strV ss)) (hs : ∀ s ∈ ss, s.size ≤ 140737488355328) (hl : n ≤ 1100) :
    Calls Tryz.prog 30 #[.slice A n c, .int .i64 i] w fun r w' => ∃ B cap, r = .returned (.tuple #[.slice B p.length cap, .int .i64 e]) ∧ w'.ownsRow w.heap.size 93 2 (.slice B p.length cap) p.length (forkV p) ∧ Below w.heap.size w w' := by
  subst hn hp he
  refine (rpath_any A c ss i w hA hs (by unfold maxLen; omega)).mono ?_
  rintro r w' ⟨v, rfl, h, hB⟩
  obtain ⟨B, cap, rfl, hS⟩ := own_slice h
  exact ⟨B, cap, rfl, h, hB⟩
set_option maxHeartbeats 8000000 in
theorem rsign_own (seed : ByteArray) (h i n : Nat) (hh : h ≤ 8) (hn : Hid (2 ^ h = n)) (hi : i < n) (hs : seed.size ≤ 64) (text : ByteArray) (d : UInt64) (hd : Hid (Dig.sum text.data.toList = d)) (ht : text.size ≤ maxLen)
    (p : Forks) (hp : Hid (pathL (leavesB seed n) (i : Int) = p)) (w : World) (hT : OTabs w) :
    Calls Tryz.prog 31 #[.string seed, .int .i64 (h : Int), .int .i64 (i : Int), .string text] w fun e w' => ∃ A ca B cb, e = .returned (.tuple #[.agg #[.int .i64 (i : Int), .slice A 18 ca, .slice B p.length cb], .int .i64 0]) ∧
      w'.ownsRow w.heap.size 25 1 (.slice A 18 ca) 18 (u64V (On.chains seed.data.toList (i : Int) d 18)) ∧ w'.ownsRow w.heap.size 93 2 (.slice B p.length cb) p.length (forkV p) ∧ Below w.heap.size w w' := by
  have hn256 : n ≤ 256 := by rw [← hn.out]; exact Nat.pow_le_pow_right (n := 2) (by omega) hh
  have hw : wrap64 (2 ^ h) = (n : Int) := by
    have e : (2 : Int) ^ h = (n : Int) := by rw [← hn.out, Int.natCast_pow]; rfl
    rw [e, IntWalk.wrap64_in _ (by omega)]
  have hok : okB seed (h : Int) = true := decide_eq_true ⟨hs, by omega, by omega⟩
  have Hok := Lib.hid hok
  have hi' : (i : Int) < (n : Int) := by omega
  obtain ⟨i0, hi0, hz0, hz1, hz2⟩ := info_parts info_dig
  clear hok
  have hsh : IntKind.i64.wrap (2 ^ min (IntKind.u64.wrap (h : Int)).toNat 64) = (n : Int) := by
    have hu : IntKind.u64.wrap (h : Int) = (h : Int) := by simp only [IntKind.wrap_u64]; omega
    rw [hu, Int.toNat_natCast, Nat.min_eq_left (by omega)]
    have e : (2 : Int) ^ h = (n : Int) := by rw [← hn.out, Int.natCast_pow]; rfl
    rw [e, IntWalk.i64_in _ (by omega)]
  go_enter Tryz.func31, Tryz.ntmps31
  go_wp2_with fail
  refine (rfits_any seed (h : Int) _ (by unfold maxLen; omega)).mono ?_
  rintro e w' ⟨rfl, rfl⟩
  rw [Hok.out]
  go_wp2_with fail
  refine (rdigits_any text d hd _ ht).mono ?_
  rintro e W0 ⟨v, rfl, hdig, hB0⟩
  clear hw hsh
  obtain ⟨g, capD, cur, rfl, hg0, hg, hgc, hgm, hgs, hgt⟩ : ∃ g cap cur, v = .slice (some ⟨g, 0, none⟩) 18 cap ∧ w.heap.size + 2 ≤ g ∧ W0.heap[g]? = some (.cells cur 3 (0, 0)) ∧ 18 ≤ cap ∧ cap ≤ maxLen ∧ cur.size = cap * 1 ∧ cur.toList.take 18 = digR d := by
    rcases hdig.2 with ⟨_, h0⟩ | ⟨g, cap, cur, h1, h2, h3, h4, h5, h6, h7⟩
    · exact absurd h0 (by decide)
    · exact ⟨g, cap, cur, h1, by simpa using h2, h3, h4, h5, h6, h7⟩
  have hJ : SigR w seed.data.toList i d g cur 0 W0 := by
    have hs0 := hB0.size
    refine ⟨⟨⟨none, 0, ?_, ⟨rfl, .inl ⟨rfl, rfl⟩⟩⟩, ?_, (bal (bal (Below.refl _ _) _) _).trans (hB0.mono (by simp; omega))⟩, hg⟩
    · exact (hB0.block _ (by simp)).trans (heap_alloc2_new w _ _)
    · exact (hB0.block _ (by simp; omega)).trans (heap_alloc2_old w _ _)
  have HJ := Lib.hid hJ
  have Hgt := Lib.hid hgt
  clear hJ hB0 hdig hg hgt hgs
  go_wp2
  go_loopw [12] (fun q wx => ∃ k : Nat, k ≤ 18 ∧ q = .int .i64 k ∧ SigR w seed.data.toList i d g cur k wx) (fun q _ => 18 - (intOf q).toNat)
  case atStart => exact ⟨0, by omega, rfl, HJ.out⟩
  case round =>
    obtain ⟨k, hk, rfl, hSR⟩ := hrel
    have HR := Lib.hid hSR
    obtain ⟨hS, hdb⟩ := hSR
    have HS := Lib.hid hS
    have hBw := hS.bel
    obtain ⟨⟨A, cap, hbk, hown⟩, hres, _⟩ := hS
    have hlt1 : w.heap.size + 1 < wr.heap.size := (Array.getElem?_eq_some_iff.1 hbk).1
    have hgl : g < wr.heap.size := (Array.getElem?_eq_some_iff.1 hdb).1
    have hT2 := hT.go hBw
    by_cases hk18 : k < 18
    · have hk' : (k : Int) < 18 := by omega
      have hdl := On.dg_le d k
      obtain ⟨m, hm⟩ : ∃ m, On.dg d k = m := ⟨_, rfl⟩
      obtain ⟨x, hx⟩ : ∃ x, On.secret seed.data.toList (i : Int) (k : Int) = x := ⟨_, rfl⟩
      obtain ⟨y, hy⟩ : ∃ y, On.steps m x = y := ⟨_, rfl⟩
      have hch : On.chain seed.data.toList (i : Int) d k = y := by unfold On.chain; rw [hm]; rw [hx]; exact hy
      rw [hm] at hdl
      have Hx := Lib.hid hx
      have Hy := Lib.hid hy
      have Hch := Lib.hid hch
      have kc : wr.drew.cell? ⟨w.heap.size + 1, 1, none⟩ = some (.slice A k cap) := by
        have : wr.cell? ⟨w.heap.size + 1, 1, none⟩ = some (.slice A k cap) := by rw [Lib.cell_of_heap hbk]; rfl
        exact this
      have hszd : w.heap.size + 1 < wr.drew.heap.size := hlt1
      have hgld : g < wr.drew.heap.size := hgl
      have hTdp : PTab wr.drew := hT2.2
      have hneb : (Value.slice A k cap).ownBlock ≠ some (w.heap.size + 1) := Lib.ownBlock_ne hown hbk (by decide)
      have hneg : (Value.slice A k cap).ownBlock ≠ some g := Lib.ownBlock_ne hown hdb (by decide)
      have hgne : g ≠ w.heap.size + 1 := by omega
      have cg : wr.drew.cell? ⟨g, k, none⟩ = some (.int .i64 (m : Int)) := cell_cur (W := wr) hdb Hgt.out k hk18 m hm
      have Hown := Lib.hid hown
      have HBk := Lib.hid hbk
      have Hres := Lib.hid hres
      have Hdb := Lib.hid hdb
      clear hx hy hch hm hbk hown hres hdb
      go_wp2_with fail
      refine wp_region_noPanic ?_
      refine wp_region_held_drew (S := fun w' => w'.cell? ⟨g, k, none⟩ = some (.int .i64 (m : Int))) (by kernel_rfl) cg (fun hHeld => ?_)
      refine wpAnyH_take (i := 0) (v := ?_) rfl (by kernel_rfl) (by kernel_rfl) (by kernel_rfl) (fun _ _ _ h => h) (Or.inl ⟨by rfl, ?_⟩) (by assumption) ?_
      rotate_left
      · intro w hSw
        (try dsimp only at hSw)
        go_simp
        first | done | with_reducible rfl
      simp only [List.getElem_toArray, List.getElem_cons_zero, List.getElem_cons_succ, Act.put, List.setIfInBounds_toArray, List.set_cons_zero, List.set_cons_succ]
      refine wpAnyH_take (i := 2) (v := ?_) rfl (by kernel_rfl) (by kernel_rfl) (by kernel_rfl) (fun _ _ _ h => h) (Or.inl ⟨by rfl, ?_⟩) (by assumption) ?_
      rotate_left
      · intro w hSw
        (try dsimp only at hSw)
        go_simp
        first | done | with_reducible rfl
      simp only [List.getElem_toArray, List.getElem_cons_zero, List.getElem_cons_succ, Act.put, List.setIfInBounds_toArray, List.set_cons_zero, List.set_cons_succ]
      refine wpAnyH_take (i := 3) (v := ?_) rfl (by kernel_rfl) (by kernel_rfl) (by kernel_rfl) (fun _ _ _ h => h) (Or.inl ⟨by rfl, ?_⟩) (by assumption) ?_
      rotate_left
      · intro w hSw
        (try dsimp only at hSw)
        go_simp
        first | done | with_reducible rfl
      simp only [List.getElem_toArray, List.getElem_cons_zero, List.getElem_cons_succ, Act.put, List.setIfInBounds_toArray, List.set_cons_zero, List.set_cons_succ]
      refine wpAnyH_take (i := 4) (v := ?_) rfl (by kernel_rfl) (by kernel_rfl) (by kernel_rfl) (fun _ _ _ h => h) (Or.inl ⟨by rfl, ?_⟩) (by assumption) ?_
      rotate_left
      · intro w hSw
        (try dsimp only at hSw)
        go_simp
        first | done | with_reducible rfl
      simp only [List.getElem_toArray, List.getElem_cons_zero, List.getElem_cons_succ, Act.put, List.setIfInBounds_toArray, List.set_cons_zero, List.set_cons_succ]
      refine wpAnyH_take (i := 6) (v := ?_) rfl (by kernel_rfl) (by kernel_rfl) (by kernel_rfl) (fun _ _ _ h => h) (Or.inl ⟨by rfl, ?_⟩) (by assumption) ?_
      rotate_left
      · intro w hSw
        (try dsimp only at hSw)
        go_simp
        first | done | with_reducible rfl
      simp only [List.getElem_toArray, List.getElem_cons_zero, List.getElem_cons_succ, Act.put, List.setIfInBounds_toArray, List.set_cons_zero, List.set_cons_succ]
      refine wpAnyH_take (i := 7) (v := ?_) rfl (by kernel_rfl) (by kernel_rfl) (by kernel_rfl) (fun _ _ _ h => h) (Or.inl ⟨by rfl, ?_⟩) (by assumption) ?_
      rotate_left
      · intro w hSw
        (try dsimp only at hSw)
        go_simp
        first | done | with_reducible rfl
      simp only [List.getElem_toArray, List.getElem_cons_zero, List.getElem_cons_succ, Act.put, List.setIfInBounds_toArray, List.set_cons_zero, List.set_cons_succ]
      refine wpAnyH_take (i := 8) (v := ?_) rfl (by kernel_rfl) (by kernel_rfl) (by kernel_rfl) (fun _ _ _ h => h) (Or.inl ⟨by rfl, ?_⟩) (by assumption) ?_
      rotate_left
      · intro w hSw
        (try dsimp only at hSw)
        go_simp
        first | done | with_reducible rfl
      simp only [List.getElem_toArray, List.getElem_cons_zero, List.getElem_cons_succ, Act.put, List.setIfInBounds_toArray, List.set_cons_zero, List.set_cons_succ]
      refine wpAnyH_take (i := 9) (v := ?_) rfl (by kernel_rfl) (by kernel_rfl) (by kernel_rfl) (fun _ _ _ h => h) (Or.inl ⟨by rfl, ?_⟩) (by assumption) ?_
      rotate_left
      · intro w hSw
        (try dsimp only at hSw)
        go_simp
        first | done | with_reducible rfl
      simp only [List.getElem_toArray, List.getElem_cons_zero, List.getElem_cons_succ, Act.put, List.setIfInBounds_toArray, List.set_cons_zero, List.set_cons_succ]
      refine wpAnyH_ready (rs := [1, 5]) (by kernel_rfl) (by simp) ?_
      refine AllReadyH.cons rfl (fun K hK => ?_) ?_
      · simp only [List.getElem_toArray, List.getElem_cons_zero, List.getElem_cons_succ]
        go_simp
        refine hK.out _ _ cg (fun hHeld => ?_)
        clear hK K
        try simp only [List.getElem_toArray, List.getElem_cons_zero, List.getElem_cons_succ, Act.put, List.setIfInBounds_toArray, List.set_cons_zero, List.set_cons_succ]
        refine wpAnyH_ready (rs := [5]) (by kernel_rfl) (by simp) ?_
        refine AllReadyH.cons rfl (fun K hK => ?_) ?_
        · simp only [List.getElem_toArray, List.getElem_cons_zero, List.getElem_cons_succ]
          go_simp
          (with_reducible refine (rsecret_any seed (i : Int) (k : Int) x Hx wr.drew hTdp (by omega) (by omega) (by omega)).mono ?_)
          rintro r w1 ⟨rfl, hB1⟩
          have kc1 := (hB1.cell (p := ⟨w.heap.size + 1, 1, none⟩) hszd).trans kc
          have cg1 := (hB1.cell (p := ⟨g, k, none⟩) hgld).trans cg
          have hBd2 : Below wr.heap.size wr w1 := below_undrew hB1
          dsimp only
          refine hK.out _ _ cg1 (fun hHeld => ?_)
          clear hK K
          try simp only [List.getElem_toArray, List.getElem_cons_zero, List.getElem_cons_succ, Act.put, List.setIfInBounds_toArray, List.set_cons_zero, List.set_cons_succ]
          refine wpAnyH_ready (rs := [10]) (by kernel_rfl) (by simp) ?_
          refine AllReadyH.cons rfl (fun K hK => ?_) ?_
          · simp only [List.getElem_toArray, List.getElem_cons_zero, List.getElem_cons_succ]
            go_simp
            (with_reducible refine (rsteps_any x m y Hy (by omega) w1).mono ?_)
            rintro r w' ⟨rfl, rfl⟩
            dsimp only
            refine hK.out _ _ cg1 (fun hHeld => ?_)
            clear hK K
            try simp only [List.getElem_toArray, List.getElem_cons_zero, List.getElem_cons_succ, Act.put, List.setIfInBounds_toArray, List.set_cons_zero, List.set_cons_succ]
            refine wpAnyH_ready (rs := [11]) (by kernel_rfl) (by simp) ?_
            refine AllReadyH.cons rfl (fun K hK => ?_) ?_
            · simp only [List.getElem_toArray, List.getElem_cons_zero, List.getElem_cons_succ]
              have kc3 : (w1.alloc (.cells #[.int .u64 y.toNat] 25)).cell? ⟨w.heap.size + 1, 1, none⟩ = some (.slice A k cap) := ((bal (Below.refl w1.heap.size w1) _).cell (p := ⟨w.heap.size + 1, 1, none⟩) (Nat.lt_of_lt_of_le hszd hBd2.size)).trans kc1
              have cg2 : (w1.alloc (.cells #[.int .u64 y.toNat] 25)).cell? ⟨g, k, none⟩ = some (.int .i64 (m : Int)) := ((bal (Below.refl w1.heap.size w1) _).cell (p := ⟨g, k, none⟩) (Nat.lt_of_lt_of_le hgld hBd2.size)).trans cg1
              go_simp
              refine hK.out _ _ cg2 (fun hHeld => ?_)
              clear hK K
              try simp only [List.getElem_toArray, List.getElem_cons_zero, List.getElem_cons_succ, Act.put, List.setIfInBounds_toArray, List.set_cons_zero, List.set_cons_succ]
              refine wpAnyH_ready (rs := [12]) (by kernel_rfl) (by simp) ?_
              refine AllReadyH.cons rfl (fun K hK => ?_) ?_
              · refine step_src (w0 := w) (by rfl) _ _ 31 (by rfl) 25 i0 (.int .u64 0) 1 8 Tryz.underlying31 hi0 hz0 hz1 hz2 (by rfl) (by decide) (.slice A k cap) k (u64V (On.chains seed.data.toList (i : Int) d k)) (by rfl) ((own_below Hown.out hBd2).alloc _) (bal (bgo hBw hBd2) _) (.slice (some ⟨w1.heap.size, 0, none⟩) 1 1) 1 [.int .u64 y.toNat] (by rfl) (block_src w1 [.int .u64 y.toNat] _ _ 1 1 1 rfl) (by simp [Value.oneCell']) (by simp [maxLen]; omega) (by omega) ?_
                intro v3 w3 hown3 hB3 hk3
                have hbk3 := hk3.2 (w.heap.size + 1) (by have := hBd2.size; simp; omega) hneb
                have hbk3 : w3.heap[w.heap.size + 1]? = some (.cells #[.int .i64 (i : Int), .slice A k cap, .slice none 0 0] 34 (0, 0)) := hbk3.trans (((bal (Below.refl w1.heap.size w1) _).block _ (by have := hBd2.size; omega)).trans ((hBd2.block _ (by omega)).trans HBk.out))
                have hdg3 := hk3.2 g (by have := hBd2.size; simp; omega) hneg
                have hdg3 : w3.heap[g]? = some (.cells cur 3 (0, 0)) := hdg3.trans (((bal (Below.refl w1.heap.size w1) _).block _ (by have := hBd2.size; omega)).trans ((hBd2.block _ (by omega)).trans Hdb.out))
                have kc4 : w3.cell? ⟨w.heap.size + 1, 1, none⟩ = some (.slice A k cap) := by rw [Lib.cell_of_heap hbk3]; rfl
                have kf4 : w3.frozen? ⟨w.heap.size + 1, 1, none⟩ = false := Lib.frozen_of_heap hbk3 1
                have cg3 : w3.cell? ⟨g, k, none⟩ = some (.int .i64 (m : Int)) := (Lib.cell_of_heap hdg3 (j := k)).trans ((Lib.cell_of_heap Hdb.out (j := k)).symm.trans cg)
                obtain ⟨A3, n3, cap3, hv3⟩ : ∃ A n cap, v3 = .slice A n cap := by
                  obtain ⟨A3, cap3, h3, _⟩ := own_slice hown3
                  exact ⟨A3, _, cap3, h3⟩
                subst hv3
                have hdg4 : (w3.setCell ⟨w.heap.size + 1, 1, none⟩ (.slice A3 n3 cap3)).heap[g]? = some (.cells cur 3 (0, 0)) := (Below.heap_setCell _ _ _ _ hgne).trans hdg3
                have cg4 : (w3.setCell ⟨w.heap.size + 1, 1, none⟩ (.slice A3 n3 cap3)).cell? ⟨g, k, none⟩ = some (.int .i64 (m : Int)) := (World.cell?_of_block ((Below.heap_setCell _ _ _ _ hgne))).trans cg3
                refine hK.out _ _ cg3 (fun hHeld => ?_)
                clear hK K
                try simp only [List.getElem_toArray, List.getElem_cons_zero, List.getElem_cons_succ, Act.put, List.setIfInBounds_toArray, List.set_cons_zero, List.set_cons_succ]
                refine wpAnyH_take (i := 13) (v := ?_) rfl (by kernel_rfl) (by kernel_rfl) (by kernel_rfl) (fun _ _ _ h => h) (Or.inl ⟨by rfl, ?_⟩) (by assumption) ?_
                rotate_left
                · intro w hSw
                  (try dsimp only at hSw)
                  go_simp
                  first | done | with_reducible rfl
                simp only [List.getElem_toArray, List.getElem_cons_zero, List.getElem_cons_succ, Act.put, List.setIfInBounds_toArray, List.set_cons_zero, List.set_cons_succ]
                refine wpAnyH_ready (rs := [14]) (by kernel_rfl) (by simp) ?_
                refine AllReadyH.cons rfl (fun K hK => ?_) ?_
                · simp only [List.getElem_toArray, List.getElem_cons_zero, List.getElem_cons_succ]
                  go_simp
                  refine hK.out _ _ cg4 (fun hHeld => ?_)
                  clear hK K
                  try simp only [List.getElem_toArray, List.getElem_cons_zero, List.getElem_cons_succ, Act.put, List.setIfInBounds_toArray, List.set_cons_zero, List.set_cons_succ]
                  refine wpAnyH_done (by kernel_rfl) ?_ _
                  dsimp only [NoPanic]
                  have hput := HS.out.put Hch.out hbk3 ((hk3.2 w.heap.size (by have := hBd2.size; simp; omega) (Lib.ownBlock_ne (own_below Hown.out hBd2) ((hBd2.block _ (by omega)).trans Hres.out) (by decide))).trans (((bal (Below.refl w1.heap.size w1) _).block _ (by have := hBd2.size; omega)).trans (hBd2.block _ (by omega)))) hown3 hB3
                  have HP := Lib.hid (SigR.mk hput hdg4)
                  clear hput hown3 hbk3 hk3 kc4 kf4 hHeld cg cg1 cg2 cg3 cg4 hdg3 hdg4 kc kc1 kc3
                  go_wp2
                  go_roundw
                  case rel => exact ⟨k + 1, by omega, by go_num, HP.out⟩
                  case measure => simp [intOf]; omega
                exact AllReadyH.nil
              exact AllReadyH.nil
            exact AllReadyH.nil
          exact AllReadyH.nil
        exact AllReadyH.nil
      refine AllReadyH.cons rfl (fun K hK => ?_) ?_
      · simp only [List.getElem_toArray, List.getElem_cons_zero, List.getElem_cons_succ]
        go_simp
        (with_reducible refine (rsecret_any seed (i : Int) (k : Int) x Hx wr.drew hTdp (by omega) (by omega) (by omega)).mono ?_)
        rintro r w1 ⟨rfl, hB1⟩
        have kc1 := (hB1.cell (p := ⟨w.heap.size + 1, 1, none⟩) hszd).trans kc
        have cg1 := (hB1.cell (p := ⟨g, k, none⟩) hgld).trans cg
        have hBd2 : Below wr.heap.size wr w1 := below_undrew hB1
        dsimp only
        refine hK.out _ _ cg1 (fun hHeld => ?_)
        clear hK K
        try simp only [List.getElem_toArray, List.getElem_cons_zero, List.getElem_cons_succ, Act.put, List.setIfInBounds_toArray, List.set_cons_zero, List.set_cons_succ]
        refine wpAnyH_ready (rs := [1, 10]) (by kernel_rfl) (by simp) ?_
        refine AllReadyH.cons rfl (fun K hK => ?_) ?_
        · simp only [List.getElem_toArray, List.getElem_cons_zero, List.getElem_cons_succ]
          go_simp
          refine hK.out _ _ cg1 (fun hHeld => ?_)
          clear hK K
          try simp only [List.getElem_toArray, List.getElem_cons_zero, List.getElem_cons_succ, Act.put, List.setIfInBounds_toArray, List.set_cons_zero, List.set_cons_succ]
          refine wpAnyH_ready (rs := [10]) (by kernel_rfl) (by simp) ?_
          refine AllReadyH.cons rfl (fun K hK => ?_) ?_
          · simp only [List.getElem_toArray, List.getElem_cons_zero, List.getElem_cons_succ]
            go_simp
            (with_reducible refine (rsteps_any x m y Hy (by omega) w1).mono ?_)
            rintro r w' ⟨rfl, rfl⟩
            dsimp only
            refine hK.out _ _ cg1 (fun hHeld => ?_)
            clear hK K
            try simp only [List.getElem_toArray, List.getElem_cons_zero, List.getElem_cons_succ, Act.put, List.setIfInBounds_toArray, List.set_cons_zero, List.set_cons_succ]
            refine wpAnyH_ready (rs := [11]) (by kernel_rfl) (by simp) ?_
            refine AllReadyH.cons rfl (fun K hK => ?_) ?_
            · simp only [List.getElem_toArray, List.getElem_cons_zero, List.getElem_cons_succ]
              have kc3 : (w1.alloc (.cells #[.int .u64 y.toNat] 25)).cell? ⟨w.heap.size + 1, 1, none⟩ = some (.slice A k cap) := ((bal (Below.refl w1.heap.size w1) _).cell (p := ⟨w.heap.size + 1, 1, none⟩) (Nat.lt_of_lt_of_le hszd hBd2.size)).trans kc1
              have cg2 : (w1.alloc (.cells #[.int .u64 y.toNat] 25)).cell? ⟨g, k, none⟩ = some (.int .i64 (m : Int)) := ((bal (Below.refl w1.heap.size w1) _).cell (p := ⟨g, k, none⟩) (Nat.lt_of_lt_of_le hgld hBd2.size)).trans cg1
              go_simp
              refine hK.out _ _ cg2 (fun hHeld => ?_)
              clear hK K
              try simp only [List.getElem_toArray, List.getElem_cons_zero, List.getElem_cons_succ, Act.put, List.setIfInBounds_toArray, List.set_cons_zero, List.set_cons_succ]
              refine wpAnyH_ready (rs := [12]) (by kernel_rfl) (by simp) ?_
              refine AllReadyH.cons rfl (fun K hK => ?_) ?_
              · refine step_src (w0 := w) (by rfl) _ _ 31 (by rfl) 25 i0 (.int .u64 0) 1 8 Tryz.underlying31 hi0 hz0 hz1 hz2 (by rfl) (by decide) (.slice A k cap) k (u64V (On.chains seed.data.toList (i : Int) d k)) (by rfl) ((own_below Hown.out hBd2).alloc _) (bal (bgo hBw hBd2) _) (.slice (some ⟨w1.heap.size, 0, none⟩) 1 1) 1 [.int .u64 y.toNat] (by rfl) (block_src w1 [.int .u64 y.toNat] _ _ 1 1 1 rfl) (by simp [Value.oneCell']) (by simp [maxLen]; omega) (by omega) ?_
                intro v3 w3 hown3 hB3 hk3
                have hbk3 := hk3.2 (w.heap.size + 1) (by have := hBd2.size; simp; omega) hneb
                have hbk3 : w3.heap[w.heap.size + 1]? = some (.cells #[.int .i64 (i : Int), .slice A k cap, .slice none 0 0] 34 (0, 0)) := hbk3.trans (((bal (Below.refl w1.heap.size w1) _).block _ (by have := hBd2.size; omega)).trans ((hBd2.block _ (by omega)).trans HBk.out))
                have hdg3 := hk3.2 g (by have := hBd2.size; simp; omega) hneg
                have hdg3 : w3.heap[g]? = some (.cells cur 3 (0, 0)) := hdg3.trans (((bal (Below.refl w1.heap.size w1) _).block _ (by have := hBd2.size; omega)).trans ((hBd2.block _ (by omega)).trans Hdb.out))
                have kc4 : w3.cell? ⟨w.heap.size + 1, 1, none⟩ = some (.slice A k cap) := by rw [Lib.cell_of_heap hbk3]; rfl
                have kf4 : w3.frozen? ⟨w.heap.size + 1, 1, none⟩ = false := Lib.frozen_of_heap hbk3 1
                have cg3 : w3.cell? ⟨g, k, none⟩ = some (.int .i64 (m : Int)) := (Lib.cell_of_heap hdg3 (j := k)).trans ((Lib.cell_of_heap Hdb.out (j := k)).symm.trans cg)
                obtain ⟨A3, n3, cap3, hv3⟩ : ∃ A n cap, v3 = .slice A n cap := by
                  obtain ⟨A3, cap3, h3, _⟩ := own_slice hown3
                  exact ⟨A3, _, cap3, h3⟩
                subst hv3
                have hdg4 : (w3.setCell ⟨w.heap.size + 1, 1, none⟩ (.slice A3 n3 cap3)).heap[g]? = some (.cells cur 3 (0, 0)) := (Below.heap_setCell _ _ _ _ hgne).trans hdg3
                have cg4 : (w3.setCell ⟨w.heap.size + 1, 1, none⟩ (.slice A3 n3 cap3)).cell? ⟨g, k, none⟩ = some (.int .i64 (m : Int)) := (World.cell?_of_block ((Below.heap_setCell _ _ _ _ hgne))).trans cg3
                refine hK.out _ _ cg3 (fun hHeld => ?_)
                clear hK K
                try simp only [List.getElem_toArray, List.getElem_cons_zero, List.getElem_cons_succ, Act.put, List.setIfInBounds_toArray, List.set_cons_zero, List.set_cons_succ]
                refine wpAnyH_take (i := 13) (v := ?_) rfl (by kernel_rfl) (by kernel_rfl) (by kernel_rfl) (fun _ _ _ h => h) (Or.inl ⟨by rfl, ?_⟩) (by assumption) ?_
                rotate_left
                · intro w hSw
                  (try dsimp only at hSw)
                  go_simp
                  first | done | with_reducible rfl
                simp only [List.getElem_toArray, List.getElem_cons_zero, List.getElem_cons_succ, Act.put, List.setIfInBounds_toArray, List.set_cons_zero, List.set_cons_succ]
                refine wpAnyH_ready (rs := [14]) (by kernel_rfl) (by simp) ?_
                refine AllReadyH.cons rfl (fun K hK => ?_) ?_
                · simp only [List.getElem_toArray, List.getElem_cons_zero, List.getElem_cons_succ]
                  go_simp
                  refine hK.out _ _ cg4 (fun hHeld => ?_)
                  clear hK K
                  try simp only [List.getElem_toArray, List.getElem_cons_zero, List.getElem_cons_succ, Act.put, List.setIfInBounds_toArray, List.set_cons_zero, List.set_cons_succ]
                  refine wpAnyH_done (by kernel_rfl) ?_ _
                  dsimp only [NoPanic]
                  have hput := HS.out.put Hch.out hbk3 ((hk3.2 w.heap.size (by have := hBd2.size; simp; omega) (Lib.ownBlock_ne (own_below Hown.out hBd2) ((hBd2.block _ (by omega)).trans Hres.out) (by decide))).trans (((bal (Below.refl w1.heap.size w1) _).block _ (by have := hBd2.size; omega)).trans (hBd2.block _ (by omega)))) hown3 hB3
                  have HP := Lib.hid (SigR.mk hput hdg4)
                  clear hput hown3 hbk3 hk3 kc4 kf4 hHeld cg cg1 cg2 cg3 cg4 hdg3 hdg4 kc kc1 kc3
                  go_wp2
                  go_roundw
                  case rel => exact ⟨k + 1, by omega, by go_num, HP.out⟩
                  case measure => simp [intOf]; omega
                exact AllReadyH.nil
              exact AllReadyH.nil
            exact AllReadyH.nil
          exact AllReadyH.nil
        refine AllReadyH.cons rfl (fun K hK => ?_) ?_
        · simp only [List.getElem_toArray, List.getElem_cons_zero, List.getElem_cons_succ]
          go_simp
          (with_reducible refine (rsteps_any x m y Hy (by omega) w1).mono ?_)
          rintro r w' ⟨rfl, rfl⟩
          dsimp only
          refine hK.out _ _ cg1 (fun hHeld => ?_)
          clear hK K
          try simp only [List.getElem_toArray, List.getElem_cons_zero, List.getElem_cons_succ, Act.put, List.setIfInBounds_toArray, List.set_cons_zero, List.set_cons_succ]
          refine wpAnyH_ready (rs := [1, 11]) (by kernel_rfl) (by simp) ?_
          refine AllReadyH.cons rfl (fun K hK => ?_) ?_
          · simp only [List.getElem_toArray, List.getElem_cons_zero, List.getElem_cons_succ]
            go_simp
            refine hK.out _ _ cg1 (fun hHeld => ?_)
            clear hK K
            try simp only [List.getElem_toArray, List.getElem_cons_zero, List.getElem_cons_succ, Act.put, List.setIfInBounds_toArray, List.set_cons_zero, List.set_cons_succ]
            refine wpAnyH_ready (rs := [11]) (by kernel_rfl) (by simp) ?_
            refine AllReadyH.cons rfl (fun K hK => ?_) ?_
            · simp only [List.getElem_toArray, List.getElem_cons_zero, List.getElem_cons_succ]
              have kc3 : (w1.alloc (.cells #[.int .u64 y.toNat] 25)).cell? ⟨w.heap.size + 1, 1, none⟩ = some (.slice A k cap) := ((bal (Below.refl w1.heap.size w1) _).cell (p := ⟨w.heap.size + 1, 1, none⟩) (Nat.lt_of_lt_of_le hszd hBd2.size)).trans kc1
              have cg2 : (w1.alloc (.cells #[.int .u64 y.toNat] 25)).cell? ⟨g, k, none⟩ = some (.int .i64 (m : Int)) := ((bal (Below.refl w1.heap.size w1) _).cell (p := ⟨g, k, none⟩) (Nat.lt_of_lt_of_le hgld hBd2.size)).trans cg1
              go_simp
              refine hK.out _ _ cg2 (fun hHeld => ?_)
              clear hK K
              try simp only [List.getElem_toArray, List.getElem_cons_zero, List.getElem_cons_succ, Act.put, List.setIfInBounds_toArray, List.set_cons_zero, List.set_cons_succ]
              refine wpAnyH_ready (rs := [12]) (by kernel_rfl) (by simp) ?_
              refine AllReadyH.cons rfl (fun K hK => ?_) ?_
              · refine step_src (w0 := w) (by rfl) _ _ 31 (by rfl) 25 i0 (.int .u64 0) 1 8 Tryz.underlying31 hi0 hz0 hz1 hz2 (by rfl) (by decide) (.slice A k cap) k (u64V (On.chains seed.data.toList (i : Int) d k)) (by rfl) ((own_below Hown.out hBd2).alloc _) (bal (bgo hBw hBd2) _) (.slice (some ⟨w1.heap.size, 0, none⟩) 1 1) 1 [.int .u64 y.toNat] (by rfl) (block_src w1 [.int .u64 y.toNat] _ _ 1 1 1 rfl) (by simp [Value.oneCell']) (by simp [maxLen]; omega) (by omega) ?_
                intro v3 w3 hown3 hB3 hk3
                have hbk3 := hk3.2 (w.heap.size + 1) (by have := hBd2.size; simp; omega) hneb
                have hbk3 : w3.heap[w.heap.size + 1]? = some (.cells #[.int .i64 (i : Int), .slice A k cap, .slice none 0 0] 34 (0, 0)) := hbk3.trans (((bal (Below.refl w1.heap.size w1) _).block _ (by have := hBd2.size; omega)).trans ((hBd2.block _ (by omega)).trans HBk.out))
                have hdg3 := hk3.2 g (by have := hBd2.size; simp; omega) hneg
                have hdg3 : w3.heap[g]? = some (.cells cur 3 (0, 0)) := hdg3.trans (((bal (Below.refl w1.heap.size w1) _).block _ (by have := hBd2.size; omega)).trans ((hBd2.block _ (by omega)).trans Hdb.out))
                have kc4 : w3.cell? ⟨w.heap.size + 1, 1, none⟩ = some (.slice A k cap) := by rw [Lib.cell_of_heap hbk3]; rfl
                have kf4 : w3.frozen? ⟨w.heap.size + 1, 1, none⟩ = false := Lib.frozen_of_heap hbk3 1
                have cg3 : w3.cell? ⟨g, k, none⟩ = some (.int .i64 (m : Int)) := (Lib.cell_of_heap hdg3 (j := k)).trans ((Lib.cell_of_heap Hdb.out (j := k)).symm.trans cg)
                obtain ⟨A3, n3, cap3, hv3⟩ : ∃ A n cap, v3 = .slice A n cap := by
                  obtain ⟨A3, cap3, h3, _⟩ := own_slice hown3
                  exact ⟨A3, _, cap3, h3⟩
                subst hv3
                have hdg4 : (w3.setCell ⟨w.heap.size + 1, 1, none⟩ (.slice A3 n3 cap3)).heap[g]? = some (.cells cur 3 (0, 0)) := (Below.heap_setCell _ _ _ _ hgne).trans hdg3
                have cg4 : (w3.setCell ⟨w.heap.size + 1, 1, none⟩ (.slice A3 n3 cap3)).cell? ⟨g, k, none⟩ = some (.int .i64 (m : Int)) := (World.cell?_of_block ((Below.heap_setCell _ _ _ _ hgne))).trans cg3
                refine hK.out _ _ cg3 (fun hHeld => ?_)
                clear hK K
                try simp only [List.getElem_toArray, List.getElem_cons_zero, List.getElem_cons_succ, Act.put, List.setIfInBounds_toArray, List.set_cons_zero, List.set_cons_succ]
                refine wpAnyH_take (i := 13) (v := ?_) rfl (by kernel_rfl) (by kernel_rfl) (by kernel_rfl) (fun _ _ _ h => h) (Or.inl ⟨by rfl, ?_⟩) (by assumption) ?_
                rotate_left
                · intro w hSw
                  (try dsimp only at hSw)
                  go_simp
                  first | done | with_reducible rfl
                simp only [List.getElem_toArray, List.getElem_cons_zero, List.getElem_cons_succ, Act.put, List.setIfInBounds_toArray, List.set_cons_zero, List.set_cons_succ]
                refine wpAnyH_ready (rs := [14]) (by kernel_rfl) (by simp) ?_
                refine AllReadyH.cons rfl (fun K hK => ?_) ?_
                · simp only [List.getElem_toArray, List.getElem_cons_zero, List.getElem_cons_succ]
                  go_simp
                  refine hK.out _ _ cg4 (fun hHeld => ?_)
                  clear hK K
                  try simp only [List.getElem_toArray, List.getElem_cons_zero, List.getElem_cons_succ, Act.put, List.setIfInBounds_toArray, List.set_cons_zero, List.set_cons_succ]
                  refine wpAnyH_done (by kernel_rfl) ?_ _
                  dsimp only [NoPanic]
                  have hput := HS.out.put Hch.out hbk3 ((hk3.2 w.heap.size (by have := hBd2.size; simp; omega) (Lib.ownBlock_ne (own_below Hown.out hBd2) ((hBd2.block _ (by omega)).trans Hres.out) (by decide))).trans (((bal (Below.refl w1.heap.size w1) _).block _ (by have := hBd2.size; omega)).trans (hBd2.block _ (by omega)))) hown3 hB3
                  have HP := Lib.hid (SigR.mk hput hdg4)
                  clear hput hown3 hbk3 hk3 kc4 kf4 hHeld cg cg1 cg2 cg3 cg4 hdg3 hdg4 kc kc1 kc3
                  go_wp2
                  go_roundw
                  case rel => exact ⟨k + 1, by omega, by go_num, HP.out⟩
                  case measure => simp [intOf]; omega
                exact AllReadyH.nil
              exact AllReadyH.nil
            exact AllReadyH.nil
          refine AllReadyH.cons rfl (fun K hK => ?_) ?_
          · simp only [List.getElem_toArray, List.getElem_cons_zero, List.getElem_cons_succ]
            have kc3 : (w1.alloc (.cells #[.int .u64 y.toNat] 25)).cell? ⟨w.heap.size + 1, 1, none⟩ = some (.slice A k cap) := ((bal (Below.refl w1.heap.size w1) _).cell (p := ⟨w.heap.size + 1, 1, none⟩) (Nat.lt_of_lt_of_le hszd hBd2.size)).trans kc1
            have cg2 : (w1.alloc (.cells #[.int .u64 y.toNat] 25)).cell? ⟨g, k, none⟩ = some (.int .i64 (m : Int)) := ((bal (Below.refl w1.heap.size w1) _).cell (p := ⟨g, k, none⟩) (Nat.lt_of_lt_of_le hgld hBd2.size)).trans cg1
            go_simp
            refine hK.out _ _ cg2 (fun hHeld => ?_)
            clear hK K
            try simp only [List.getElem_toArray, List.getElem_cons_zero, List.getElem_cons_succ, Act.put, List.setIfInBounds_toArray, List.set_cons_zero, List.set_cons_succ]
            refine wpAnyH_ready (rs := [1]) (by kernel_rfl) (by simp) ?_
            refine AllReadyH.cons rfl (fun K hK => ?_) ?_
            · simp only [List.getElem_toArray, List.getElem_cons_zero, List.getElem_cons_succ]
              go_simp
              refine hK.out _ _ cg2 (fun hHeld => ?_)
              clear hK K
              try simp only [List.getElem_toArray, List.getElem_cons_zero, List.getElem_cons_succ, Act.put, List.setIfInBounds_toArray, List.set_cons_zero, List.set_cons_succ]
              refine wpAnyH_ready (rs := [12]) (by kernel_rfl) (by simp) ?_
              refine AllReadyH.cons rfl (fun K hK => ?_) ?_
              · refine step_src (w0 := w) (by rfl) _ _ 31 (by rfl) 25 i0 (.int .u64 0) 1 8 Tryz.underlying31 hi0 hz0 hz1 hz2 (by rfl) (by decide) (.slice A k cap) k (u64V (On.chains seed.data.toList (i : Int) d k)) (by rfl) ((own_below Hown.out hBd2).alloc _) (bal (bgo hBw hBd2) _) (.slice (some ⟨w1.heap.size, 0, none⟩) 1 1) 1 [.int .u64 y.toNat] (by rfl) (block_src w1 [.int .u64 y.toNat] _ _ 1 1 1 rfl) (by simp [Value.oneCell']) (by simp [maxLen]; omega) (by omega) ?_
                intro v3 w3 hown3 hB3 hk3
                have hbk3 := hk3.2 (w.heap.size + 1) (by have := hBd2.size; simp; omega) hneb
                have hbk3 : w3.heap[w.heap.size + 1]? = some (.cells #[.int .i64 (i : Int), .slice A k cap, .slice none 0 0] 34 (0, 0)) := hbk3.trans (((bal (Below.refl w1.heap.size w1) _).block _ (by have := hBd2.size; omega)).trans ((hBd2.block _ (by omega)).trans HBk.out))
                have hdg3 := hk3.2 g (by have := hBd2.size; simp; omega) hneg
                have hdg3 : w3.heap[g]? = some (.cells cur 3 (0, 0)) := hdg3.trans (((bal (Below.refl w1.heap.size w1) _).block _ (by have := hBd2.size; omega)).trans ((hBd2.block _ (by omega)).trans Hdb.out))
                have kc4 : w3.cell? ⟨w.heap.size + 1, 1, none⟩ = some (.slice A k cap) := by rw [Lib.cell_of_heap hbk3]; rfl
                have kf4 : w3.frozen? ⟨w.heap.size + 1, 1, none⟩ = false := Lib.frozen_of_heap hbk3 1
                have cg3 : w3.cell? ⟨g, k, none⟩ = some (.int .i64 (m : Int)) := (Lib.cell_of_heap hdg3 (j := k)).trans ((Lib.cell_of_heap Hdb.out (j := k)).symm.trans cg)
                obtain ⟨A3, n3, cap3, hv3⟩ : ∃ A n cap, v3 = .slice A n cap := by
                  obtain ⟨A3, cap3, h3, _⟩ := own_slice hown3
                  exact ⟨A3, _, cap3, h3⟩
                subst hv3
                have hdg4 : (w3.setCell ⟨w.heap.size + 1, 1, none⟩ (.slice A3 n3 cap3)).heap[g]? = some (.cells cur 3 (0, 0)) := (Below.heap_setCell _ _ _ _ hgne).trans hdg3
                have cg4 : (w3.setCell ⟨w.heap.size + 1, 1, none⟩ (.slice A3 n3 cap3)).cell? ⟨g, k, none⟩ = some (.int .i64 (m : Int)) := (World.cell?_of_block ((Below.heap_setCell _ _ _ _ hgne))).trans cg3
                refine hK.out _ _ cg3 (fun hHeld => ?_)
                clear hK K
                try simp only [List.getElem_toArray, List.getElem_cons_zero, List.getElem_cons_succ, Act.put, List.setIfInBounds_toArray, List.set_cons_zero, List.set_cons_succ]
                refine wpAnyH_take (i := 13) (v := ?_) rfl (by kernel_rfl) (by kernel_rfl) (by kernel_rfl) (fun _ _ _ h => h) (Or.inl ⟨by rfl, ?_⟩) (by assumption) ?_
                rotate_left
                · intro w hSw
                  (try dsimp only at hSw)
                  go_simp
                  first | done | with_reducible rfl
                simp only [List.getElem_toArray, List.getElem_cons_zero, List.getElem_cons_succ, Act.put, List.setIfInBounds_toArray, List.set_cons_zero, List.set_cons_succ]
                refine wpAnyH_ready (rs := [14]) (by kernel_rfl) (by simp) ?_
                refine AllReadyH.cons rfl (fun K hK => ?_) ?_
                · simp only [List.getElem_toArray, List.getElem_cons_zero, List.getElem_cons_succ]
                  go_simp
                  refine hK.out _ _ cg4 (fun hHeld => ?_)
                  clear hK K
                  try simp only [List.getElem_toArray, List.getElem_cons_zero, List.getElem_cons_succ, Act.put, List.setIfInBounds_toArray, List.set_cons_zero, List.set_cons_succ]
                  refine wpAnyH_done (by kernel_rfl) ?_ _
                  dsimp only [NoPanic]
                  have hput := HS.out.put Hch.out hbk3 ((hk3.2 w.heap.size (by have := hBd2.size; simp; omega) (Lib.ownBlock_ne (own_below Hown.out hBd2) ((hBd2.block _ (by omega)).trans Hres.out) (by decide))).trans (((bal (Below.refl w1.heap.size w1) _).block _ (by have := hBd2.size; omega)).trans (hBd2.block _ (by omega)))) hown3 hB3
                  have HP := Lib.hid (SigR.mk hput hdg4)
                  clear hput hown3 hbk3 hk3 kc4 kf4 hHeld cg cg1 cg2 cg3 cg4 hdg3 hdg4 kc kc1 kc3
                  go_wp2
                  go_roundw
                  case rel => exact ⟨k + 1, by omega, by go_num, HP.out⟩
                  case measure => simp [intOf]; omega
                exact AllReadyH.nil
              exact AllReadyH.nil
            exact AllReadyH.nil
          exact AllReadyH.nil
        exact AllReadyH.nil
      exact AllReadyH.nil
    · obtain rfl : k = 18 := by omega
      have HSl := Lib.hid hown
      have HBk := Lib.hid hbk
      have Hres := Lib.hid hres
      have hc : pathE n (i : Int) = 0 := pathE_ok n i (by omega) hi
      have Hc := Lib.hid hc
      clear hown hbk hres hc hk
      go_wp2_with fail
      refine (roleaves_any seed h n hh hn.out (by omega) _ hT2).mono ?_
      rintro e w1 ⟨v, rfl, hown, hB1⟩
      obtain ⟨L, capL, rfl, hSL⟩ := own_slice hown
      have HSL := Lib.hid hSL
      clear hown hSL
      go_wp2_with fail
      refine (rpath_own L capL n (leavesB seed n) (i : Int) p 0 _ (leavesB_len _ _) hp.out Hc.out HSL.out (leavesB_size _ _) (by omega)).mono ?_
      rintro e w2 ⟨Bp, capB, rfl, hSB, hB2⟩
      have hSB := own_mono hSB (Nat.le_trans hBw.size hB1.size)
      have hB12 := bgo hB1 hB2
      have hs12 := hB12.size
      have hbk2 := (hB12.block _ hlt1).trans HBk.out
      have hres2 := (hB12.block w.heap.size (by omega)).trans Hres.out
      have hSA2 := own_below HSl.out hB12
      have hBw2 := bgo hBw hB12
      have c0 : w2.cell? ⟨w.heap.size + 1, 0, none⟩ = some (.int .i64 (i : Int)) := by rw [Lib.cell_of_heap hbk2]; rfl
      have c1 : w2.cell? ⟨w.heap.size + 1, 1, none⟩ = some (.slice A 18 cap) := by rw [Lib.cell_of_heap hbk2]; rfl
      have c2 : w2.cell? ⟨w.heap.size + 1, 2, none⟩ = some (.slice none 0 0) := by rw [Lib.cell_of_heap hbk2]; rfl
      have r0 : w2.cell? ⟨w.heap.size, 0, none⟩ = some (.int .i64 0) := by rw [Lib.cell_of_heap hres2]; rfl
      have r1 : w2.cell? ⟨w.heap.size, 1, none⟩ = some (.slice none 0 0) := by rw [Lib.cell_of_heap hres2]; rfl
      have r2 : w2.cell? ⟨w.heap.size, 2, none⟩ = some (.slice none 0 0) := by rw [Lib.cell_of_heap hres2]; rfl
      have f1 : ∀ j, w2.frozen? ⟨w.heap.size + 1, j, none⟩ = false := fun j => Lib.frozen_of_heap hbk2 j
      have f0 : ∀ j, w2.frozen? ⟨w.heap.size, j, none⟩ = false := fun j => Lib.frozen_of_heap hres2 j
      have G := Lib.hid (And.intro hbk2 (And.intro hres2 (And.intro hSA2 hSB)))
      clear hbk2 hres2 hSA2 hSB hB1 hB2 hB12
      go_wp2_with fail
      obtain ⟨hbk2, hres2, hSA2, hSB⟩ := G.out
      have s1 := own_set hSA2 (j := 2) (u := .slice Bp p.length capB) hbk2 (by decide)
      have t1 := own_set hSB (j := 2) (u := .slice Bp p.length capB) hbk2 (by decide)
      have z1 := (heap_setCell_other w2 ⟨w.heap.size + 1, 2, none⟩ w.heap.size (.slice Bp p.length capB) (by simp)).trans hres2
      have s2 := own_set s1 (j := 0) (u := .int .i64 (i : Int)) z1 (by decide)
      have t2 := own_set t1 (j := 0) (u := .int .i64 (i : Int)) z1 (by decide)
      have z2 := setCell_heap (j := 0) (v := .int .i64 (i : Int)) z1
      have s3 := own_set s2 (j := 1) (u := .slice A 18 cap) z2 (by decide)
      have t3 := own_set t2 (j := 1) (u := .slice A 18 cap) z2 (by decide)
      have z3 := setCell_heap (j := 1) (v := .slice A 18 cap) z2
      have s4 := own_set s3 (j := 2) (u := .slice Bp p.length capB) z3 (by decide)
      have t4 := own_set t3 (j := 2) (u := .slice Bp p.length capB) z3 (by decide)
      refine bodyPost_ret (v := .tuple #[.agg #[.int .i64 (i : Int), .slice A 18 cap, .slice Bp p.length capB], .int .i64 0]) (by simp [results, Tryz.results31, go_sem, r0, r1, r2]) rfl ⟨A, cap, Bp, capB, rfl, s4, t4, ?_⟩
      exact (((hBw2.setCell (by simp) _).setCell (by simp) _).setCell (by simp) _).setCell (by simp) _
end Go.Proofs.YtfjkmhbipkoefaaGreatDoor
