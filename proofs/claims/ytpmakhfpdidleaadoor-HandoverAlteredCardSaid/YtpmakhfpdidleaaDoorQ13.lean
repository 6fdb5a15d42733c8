/- The walk of onetime.Sign once more: it also says that a path that is nil has the capacity 0. -/
import Derived.Test.YtpmakhfpdidleaaDoorQ12
namespace Go.Proofs.YtpmakhfpdidleaaDoor
open Go.RowKit Go.Shelf
set_option linter.unusedVariables false
set_option linter.unusedSimpArgs false
theorem own_slc2 {W : World} {base : Nat} {e : TypeId} {size n : Nat} {v : Value} {xs : List Value} (h : W.ownsRow base e size v n xs) : ∃ A cap, v = .slice A n cap ∧ (n ≤ cap ∧ cap ≤ maxLen ∧ (A = none → cap = 0)) ∧ Sl W W.heap.size size A n xs := by
  obtain ⟨A, cap, rfl, hS⟩ := own_slice h
  refine ⟨A, cap, rfl, ?_, hS⟩
  rcases h.2 with ⟨h1, h0⟩ | ⟨g, cap', cur, h1, _, _, h2, h3, _⟩
  · injection h1 with _ _ h1
    subst h1 h0
    exact ⟨Nat.le_refl _, Nat.zero_le _, fun _ => rfl⟩
  · injection h1 with e1 _ h1
    subst h1 e1
    exact ⟨h2, h3, fun e => by cases e⟩
theorem path_sl2 (A : Option Addr) (c n : Nat) (ss : List ByteArray) (i : Int) (p : Forks) (e : Int) (w : World) (hn : ss.length = n) (hp : pathL ss i = p) (he : pathE n i = e) (hA : Sl w w.heap.size 1 A n (strV ss)) (hs : ∀ s ∈ ss, s.size ≤ 140737488355328) (hl : n ≤ 1100) :
    Calls Tryd.prog 46 #[.slice A n c, .int .i64 i] w fun r w' => ∃ B cap, r = .returned (.tuple #[.slice B p.length cap, .int .i64 e]) ∧ (p.length ≤ cap ∧ cap ≤ maxLen ∧ (B = none → cap = 0)) ∧ Sl w' w'.heap.size 2 B p.length (forkV p) ∧ Below w.heap.size w w' := by
  subst hn hp he
  refine (path_any A c ss i w hA hs (by unfold maxLen; omega)).mono ?_
  rintro r w' ⟨v, rfl, h, hB⟩
  obtain ⟨B, cap, rfl, hc, hS⟩ := own_slc2 h
  exact ⟨B, cap, rfl, hc, hS, hB⟩
set_option maxRecDepth 100000 in
set_option maxHeartbeats 8000000 in
theorem sign_src (seed : ByteArray) (h i n : Nat) (hh : h ≤ 8) (hn : Hid (2 ^ h = n)) (hi : i < n) (hs : seed.size ≤ 64) (text : ByteArray) (d : UInt64) (hd : Hid (Dig.sum text.data.toList = d)) (ht : text.size ≤ maxLen)
    (p : Forks) (hp : Hid (pathL (leavesB seed n) (i : Int) = p)) (w : World) (hT : OTabs w) :
    Calls Tryd.prog 24 #[.string seed, .int .i64 (h : Int), .int .i64 (i : Int), .string text] w fun e w' => ∃ A ca B cb, e = .returned (.tuple #[.agg #[.int .i64 (i : Int), .slice A 18 ca, .slice B p.length cb], .int .i64 0]) ∧
      (18 ≤ ca ∧ ca ≤ maxLen) ∧ (p.length ≤ cb ∧ cb ≤ maxLen ∧ (B = none → cb = 0)) ∧ Sl w' w'.heap.size 1 A 18 (u64V (On.chains seed.data.toList (i : Int) d 18)) ∧ Sl w' w'.heap.size 2 B p.length (forkV p) ∧ Below w.heap.size w w' := by
  have hn256 : n ≤ 256 := by rw [← hn.out]; exact Nat.pow_le_pow_right (n := 2) (by omega) hh
  have hw : wrap64 (2 ^ h) = (n : Int) := by
    have e : (2 : Int) ^ h = (n : Int) := by rw [← hn.out, Int.natCast_pow]; rfl
    rw [e, IntWalk.wrap64_in _ (by omega)]
  have hok : okB seed (h : Int) = true := decide_eq_true ⟨hs, by omega, by omega⟩
  have Hok := Lib.hid hok
  have hi' : (i : Int) < (n : Int) := by omega
  obtain ⟨i0, hi0, hz0, hz1, hz2⟩ := info_parts info_dig
  clear hok
  go_enter Tryd.func24, Tryd.ntmps24
  go_wp2_with fail
  refine (valid_any seed (h : Int) _ (by unfold maxLen; omega)).mono ?_
  rintro e w' ⟨rfl, rfl⟩
  rw [Hok.out]
  go_wp2_with fail
  refine (digits_any text d hd _ ht).mono ?_
  rintro e W0 ⟨rfl, hB0⟩
  clear hw
  have hJ : SigAt w seed.data.toList i d 0 W0 := by
    have hs0 := hB0.size
    refine ⟨⟨none, 0, ?_, ⟨rfl, .inl ⟨rfl, rfl⟩⟩⟩, ?_, (bal (bal (Below.refl _ _) _) _).trans (hB0.mono (by simp; omega))⟩
    · exact (hB0.block _ (by simp)).trans (heap_alloc2_new w _ _)
    · exact (hB0.block _ (by simp; omega)).trans (heap_alloc2_old w _ _)
  have HJ := Lib.hid hJ
  clear hJ hB0
  unfold digV
  go_wp2
  go_loopw [34] (fun q wx => ∃ k : Nat, k ≤ 18 ∧ q = .int .i64 k ∧ SigAt w seed.data.toList i d k wx) (fun q _ => 18 - (intOf q).toNat)
  case atStart => exact ⟨0, by omega, rfl, HJ.out⟩
  case round =>
    obtain ⟨k, hk, rfl, hS⟩ := hrel
    have HS := Lib.hid hS
    have hBw := hS.bel
    obtain ⟨⟨A, cap, hbk, hown⟩, hres, _⟩ := hS
    have hlt1 : w.heap.size + 1 < wr.heap.size := (Array.getElem?_eq_some_iff.1 hbk).1
    have hT2 := hT.go hBw
    by_cases hk18 : k < 18
    · have hk' : (k : Int) < 18 := by omega
      have hidx : ∀ W, (Instr.index 88 (.agg (digA d)) (.int .i64 (k : Int))).run Tryd.prog W = .ok (.int .i64 (On.dg d k : Int)) W := fun W => dig_index d k hk18 W
      have hdl := On.dg_le d k
      obtain ⟨m, hm⟩ : ∃ m, On.dg d k = m := ⟨_, rfl⟩
      obtain ⟨x, hx⟩ : ∃ x, On.secret seed.data.toList (i : Int) (k : Int) = x := ⟨_, rfl⟩
      obtain ⟨y, hy⟩ : ∃ y, On.steps m x = y := ⟨_, rfl⟩
      have hch : On.chain seed.data.toList (i : Int) d k = y := by unfold On.chain; rw [hm]; rw [hx]; exact hy
      rw [hm] at hdl hidx
      have Hx := Lib.hid hx
      have Hy := Lib.hid hy
      have Hch := Lib.hid hch
      have kc : wr.drew.cell? ⟨w.heap.size + 1, 1, none⟩ = some (.slice A k cap) := by
        have : wr.cell? ⟨w.heap.size + 1, 1, none⟩ = some (.slice A k cap) := by rw [Lib.cell_of_heap hbk]; rfl
        exact this
      have hszd : w.heap.size + 1 < wr.drew.heap.size := hlt1
      have hTd : OTabs wr.drew := hT2
      have hTdp : PTab wr.drew := hT2.2
      have hneb : (Value.slice A k cap).ownBlock ≠ some (w.heap.size + 1) := Lib.ownBlock_ne hown hbk (by decide)
      have Hown := Lib.hid hown
      have HBk := Lib.hid hbk
      have Hres := Lib.hid hres
      clear hx hy hch hm hbk hown hres
      go_wp2_with fail
      refine wp_region_noPanic ?_
      refine wp_region_held_drew (S := fun _ => True) (by kernel_rfl) trivial (fun hHeld => ?_)
      refine wpAnyH_take (i := 0) (v := ?_) rfl (by kernel_rfl) (by kernel_rfl) (by kernel_rfl) (fun _ _ _ h => h) (Or.inl ⟨by rfl, ?_⟩) (by assumption) ?_
      rotate_left
      · intro w hSw
        (try dsimp only at hSw)
        go_simp
        first | done | with_reducible rfl
      simp only [List.getElem_toArray, List.getElem_cons_zero, List.getElem_cons_succ, Act.put, List.setIfInBounds_toArray, List.set_cons_zero, List.set_cons_succ]
      refine wpAnyH_take (i := 2) (v := ?_) rfl (by kernel_rfl) (by kernel_rfl) (by kernel_rfl) (fun _ _ _ h => h) (Or.inl ⟨by rfl, ?_⟩) (by assumption) ?_
      rotate_left
      · intro w hSw
        (try dsimp only at hSw)
        go_simp
        first | done | with_reducible rfl
      simp only [List.getElem_toArray, List.getElem_cons_zero, List.getElem_cons_succ, Act.put, List.setIfInBounds_toArray, List.set_cons_zero, List.set_cons_succ]
      refine wpAnyH_take (i := 3) (v := ?_) rfl (by kernel_rfl) (by kernel_rfl) (by kernel_rfl) (fun _ _ _ h => h) (Or.inl ⟨by rfl, ?_⟩) (by assumption) ?_
      rotate_left
      · intro w hSw
        (try dsimp only at hSw)
        go_simp
        first | done | with_reducible rfl
      simp only [List.getElem_toArray, List.getElem_cons_zero, List.getElem_cons_succ, Act.put, List.setIfInBounds_toArray, List.set_cons_zero, List.set_cons_succ]
      refine wpAnyH_take (i := 4) (v := ?_) rfl (by kernel_rfl) (by kernel_rfl) (by kernel_rfl) (fun _ _ _ h => h) (Or.inl ⟨by rfl, ?_⟩) (by assumption) ?_
      rotate_left
      · intro w hSw
        (try dsimp only at hSw)
        go_simp
        first | done | with_reducible rfl
      simp only [List.getElem_toArray, List.getElem_cons_zero, List.getElem_cons_succ, Act.put, List.setIfInBounds_toArray, List.set_cons_zero, List.set_cons_succ]
      refine wpAnyH_take (i := 6) (v := ?_) rfl (by kernel_rfl) (by kernel_rfl) (by kernel_rfl) (fun _ _ _ h => h) (Or.inl ⟨by rfl, ?_⟩) (by assumption) ?_
      rotate_left
      · intro w hSw
        (try dsimp only at hSw)
        go_simp
        first | done | with_reducible rfl
      simp only [List.getElem_toArray, List.getElem_cons_zero, List.getElem_cons_succ, Act.put, List.setIfInBounds_toArray, List.set_cons_zero, List.set_cons_succ]
      refine wpAnyH_ready (rs := [1, 5]) (by kernel_rfl) (by simp) ?_
      refine AllReadyH.cons rfl (fun K hK => ?_) ?_
      · simp only [List.getElem_toArray, List.getElem_cons_zero, List.getElem_cons_succ]
        go_simp
        refine hK.out _ _ trivial (fun hHeld => ?_)
        clear hK K
        try simp only [List.getElem_toArray, List.getElem_cons_zero, List.getElem_cons_succ, Act.put, List.setIfInBounds_toArray, List.set_cons_zero, List.set_cons_succ]
        refine wpAnyH_ready (rs := [5]) (by kernel_rfl) (by simp) ?_
        refine AllReadyH.cons rfl (fun K hK => ?_) ?_
        · simp only [List.getElem_toArray, List.getElem_cons_zero, List.getElem_cons_succ]
          go_simp
          (with_reducible refine (secret_v seed (i : Int) (k : Int) x Hx wr.drew hTdp (by omega) (by omega) (by omega)).mono ?_)
          rintro r w1 ⟨rfl, hB1⟩
          have hT1 := (hTd.go hB1).1
          have kc1 := (hB1.cell (p := ⟨w.heap.size + 1, 1, none⟩) hszd).trans kc
          dsimp only
          refine hK.out _ _ trivial (fun hHeld => ?_)
          clear hK K
          try simp only [List.getElem_toArray, List.getElem_cons_zero, List.getElem_cons_succ, Act.put, List.setIfInBounds_toArray, List.set_cons_zero, List.set_cons_succ]
          refine wpAnyH_ready (rs := [7]) (by kernel_rfl) (by simp) ?_
          refine AllReadyH.cons rfl (fun K hK => ?_) ?_
          · simp only [List.getElem_toArray, List.getElem_cons_zero, List.getElem_cons_succ]
            go_simp
            (with_reducible refine (walk_v x m y Hy (by omega) w1 hT1).mono ?_)
            rintro r w2 ⟨rfl, hB2⟩
            have hs1 := hB1.size
            have kc2 := (hB2.cell (p := ⟨w.heap.size + 1, 1, none⟩) (Nat.lt_of_lt_of_le hszd hs1)).trans kc1
            have hBd2 : Below wr.heap.size wr w2 := bgo (below_undrew hB1) hB2
            dsimp only
            refine hK.out _ _ trivial (fun hHeld => ?_)
            clear hK K
            try simp only [List.getElem_toArray, List.getElem_cons_zero, List.getElem_cons_succ, Act.put, List.setIfInBounds_toArray, List.set_cons_zero, List.set_cons_succ]
            refine wpAnyH_ready (rs := [8]) (by kernel_rfl) (by simp) ?_
            refine AllReadyH.cons rfl (fun K hK => ?_) ?_
            · simp only [List.getElem_toArray, List.getElem_cons_zero, List.getElem_cons_succ]
              have kc3 : (w2.alloc (.cells #[.int .u64 y.toNat] 29)).cell? ⟨w.heap.size + 1, 1, none⟩ = some (.slice A k cap) := ((bal (Below.refl w2.heap.size w2) _).cell (p := ⟨w.heap.size + 1, 1, none⟩) (Nat.lt_of_lt_of_le hszd hBd2.size)).trans kc2
              go_simp
              refine hK.out _ _ trivial (fun hHeld => ?_)
              clear hK K
              try simp only [List.getElem_toArray, List.getElem_cons_zero, List.getElem_cons_succ, Act.put, List.setIfInBounds_toArray, List.set_cons_zero, List.set_cons_succ]
              refine wpAnyH_ready (rs := [9]) (by kernel_rfl) (by simp) ?_
              refine AllReadyH.cons rfl (fun K hK => ?_) ?_
              · refine step_src (w0 := w) (by rfl) _ _ 33 (by rfl) 29 i0 (.int .u64 0) 1 8 Tryd.underlying33 hi0 hz0 hz1 hz2 (by rfl) (by decide) (.slice A k cap) k (u64V (On.chains seed.data.toList (i : Int) d k)) (by rfl) ((own_below Hown.out hBd2).alloc _) (bal (bgo hBw hBd2) _) (.slice (some ⟨w2.heap.size, 0, none⟩) 1 1) 1 [.int .u64 y.toNat] (by rfl) (block_src w2 [.int .u64 y.toNat] _ _ 1 1 1 rfl) (by simp [Value.oneCell']) (by simp [maxLen]; omega) (by omega) ?_
                intro v3 w3 hown3 hB3 hk3
                have hbk3 := hk3.2 (w.heap.size + 1) (by have := hBd2.size; simp; omega) hneb
                have hbk3 : w3.heap[w.heap.size + 1]? = some (.cells #[.int .i64 (i : Int), .slice A k cap, .slice none 0 0] 36 (0, 0)) := hbk3.trans (((bal (Below.refl w2.heap.size w2) _).block _ (by have := hBd2.size; omega)).trans ((hBd2.block _ (by omega)).trans HBk.out))
                have kc4 : w3.cell? ⟨w.heap.size + 1, 1, none⟩ = some (.slice A k cap) := by rw [Lib.cell_of_heap hbk3]; rfl
                have kf4 : w3.frozen? ⟨w.heap.size + 1, 1, none⟩ = false := Lib.frozen_of_heap hbk3 1
                obtain ⟨A3, n3, cap3, hv3⟩ : ∃ A n cap, v3 = .slice A n cap := by
                  obtain ⟨A3, cap3, h3, _⟩ := own_slice hown3
                  exact ⟨A3, _, cap3, h3⟩
                subst hv3
                refine hK.out _ _ trivial (fun hHeld => ?_)
                clear hK K
                try simp only [List.getElem_toArray, List.getElem_cons_zero, List.getElem_cons_succ, Act.put, List.setIfInBounds_toArray, List.set_cons_zero, List.set_cons_succ]
                refine wpAnyH_take (i := 10) (v := ?_) rfl (by kernel_rfl) (by kernel_rfl) (by kernel_rfl) (fun _ _ _ h => h) (Or.inl ⟨by rfl, ?_⟩) (by assumption) ?_
                rotate_left
                · intro w hSw
                  (try dsimp only at hSw)
                  go_simp
                  first | done | with_reducible rfl
                simp only [List.getElem_toArray, List.getElem_cons_zero, List.getElem_cons_succ, Act.put, List.setIfInBounds_toArray, List.set_cons_zero, List.set_cons_succ]
                refine wpAnyH_ready (rs := [11]) (by kernel_rfl) (by simp) ?_
                refine AllReadyH.cons rfl (fun K hK => ?_) ?_
                · simp only [List.getElem_toArray, List.getElem_cons_zero, List.getElem_cons_succ]
                  go_simp
                  refine hK.out _ _ trivial (fun hHeld => ?_)
                  clear hK K
                  try simp only [List.getElem_toArray, List.getElem_cons_zero, List.getElem_cons_succ, Act.put, List.setIfInBounds_toArray, List.set_cons_zero, List.set_cons_succ]
                  refine wpAnyH_done (by kernel_rfl) ?_ _
                  dsimp only [NoPanic]
                  have hput := HS.out.put Hch.out hbk3 ((hk3.2 w.heap.size (by have := hBd2.size; simp; omega) (Lib.ownBlock_ne (own_below Hown.out hBd2) ((hBd2.block _ (by omega)).trans Hres.out) (by decide))).trans (((bal (Below.refl w2.heap.size w2) _).block _ (by have := hBd2.size; omega)).trans (hBd2.block _ (by omega)))) hown3 hB3
                  have HP := Lib.hid hput
                  clear hput hown3 hbk3 hk3 kc4 kf4 hHeld
                  go_wp2
                  go_roundw
                  case rel => exact ⟨k + 1, by omega, by go_num, HP.out⟩
                  case measure => simp [intOf]; omega
                exact AllReadyH.nil
              exact AllReadyH.nil
            exact AllReadyH.nil
          exact AllReadyH.nil
        exact AllReadyH.nil
      refine AllReadyH.cons rfl (fun K hK => ?_) ?_
      · simp only [List.getElem_toArray, List.getElem_cons_zero, List.getElem_cons_succ]
        go_simp
        (with_reducible refine (secret_v seed (i : Int) (k : Int) x Hx wr.drew hTdp (by omega) (by omega) (by omega)).mono ?_)
        rintro r w1 ⟨rfl, hB1⟩
        have hT1 := (hTd.go hB1).1
        have kc1 := (hB1.cell (p := ⟨w.heap.size + 1, 1, none⟩) hszd).trans kc
        dsimp only
        refine hK.out _ _ trivial (fun hHeld => ?_)
        clear hK K
        try simp only [List.getElem_toArray, List.getElem_cons_zero, List.getElem_cons_succ, Act.put, List.setIfInBounds_toArray, List.set_cons_zero, List.set_cons_succ]
        refine wpAnyH_ready (rs := [1, 7]) (by kernel_rfl) (by simp) ?_
        refine AllReadyH.cons rfl (fun K hK => ?_) ?_
        · simp only [List.getElem_toArray, List.getElem_cons_zero, List.getElem_cons_succ]
          go_simp
          refine hK.out _ _ trivial (fun hHeld => ?_)
          clear hK K
          try simp only [List.getElem_toArray, List.getElem_cons_zero, List.getElem_cons_succ, Act.put, List.setIfInBounds_toArray, List.set_cons_zero, List.set_cons_succ]
          refine wpAnyH_ready (rs := [7]) (by kernel_rfl) (by simp) ?_
          refine AllReadyH.cons rfl (fun K hK => ?_) ?_
          · simp only [List.getElem_toArray, List.getElem_cons_zero, List.getElem_cons_succ]
            go_simp
            (with_reducible refine (walk_v x m y Hy (by omega) w1 hT1).mono ?_)
            rintro r w2 ⟨rfl, hB2⟩
            have hs1 := hB1.size
            have kc2 := (hB2.cell (p := ⟨w.heap.size + 1, 1, none⟩) (Nat.lt_of_lt_of_le hszd hs1)).trans kc1
            have hBd2 : Below wr.heap.size wr w2 := bgo (below_undrew hB1) hB2
            dsimp only
            refine hK.out _ _ trivial (fun hHeld => ?_)
            clear hK K
            try simp only [List.getElem_toArray, List.getElem_cons_zero, List.getElem_cons_succ, Act.put, List.setIfInBounds_toArray, List.set_cons_zero, List.set_cons_succ]
            refine wpAnyH_ready (rs := [8]) (by kernel_rfl) (by simp) ?_
            refine AllReadyH.cons rfl (fun K hK => ?_) ?_
            · simp only [List.getElem_toArray, List.getElem_cons_zero, List.getElem_cons_succ]
              have kc3 : (w2.alloc (.cells #[.int .u64 y.toNat] 29)).cell? ⟨w.heap.size + 1, 1, none⟩ = some (.slice A k cap) := ((bal (Below.refl w2.heap.size w2) _).cell (p := ⟨w.heap.size + 1, 1, none⟩) (Nat.lt_of_lt_of_le hszd hBd2.size)).trans kc2
              go_simp
              refine hK.out _ _ trivial (fun hHeld => ?_)
              clear hK K
              try simp only [List.getElem_toArray, List.getElem_cons_zero, List.getElem_cons_succ, Act.put, List.setIfInBounds_toArray, List.set_cons_zero, List.set_cons_succ]
              refine wpAnyH_ready (rs := [9]) (by kernel_rfl) (by simp) ?_
              refine AllReadyH.cons rfl (fun K hK => ?_) ?_
              · refine step_src (w0 := w) (by rfl) _ _ 33 (by rfl) 29 i0 (.int .u64 0) 1 8 Tryd.underlying33 hi0 hz0 hz1 hz2 (by rfl) (by decide) (.slice A k cap) k (u64V (On.chains seed.data.toList (i : Int) d k)) (by rfl) ((own_below Hown.out hBd2).alloc _) (bal (bgo hBw hBd2) _) (.slice (some ⟨w2.heap.size, 0, none⟩) 1 1) 1 [.int .u64 y.toNat] (by rfl) (block_src w2 [.int .u64 y.toNat] _ _ 1 1 1 rfl) (by simp [Value.oneCell']) (by simp [maxLen]; omega) (by omega) ?_
                intro v3 w3 hown3 hB3 hk3
                have hbk3 := hk3.2 (w.heap.size + 1) (by have := hBd2.size; simp; omega) hneb
                have hbk3 : w3.heap[w.heap.size + 1]? = some (.cells #[.int .i64 (i : Int), .slice A k cap, .slice none 0 0] 36 (0, 0)) := hbk3.trans (((bal (Below.refl w2.heap.size w2) _).block _ (by have := hBd2.size; omega)).trans ((hBd2.block _ (by omega)).trans HBk.out))
                have kc4 : w3.cell? ⟨w.heap.size + 1, 1, none⟩ = some (.slice A k cap) := by rw [Lib.cell_of_heap hbk3]; rfl
                have kf4 : w3.frozen? ⟨w.heap.size + 1, 1, none⟩ = false := Lib.frozen_of_heap hbk3 1
                obtain ⟨A3, n3, cap3, hv3⟩ : ∃ A n cap, v3 = .slice A n cap := by
                  obtain ⟨A3, cap3, h3, _⟩ := own_slice hown3
                  exact ⟨A3, _, cap3, h3⟩
                subst hv3
                refine hK.out _ _ trivial (fun hHeld => ?_)
                clear hK K
                try simp only [List.getElem_toArray, List.getElem_cons_zero, List.getElem_cons_succ, Act.put, List.setIfInBounds_toArray, List.set_cons_zero, List.set_cons_succ]
                refine wpAnyH_take (i := 10) (v := ?_) rfl (by kernel_rfl) (by kernel_rfl) (by kernel_rfl) (fun _ _ _ h => h) (Or.inl ⟨by rfl, ?_⟩) (by assumption) ?_
                rotate_left
                · intro w hSw
                  (try dsimp only at hSw)
                  go_simp
                  first | done | with_reducible rfl
                simp only [List.getElem_toArray, List.getElem_cons_zero, List.getElem_cons_succ, Act.put, List.setIfInBounds_toArray, List.set_cons_zero, List.set_cons_succ]
                refine wpAnyH_ready (rs := [11]) (by kernel_rfl) (by simp) ?_
                refine AllReadyH.cons rfl (fun K hK => ?_) ?_
                · simp only [List.getElem_toArray, List.getElem_cons_zero, List.getElem_cons_succ]
                  go_simp
                  refine hK.out _ _ trivial (fun hHeld => ?_)
                  clear hK K
                  try simp only [List.getElem_toArray, List.getElem_cons_zero, List.getElem_cons_succ, Act.put, List.setIfInBounds_toArray, List.set_cons_zero, List.set_cons_succ]
                  refine wpAnyH_done (by kernel_rfl) ?_ _
                  dsimp only [NoPanic]
                  have hput := HS.out.put Hch.out hbk3 ((hk3.2 w.heap.size (by have := hBd2.size; simp; omega) (Lib.ownBlock_ne (own_below Hown.out hBd2) ((hBd2.block _ (by omega)).trans Hres.out) (by decide))).trans (((bal (Below.refl w2.heap.size w2) _).block _ (by have := hBd2.size; omega)).trans (hBd2.block _ (by omega)))) hown3 hB3
                  have HP := Lib.hid hput
                  clear hput hown3 hbk3 hk3 kc4 kf4 hHeld
                  go_wp2
                  go_roundw
                  case rel => exact ⟨k + 1, by omega, by go_num, HP.out⟩
                  case measure => simp [intOf]; omega
                exact AllReadyH.nil
              exact AllReadyH.nil
            exact AllReadyH.nil
          exact AllReadyH.nil
        refine AllReadyH.cons rfl (fun K hK => ?_) ?_
        · simp only [List.getElem_toArray, List.getElem_cons_zero, List.getElem_cons_succ]
          go_simp
          (with_reducible refine (walk_v x m y Hy (by omega) w1 hT1).mono ?_)
          rintro r w2 ⟨rfl, hB2⟩
          have hs1 := hB1.size
          have kc2 := (hB2.cell (p := ⟨w.heap.size + 1, 1, none⟩) (Nat.lt_of_lt_of_le hszd hs1)).trans kc1
          have hBd2 : Below wr.heap.size wr w2 := bgo (below_undrew hB1) hB2
          dsimp only
          refine hK.out _ _ trivial (fun hHeld => ?_)
          clear hK K
          try simp only [List.getElem_toArray, List.getElem_cons_zero, List.getElem_cons_succ, Act.put, List.setIfInBounds_toArray, List.set_cons_zero, List.set_cons_succ]
          refine wpAnyH_ready (rs := [1, 8]) (by kernel_rfl) (by simp) ?_
          refine AllReadyH.cons rfl (fun K hK => ?_) ?_
          · simp only [List.getElem_toArray, List.getElem_cons_zero, List.getElem_cons_succ]
            go_simp
            refine hK.out _ _ trivial (fun hHeld => ?_)
            clear hK K
            try simp only [List.getElem_toArray, List.getElem_cons_zero, List.getElem_cons_succ, Act.put, List.setIfInBounds_toArray, List.set_cons_zero, List.set_cons_succ]
            refine wpAnyH_ready (rs := [8]) (by kernel_rfl) (by simp) ?_
            refine AllReadyH.cons rfl (fun K hK => ?_) ?_
            · simp only [List.getElem_toArray, List.getElem_cons_zero, List.getElem_cons_succ]
              have kc3 : (w2.alloc (.cells #[.int .u64 y.toNat] 29)).cell? ⟨w.heap.size + 1, 1, none⟩ = some (.slice A k cap) := ((bal (Below.refl w2.heap.size w2) _).cell (p := ⟨w.heap.size + 1, 1, none⟩) (Nat.lt_of_lt_of_le hszd hBd2.size)).trans kc2
              go_simp
              refine hK.out _ _ trivial (fun hHeld => ?_)
              clear hK K
              try simp only [List.getElem_toArray, List.getElem_cons_zero, List.getElem_cons_succ, Act.put, List.setIfInBounds_toArray, List.set_cons_zero, List.set_cons_succ]
              refine wpAnyH_ready (rs := [9]) (by kernel_rfl) (by simp) ?_
              refine AllReadyH.cons rfl (fun K hK => ?_) ?_
              · refine step_src (w0 := w) (by rfl) _ _ 33 (by rfl) 29 i0 (.int .u64 0) 1 8 Tryd.underlying33 hi0 hz0 hz1 hz2 (by rfl) (by decide) (.slice A k cap) k (u64V (On.chains seed.data.toList (i : Int) d k)) (by rfl) ((own_below Hown.out hBd2).alloc _) (bal (bgo hBw hBd2) _) (.slice (some ⟨w2.heap.size, 0, none⟩) 1 1) 1 [.int .u64 y.toNat] (by rfl) (block_src w2 [.int .u64 y.toNat] _ _ 1 1 1 rfl) (by simp [Value.oneCell']) (by simp [maxLen]; omega) (by omega) ?_
                intro v3 w3 hown3 hB3 hk3
                have hbk3 := hk3.2 (w.heap.size + 1) (by have := hBd2.size; simp; omega) hneb
                have hbk3 : w3.heap[w.heap.size + 1]? = some (.cells #[.int .i64 (i : Int), .slice A k cap, .slice none 0 0] 36 (0, 0)) := hbk3.trans (((bal (Below.refl w2.heap.size w2) _).block _ (by have := hBd2.size; omega)).trans ((hBd2.block _ (by omega)).trans HBk.out))
                have kc4 : w3.cell? ⟨w.heap.size + 1, 1, none⟩ = some (.slice A k cap) := by rw [Lib.cell_of_heap hbk3]; rfl
                have kf4 : w3.frozen? ⟨w.heap.size + 1, 1, none⟩ = false := Lib.frozen_of_heap hbk3 1
                obtain ⟨A3, n3, cap3, hv3⟩ : ∃ A n cap, v3 = .slice A n cap := by
                  obtain ⟨A3, cap3, h3, _⟩ := own_slice hown3
                  exact ⟨A3, _, cap3, h3⟩
                subst hv3
                refine hK.out _ _ trivial (fun hHeld => ?_)
                clear hK K
                try simp only [List.getElem_toArray, List.getElem_cons_zero, List.getElem_cons_succ, Act.put, List.setIfInBounds_toArray, List.set_cons_zero, List.set_cons_succ]
                refine wpAnyH_take (i := 10) (v := ?_) rfl (by kernel_rfl) (by kernel_rfl) (by kernel_rfl) (fun _ _ _ h => h) (Or.inl ⟨by rfl, ?_⟩) (by assumption) ?_
                rotate_left
                · intro w hSw
                  (try dsimp only at hSw)
                  go_simp
                  first | done | with_reducible rfl
                simp only [List.getElem_toArray, List.getElem_cons_zero, List.getElem_cons_succ, Act.put, List.setIfInBounds_toArray, List.set_cons_zero, List.set_cons_succ]
                refine wpAnyH_ready (rs := [11]) (by kernel_rfl) (by simp) ?_
                refine AllReadyH.cons rfl (fun K hK => ?_) ?_
                · simp only [List.getElem_toArray, List.getElem_cons_zero, List.getElem_cons_succ]
                  go_simp
                  refine hK.out _ _ trivial (fun hHeld => ?_)
                  clear hK K
                  try simp only [List.getElem_toArray, List.getElem_cons_zero, List.getElem_cons_succ, Act.put, List.setIfInBounds_toArray, List.set_cons_zero, List.set_cons_succ]
                  refine wpAnyH_done (by kernel_rfl) ?_ _
                  dsimp only [NoPanic]
                  have hput := HS.out.put Hch.out hbk3 ((hk3.2 w.heap.size (by have := hBd2.size; simp; omega) (Lib.ownBlock_ne (own_below Hown.out hBd2) ((hBd2.block _ (by omega)).trans Hres.out) (by decide))).trans (((bal (Below.refl w2.heap.size w2) _).block _ (by have := hBd2.size; omega)).trans (hBd2.block _ (by omega)))) hown3 hB3
                  have HP := Lib.hid hput
                  clear hput hown3 hbk3 hk3 kc4 kf4 hHeld
                  go_wp2
                  go_roundw
                  case rel => exact ⟨k + 1, by omega, by go_num, HP.out⟩
                  case measure => simp [intOf]; omega
                exact AllReadyH.nil
              exact AllReadyH.nil
            exact AllReadyH.nil
          refine AllReadyH.cons rfl (fun K hK => ?_) ?_
          · simp only [List.getElem_toArray, List.getElem_cons_zero, List.getElem_cons_succ]
            have kc3 : (w2.alloc (.cells #[.int .u64 y.toNat] 29)).cell? ⟨w.heap.size + 1, 1, none⟩ = some (.slice A k cap) := ((bal (Below.refl w2.heap.size w2) _).cell (p := ⟨w.heap.size + 1, 1, none⟩) (Nat.lt_of_lt_of_le hszd hBd2.size)).trans kc2
            go_simp
            refine hK.out _ _ trivial (fun hHeld => ?_)
            clear hK K
            try simp only [List.getElem_toArray, List.getElem_cons_zero, List.getElem_cons_succ, Act.put, List.setIfInBounds_toArray, List.set_cons_zero, List.set_cons_succ]
            refine wpAnyH_ready (rs := [1]) (by kernel_rfl) (by simp) ?_
            refine AllReadyH.cons rfl (fun K hK => ?_) ?_
            · simp only [List.getElem_toArray, List.getElem_cons_zero, List.getElem_cons_succ]
              go_simp
              refine hK.out _ _ trivial (fun hHeld => ?_)
              clear hK K
              try simp only [List.getElem_toArray, List.getElem_cons_zero, List.getElem_cons_succ, Act.put, List.setIfInBounds_toArray, List.set_cons_zero, List.set_cons_succ]
              refine wpAnyH_ready (rs := [9]) (by kernel_rfl) (by simp) ?_
              refine AllReadyH.cons rfl (fun K hK => ?_) ?_
              · refine step_src (w0 := w) (by rfl) _ _ 33 (by rfl) 29 i0 (.int .u64 0) 1 8 Tryd.underlying33 hi0 hz0 hz1 hz2 (by rfl) (by decide) (.slice A k cap) k (u64V (On.chains seed.data.toList (i : Int) d k)) (by rfl) ((own_below Hown.out hBd2).alloc _) (bal (bgo hBw hBd2) _) (.slice (some ⟨w2.heap.size, 0, none⟩) 1 1) 1 [.int .u64 y.toNat] (by rfl) (block_src w2 [.int .u64 y.toNat] _ _ 1 1 1 rfl) (by simp [Value.oneCell']) (by simp [maxLen]; omega) (by omega) ?_
                intro v3 w3 hown3 hB3 hk3
                have hbk3 := hk3.2 (w.heap.size + 1) (by have := hBd2.size; simp; omega) hneb
                have hbk3 : w3.heap[w.heap.size + 1]? = some (.cells #[.int .i64 (i : Int), .slice A k cap, .slice none 0 0] 36 (0, 0)) := hbk3.trans (((bal (Below.refl w2.heap.size w2) _).block _ (by have := hBd2.size; omega)).trans ((hBd2.block _ (by omega)).trans HBk.out))
                have kc4 : w3.cell? ⟨w.heap.size + 1, 1, none⟩ = some (.slice A k cap) := by rw [Lib.cell_of_heap hbk3]; rfl
                have kf4 : w3.frozen? ⟨w.heap.size + 1, 1, none⟩ = false := Lib.frozen_of_heap hbk3 1
                obtain ⟨A3, n3, cap3, hv3⟩ : ∃ A n cap, v3 = .slice A n cap := by
                  obtain ⟨A3, cap3, h3, _⟩ := own_slice hown3
                  exact ⟨A3, _, cap3, h3⟩
                subst hv3
                refine hK.out _ _ trivial (fun hHeld => ?_)
                clear hK K
                try simp only [List.getElem_toArray, List.getElem_cons_zero, List.getElem_cons_succ, Act.put, List.setIfInBounds_toArray, List.set_cons_zero, List.set_cons_succ]
                refine wpAnyH_take (i := 10) (v := ?_) rfl (by kernel_rfl) (by kernel_rfl) (by kernel_rfl) (fun _ _ _ h => h) (Or.inl ⟨by rfl, ?_⟩) (by assumption) ?_
                rotate_left
                · intro w hSw
                  (try dsimp only at hSw)
                  go_simp
                  first | done | with_reducible rfl
                simp only [List.getElem_toArray, List.getElem_cons_zero, List.getElem_cons_succ, Act.put, List.setIfInBounds_toArray, List.set_cons_zero, List.set_cons_succ]
                refine wpAnyH_ready (rs := [11]) (by kernel_rfl) (by simp) ?_
                refine AllReadyH.cons rfl (fun K hK => ?_) ?_
                · simp only [List.getElem_toArray, List.getElem_cons_zero, List.getElem_cons_succ]
                  go_simp
                  refine hK.out _ _ trivial (fun hHeld => ?_)
                  clear hK K
                  try simp only [List.getElem_toArray, List.getElem_cons_zero, List.getElem_cons_succ, Act.put, List.setIfInBounds_toArray, List.set_cons_zero, List.set_cons_succ]
                  refine wpAnyH_done (by kernel_rfl) ?_ _
                  dsimp only [NoPanic]
                  have hput := HS.out.put Hch.out hbk3 ((hk3.2 w.heap.size (by have := hBd2.size; simp; omega) (Lib.ownBlock_ne (own_below Hown.out hBd2) ((hBd2.block _ (by omega)).trans Hres.out) (by decide))).trans (((bal (Below.refl w2.heap.size w2) _).block _ (by have := hBd2.size; omega)).trans (hBd2.block _ (by omega)))) hown3 hB3
                  have HP := Lib.hid hput
                  clear hput hown3 hbk3 hk3 kc4 kf4 hHeld
                  go_wp2
                  go_roundw
                  case rel => exact ⟨k + 1, by omega, by go_num, HP.out⟩
                  case measure => simp [intOf]; omega
                exact AllReadyH.nil
              exact AllReadyH.nil
            exact AllReadyH.nil
          exact AllReadyH.nil
        exact AllReadyH.nil
      exact AllReadyH.nil
    · obtain rfl : k = 18 := by omega
      have hSA := (own_slc hown)
      obtain ⟨A', cap', hA', hcpA, hSl⟩ := hSA
      injection hA' with hA1 hA2 hA3
      subst hA1 hA3
      have HSl := Lib.hid hSl
      have HBk := Lib.hid hbk
      have Hres := Lib.hid hres
      have hc : pathE n (i : Int) = 0 := pathE_ok n i (by omega) hi
      have Hc := Lib.hid hc
      clear hown hbk hres hSl hc hk hA2
      go_wp2_with fail
      refine (leaves_any seed h n hh hn.out (by omega) _ hT2).mono ?_
      rintro e w1 ⟨v, rfl, hown, hB1⟩
      obtain ⟨L, capL, rfl, hSL⟩ := own_slice hown
      have HSL := Lib.hid hSL
      clear hown hSL
      go_wp2_with fail
      refine (path_sl2 L capL n (leavesB seed n) (i : Int) p 0 _ (leavesB_len _ _) hp.out Hc.out HSL.out (leavesB_size _ _) (by omega)).mono ?_
      rintro e w2 ⟨Bp, capB, rfl, hcpB, hSB, hB2⟩
      have hB12 := bgo hB1 hB2
      have hs12 := hB12.size
      have hbk2 := (hB12.block _ hlt1).trans HBk.out
      have hres2 := (hB12.block w.heap.size (by omega)).trans Hres.out
      have hSA2 := HSl.out.go hB12
      have hBw2 := bgo hBw hB12
      have c0 : w2.cell? ⟨w.heap.size + 1, 0, none⟩ = some (.int .i64 (i : Int)) := by rw [Lib.cell_of_heap hbk2]; rfl
      have c1 : w2.cell? ⟨w.heap.size + 1, 1, none⟩ = some (.slice A 18 cap) := by rw [Lib.cell_of_heap hbk2]; rfl
      have c2 : w2.cell? ⟨w.heap.size + 1, 2, none⟩ = some (.slice none 0 0) := by rw [Lib.cell_of_heap hbk2]; rfl
      have r0 : w2.cell? ⟨w.heap.size, 0, none⟩ = some (.int .i64 0) := by rw [Lib.cell_of_heap hres2]; rfl
      have r1 : w2.cell? ⟨w.heap.size, 1, none⟩ = some (.slice none 0 0) := by rw [Lib.cell_of_heap hres2]; rfl
      have r2 : w2.cell? ⟨w.heap.size, 2, none⟩ = some (.slice none 0 0) := by rw [Lib.cell_of_heap hres2]; rfl
      have f1 : ∀ j, w2.frozen? ⟨w.heap.size + 1, j, none⟩ = false := fun j => Lib.frozen_of_heap hbk2 j
      have f0 : ∀ j, w2.frozen? ⟨w.heap.size, j, none⟩ = false := fun j => Lib.frozen_of_heap hres2 j
      have G := Lib.hid (And.intro hbk2 (And.intro hres2 (And.intro hSA2 hSB)))
      clear hbk2 hres2 hSA2 hSB hB1 hB2 hB12
      go_wp2_with fail
      obtain ⟨hbk2, hres2, hSA2, hSB⟩ := G.out
      have nU : ∀ (a b c : Value), (∀ z, a ≠ .int .u64 z) → (∀ z, b ≠ .int .u64 z) → (∀ z, c ≠ .int .u64 z) → ∀ z, Value.int .u64 z ∉ (#[a, b, c] : Array Value).toList := by
        intro a b c ha hb hc z hz
        simp at hz
        rcases hz with h | h | h
        · exact ha z h.symm
        · exact hb z h.symm
        · exact hc z h.symm
      have u1 : ∀ u, (u64V (On.chains seed.data.toList (i : Int) d 18))[0]? = some u → ∃ z, u = .int .u64 z := fun u hu => by
        rw [u64V_get _ 0 (by rw [On.chains_len]; omega)] at hu
        injection hu with hu
        exact ⟨_, hu.symm⟩
      have u2 : ∀ u, (forkV p)[0]? = some u → ∃ z, u = .int .u64 z := fun u hu => by
        cases p with
        | nil => simp [forkV] at hu
        | cons q p =>
          simp [forkV] at hu
          exact ⟨_, hu.symm⟩
      have s1 := hSA2.set (j := 2) (v := .slice Bp p.length capB) hbk2 (by omega) u1 (nU _ _ _ (by simp) (by simp) (by simp))
      have t1 := hSB.set (j := 2) (v := .slice Bp p.length capB) hbk2 (by omega) u2 (nU _ _ _ (by simp) (by simp) (by simp))
      have z1 := (heap_setCell_other w2 ⟨w.heap.size + 1, 2, none⟩ w.heap.size (.slice Bp p.length capB) (by simp)).trans hres2
      have s2 := s1.set (j := 0) (v := .int .i64 (i : Int)) z1 (by omega) u1 (nU _ _ _ (by simp) (by simp) (by simp))
      have t2 := t1.set (j := 0) (v := .int .i64 (i : Int)) z1 (by omega) u2 (nU _ _ _ (by simp) (by simp) (by simp))
      have z2 := setCell_heap (j := 0) (v := .int .i64 (i : Int)) z1
      have s3 := s2.set (j := 1) (v := .slice A 18 cap) z2 (by omega) u1 (nU _ _ _ (by simp) (by simp) (by simp))
      have t3 := t2.set (j := 1) (v := .slice A 18 cap) z2 (by omega) u2 (nU _ _ _ (by simp) (by simp) (by simp))
      have z3 := setCell_heap (j := 1) (v := .slice A 18 cap) z2
      have s4 := s3.set (j := 2) (v := .slice Bp p.length capB) z3 (by omega) u1 (nU _ _ _ (by simp) (by simp) (by simp))
      have t4 := t3.set (j := 2) (v := .slice Bp p.length capB) z3 (by omega) u2 (nU _ _ _ (by simp) (by simp) (by simp))
      refine bodyPost_ret (v := .tuple #[.agg #[.int .i64 (i : Int), .slice A 18 cap, .slice Bp p.length capB], .int .i64 0]) (by simp [results, Tryd.results24, go_sem, r0, r1, r2]) rfl ⟨A, cap, Bp, capB, rfl, hcpA, hcpB, s4, t4, ?_⟩
      exact (((hBw2.setCell (by simp) _).setCell (by simp) _).setCell (by simp) _).setCell (by simp) _
end Go.Proofs.YtpmakhfpdidleaaDoor
