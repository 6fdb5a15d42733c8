/- The walks of package handover, second part: valid, Text. Plain definitions of layer 25: steps of chains, digits, secrets, leaves; and the laws about them. -/
import Derived.Test.YtpmakhfpdidleaaDoorQ08
import Derived.Test.YtpmakhfpdidleaaDoorQ02
import Derived.Lib.ItoaLen
namespace Go.Proofs.YtpmakhfpdidleaaDoor
open Go.RowKit Go.Shelf
set_option linter.unusedVariables false
set_option linter.unusedSimpArgs false
set_option maxRecDepth 100000
theorem btab {w : World} (h : CaT.Tabs w) : CaT.BTab w := h.1
theorem hnName_at (s : ByteArray) (r : Bool) (hr : Hid (isNameB s = r)) (w : World) (hs : s.size ≤ maxLen) : Calls Tryd.prog 34 #[.string s] w fun e w' => e = .returned (.bool r) ∧ w = w' := by
  rw [← hr.out]
  exact hnName_any s w hs
set_option maxHeartbeats 4000000 in
theorem valid29_any (te tp : ByteArray) (tm tg tx : Int) (b : Bool) (hb : Hid (validTB ⟨te, tp, tm, tg, tx⟩ = b)) (w : World) (he : te.size ≤ maxLen) (hp : tp.size ≤ maxLen) :
    Calls Tryd.prog 18 #[.agg #[.string te, .string tp, .int .i64 tm, .int .i64 tg, .int .i64 tx]] w fun e w' => e = .returned (.bool b) ∧ Below w.heap.size w w' := by
  have hv := hb.out
  unfold validTB at hv
  dsimp only at hv
  clear hb
  obtain ⟨b1, h1⟩ : ∃ b, isNameB te = b := ⟨_, rfl⟩
  obtain ⟨b2, h2⟩ : ∃ b, isNameB tp = b := ⟨_, rfl⟩
  rw [h1, h2] at hv
  have H1 := Lib.hid h1
  have H2 := Lib.hid h2
  clear h1 h2
  cases b1 with
  | false =>
    simp only [Bool.false_and] at hv
    subst hv
    go_enter Tryd.func18, Tryd.ntmps18
    go_upto_region 1 with fail
    obtain ⟨W, hW⟩ : ∃ W, W = w.alloc (.cells #[.string te, .string tp, .int .i64 tm, .int .i64 tg, .int .i64 tx] 25) := ⟨_, rfl⟩
    obtain ⟨X, hX⟩ : ∃ x, x = w.heap.size := ⟨_, rfl⟩
    have g : W.heap[X]? = some (.cells #[.string te, .string tp, .int .i64 tm, .int .i64 tg, .int .i64 tx] 25) := by rw [hW, hX]; exact World.alloc_heap_new _ _
    have hBW : Below w.heap.size w W := by rw [hW]; exact bal (Below.refl _ _) _
    rw [← hW, ← hX]
    clear hW hX
    have x0 : W.cell? ⟨X, 0, none⟩ = some (.string te) := by rw [Lib.cell_of_heap g]; rfl
    have x1 : W.cell? ⟨X, 1, none⟩ = some (.string tp) := by rw [Lib.cell_of_heap g]; rfl
    have x2 : W.cell? ⟨X, 2, none⟩ = some (.int .i64 tm) := by rw [Lib.cell_of_heap g]; rfl
    have x3 : W.cell? ⟨X, 3, none⟩ = some (.int .i64 tg) := by rw [Lib.cell_of_heap g]; rfl
    have x4 : W.cell? ⟨X, 4, none⟩ = some (.int .i64 tx) := by rw [Lib.cell_of_heap g]; rfl
    go_wp2_with fail
    (with_reducible refine (hnName_at te false H1 _ he).mono ?_)
    rintro e w' ⟨rfl, hw'⟩
    obtain rfl := hw'

    go_wp2_with fail
    go_ret
    exact ⟨by first | rfl | (simp; omega) | simp, hBW⟩
  | true =>
    cases b2 with
    | false =>
      simp only [Bool.true_and, Bool.false_and] at hv
      subst hv
      go_enter Tryd.func18, Tryd.ntmps18
      go_upto_region 1 with fail
      obtain ⟨W, hW⟩ : ∃ W, W = w.alloc (.cells #[.string te, .string tp, .int .i64 tm, .int .i64 tg, .int .i64 tx] 25) := ⟨_, rfl⟩
      obtain ⟨X, hX⟩ : ∃ x, x = w.heap.size := ⟨_, rfl⟩
      have g : W.heap[X]? = some (.cells #[.string te, .string tp, .int .i64 tm, .int .i64 tg, .int .i64 tx] 25) := by rw [hW, hX]; exact World.alloc_heap_new _ _
      have hBW : Below w.heap.size w W := by rw [hW]; exact bal (Below.refl _ _) _
      rw [← hW, ← hX]
      clear hW hX
      have x0 : W.cell? ⟨X, 0, none⟩ = some (.string te) := by rw [Lib.cell_of_heap g]; rfl
      have x1 : W.cell? ⟨X, 1, none⟩ = some (.string tp) := by rw [Lib.cell_of_heap g]; rfl
      have x2 : W.cell? ⟨X, 2, none⟩ = some (.int .i64 tm) := by rw [Lib.cell_of_heap g]; rfl
      have x3 : W.cell? ⟨X, 3, none⟩ = some (.int .i64 tg) := by rw [Lib.cell_of_heap g]; rfl
      have x4 : W.cell? ⟨X, 4, none⟩ = some (.int .i64 tx) := by rw [Lib.cell_of_heap g]; rfl
      go_wp2_with fail
      (with_reducible refine (hnName_at te true H1 _ he).mono ?_)
      rintro e w' ⟨rfl, hw'⟩
      obtain rfl := hw'

      go_wp2_with fail
      (with_reducible refine (hnName_at tp false H2 _ hp).mono ?_)
      rintro e w' ⟨rfl, hw'⟩
      obtain rfl := hw'

      go_wp2_with fail
      go_ret
      exact ⟨by first | rfl | (simp; omega) | simp, hBW⟩
    | true =>
      simp only [Bool.true_and] at hv
      by_cases c1 : tm < 0
      · have hv2 : b = false := by rw [← hv, decide_eq_false (by omega), Bool.false_and]
        subst hv2
        clear hv
        go_enter Tryd.func18, Tryd.ntmps18
        go_upto_region 1 with fail
        obtain ⟨W, hW⟩ : ∃ W, W = w.alloc (.cells #[.string te, .string tp, .int .i64 tm, .int .i64 tg, .int .i64 tx] 25) := ⟨_, rfl⟩
        obtain ⟨X, hX⟩ : ∃ x, x = w.heap.size := ⟨_, rfl⟩
        have g : W.heap[X]? = some (.cells #[.string te, .string tp, .int .i64 tm, .int .i64 tg, .int .i64 tx] 25) := by rw [hW, hX]; exact World.alloc_heap_new _ _
        have hBW : Below w.heap.size w W := by rw [hW]; exact bal (Below.refl _ _) _
        rw [← hW, ← hX]
        clear hW hX
        have x0 : W.cell? ⟨X, 0, none⟩ = some (.string te) := by rw [Lib.cell_of_heap g]; rfl
        have x1 : W.cell? ⟨X, 1, none⟩ = some (.string tp) := by rw [Lib.cell_of_heap g]; rfl
        have x2 : W.cell? ⟨X, 2, none⟩ = some (.int .i64 tm) := by rw [Lib.cell_of_heap g]; rfl
        have x3 : W.cell? ⟨X, 3, none⟩ = some (.int .i64 tg) := by rw [Lib.cell_of_heap g]; rfl
        have x4 : W.cell? ⟨X, 4, none⟩ = some (.int .i64 tx) := by rw [Lib.cell_of_heap g]; rfl
        go_wp2_with fail
        (with_reducible refine (hnName_at te true H1 _ he).mono ?_)
        rintro e w' ⟨rfl, hw'⟩
        obtain rfl := hw'

        go_wp2_with fail
        (with_reducible refine (hnName_at tp true H2 _ hp).mono ?_)
        rintro e w' ⟨rfl, hw'⟩
        obtain rfl := hw'

        go_wp2_with fail
        go_ret
        exact ⟨by first | rfl | (simp; omega) | simp, hBW⟩
      · by_cases c2 : 1199 < tm
        · have hv2 : b = false := by rw [← hv, decide_eq_false (by omega), Bool.false_and]
          subst hv2
          clear hv
          go_enter Tryd.func18, Tryd.ntmps18
          go_upto_region 1 with fail
          obtain ⟨W, hW⟩ : ∃ W, W = w.alloc (.cells #[.string te, .string tp, .int .i64 tm, .int .i64 tg, .int .i64 tx] 25) := ⟨_, rfl⟩
          obtain ⟨X, hX⟩ : ∃ x, x = w.heap.size := ⟨_, rfl⟩
          have g : W.heap[X]? = some (.cells #[.string te, .string tp, .int .i64 tm, .int .i64 tg, .int .i64 tx] 25) := by rw [hW, hX]; exact World.alloc_heap_new _ _
          have hBW : Below w.heap.size w W := by rw [hW]; exact bal (Below.refl _ _) _
          rw [← hW, ← hX]
          clear hW hX
          have x0 : W.cell? ⟨X, 0, none⟩ = some (.string te) := by rw [Lib.cell_of_heap g]; rfl
          have x1 : W.cell? ⟨X, 1, none⟩ = some (.string tp) := by rw [Lib.cell_of_heap g]; rfl
          have x2 : W.cell? ⟨X, 2, none⟩ = some (.int .i64 tm) := by rw [Lib.cell_of_heap g]; rfl
          have x3 : W.cell? ⟨X, 3, none⟩ = some (.int .i64 tg) := by rw [Lib.cell_of_heap g]; rfl
          have x4 : W.cell? ⟨X, 4, none⟩ = some (.int .i64 tx) := by rw [Lib.cell_of_heap g]; rfl
          go_wp2_with fail
          (with_reducible refine (hnName_at te true H1 _ he).mono ?_)
          rintro e w' ⟨rfl, hw'⟩
          obtain rfl := hw'

          go_wp2_with fail
          (with_reducible refine (hnName_at tp true H2 _ hp).mono ?_)
          rintro e w' ⟨rfl, hw'⟩
          obtain rfl := hw'

          go_wp2_with fail
          go_ret
          exact ⟨by first | rfl | (simp; omega) | simp, hBW⟩
        · have hm1 : decide (0 ≤ tm ∧ tm ≤ 1199) = true := decide_eq_true (by omega)
          rw [hm1, Bool.true_and] at hv
          clear hm1
          by_cases g1 : tg < -1000000000000
          · have hv2 : b = false := by rw [← hv]; exact decide_eq_false (by omega)
            subst hv2
            clear hv
            go_enter Tryd.func18, Tryd.ntmps18
            go_upto_region 1 with fail
            obtain ⟨W, hW⟩ : ∃ W, W = w.alloc (.cells #[.string te, .string tp, .int .i64 tm, .int .i64 tg, .int .i64 tx] 25) := ⟨_, rfl⟩
            obtain ⟨X, hX⟩ : ∃ x, x = w.heap.size := ⟨_, rfl⟩
            have g : W.heap[X]? = some (.cells #[.string te, .string tp, .int .i64 tm, .int .i64 tg, .int .i64 tx] 25) := by rw [hW, hX]; exact World.alloc_heap_new _ _
            have hBW : Below w.heap.size w W := by rw [hW]; exact bal (Below.refl _ _) _
            rw [← hW, ← hX]
            clear hW hX
            have x0 : W.cell? ⟨X, 0, none⟩ = some (.string te) := by rw [Lib.cell_of_heap g]; rfl
            have x1 : W.cell? ⟨X, 1, none⟩ = some (.string tp) := by rw [Lib.cell_of_heap g]; rfl
            have x2 : W.cell? ⟨X, 2, none⟩ = some (.int .i64 tm) := by rw [Lib.cell_of_heap g]; rfl
            have x3 : W.cell? ⟨X, 3, none⟩ = some (.int .i64 tg) := by rw [Lib.cell_of_heap g]; rfl
            have x4 : W.cell? ⟨X, 4, none⟩ = some (.int .i64 tx) := by rw [Lib.cell_of_heap g]; rfl
            go_wp2_with fail
            (with_reducible refine (hnName_at te true H1 _ he).mono ?_)
            rintro e w' ⟨rfl, hw'⟩
            obtain rfl := hw'

            go_wp2_with fail
            (with_reducible refine (hnName_at tp true H2 _ hp).mono ?_)
            rintro e w' ⟨rfl, hw'⟩
            obtain rfl := hw'

            go_wp2_with fail
            go_ret
            exact ⟨by first | rfl | (simp; omega) | simp, hBW⟩
          · skip
            by_cases g2 : 1000000000000 < tg
            · have hv2 : b = false := by rw [← hv]; exact decide_eq_false (by omega)
              subst hv2
              clear hv
              go_enter Tryd.func18, Tryd.ntmps18
              go_upto_region 1 with fail
              obtain ⟨W, hW⟩ : ∃ W, W = w.alloc (.cells #[.string te, .string tp, .int .i64 tm, .int .i64 tg, .int .i64 tx] 25) := ⟨_, rfl⟩
              obtain ⟨X, hX⟩ : ∃ x, x = w.heap.size := ⟨_, rfl⟩
              have g : W.heap[X]? = some (.cells #[.string te, .string tp, .int .i64 tm, .int .i64 tg, .int .i64 tx] 25) := by rw [hW, hX]; exact World.alloc_heap_new _ _
              have hBW : Below w.heap.size w W := by rw [hW]; exact bal (Below.refl _ _) _
              rw [← hW, ← hX]
              clear hW hX
              have x0 : W.cell? ⟨X, 0, none⟩ = some (.string te) := by rw [Lib.cell_of_heap g]; rfl
              have x1 : W.cell? ⟨X, 1, none⟩ = some (.string tp) := by rw [Lib.cell_of_heap g]; rfl
              have x2 : W.cell? ⟨X, 2, none⟩ = some (.int .i64 tm) := by rw [Lib.cell_of_heap g]; rfl
              have x3 : W.cell? ⟨X, 3, none⟩ = some (.int .i64 tg) := by rw [Lib.cell_of_heap g]; rfl
              have x4 : W.cell? ⟨X, 4, none⟩ = some (.int .i64 tx) := by rw [Lib.cell_of_heap g]; rfl
              go_wp2_with fail
              (with_reducible refine (hnName_at te true H1 _ he).mono ?_)
              rintro e w' ⟨rfl, hw'⟩
              obtain rfl := hw'

              go_wp2_with fail
              (with_reducible refine (hnName_at tp true H2 _ hp).mono ?_)
              rintro e w' ⟨rfl, hw'⟩
              obtain rfl := hw'

              go_wp2_with fail
              go_ret
              exact ⟨by first | rfl | (simp; omega) | simp, hBW⟩
            · skip
              by_cases g3 : tx < -1000000000000
              · have hv2 : b = false := by rw [← hv]; exact decide_eq_false (by omega)
                subst hv2
                clear hv
                go_enter Tryd.func18, Tryd.ntmps18
                go_upto_region 1 with fail
                obtain ⟨W, hW⟩ : ∃ W, W = w.alloc (.cells #[.string te, .string tp, .int .i64 tm, .int .i64 tg, .int .i64 tx] 25) := ⟨_, rfl⟩
                obtain ⟨X, hX⟩ : ∃ x, x = w.heap.size := ⟨_, rfl⟩
                have g : W.heap[X]? = some (.cells #[.string te, .string tp, .int .i64 tm, .int .i64 tg, .int .i64 tx] 25) := by rw [hW, hX]; exact World.alloc_heap_new _ _
                have hBW : Below w.heap.size w W := by rw [hW]; exact bal (Below.refl _ _) _
                rw [← hW, ← hX]
                clear hW hX
                have x0 : W.cell? ⟨X, 0, none⟩ = some (.string te) := by rw [Lib.cell_of_heap g]; rfl
                have x1 : W.cell? ⟨X, 1, none⟩ = some (.string tp) := by rw [Lib.cell_of_heap g]; rfl
                have x2 : W.cell? ⟨X, 2, none⟩ = some (.int .i64 tm) := by rw [Lib.cell_of_heap g]; rfl
                have x3 : W.cell? ⟨X, 3, none⟩ = some (.int .i64 tg) := by rw [Lib.cell_of_heap g]; rfl
                have x4 : W.cell? ⟨X, 4, none⟩ = some (.int .i64 tx) := by rw [Lib.cell_of_heap g]; rfl
                go_wp2_with fail
                (with_reducible refine (hnName_at te true H1 _ he).mono ?_)
                rintro e w' ⟨rfl, hw'⟩
                obtain rfl := hw'

                go_wp2_with fail
                (with_reducible refine (hnName_at tp true H2 _ hp).mono ?_)
                rintro e w' ⟨rfl, hw'⟩
                obtain rfl := hw'

                go_wp2_with fail
                go_ret
                exact ⟨by first | rfl | (simp; omega) | simp, hBW⟩
              · skip
                by_cases g4 : 1000000000000 < tx
                · have hv2 : b = false := by rw [← hv]; exact decide_eq_false (by omega)
                  subst hv2
                  clear hv
                  go_enter Tryd.func18, Tryd.ntmps18
                  go_upto_region 1 with fail
                  obtain ⟨W, hW⟩ : ∃ W, W = w.alloc (.cells #[.string te, .string tp, .int .i64 tm, .int .i64 tg, .int .i64 tx] 25) := ⟨_, rfl⟩
                  obtain ⟨X, hX⟩ : ∃ x, x = w.heap.size := ⟨_, rfl⟩
                  have g : W.heap[X]? = some (.cells #[.string te, .string tp, .int .i64 tm, .int .i64 tg, .int .i64 tx] 25) := by rw [hW, hX]; exact World.alloc_heap_new _ _
                  have hBW : Below w.heap.size w W := by rw [hW]; exact bal (Below.refl _ _) _
                  rw [← hW, ← hX]
                  clear hW hX
                  have x0 : W.cell? ⟨X, 0, none⟩ = some (.string te) := by rw [Lib.cell_of_heap g]; rfl
                  have x1 : W.cell? ⟨X, 1, none⟩ = some (.string tp) := by rw [Lib.cell_of_heap g]; rfl
                  have x2 : W.cell? ⟨X, 2, none⟩ = some (.int .i64 tm) := by rw [Lib.cell_of_heap g]; rfl
                  have x3 : W.cell? ⟨X, 3, none⟩ = some (.int .i64 tg) := by rw [Lib.cell_of_heap g]; rfl
                  have x4 : W.cell? ⟨X, 4, none⟩ = some (.int .i64 tx) := by rw [Lib.cell_of_heap g]; rfl
                  go_wp2_with fail
                  (with_reducible refine (hnName_at te true H1 _ he).mono ?_)
                  rintro e w' ⟨rfl, hw'⟩
                  obtain rfl := hw'

                  go_wp2_with fail
                  (with_reducible refine (hnName_at tp true H2 _ hp).mono ?_)
                  rintro e w' ⟨rfl, hw'⟩
                  obtain rfl := hw'

                  go_wp2_with fail
                  go_ret
                  exact ⟨by first | rfl | (simp; omega) | simp, hBW⟩
                · skip
                  have hv2 : b = true := by rw [← hv]; exact decide_eq_true (by omega)
                  subst hv2
                  clear hv
                  have k1 : -1000000000000 ≤ tg := by omega
                  have k3 : -1000000000000 ≤ tx := by omega
                  go_enter Tryd.func18, Tryd.ntmps18
                  go_upto_region 1 with fail
                  obtain ⟨W, hW⟩ : ∃ W, W = w.alloc (.cells #[.string te, .string tp, .int .i64 tm, .int .i64 tg, .int .i64 tx] 25) := ⟨_, rfl⟩
                  obtain ⟨X, hX⟩ : ∃ x, x = w.heap.size := ⟨_, rfl⟩
                  have g : W.heap[X]? = some (.cells #[.string te, .string tp, .int .i64 tm, .int .i64 tg, .int .i64 tx] 25) := by rw [hW, hX]; exact World.alloc_heap_new _ _
                  have hBW : Below w.heap.size w W := by rw [hW]; exact bal (Below.refl _ _) _
                  rw [← hW, ← hX]
                  clear hW hX
                  have x0 : W.cell? ⟨X, 0, none⟩ = some (.string te) := by rw [Lib.cell_of_heap g]; rfl
                  have x1 : W.cell? ⟨X, 1, none⟩ = some (.string tp) := by rw [Lib.cell_of_heap g]; rfl
                  have x2 : W.cell? ⟨X, 2, none⟩ = some (.int .i64 tm) := by rw [Lib.cell_of_heap g]; rfl
                  have x3 : W.cell? ⟨X, 3, none⟩ = some (.int .i64 tg) := by rw [Lib.cell_of_heap g]; rfl
                  have x4 : W.cell? ⟨X, 4, none⟩ = some (.int .i64 tx) := by rw [Lib.cell_of_heap g]; rfl
                  go_wp2_with fail
                  (with_reducible refine (hnName_at te true H1 _ he).mono ?_)
                  rintro e w' ⟨rfl, hw'⟩
                  obtain rfl := hw'

                  go_wp2_with fail
                  (with_reducible refine (hnName_at tp true H2 _ hp).mono ?_)
                  rintro e w' ⟨rfl, hw'⟩
                  obtain rfl := hw'

                  go_wp2_with fail
                  go_ret
                  exact ⟨by first | rfl | (simp; omega) | simp, hBW⟩
theorem monthtext (m : Nat) (hm : m < 1200) (t : ByteArray) (ht : Hid (dayB ((Cal.first m : Nat) : Int) = t)) : t.extract 0 7 = monthB m ∧ t.size = 10 := by
  have hM : Cal.InM (Cal.first m) m := by
    unfold Cal.InM
    exact ⟨by omega, Nat.le_refl _, Cal.first_lt (by omega)⟩
  rw [← ht.out, dayB_eq hM]
  exact ⟨month_cut m _, rfl⟩
set_option maxHeartbeats 4000000 in
theorem text29_any (te tp : ByteArray) (tm tg tx : Int) (t : ByteArray) (ht : Hid (textT ⟨te, tp, tm, tg, tx⟩ = t)) (w : World) (he : te.size ≤ maxLen) (hp : tp.size ≤ maxLen) (hT : CaT.Tabs w) :
    Calls Tryd.prog 10 #[.agg #[.string te, .string tp, .int .i64 tm, .int .i64 tg, .int .i64 tx]] w fun e w' => e = .returned (.string t) ∧ Below w.heap.size w w' := by
  obtain ⟨b, hb⟩ : ∃ b, validTB ⟨te, tp, tm, tg, tx⟩ = b := ⟨_, rfl⟩
  have Hb := Lib.hid hb
  cases b with
  | false =>
    have h0 : t = ⟨#[]⟩ := by
      rw [← ht.out]
      unfold textT
      rw [hb]
      rfl
    subst h0
    clear ht hb
    go_enter Tryd.func10, Tryd.ntmps10
    go_upto_region 1 with fail
    obtain ⟨W, hW⟩ : ∃ W, W = w.alloc (.cells #[.string te, .string tp, .int .i64 tm, .int .i64 tg, .int .i64 tx] 25) := ⟨_, rfl⟩
    obtain ⟨X, hX⟩ : ∃ x, x = w.heap.size := ⟨_, rfl⟩
    have g : W.heap[X]? = some (.cells #[.string te, .string tp, .int .i64 tm, .int .i64 tg, .int .i64 tx] 25) := by rw [hW, hX]; exact World.alloc_heap_new _ _
    have hBW : Below w.heap.size w W := by rw [hW]; exact bal (Below.refl _ _) _
    rw [← hW, ← hX]
    clear hW hX
    have x0 : W.cell? ⟨X, 0, none⟩ = some (.string te) := by rw [Lib.cell_of_heap g]; rfl
    have x1 : W.cell? ⟨X, 1, none⟩ = some (.string tp) := by rw [Lib.cell_of_heap g]; rfl
    have x2 : W.cell? ⟨X, 2, none⟩ = some (.int .i64 tm) := by rw [Lib.cell_of_heap g]; rfl
    have x3 : W.cell? ⟨X, 3, none⟩ = some (.int .i64 tg) := by rw [Lib.cell_of_heap g]; rfl
    have x4 : W.cell? ⟨X, 4, none⟩ = some (.int .i64 tx) := by rw [Lib.cell_of_heap g]; rfl
    go_wp2_with fail
    refine (valid29_any te tp tm tg tx false Hb W he hp).mono ?_
    rintro e w2 ⟨rfl, hB2⟩
    go_wp2_with fail
    go_ret
    exact ⟨rfl, bgo hBW hB2⟩
  | true =>
    obtain ⟨v1, v2, v3, v4, v5⟩ := valid_out hb
    dsimp only at v1 v2 v3 v4 v5
    have h0 := ht.out
    unfold textT at h0
    rw [if_pos hb] at h0
    have hsz := text_size hb
    rw [h0] at hsz
    obtain ⟨mn, hmn⟩ : ∃ n : Nat, tm = (n : Int) := ⟨tm.toNat, by omega⟩
    subst hmn
    have hmn2 : mn < 1200 := by omega
    unfold totL at h0
    dsimp only at h0
    rw [Int.toNat_natCast] at h0
    obtain ⟨d, hd⟩ : ∃ d, dayB ((Cal.first mn : Nat) : Int) = d := ⟨_, rfl⟩
    have Hd := Lib.hid hd
    obtain ⟨q1, q2⟩ := monthtext mn hmn2 d Hd
    obtain ⟨mb, hmb⟩ : ∃ m, monthB mn = m := ⟨_, rfl⟩
    rw [hmb] at h0 q1
    obtain ⟨ga, hga⟩ : ∃ m, itoaB tg = m := ⟨_, rfl⟩
    obtain ⟨xa, hxa⟩ : ∃ m, itoaB tx = m := ⟨_, rfl⟩
    rw [hga, hxa] at h0
    have H0 : Hid (joinS [totalW, te, tp, mb, ga, xa] = t) := Lib.hid h0
    have Hga := Lib.hid hga
    have Hxa := Lib.hid hxa
    have hfi := Cal.first_lt hmn2
    rw [Cal.first_1200] at hfi
    obtain ⟨f, hf⟩ : ∃ f, Cal.first mn = f := ⟨_, rfl⟩
    have HfC : Hid (∀ w : World, CaT.BTab w → Calls Tryd.prog 20 #[.int .i64 (mn : Int)] w fun e w' => e = .returned (.int .i64 (f : Int)) ∧ Below w.heap.size w w') := Lib.hid fun w hw => by rw [← hf]; exact CaT.first_ok mn hmn2 w hw
    rw [hf] at Hd hfi
    have hex : (d.extract 0 7) = mb := q1
    have hdl : (7 : Int) ≤ (d.size : Int) := by omega
    clear ht hb h0 hd q1 hmb hga hxa hf v1 v2
    go_enter Tryd.func10, Tryd.ntmps10
    go_upto_region 1 with fail
    obtain ⟨W, hW⟩ : ∃ W, W = w.alloc (.cells #[.string te, .string tp, .int .i64 (mn : Int), .int .i64 tg, .int .i64 tx] 25) := ⟨_, rfl⟩
    obtain ⟨X, hX⟩ : ∃ x, x = w.heap.size := ⟨_, rfl⟩
    have g : W.heap[X]? = some (.cells #[.string te, .string tp, .int .i64 (mn : Int), .int .i64 tg, .int .i64 tx] 25) := by rw [hW, hX]; exact World.alloc_heap_new _ _
    have hBW : Below w.heap.size w W := by rw [hW]; exact bal (Below.refl _ _) _
    rw [← hW, ← hX]
    clear hW hX
    have x0 : W.cell? ⟨X, 0, none⟩ = some (.string te) := by rw [Lib.cell_of_heap g]; rfl
    have x1 : W.cell? ⟨X, 1, none⟩ = some (.string tp) := by rw [Lib.cell_of_heap g]; rfl
    have x2 : W.cell? ⟨X, 2, none⟩ = some (.int .i64 (mn : Int)) := by rw [Lib.cell_of_heap g]; rfl
    have x3 : W.cell? ⟨X, 3, none⟩ = some (.int .i64 tg) := by rw [Lib.cell_of_heap g]; rfl
    have x4 : W.cell? ⟨X, 4, none⟩ = some (.int .i64 tx) := by rw [Lib.cell_of_heap g]; rfl
    go_wp2_with fail
    refine (valid29_any te tp (mn : Int) tg tx true Hb W he hp).mono ?_
    rintro e w2 ⟨rfl, hB2⟩
    have g2 := (hB2.block _ (Array.getElem?_eq_some_iff.1 g).1).trans g
    have hBw2 := bgo hBW hB2
    have hT2 : CaT.Tabs w2 := hT.go hBw2
    clear x0 x1 x2 x3 x4
    have x2 : w2.cell? ⟨X, 2, none⟩ = some (.int .i64 (mn : Int)) := by rw [Lib.cell_of_heap g2]; rfl
    go_wp2_with fail
    (with_reducible refine (HfC.out w2 (btab hT2)).mono ?_)
    rintro e w3 ⟨rfl, hB3⟩
    have hT3 : CaT.Tabs w3 := hT2.go hB3
    clear x2
    go_wp2_with fail
    (with_reducible refine (caltext_any (f : Int) d Hd (by omega) (by omega) w3 hT3).mono ?_)
    rintro e w4 ⟨rfl, hB4⟩
    have g4 := ((bgo hB3 hB4).block _ (Array.getElem?_eq_some_iff.1 g2).1).trans g2
    have hBw4 := bgo hBw2 (bgo hB3 hB4)
    have hT4 : CaT.Tabs w4 := hT.go hBw4
    go_upto_region 4 with fail
    have GX := Lib.hid (show w4.drew.heap[X]? = some (.cells #[.string te, .string tp, .int .i64 (mn : Int), .int .i64 tg, .int .i64 tx] 25) from g4)
    have hXl : X < w4.drew.heap.size := (Array.getElem?_eq_some_iff.1 g4).1
    have hTd : CaT.Tabs w4.drew := hT.go hBw4.drew
    refine wp_region_noPanic ?_
    refine wp_region_held_drew (S := fun W' => W'.heap[X]? = some (.cells #[.string te, .string tp, .int .i64 (mn : Int), .int .i64 tg, .int .i64 tx] 25)) (by kernel_rfl) GX.out (fun hHeld => ?_)
    refine wpAnyH_take (i := 0) (v := ?_) rfl (by kernel_rfl) (by kernel_rfl) (by kernel_rfl) (fun _ _ _ h => h) (Or.inl ⟨by kernel_rfl, ?_⟩) (by assumption) ?_
    rotate_left
    · intro w hSw
      (try dsimp only at hSw)
      go_simp
      first | done | with_reducible rfl
    simp only [List.getElem_toArray, List.getElem_cons_zero, List.getElem_cons_succ, Act.put, List.setIfInBounds_toArray, List.set_cons_zero, List.set_cons_succ]
    refine wpAnyH_take (i := 1) (v := ?_) rfl (by kernel_rfl) (by kernel_rfl) (by kernel_rfl) (fun _ _ _ h => h) (Or.inl ⟨by kernel_rfl, ?_⟩) (by assumption) ?_
    rotate_left
    · intro w hSw
      (try dsimp only at hSw)
      have z : w.cell? ⟨X, 0, none⟩ = some (.string te) := by rw [Lib.cell_of_heap hSw]; rfl
      clear hSw
      go_simp
      first | done | with_reducible rfl
    simp only [List.getElem_toArray, List.getElem_cons_zero, List.getElem_cons_succ, Act.put, List.setIfInBounds_toArray, List.set_cons_zero, List.set_cons_succ]
    refine wpAnyH_take (i := 2) (v := ?_) rfl (by kernel_rfl) (by kernel_rfl) (by kernel_rfl) (fun _ _ _ h => h) (Or.inl ⟨by kernel_rfl, ?_⟩) (by assumption) ?_
    rotate_left
    · intro w hSw
      (try dsimp only at hSw)
      go_simp
      first | done | with_reducible rfl
    simp only [List.getElem_toArray, List.getElem_cons_zero, List.getElem_cons_succ, Act.put, List.setIfInBounds_toArray, List.set_cons_zero, List.set_cons_succ]
    refine wpAnyH_take (i := 3) (v := ?_) rfl (by kernel_rfl) (by kernel_rfl) (by kernel_rfl) (fun _ _ _ h => h) (Or.inl ⟨by kernel_rfl, ?_⟩) (by assumption) ?_
    rotate_left
    · intro w hSw
      (try dsimp only at hSw)
      have z : w.cell? ⟨X, 1, none⟩ = some (.string tp) := by rw [Lib.cell_of_heap hSw]; rfl
      clear hSw
      go_simp
      first | done | with_reducible rfl
    simp only [List.getElem_toArray, List.getElem_cons_zero, List.getElem_cons_succ, Act.put, List.setIfInBounds_toArray, List.set_cons_zero, List.set_cons_succ]
    refine wpAnyH_take (i := 4) (v := ?_) rfl (by kernel_rfl) (by kernel_rfl) (by kernel_rfl) (fun _ _ _ h => h) (Or.inl ⟨by kernel_rfl, ?_⟩) (by assumption) ?_
    rotate_left
    · intro w hSw
      (try dsimp only at hSw)
      go_simp
      first | done | with_reducible rfl
    simp only [List.getElem_toArray, List.getElem_cons_zero, List.getElem_cons_succ, Act.put, List.setIfInBounds_toArray, List.set_cons_zero, List.set_cons_succ]
    refine wpAnyH_take (i := 5) (v := ?_) rfl (by kernel_rfl) (by kernel_rfl) (by kernel_rfl) (fun _ _ _ h => h) (Or.inl ⟨by kernel_rfl, ?_⟩) (by assumption) ?_
    rotate_left
    · intro w hSw
      (try dsimp only at hSw)
      go_simp
      first | done | with_reducible rfl
    simp only [List.getElem_toArray, List.getElem_cons_zero, List.getElem_cons_succ, Act.put, List.setIfInBounds_toArray, List.set_cons_zero, List.set_cons_succ]
    refine wpAnyH_take (i := 6) (v := ?_) rfl (by kernel_rfl) (by kernel_rfl) (by kernel_rfl) (fun _ _ _ h => h) (Or.inl ⟨by kernel_rfl, ?_⟩) (by assumption) ?_
    rotate_left
    · intro w hSw
      (try dsimp only at hSw)
      have z : w.cell? ⟨X, 3, none⟩ = some (.int .i64 tg) := by rw [Lib.cell_of_heap hSw]; rfl
      clear hSw
      go_simp
      first | done | with_reducible rfl
    simp only [List.getElem_toArray, List.getElem_cons_zero, List.getElem_cons_succ, Act.put, List.setIfInBounds_toArray, List.set_cons_zero, List.set_cons_succ]
    refine wpAnyH_take (i := 8) (v := ?_) rfl (by kernel_rfl) (by kernel_rfl) (by kernel_rfl) (fun _ _ _ h => h) (Or.inl ⟨by kernel_rfl, ?_⟩) (by assumption) ?_
    rotate_left
    · intro w hSw
      (try dsimp only at hSw)
      go_simp
      first | done | with_reducible rfl
    simp only [List.getElem_toArray, List.getElem_cons_zero, List.getElem_cons_succ, Act.put, List.setIfInBounds_toArray, List.set_cons_zero, List.set_cons_succ]
    refine wpAnyH_take (i := 9) (v := ?_) rfl (by kernel_rfl) (by kernel_rfl) (by kernel_rfl) (fun _ _ _ h => h) (Or.inl ⟨by kernel_rfl, ?_⟩) (by assumption) ?_
    rotate_left
    · intro w hSw
      (try dsimp only at hSw)
      have z : w.cell? ⟨X, 4, none⟩ = some (.int .i64 tx) := by rw [Lib.cell_of_heap hSw]; rfl
      clear hSw
      go_simp
      first | done | with_reducible rfl
    simp only [List.getElem_toArray, List.getElem_cons_zero, List.getElem_cons_succ, Act.put, List.setIfInBounds_toArray, List.set_cons_zero, List.set_cons_succ]
    refine wpAnyH_ready (rs := [7]) (by kernel_rfl) (by simp) ?_
    refine AllReadyH.cons rfl (fun K hK => ?_) AllReadyH.nil
    simp only [List.getElem_toArray, List.getElem_cons_zero, List.getElem_cons_succ]
    go_simp
    (with_reducible refine (itoa_at tg ga Hga (by unfold I64; omega) w4.drew hTd).mono ?_)
    rintro e w5 ⟨rfl, hB5⟩
    dsimp only
    have hT5 : CaT.Tabs w5 := hTd.go hB5
    refine hK.out _ _ ((hB5.block _ hXl).trans GX.out) (fun hHeld => ?_)
    clear hK K
    try simp only [List.getElem_toArray, List.getElem_cons_zero, List.getElem_cons_succ, Act.put, List.setIfInBounds_toArray, List.set_cons_zero, List.set_cons_succ]
    refine wpAnyH_ready (rs := [10]) (by kernel_rfl) (by simp) ?_
    refine AllReadyH.cons rfl (fun K hK => ?_) AllReadyH.nil
    simp only [List.getElem_toArray, List.getElem_cons_zero, List.getElem_cons_succ]
    go_simp
    (with_reducible refine (itoa_at tx xa Hxa (by unfold I64; omega) w5 hT5).mono ?_)
    rintro e w6 ⟨rfl, hB6⟩
    dsimp only
    have hB56 := bgo hB5 hB6
    refine hK.out _ _ ((hB56.block _ hXl).trans GX.out) (fun hHeld => ?_)
    clear hK K
    try simp only [List.getElem_toArray, List.getElem_cons_zero, List.getElem_cons_succ, Act.put, List.setIfInBounds_toArray, List.set_cons_zero, List.set_cons_succ]
    refine wpAnyH_ready (rs := [11]) (by kernel_rfl) (by simp) ?_
    refine AllReadyH.cons rfl (fun K hK => ?_) AllReadyH.nil
    simp only [List.getElem_toArray, List.getElem_cons_zero, List.getElem_cons_succ]
    go_simp
    obtain ⟨w7, hw7⟩ : ∃ x, x = w6.alloc (.cells #[.string totalW, .string te, .string tp, .string mb, .string ga, .string xa] 9) := ⟨_, rfl⟩
    have hB67 : Below w6.heap.size w6 w7 := by rw [hw7]; exact bal (Below.refl _ _) _
    have g7 : w7.heap[w6.heap.size]? = some (.cells #[.string totalW, .string te, .string tp, .string mb, .string ga, .string xa] 9) := by rw [hw7]; exact World.alloc_heap_new _ _
    obtain ⟨nb, hnb⟩ : ∃ x, x = w6.heap.size := ⟨_, rfl⟩
    rw [← hnb] at g7
    unfold totalW at hw7
    rw [← hw7, ← hnb]
    clear hw7 hnb
    have hB57 := bgo hB56 hB67
    refine hK.out _ _ ((hB57.block _ hXl).trans GX.out) (fun hHeld => ?_)
    clear hK K
    try simp only [List.getElem_toArray, List.getElem_cons_zero, List.getElem_cons_succ, Act.put, List.setIfInBounds_toArray, List.set_cons_zero, List.set_cons_succ]
    refine wpAnyH_ready (rs := [12]) (by kernel_rfl) (by simp) ?_
    refine AllReadyH.cons rfl (fun K hK => ?_) AllReadyH.nil
    simp only [List.getElem_toArray, List.getElem_cons_zero, List.getElem_cons_succ]
    go_simp
    (with_reducible refine (hwords_at (some ⟨nb, 0, none⟩) 6 6 [totalW, te, tp, mb, ga, xa] t rfl H0 (by decide) (by decide) (by decide) (by omega) w7 (sl_cells g7 rfl rfl)).mono ?_)
    rintro e w8 ⟨rfl, hB8⟩
    dsimp only
    have hB58 := bgo hB57 hB8
    refine hK.out _ _ ((hB58.block _ hXl).trans GX.out) (fun hHeld => ?_)
    clear hK K
    try simp only [List.getElem_toArray, List.getElem_cons_zero, List.getElem_cons_succ, Act.put, List.setIfInBounds_toArray, List.set_cons_zero, List.set_cons_succ]
    refine wpAnyH_take (i := 13) (v := ?_) rfl (by kernel_rfl) (by kernel_rfl) (by kernel_rfl) (fun _ _ _ h => h) (Or.inl ⟨by kernel_rfl, ?_⟩) (by assumption) ?_
    rotate_left
    · intro w hSw
      (try dsimp only at hSw)
      go_simp
      first | done | with_reducible rfl
    simp only [List.getElem_toArray, List.getElem_cons_zero, List.getElem_cons_succ, Act.put, List.setIfInBounds_toArray, List.set_cons_zero, List.set_cons_succ]
    refine wpAnyH_done (by kernel_rfl) ?_ _
    dsimp only [NoPanic]
    clear hHeld
    go_wp2_with fail
    go_ret
    exact ⟨rfl, bgo hBw4.drew hB58⟩
end Go.Proofs.YtpmakhfpdidleaaDoor
namespace Go.On
open Go.Dig
def step (x : UInt64) : UInt64 := sum (2 :: text x)
def steps : Nat → UInt64 → UInt64
  | 0, x => x
  | n + 1, x => step (steps n x)
theorem steps_add (m n : Nat) (x : UInt64) : steps n (steps m x) = steps (m + n) x := by
  induction n with
  | zero => rfl
  | succ n ih => show step (steps n (steps m x)) = step (steps (m + n) x); rw [ih]
def secret (seed : List UInt8) (i k : Int) : UInt64 := sum (3 :: (Lib.itoa i ++ 32 :: (Lib.itoa k ++ 32 :: seed)))
def digit (d : UInt64) (i : Nat) : Nat := d.toNat / 2 ^ (60 - 4 * i) % 16
def csum (d : UInt64) : Nat → Nat
  | 0 => 0
  | j + 1 => csum d j + (15 - digit d j)
def digs (d : UInt64) : List Nat := [digit d 0, digit d 1, digit d 2, digit d 3, digit d 4, digit d 5, digit d 6, digit d 7, digit d 8, digit d 9, digit d 10, digit d 11, digit d 12, digit d 13, digit d 14, digit d 15, csum d 16 / 16, csum d 16 % 16]
theorem digit_lt (d : UInt64) (i : Nat) : digit d i < 16 := Nat.mod_lt _ (by omega)
theorem csum_le (d : UInt64) (j : Nat) : csum d j ≤ 15 * j := by
  induction j with
  | zero => exact Nat.le_refl _
  | succ j ih => simp only [csum]; omega
theorem digs_len (d : UInt64) : (digs d).length = 18 := rfl
def dg (d : UInt64) (k : Nat) : Nat := (digs d).getD k 0
theorem lt18 {k : Nat} (h : k < 18) : k = 0 ∨ k = 1 ∨ k = 2 ∨ k = 3 ∨ k = 4 ∨ k = 5 ∨ k = 6 ∨ k = 7 ∨ k = 8 ∨ k = 9 ∨ k = 10 ∨ k = 11 ∨ k = 12 ∨ k = 13 ∨ k = 14 ∨ k = 15 ∨ k = 16 ∨ k = 17 := by omega
theorem dg_lo (d : UInt64) (k : Nat) (h : k < 16) : dg d k = digit d k := by
  rcases lt18 (show k < 18 by omega) with rfl | rfl | rfl | rfl | rfl | rfl | rfl | rfl | rfl | rfl | rfl | rfl | rfl | rfl | rfl | rfl | rfl | rfl <;> first | rfl | omega
theorem dg_le (d : UInt64) (k : Nat) : dg d k ≤ 15 := by
  by_cases h : k < 18
  · by_cases h' : k < 16
    · rw [dg_lo d k h']; have := digit_lt d k; omega
    · have hc := csum_le d 16
      rcases (show k = 16 ∨ k = 17 by omega) with rfl | rfl
      · show csum d 16 / 16 ≤ 15; omega
      · show csum d 16 % 16 ≤ 15; omega
  · unfold dg; rw [List.getD_eq_getElem?_getD, List.getElem?_eq_none (by rw [digs_len]; omega)]; exact Nat.zero_le _
/-- The leaf of a key. -/
def leafTo (seed : List UInt8) (i : Int) : Nat → List UInt8
  | 0 => []
  | k + 1 => leafTo seed i k ++ text (steps 15 (secret seed i (k : Nat)))
def leaf (seed : List UInt8) (i : Int) : List UInt8 := leafTo seed i 18
theorem text_len (d : UInt64) : (text d).length = 16 := rfl
theorem leafTo_len (seed : List UInt8) (i : Int) (k : Nat) : (leafTo seed i k).length = 16 * k := by
  induction k with
  | zero => rfl
  | succ k ih => rw [leafTo, List.length_append, ih, text_len]; omega
theorem leaf_len (seed : List UInt8) (i : Int) : (leaf seed i).length = 288 := leafTo_len seed i 18
/-- The chains of a signature. -/
def chain (seed : List UInt8) (i : Int) (d : UInt64) (k : Nat) : UInt64 := steps (dg d k) (secret seed i (k : Nat))
def chains (seed : List UInt8) (i : Int) (d : UInt64) : Nat → List UInt64
  | 0 => []
  | k + 1 => chains seed i d k ++ [chain seed i d k]
theorem chains_len (seed : List UInt8) (i : Int) (d : UInt64) (k : Nat) : (chains seed i d k).length = k := by
  induction k with
  | zero => rfl
  | succ k ih => rw [chains, List.length_append, ih]; rfl
theorem chains_get (seed : List UInt8) (i : Int) (d : UInt64) (n k : Nat) (h : k < n) : (chains seed i d n).getD k 0 = chain seed i d k := by
  induction n with
  | zero => omega
  | succ n ih =>
    rw [chains]
    by_cases hk : k < n
    · rw [List.getD_eq_getElem?_getD, List.getElem?_append_left (by rw [chains_len]; exact hk), ← List.getD_eq_getElem?_getD]; exact ih hk
    · have : k = n := by omega
      subst this
      rw [List.getD_eq_getElem?_getD, List.getElem?_append_right (by rw [chains_len]; exact Nat.le_refl _), chains_len]
      simp
/-- The leaf that a signature of a digest leads to. -/
def climbTo (c : List UInt64) (d : UInt64) : Nat → List UInt8
  | 0 => []
  | k + 1 => climbTo c d k ++ text (steps (15 - dg d k) (c.getD k 0))
theorem climbTo_len (c : List UInt64) (d : UInt64) (k : Nat) : (climbTo c d k).length = 16 * k := by
  induction k with
  | zero => rfl
  | succ k ih => rw [climbTo, List.length_append, ih, text_len]; omega
theorem climb_chains (seed : List UInt8) (i : Int) (d : UInt64) (n k : Nat) (h : k ≤ n) : climbTo (chains seed i d n) d k = leafTo seed i k := by
  induction k with
  | zero => rfl
  | succ k ih =>
    rw [climbTo, leafTo, ih (by omega), chains_get seed i d n k (by omega), chain, steps_add]
    have := dg_le d k
    rw [show dg d k + (15 - dg d k) = 15 by omega]
/-- The leaves of a tree. -/
def leaves (seed : List UInt8) : Nat → List (List UInt8)
  | 0 => []
  | n + 1 => leaves seed n ++ [leaf seed (n : Nat)]
theorem leaves_len (seed : List UInt8) (n : Nat) : (leaves seed n).length = n := by
  induction n with
  | zero => rfl
  | succ n ih => rw [leaves, List.length_append, ih]; rfl
theorem leaves_get (seed : List UInt8) (n k : Nat) (h : k < n) : (leaves seed n)[k]? = some (leaf seed (k : Nat)) := by
  induction n with
  | zero => omega
  | succ n ih =>
    rw [leaves]
    by_cases hk : k < n
    · rw [List.getElem?_append_left (by rw [leaves_len]; exact hk)]; exact ih hk
    · have : k = n := by omega
      subst this
      rw [List.getElem?_append_right (by rw [leaves_len]; exact Nat.le_refl _), leaves_len]
      simp
/-- If no digit of the first is less than the second's, the digests are equal. -/
theorem digit_top (a b : UInt64) (h : ∀ j, j < 16 → digit a j = digit b j) : ∀ j, j < 16 → a.toNat / 2 ^ (60 - 4 * j) = b.toNat / 2 ^ (60 - 4 * j)
  | 0, _ => by
    have h0 := h 0 (by omega)
    have ea := a.toNat_lt
    have eb := b.toNat_lt
    simp only [digit, Nat.mul_zero, Nat.sub_zero] at h0 ⊢
    omega
  | j + 1, hj => by
    have ih := digit_top a b h j (by omega)
    have h0 := h (j + 1) hj
    have e : (2 : Nat) ^ (60 - 4 * j) = 2 ^ (60 - 4 * (j + 1)) * 16 := by
      rw [show 60 - 4 * j = (60 - 4 * (j + 1)) + 4 by omega, Nat.pow_add]
    rw [e, ← Nat.div_div_eq_div_mul, ← Nat.div_div_eq_div_mul] at ih
    simp only [digit] at h0
    omega
theorem digest_of_digits (a b : UInt64) (h : ∀ j, j < 16 → digit a j = digit b j) : a = b := by
  have := digit_top a b h 15 (by omega)
  simp only [Nat.reduceMul, Nat.sub_self, Nat.pow_zero, Nat.div_one] at this
  exact UInt64.toNat_inj.1 this
theorem csum_mono (a b : UInt64) : ∀ j, (∀ i, i < j → digit b i ≤ digit a i) → csum a j ≤ csum b j ∧ (csum a j = csum b j → ∀ i, i < j → digit a i = digit b i)
  | 0, _ => ⟨Nat.le_refl _, fun _ i h => absurd h (Nat.not_lt_zero i)⟩
  | j + 1, h => by
    obtain ⟨h1, h2⟩ := csum_mono a b j (fun i hi => h i (by omega))
    have hj := h j (by omega)
    have la := digit_lt a j
    have lb := digit_lt b j
    refine ⟨by simp only [csum]; omega, fun e i hi => ?_⟩
    simp only [csum] at e
    by_cases hij : i < j
    · exact h2 (by omega) i hij
    · have : i = j := by omega
      subst this
      omega
theorem less_some (a b : UInt64) (hne : a ≠ b) : ∃ k, k < 18 ∧ dg a k < dg b k := by
  by_cases hx : ∃ k, k < 18 ∧ dg a k < dg b k
  · exact hx
  · exfalso
    have hall : ∀ k, k < 18 → dg b k ≤ dg a k := fun k hk => by
      by_cases h : dg b k ≤ dg a k
      · exact h
      · exact absurd ⟨k, hk, by omega⟩ hx
    have hd : ∀ i, i < 16 → digit b i ≤ digit a i := fun i hi => by rw [← dg_lo a i hi, ← dg_lo b i hi]; exact hall i (by omega)
    obtain ⟨h1, h2⟩ := csum_mono a b 16 hd
    have h16 : csum b 16 / 16 ≤ csum a 16 / 16 := hall 16 (by omega)
    have h17 : csum b 16 % 16 ≤ csum a 16 % 16 := hall 17 (by omega)
    exact hne (digest_of_digits a b (h2 (by omega)))
end Go.On
